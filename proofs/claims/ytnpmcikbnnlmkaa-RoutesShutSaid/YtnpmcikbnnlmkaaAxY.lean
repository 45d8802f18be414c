import Derived.Test.YtnpmcikbnnlmkaaAxX
/-! The evaluator of a region is right: in text order, and in every order that the region allows. -/
namespace Go.AX
variable {P : Program}

theorem ev_mask {φ : Phi} {A : Nat → Prop} {w : World} {a : Act} {fr : List (Nat × AV)} {n : Nat} {hp : List (Option Blk)} (h : ∀ s, VR φ A w (look fr s) (a.tmps.getD s undef)) (x : Operand) :
    VR φ A w (St.ev { n, fr, hp } x) (a.eval x) := by
  cases x with
  | tmp t => exact h t
  | const v => exact .imm _ _ (RT.absC v)
  | global g => exact .imm _ _ (.unk _)
  | func f => exact VR.fn (φ := φ) (A := A) (w := w) f [] [] rfl (fun i c v hc => by simp at hc)

theorem wanted_run {φ : Phi} {A : Nat → Prop} {w : World} {a : Act} {ops : Array Oper} {o : Oper} (h : ∀ k want, o.guard = some (k, want) → ∃ g, (ops[k]?).bind (·.dst) = some g ∧ VR φ A w (.bool want) (a.tmps.getD g undef)) :
    Region.wanted o (yielded ops a.tmps) = true := by
  unfold Region.wanted
  split
  · rfl
  · rename_i k want hg
    obtain ⟨g, h1, h2⟩ := h k want hg
    have h3 := h2.bool_inv
    unfold yielded
    rw [h1]
    simp only [Option.bind_some]
    cases hq : a.tmps[g]? with
    | none => simp [hq, undef] at h3
    | some v => simp [hq] at h3; simp [h3]

theorem wanted_skip {φ : Phi} {A : Nat → Prop} {w : World} {a : Act} {ops : Array Oper} {o : Oper} {k g : Nat} {want : Bool} {v : AV} (hg : o.guard = some (k, want)) (h1 : (ops[k]?).bind (·.dst) = some g)
    (hv : v = .bool (!want) ∨ v = .tup []) (h2 : VR φ A w v (a.tmps.getD g undef)) : Region.wanted o (yielded ops a.tmps) = false := by
  unfold Region.wanted
  rw [hg]
  unfold yielded
  simp only [h1, Option.bind_some]
  rcases hv with rfl | rfl
  · have h3 := h2.bool_inv
    cases hq : a.tmps[g]? with
    | none => simp
    | some u => simp [hq] at h3; simp [h3]
  · obtain ⟨vs, h3, hl, _⟩ := h2.tup_inv
    have hvs : vs = [] := List.eq_nil_of_length_eq_zero hl
    subst hvs
    cases hq : a.tmps[g]? with
    | none => simp
    | some u => simp [hq] at h3; simp [h3]

theorem Eff.skip {φ : Phi} {A : Nat → Prop} {w : World} {h : Hp} {nb : Nat} (hn : ∀ b, nb ≤ b → φ b = none) : Eff φ A w h nb { v := .tup [] } undef w φ :=
  ⟨Keep.refl _ w, fun _ _ => rfl, fun b hb => hn b (by simpa using hb), fun b r z hb h => (by rw [hn b hb] at h; cases h), fun b b' r z z' hb _ h _ => (by rw [hn b hb] at h; cases h),
    .tup [] [] rfl (fun i c v hc => by simp at hc), fun b blk hm => (by simp at hm), fun blk hm => (by simp at hm), fun b blk hm => (by simp at hm), fun b blk hm => (by simp at hm)⟩

theorem seq_sound {H : HT} {m : Nat} {ops : Array Oper} {Q : Exit → Act → World → Prop} {A0 : Nat → Prop} {n0 : Nat} : ∀ {l : List Oper} {st st' : St} {pls : List (Option Nat × Pl)} {p : Prop}, evalOps P H false m ops l st = some (pls, st', p) → p →
    ∀ {φ : Phi} {a : Act} {w : World}, m ≤ st.hp.length → Rel A0 n0 m φ st a w →
      (∀ φ' a' w', m ≤ st'.hp.length → Rel A0 n0 m φ' st' a' w' → Tr m φ st.h w φ' st'.h w' → Q .normal a' w') → wpList P ops Q l a w := by
  intro l
  induction l with
  | nil =>
    intro st st' pls p h hp φ a w hm hr k
    simp only [evalOps, Option.some.injEq, Prod.mk.injEq] at h
    obtain ⟨_, rfl, _⟩ := h
    exact k φ a w hm hr (.refl _ _ _ _)
  | cons o r ih =>
    intro st st' pls p h hp φ a w hm hr k
    simp only [evalOps] at h
    split at h
    case h_2 => cases h
    rename_i pl p1 h1
    split at h
    case h_2 => cases h
    rename_i pls' st1 q h2
    cases h
    have F := planOp_spec h1 hp.1
    have hm' : m ≤ (st.app o.dst pl.R).hp.length := by simp [St.app, length_updL, length_mapSome]; omega
    have hslots : ∀ s, VR φ (Ok A0 n0 φ st.h w) w (look pl.fr s) (a.tmps.getD s undef) := fun s => by
      rcases F.slots s with h | h
      · rw [h]; exact .imm _ _ (.unk _)
      · rw [h.2]; exact hr.slot s
    unfold wpList
    cases hrun : pl.run with
    | true =>
      obtain ⟨hop, hgd⟩ := F.run hrun
      rw [if_pos (wanted_run (φ := φ) (A := Ok A0 n0 φ st.h w) (w := w) fun k want hg => by
        obtain ⟨g, g1, _, g2⟩ := hgd k want hg
        exact ⟨g, g1, by rw [← g2]; exact hr.slot g⟩)]
      left
      have hhp := F.whole rfl hrun
      rw [hhp] at hop
      refine hop φ (Ok A0 n0 φ st.h w) w a _ _ (fun r hA => ⟨hA.2.1, hA.2.2⟩) (ev_mask hslots) hr.heap hr.out fun v' w' φ' he => ?_
      have hfit := F.fits
      rw [hhp] at hfit
      obtain ⟨s1, s2⟩ := hr.step hm F.dead F.dst hfit he
      exact ih h2 hp.2 hm' s1 fun φ2 a2 w2 g1 g2 g3 => k φ2 a2 w2 g1 g2 (s2.trans g3)
    | false =>
      obtain ⟨hR, kk, want, g, hg, hk, _, hv⟩ := F.skip hrun
      rw [if_neg (by rw [wanted_skip hg hk hv (hr.slot g)]; simp)]
      have he : Eff φ (Ok A0 n0 φ st.h w) w st.h st.hp.length pl.R undef w φ := by rw [hR]; exact Eff.skip hr.out
      obtain ⟨s1, s2⟩ := hr.step hm F.dead F.dst (by rw [hR]; exact OpR.fits_value _ _) he
      exact ih h2 hp.2 hm' s1 fun φ2 a2 w2 g1 g2 g3 => k φ2 a2 w2 g1 g2 (s2.trans g3)

/-! Any order. -/

section cur
variable {κ ν : Type} (act : Nat → κ → Option ν) (base : κ → ν)

def cur (S : Nat → Bool) : Nat → κ → ν
  | 0, x => base x
  | n + 1, x => match S n with
    | true => (act n x).getD (cur S n x)
    | false => cur S n x

theorem cur_congr {S S' : Nat → Bool} (x : κ) : ∀ n, (∀ k, k < n → act k x ≠ none → S k = S' k) → cur act base S n x = cur act base S' n x := by
  intro n
  induction n with
  | zero => intro _; rfl
  | succ n ih =>
    intro h
    have h1 := ih fun k hk => h k (by omega)
    simp only [cur]
    cases ha : act n x with
    | none => rw [h1]; cases S n <;> cases S' n <;> rfl
    | some v => rw [h n (by omega) (by simp [ha]), h1]

theorem cur_below (x : κ) (j : Nat) : ∀ n, j ≤ n → cur act base (fun k => decide (k < j)) n x = cur act base (fun _ => true) j x := by
  intro n
  induction n with
  | zero => intro h; have : j = 0 := by omega
            subst this; rfl
  | succ n ih =>
    intro h
    rcases Nat.lt_or_ge n j with h1 | h1
    · have : j = n + 1 := by omega
      subst this
      exact cur_congr act base x _ fun k hk _ => by simpa using hk
    · have : decide (n < j) = false := by simp; omega
      simp only [cur, this]
      exact ih h1

theorem cur_text {S : Nat → Bool} {x : κ} {j n : Nat} (hj : j ≤ n) (h : ∀ k, k < n → act k x ≠ none → S k = decide (k < j)) : cur act base S n x = cur act base (fun _ => true) j x :=
  (cur_congr act base x n h).trans (cur_below act base x j n hj)

theorem cur_step {S : Nat → Bool} {x : κ} {j : Nat} (hSj : S j = false) : ∀ n, j < n → (∀ k, j < k → k < n → S k = true → act k x = none ∨ act j x = none) →
    cur act base (fun k => if k = j then true else S k) n x = (act j x).getD (cur act base S n x) := by
  intro n
  induction n with
  | zero => intro h; omega
  | succ n ih =>
    intro hj h
    rcases Nat.lt_or_ge j n with h1 | h1
    · have h2 := ih h1 fun k a b => h k a (by omega)
      have hne : ¬ n = j := by omega
      simp only [cur, if_neg hne]
      cases hS : S n with
      | false => exact h2
      | true =>
        rcases h n h1 (by omega) hS with h3 | h3
        · simp only [h3, Option.getD_none]; exact h2
        · simp only [h3, Option.getD_none] at h2 ⊢; rw [h2]
    · have : j = n := by omega
      subst this
      simp only [cur, if_pos, hSj]
      rw [cur_congr act base x j (S' := S) fun k hk _ => if_neg (by omega)]

end cur

def preD (o : Oper) : List Nat := (o.after.toList.filter (Region.binds .any)).map (·.on)

inductive Pre (ops : Array Oper) : Nat → Nat → Prop
  | direct {j k : Nat} {o : Oper} (h : ops[j]? = some o) (hk : k ∈ preD o) : Pre ops j k
  | trans {j k i : Nat} (h : Pre ops j k) (g : Pre ops k i) : Pre ops j i

structure Ap (x y : Option Nat × Pl) : Prop where
  ww : ∀ d, x.1 = some d → y.1 ≠ some d
  wr : ∀ d, x.1 = some d → d ∉ y.2.reads
  rw_ : ∀ d, y.1 = some d → d ∉ x.2.reads
  hx : ∀ b blk, nth y.2.hp b = some blk → actH x.2.hp.length x.2.R b = none
  hy : ∀ b blk, nth x.2.hp b = some blk → actH y.2.hp.length y.2.R b = none

def sact (pls : List (Option Nat × Pl)) (k s : Nat) : Option AV := match pls[k]? with
  | some x => if x.1 = some s then some x.2.R.v else none
  | none => none

def hact (pls : List (Option Nat × Pl)) (k b : Nat) : Option (Option Blk) := match pls[k]? with
  | some x => actH x.2.hp.length x.2.R b
  | none => none

def seen (listed : Array Bool) : Nat → Bool := fun k => listed.getD k false

theorem actH_cases {hp : List (Option Blk)} {R : OpR} {b : Nat} (hf : R.fits (nth hp)) (h : actH hp.length R b ≠ none) : (∃ blk, nth hp b = some blk) ∨ (hp.length ≤ b ∧ b < hp.length + R.new.length) := by
  unfold actH at h
  split at h
  · left
    split at h
    · rename_i blk hc; obtain ⟨b0, h0, _⟩ := hf.1 b blk (assocB_mem hc); exact ⟨b0, h0⟩
    · split at h
      · rename_i hd; obtain ⟨⟨b0, h0, _⟩, _⟩ := hf.2 b (memN_iff.1 hd); exact ⟨b0, h0⟩
      · exact absurd rfl h
  · split at h
    · exact .inr ⟨by omega, by assumption⟩
    · exact absurd rfl h

theorem app_h_updF (st : St) (dst : Option Nat) (R : OpR) (b : Nat) : (st.app dst R).h b = updF st.hp.length R st.h b := by
  rw [app_h]
  unfold updF actH
  split
  · cases hc : assocB R.chg b with
    | some blk => rfl
    | none => cases hd : memN R.dead b <;> rfl
  · rename_i hb
    split
    · rfl
    · rename_i h2
      simp only [Option.getD_none]
      rw [List.getElem?_eq_none (by omega)]
      unfold St.h
      rw [nth_eq, List.getElem?_eq_none (by omega)]
      rfl

theorem countP_lt {p q : Nat → Bool} {j : Nat} : ∀ {l : List Nat}, j ∈ l → p j = true → q j = false → (∀ x, q x = true → p x = true) → l.countP q < l.countP p := by
  intro l
  induction l with
  | nil => intro h; simp at h
  | cons x r ih =>
    intro hj hp hq hqp
    have hle : r.countP q ≤ r.countP p := List.countP_mono_left fun y _ => hqp y
    rcases List.mem_cons.1 hj with rfl | hj
    · simp [hp, hq]; omega
    · have := ih hj hp hq hqp
      simp only [List.countP_cons]
      cases hqx : q x with
      | true => simp [hqp x hqx]; omega
      | false => simp; omega

/-- What is known of a region whose operations have been evaluated in text order. -/
structure DR (P : Program) (m : Nat) (ops : Array Oper) (st0 : St) (pls : List (Option Nat × Pl)) : Prop where
  len : pls.length = ops.size
  pl : ∀ (j : Nat) o, ops[j]? = some o → ∃ pl, pls[j]? = some (o.dst, pl) ∧ PlF P true m ops o (stAt st0 pls j) pl
  dir : ∀ (j : Nat) o, ops[j]? = some o → ∀ k, k ∈ preD o → k < j
  ap : ∀ (i j : Nat) x y, i < j → pls[i]? = some x → pls[j]? = some y → Pre ops j i ∨ Ap x y
  base : m ≤ st0.hp.length

namespace DR
variable {m : Nat} {ops : Array Oper} {st0 : St} {pls : List (Option Nat × Pl)}

theorem of_pl (D : DR P m ops st0 pls) {j : Nat} {x : Option Nat × Pl} (h : pls[j]? = some x) : ∃ o, ops[j]? = some o ∧ x.1 = o.dst ∧ PlF P true m ops o (stAt st0 pls j) x.2 := by
  have hj : j < ops.size := by rw [← D.len]; exact (List.getElem?_eq_some_iff.1 h).1
  obtain ⟨pl, h1, h2⟩ := D.pl j _ (Array.getElem?_eq_getElem hj)
  rw [h] at h1; cases h1
  exact ⟨_, Array.getElem?_eq_getElem hj, rfl, h2⟩

theorem text (D : DR P m ops st0 pls) : ∀ j, j ≤ ops.size → (∀ s, look (stAt st0 pls j).fr s = cur (sact pls) (look st0.fr) (fun _ => true) j s) ∧ (∀ b, (stAt st0 pls j).h b = cur (hact pls) st0.h (fun _ => true) j b) ∧ (stAt st0 pls j).n = st0.n := by
  intro j
  induction j with
  | zero => intro _; exact ⟨fun _ => rfl, fun _ => rfl, rfl⟩
  | succ j ih =>
    intro hj
    obtain ⟨h1, h2, h3⟩ := ih (by omega)
    have hjl : j < pls.length := by rw [D.len]; omega
    have hp := List.getElem?_eq_getElem hjl
    obtain ⟨o, ho, hd, F⟩ := D.of_pl hp
    have e : stAt st0 pls (j + 1) = (stAt st0 pls j).app pls[j].1 pls[j].2.R := by
      show (match pls[j]? with | some x => _ | none => _) = _
      rw [hp]
    rw [e]
    refine ⟨fun s => ?_, fun b => ?_, h3⟩
    · show look (put _ _ _) s = _
      rw [look_put]
      simp only [cur, sact, hp]
      split
      · rfl
      · exact h1 s
    · rw [app_h_updF]
      simp only [cur, hact, hp]
      unfold updF
      rw [F.len, h2 b]

theorem nums (D : DR P m ops st0 pls) {i : Nat} {x : Option Nat × Pl} (hi : pls[i]? = some x) : ∀ j, i < j → j ≤ ops.size → x.2.hp.length + x.2.R.new.length ≤ (stAt st0 pls j).hp.length := by
  intro j
  induction j with
  | zero => intro h; omega
  | succ j ih =>
    intro hij hj
    have hjl : j < pls.length := by rw [D.len]; omega
    have hp := List.getElem?_eq_getElem hjl
    have e : stAt st0 pls (j + 1) = (stAt st0 pls j).app pls[j].1 pls[j].2.R := by
      show (match pls[j]? with | some x => _ | none => _) = _
      rw [hp]
    rw [e]
    have e2 : ((stAt st0 pls j).app pls[j].1 pls[j].2.R).hp.length = (stAt st0 pls j).hp.length + pls[j].2.R.new.length := by simp [St.app, length_updL, length_mapSome]
    rw [e2]
    rcases Nat.lt_or_ge i j with h | h
    · have := ih h (by omega); omega
    · have : i = j := by omega
      subst this
      rw [hp] at hi; cases hi
      obtain ⟨o, ho, hd, F⟩ := D.of_pl hp
      rw [F.len]; omega

theorem mono (_ : DR P m ops st0 pls) : ∀ j, st0.hp.length ≤ (stAt st0 pls j).hp.length := by
  intro j
  induction j with
  | zero => exact Nat.le_refl _
  | succ j ih =>
    show _ ≤ (match pls[j]? with | some x => (stAt st0 pls j).app x.1 x.2.R | none => stAt st0 pls j).hp.length
    split
    · simp [St.app, length_updL, length_mapSome]; omega
    · exact ih

end DR

structure Inv (A0 : Nat → Prop) (n0 m : Nat) (ops : Array Oper) (st0 : St) (pls : List (Option Nat × Pl)) (φ0 : Phi) (w0 : World) (listed : Array Bool) (φ : Phi) (a : Act) (w : World) : Prop where
  size : listed.size = ops.size
  closed : ∀ (j : Nat) o, ops[j]? = some o → seen listed j = true → ∀ k, k ∈ preD o → seen listed k = true
  rel : RelF A0 n0 m st0.n φ (cur (sact pls) (look st0.fr) (seen listed) ops.size) (cur (hact pls) st0.h (seen listed) ops.size) a w
  tr : Tr m φ0 st0.h w0 φ (cur (hact pls) st0.h (seen listed) ops.size) w
  dom : ∀ b, φ b ≠ none → b < st0.hp.length ∨ ∃ k x, seen listed k = true ∧ pls[k]? = some x ∧ x.2.hp.length ≤ b ∧ b < x.2.hp.length + x.2.R.new.length

theorem Pre.seen {ops : Array Oper} {S : Nat → Bool} (hc : ∀ (j : Nat) o, ops[j]? = some o → S j = true → ∀ k, k ∈ preD o → S k = true) {j k : Nat} (h : Pre ops j k) : S j = true → S k = true := by
  induction h with
  | direct h hk => exact fun hj => hc _ _ h hj _ hk
  | trans _ _ ih1 ih2 => exact fun hj => ih2 (ih1 hj)

theorem Pre.ready {ops : Array Oper} {S : Nat → Bool} (hc : ∀ (j : Nat) o, ops[j]? = some o → S j = true → ∀ k, k ∈ preD o → S k = true) {j k : Nat} (h : Pre ops j k) :
    (∀ o, ops[j]? = some o → ∀ k, k ∈ preD o → S k = true) → S k = true := by
  induction h with
  | direct h hk => exact fun hr => hr _ h _ hk
  | trans h1 h2 ih1 _ => exact fun hr => Pre.seen hc h2 (ih1 hr)

theorem seen_set {listed : Array Bool} {j : Nat} (hj : j < listed.size) : seen (listed.setIfInBounds j true) = fun k => if k = j then true else seen listed k := by
  funext k
  unfold seen
  by_cases h : k = j
  · subst h; simp [hj]
  · rw [if_neg h]; simp [Array.getElem?_setIfInBounds_ne (Ne.symm h)]

theorem drawn_sound {m : Nat} {ops : Array Oper} {st0 : St} {pls : List (Option Nat × Pl)} (D : DR P m ops st0 pls) {A0 : Nat → Prop} {n0 : Nat} {φ0 : Phi} {w0 : World} {post : Exit → St → Prop} (hpost : post .normal (stAt st0 pls ops.size)) :
    ∀ (fuel : Nat) (listed : Array Bool) (φ : Phi) (a : Act) (w : World), Inv A0 n0 m ops st0 pls φ0 w0 listed φ a w → (List.range ops.size).countP (fun k => !seen listed k) ≤ fuel →
      wpAny P .any ops (RQ A0 n0 m φ0 st0.h w0 post) fuel listed a w := by
  have fin : ∀ (listed : Array Bool) (φ : Phi) (a : Act) (w : World), Inv A0 n0 m ops st0 pls φ0 w0 listed φ a w → (∀ k, k < ops.size → seen listed k = true) → RQ A0 n0 m φ0 st0.h w0 post .normal a w := by
    intro listed φ a w I hall
    obtain ⟨t1, t2, t3⟩ := D.text ops.size (Nat.le_refl _)
    have e1 : cur (sact pls) (look st0.fr) (seen listed) ops.size = look (stAt st0 pls ops.size).fr := by
      funext s; rw [t1 s]; exact cur_congr _ _ _ _ fun k hk _ => hall k hk
    have e2 : cur (hact pls) st0.h (seen listed) ops.size = (stAt st0 pls ops.size).h := by
      funext s; rw [t2 s]; exact cur_congr _ _ _ _ fun k hk _ => hall k hk
    have hr := I.rel
    have ht := I.tr
    rw [e1, e2] at hr
    rw [e2] at ht
    refine ⟨φ, _, hpost, ⟨hr.defs, by rw [t3]; exact hr.size, hr.slot, hr.heap, fun b hb => ?_, hr.base, hr.own⟩, Nat.le_trans D.base (D.mono _), ht⟩
    cases hq : φ b with
    | none => rfl
    | some v =>
      rcases I.dom b (by simp [hq]) with h | ⟨k, x, _, h2, h3, h4⟩
      · have := D.mono ops.size; omega
      · have hk : k < ops.size := by rw [← D.len]; exact (List.getElem?_eq_some_iff.1 h2).1
        have := D.nums h2 ops.size hk (Nat.le_refl _); omega
  have done : ∀ (listed : Array Bool) (φ : Phi) (a : Act) (w : World), Inv A0 n0 m ops st0 pls φ0 w0 listed φ a w → Region.ready .any ops listed = [] → RQ A0 n0 m φ0 st0.h w0 post .normal a w := by
    intro listed φ a w I hr
    refine fin listed φ a w I fun k => ?_
    induction k using Nat.strongRecOn with
    | _ k ih =>
      intro hk
      cases hs : seen listed k with
      | true => rfl
      | false =>
        exfalso
        have hmem : k ∈ Region.ready .any ops listed := by
          rw [mem_ready]
          refine ⟨?_, _, Array.getElem?_eq_getElem hk, fun e he hb => ?_⟩
          · unfold seen at hs
            have : k < listed.size := by rw [I.size]; exact hk
            simpa [this] using hs
          · have hmp : e.on ∈ preD ops[k] := List.mem_map.2 ⟨e, List.mem_filter.2 ⟨by simpa using he, hb⟩, rfl⟩
            have hlt := D.dir k _ (Array.getElem?_eq_getElem hk) _ hmp
            exact ih e.on hlt (by omega)
        rw [hr] at hmem; cases hmem
  intro fuel
  induction fuel with
  | zero =>
    intro listed φ a w I hf
    have hall : ∀ k, k < ops.size → seen listed k = true := by
      intro k hk
      have h0 : (List.range ops.size).countP (fun k => !seen listed k) = 0 := by omega
      have := List.countP_eq_zero.1 h0 k (by simpa using hk)
      simpa using this
    refine ⟨?_, fin listed φ a w I hall⟩
    cases hr : Region.ready .any ops listed with
    | nil => rfl
    | cons j r =>
      exfalso
      have hj : j ∈ Region.ready .any ops listed := by rw [hr]; simp
      obtain ⟨h0, o, ho, _⟩ := mem_ready.1 hj
      have hlt : j < ops.size := (Array.getElem?_eq_some_iff.1 ho).1
      have h1 := hall j hlt
      unfold seen at h1
      have : j < listed.size := by rw [I.size]; exact hlt
      simp [this] at h0 h1
      rw [h0] at h1; cases h1
  | succ fuel ih =>
    intro listed φ a w I hf
    refine ⟨done listed φ a w I, fun j hj => ?_⟩
    obtain ⟨h0, o, ho, hall⟩ := mem_ready.1 hj
    have hlt : j < ops.size := (Array.getElem?_eq_some_iff.1 ho).1
    have hltl : j < listed.size := by rw [I.size]; exact hlt
    have hSj : seen listed j = false := by unfold seen; simpa [hltl] using h0
    have hpre : ∀ k, k ∈ preD o → seen listed k = true := by
      intro k hk
      obtain ⟨e, he, rfl⟩ := List.mem_map.1 hk
      obtain ⟨he1, he2⟩ := List.mem_filter.1 he
      exact hall e (by simpa using he1) he2
    have hpre2 : ∀ k, Pre ops j k → seen listed k = true := fun k h => Pre.ready I.closed h fun o' ho' => by rw [ho] at ho'; cases ho'; exact hpre
    have hpost2 : ∀ k, seen listed k = true → ¬ Pre ops k j := fun k hk h => by
      have := Pre.seen I.closed h hk; rw [hSj] at this; cases this
    obtain ⟨pl, hpl, F⟩ := D.pl j o ho
    obtain ⟨t1, t2, t3⟩ := D.text j (by omega)
    -- what it reads is as in the text
    have readS : ∀ s, s ∈ pl.reads → cur (sact pls) (look st0.fr) (seen listed) ops.size s = look (stAt st0 pls j).fr s := by
      intro s hs
      rw [t1 s]
      refine cur_text _ _ (by omega) fun k hk hne => ?_
      have hkl : k < pls.length := by rw [D.len]; exact hk
      have hx := List.getElem?_eq_getElem hkl
      have hd : pls[k].1 = some s := by
        unfold sact at hne
        rw [hx] at hne
        simp only at hne
        split at hne
        · assumption
        · exact absurd rfl hne
      rcases Nat.lt_trichotomy k j with h | h | h
      · rw [decide_eq_true h]
        rcases D.ap k j _ _ h hx hpl with hp | hp
        · exact hpre2 k hp
        · exact absurd hs (hp.wr s hd)
      · subst h; rw [hSj]; simp
      · rw [decide_eq_false (by omega)]
        cases hsk : seen listed k with
        | false => rfl
        | true =>
          rcases D.ap j k _ _ h hpl hx with hp | hp
          · exact absurd hp (hpost2 k hsk)
          · exact absurd hs (hp.rw_ s hd)
    have readH : ∀ b blk, nth pl.hp b = some blk → cur (hact pls) st0.h (seen listed) ops.size b = (stAt st0 pls j).h b := by
      intro b blk hb
      rw [t2 b]
      refine cur_text _ _ (by omega) fun k hk hne => ?_
      have hkl : k < pls.length := by rw [D.len]; exact hk
      have hx := List.getElem?_eq_getElem hkl
      have hd : actH pls[k].2.hp.length pls[k].2.R b ≠ none := by unfold hact at hne; rw [hx] at hne; exact hne
      rcases Nat.lt_trichotomy k j with h | h | h
      · rw [decide_eq_true h]
        rcases D.ap k j _ _ h hx hpl with hp | hp
        · exact hpre2 k hp
        · exact absurd (hp.hx b blk hb) hd
      · subst h; rw [hSj]; simp
      · rw [decide_eq_false (by omega)]
        cases hsk : seen listed k with
        | false => rfl
        | true =>
          rcases D.ap j k _ _ h hpl hx with hp | hp
          · exact absurd hp (hpost2 k hsk)
          · exact absurd (hp.hy b blk hb) hd
    -- what it writes stands
    have writeS : ∀ s, cur (sact pls) (look st0.fr) (seen (listed.setIfInBounds j true)) ops.size s = putF o.dst pl.R.v (cur (sact pls) (look st0.fr) (seen listed) ops.size) s := by
      intro s
      rw [seen_set hltl, cur_step _ _ hSj _ hlt]
      · unfold sact putF
        rw [hpl]
        simp only
        split <;> rfl
      · intro k hjk hk hsk
        have hkl : k < pls.length := by rw [D.len]; exact hk
        have hx := List.getElem?_eq_getElem hkl
        rcases D.ap j k _ _ hjk hpl hx with hp | hp
        · exact absurd hp (hpost2 k hsk)
        · unfold sact
          rw [hpl, hx]
          simp only
          by_cases hd : o.dst = some s
          · left; rw [if_neg (hp.ww s hd)]
          · right; rw [if_neg hd]
    have writeH : ∀ b, cur (hact pls) st0.h (seen (listed.setIfInBounds j true)) ops.size b = updF (stAt st0 pls j).hp.length pl.R (cur (hact pls) st0.h (seen listed) ops.size) b := by
      intro b
      rw [seen_set hltl, cur_step _ _ hSj _ hlt]
      · unfold updF
        have : hact pls j b = actH (stAt st0 pls j).hp.length pl.R b := by unfold hact; rw [hpl]; simp only; rw [F.len]
        rw [this]
      · intro k hjk hk hsk
        have hkl : k < pls.length := by rw [D.len]; exact hk
        have hx := List.getElem?_eq_getElem hkl
        rcases D.ap j k _ _ hjk hpl hx with hp | hp
        · exact absurd hp (hpost2 k hsk)
        · have e1 : hact pls j b = actH pl.hp.length pl.R b := by unfold hact; rw [hpl]
          have e2 : hact pls k b = actH pls[k].2.hp.length pls[k].2.R b := by unfold hact; rw [hx]
          rw [e1, e2]
          by_cases ha : actH pl.hp.length pl.R b = none
          · exact .inr ha
          · left
            rcases actH_cases F.fits ha with ⟨blk, hb⟩ | hb
            · exact hp.hy b blk hb
            · cases hk2 : actH pls[k].2.hp.length pls[k].2.R b with
              | none => rfl
              | some v =>
                exfalso
                obtain ⟨ok, hok, _, Fk⟩ := D.of_pl hx
                rcases actH_cases (b := b) Fk.fits (by simp [hk2]) with ⟨blk, hb2⟩ | hb2
                · exact ha (hp.hx b blk hb2)
                · have := D.nums hpl k hjk (by omega)
                  have e3 := Fk.len
                  simp only at this
                  omega
    have hsub : ∀ b blk, nth pl.hp b = some blk → b < (stAt st0 pls j).hp.length ∧ cur (hact pls) st0.h (seen listed) ops.size b = some blk := by
      intro b blk hb
      refine ⟨?_, by rw [readH b blk hb]; exact F.hsub b blk hb⟩
      rcases Nat.lt_or_ge b (stAt st0 pls j).hp.length with h | h
      · exact h
      · have := F.hsub b blk hb
        rw [nth_eq, List.getElem?_eq_none h] at this; cases this
    have hnew : ∀ b, (stAt st0 pls j).hp.length ≤ b → b < (stAt st0 pls j).hp.length + pl.R.new.length → φ b = none := by
      intro b h1 h2
      cases hq : φ b with
      | none => rfl
      | some v =>
        exfalso
        rcases I.dom b (by simp [hq]) with h | ⟨k, x, g1, g2, g3, g4⟩
        · have := D.mono j; omega
        · have hk : k < ops.size := by rw [← D.len]; exact (List.getElem?_eq_some_iff.1 g2).1
          obtain ⟨ok, hok, _, Fk⟩ := D.of_pl g2
          rcases Nat.lt_trichotomy k j with h | h | h
          · have := D.nums g2 j h (by omega); omega
          · subst h; rw [hSj] at g1; cases g1
          · have := D.nums hpl k h (by omega)
            have e3 := Fk.len
            have e4 := F.len
            simp only at this
            omega
    have hslots : ∀ s, VR (cutPhi (stAt st0 pls j).hp.length φ) (Ok A0 n0 φ (cur (hact pls) st0.h (seen listed) ops.size) w) w (look pl.fr s) (a.tmps.getD s undef) := by
      intro s
      refine VR.cut 4 _ _ ?_ (F.belowS rfl s)
      rcases F.slots s with h | ⟨h1, h2⟩
      · rw [h]; exact .imm _ _ (.unk _)
      · rw [h2, ← readS s h1]; exact I.rel.slot s
    have hheap : HR (cutPhi (stAt st0 pls j).hp.length φ) (Ok A0 n0 φ (cur (hact pls) st0.h (seen listed) ops.size) w) w (nth pl.hp) := by
      refine ⟨fun b blk hb => ?_, fun b blk hb => I.rel.heap.flat b blk (hsub b blk hb).2, fun b b' r z z' hb hb' h1 h2 => ?_⟩
      · obtain ⟨k1, k2⟩ := hsub b blk hb
        have hcut : cutPhi (stAt st0 pls j).hp.length φ b = φ b := if_pos k1
        rcases I.rel.heap.blk b blk k2 with ⟨g1, g2, g3⟩ | ⟨r, cs, T, g1, g2, g3, g4⟩
        · exact .inl ⟨g1, by rw [hcut]; exact g2, g3⟩
        · refine .inr ⟨r, cs, T, by rw [hcut]; exact g1, g2, g3, fun i e hi => ⟨(g4 i e hi).1, fun q c hq => ?_⟩⟩
          obtain ⟨f1, u, f2, f3⟩ := (g4 i e hi).2 q c hq
          refine ⟨f1, u, f2, ?_⟩
          have hbl := F.below rfl b blk hb
          unfold belowB at hbl
          split at hbl
          · rename_i hfl
            exact .imm _ _ (f3.noref_rt (I.rel.heap.flat b blk k2 hfl e (List.mem_of_getElem? hi) c (List.mem_of_getElem? hq)))
          · exact VR.cut 3 _ _ f3 (List.all_eq_true.1 (List.all_eq_true.1 hbl e (List.mem_of_getElem? hi)) c (List.mem_of_getElem? hq))
      · obtain ⟨c1, e1⟩ := Option.isSome_iff_exists.1 hb
        obtain ⟨c2, e2⟩ := Option.isSome_iff_exists.1 hb'
        exact I.rel.heap.inj b b' r z z' (by simp [(hsub _ _ e1).2]) (by simp [(hsub _ _ e2).2]) (cutPhi_some h1).2 (cutPhi_some h2).2
    -- behind the step
    have behind : ∀ (v' : Value) (w' : World) (φ1 : Phi), Eff (cutPhi (stAt st0 pls j).hp.length φ) (Ok A0 n0 φ (cur (hact pls) st0.h (seen listed) ops.size) w) w (nth pl.hp) (stAt st0 pls j).hp.length pl.R v' w' φ1 →
        wpAny P .any ops (RQ A0 n0 m φ0 st0.h w0 post) fuel (listed.setIfInBounds j true) (a.put o.dst v') w' := by
      intro v' w' φ1 he
      obtain ⟨φ', s1, s2, s3⟩ := I.rel.step (Nat.le_trans D.base (D.mono j)) F.dead (fun d hd => by have := F.dst d hd; rw [t3] at this; exact this) F.fits hsub hnew he
      have eS : cur (sact pls) (look st0.fr) (seen (listed.setIfInBounds j true)) ops.size = putF o.dst pl.R.v (cur (sact pls) (look st0.fr) (seen listed) ops.size) := funext writeS
      have eH : cur (hact pls) st0.h (seen (listed.setIfInBounds j true)) ops.size = updF (stAt st0 pls j).hp.length pl.R (cur (hact pls) st0.h (seen listed) ops.size) := funext writeH
      refine ih _ φ' _ w' ⟨by simpa using I.size, fun i oi hoi hsi k hk => ?_, by rw [eS, eH]; exact s1, by rw [eH]; exact I.tr.trans s2, fun b hb => ?_⟩ ?_
      · rw [seen_set hltl] at hsi ⊢
        simp only at hsi ⊢
        split
        · rfl
        · split at hsi
          · rename_i _ he; subst he; rw [ho] at hoi; cases hoi; exact hpre k hk
          · exact I.closed i oi hoi hsi k hk
      · rcases s3 b hb with h | ⟨h1, h2⟩
        · rcases I.dom b h with h | ⟨k, x, g1, g2, g3, g4⟩
          · exact .inl h
          · refine .inr ⟨k, x, ?_, g2, g3, g4⟩
            rw [seen_set hltl]; simp [g1]
        · refine .inr ⟨j, (o.dst, pl), ?_, hpl, by rw [F.len]; exact h1, by rw [F.len]; exact h2⟩
          rw [seen_set hltl]; simp
      · have := countP_lt (p := fun k => !seen listed k) (q := fun k => !seen (listed.setIfInBounds j true) k) (j := j) (l := List.range ops.size) (by simpa using hlt) (by simp [hSj]) (by rw [seen_set hltl]; simp) fun x hx => by
          rw [seen_set hltl] at hx
          simp only at hx ⊢
          split at hx
          · simp at hx
          · exact hx
        omega
    unfold wpOp
    rw [ho]
    simp only
    have hcutn : ∀ b, (stAt st0 pls j).hp.length ≤ b → cutPhi (stAt st0 pls j).hp.length φ b = none := fun b hb => if_neg (by omega)
    cases hrun : pl.run with
    | true =>
      obtain ⟨hop, hgd⟩ := F.run hrun
      rw [if_pos (wanted_run (φ := φ) (A := Ok A0 n0 φ (cur (hact pls) st0.h (seen listed) ops.size) w) (w := w) fun k want hg => by
        obtain ⟨g, g1, g2, g3⟩ := hgd k want hg
        exact ⟨g, g1, by rw [← g3, ← readS g g2]; exact I.rel.slot g⟩)]
      left
      refine hop (cutPhi (stAt st0 pls j).hp.length φ) (Ok A0 n0 φ (cur (hact pls) st0.h (seen listed) ops.size) w) w a _ _ (fun r hA => ⟨hA.2.1, fun hm => hA.2.2 ?_⟩) (ev_mask hslots) hheap hcutn behind
      obtain ⟨b, blk, z, k1, k2, k3⟩ := hm
      exact ⟨b, blk, z, (hsub b blk k1).2, k2, (cutPhi_some k3).2⟩
    | false =>
      obtain ⟨hR, kk, want, g, hg, hk, hgr, hv⟩ := F.skip hrun
      rw [if_neg (by
        have := I.rel.slot g
        rw [readS g hgr] at this
        rw [wanted_skip hg hk hv this]; simp)]
      refine behind undef w (cutPhi (stAt st0 pls j).hp.length φ) ?_
      rw [hR]
      exact Eff.skip hcutn

end Go.AX

import Derived.Test.YtnpmcikbnnlmkaaAxW
/-! The evaluator of a region, operation by operation. -/
namespace Go.AX
variable {P : Program}

/-- What the proof adds to the code: how symbolic conditions fall, what lies at a symbolic place, what calls come to. -/
structure HT where
  dec : List (Nat × Bool) := []
  els : List (Nat × AV) := []
  calls : Nat → FuncId → List AV → List (Option Blk) → Hint := fun _ _ _ _ => .no
  unroll : Bool := false

def assocO {α : Type} : List (Nat × α) → Nat → Option α
  | [], _ => none
  | (k, v) :: r, s => match Nat.beq k s with | true => some v | false => assocO r s

def elHint (H : HT) (s : Nat) : Hint := match assocO H.els s with | some e => .el e | none => .no

def hintOf (H : HT) (o : Oper) (ev : Operand → AV) (hp : List (Option Blk)) : Hint :=
  match o.op with
  | .call c => match c.callee with
    | .value x => match ev x with
      | .fn f caps => H.calls (match o.dst with | some d => d | none => 0) f (c.args.toList.map ev ++ caps) hp
      | _ => .no
    | _ => .no
  | .store _ (.tmp s) _ => elHint H s
  | _ => match o.dst with
    | some d => elHint H d
    | none => .no

structure Pl where
  run : Bool
  fr : List (Nat × AV)
  hp : List (Option Blk)
  R : OpR
  reads : List Nat

def maskH (T : List Nat) : Nat → List (Option Blk) → List (Option Blk)
  | _, [] => []
  | i, x :: r => (match memN T i with | true => x | false => none) :: maskH T (i + 1) r

theorem length_maskH (T : List Nat) : ∀ (i : Nat) (l : List (Option Blk)), (maskH T i l).length = l.length
  | _, [] => rfl
  | i, x :: r => by simp [maskH, length_maskH T (i + 1) r]

theorem nth_maskH (T : List Nat) : ∀ (l : List (Option Blk)) (i b : Nat) (blk : Blk), nth (maskH T i l) b = some blk → nth l b = some blk := by
  intro l
  induction l with
  | nil => intro i b blk h; simp [maskH, nth] at h
  | cons x r ih =>
    intro i b blk h
    cases b with
    | zero =>
      simp only [maskH, nth] at h ⊢
      split at h
      · exact h
      · cases h
    | succ b => simp only [maskH, nth] at h ⊢; exact ih _ _ _ h

def refsB (blk : Blk) : List Nat := match blk.flat with
  | true => []
  | false => (blk.es.map fun e => (e.cells.map (refs 3)).flatten).flatten

def reach (hp : List (Option Blk)) : Nat → List Nat → List Nat
  | 0, T => T
  | k + 1, T => reach hp k (T ++ (T.map fun b => match nth hp b with | some blk => refsB blk | none => []).flatten)

def opSlots (o : Oper) : List Nat := o.op.operands.toList.filterMap fun x => match x with | .tmp t => some t | _ => none

def belowO (nb : Nat) : Option Blk → Bool
  | some blk => belowB nb blk
  | none => true

def gd (H : HT) (g : Nat) (b : Bool) : Bool × Prop := match assocO H.dec g with
  | some d => (d, b = d)
  | none => (b, True)

theorem gd_spec {H : HT} {g : Nat} {b : Bool} (h : (gd H g b).2) : b = (gd H g b).1 := by
  unfold gd at *
  split at h
  · rename_i d hd; exact h
  · rfl

def refV (H : HT) (s : Nat) (v : AV) : AV := match v with
  | .bool b => .bool (gd H s b).1
  | v => v

def refP (H : HT) (s : Nat) (v : AV) : Prop := match v with
  | .bool b => (gd H s b).2
  | _ => True

theorem refV_eq {H : HT} {s : Nat} {v : AV} (h : refP H s v) : refV H s v = v := by
  cases v <;> first | rfl | skip
  rename_i b
  simp only [refV, refP] at *
  rw [← gd_spec h]

/-- May the operation look into memory? -/
def touch (o : Oper) : Bool := match o.op with
  | .load _ _ => true
  | .store _ _ _ => true
  | .indexAddr _ _ _ => true
  | .slice _ _ _ _ _ => true
  | .call c => match c.callee with
    | .builtin .len => false
    | .builtin .min => false
    | .builtin .max => false
    | _ => true
  | _ => false

def roots (o : Oper) (fr : List (Nat × AV)) : List Nat := match touch o with
  | true => (fr.map fun x => refs 3 x.2).flatten
  | false => []

def planRun (P : Program) (H : HT) (dr : Bool) (m : Nat) (o : Oper) (st : St) (rs : List Nat) : Option (Pl × Prop) :=
  let sl := opSlots o
  let fr := sl.map fun s => (s, refV H s (look st.fr s))
  let ev := St.ev { n := st.n, fr, hp := [] }
  let hp := match dr with | true => maskH (reach st.hp 2 (roots o fr)) 0 st.hp | false => st.hp
  match aop P o ev hp (hintOf H o ev hp) with
  | some (R, p) => match R.dead.all (Nat.ble m) && (!dr || (fr.all (fun x => belowV st.hp.length 4 x.2) && hp.all (belowO st.hp.length))) with
    | true => some ({ run := true, fr, hp, R, reads := rs ++ sl }, (sl.map fun s => refP H s (look st.fr s)).foldr And p)
    | false => none
  | none => none

def planSkip (g : Nat) (st : St) : Pl := { run := false, fr := [], hp := maskH [] 0 st.hp, R := { v := .tup [] }, reads := [g] }

def dstOk : Option Nat → Nat → Bool
  | some d, n => Nat.blt d n
  | none, _ => true

def planOp (P : Program) (H : HT) (dr : Bool) (m : Nat) (ops : Array Oper) (o : Oper) (st : St) : Option (Pl × Prop) :=
  match dstOk o.dst st.n with
  | false => none
  | true =>
    match o.guard with
    | none => planRun P H dr m o st []
    | some (k, want) =>
      match (ops[k]?).bind (·.dst) with
      | none => none
      | some g => match look st.fr g with
        | .bool b => match (gd H g b).1, want with
          | true, true => match planRun P H dr m o st [g] with
            | some (pl, p) => some (pl, (gd H g b).2 ∧ p)
            | none => none
          | false, false => match planRun P H dr m o st [g] with
            | some (pl, p) => some (pl, (gd H g b).2 ∧ p)
            | none => none
          | _, _ => some (planSkip g st, (gd H g b).2)
        | .tup l => match l with
          | [] => some (planSkip g st, True)
          | _ => none
        | _ => none

structure PlF (P : Program) (dr : Bool) (m : Nat) (ops : Array Oper) (o : Oper) (st : St) (pl : Pl) : Prop where
  dst : ∀ d, o.dst = some d → d < st.n
  len : pl.hp.length = st.hp.length
  hsub : ∀ b blk, nth pl.hp b = some blk → nth st.hp b = some blk
  whole : dr = false → pl.run = true → pl.hp = st.hp
  dead : ∀ b, b ∈ pl.R.dead → m ≤ b
  fits : pl.R.fits (nth pl.hp)
  below : dr = true → ∀ b blk, nth pl.hp b = some blk → belowB st.hp.length blk = true
  slots : ∀ s, look pl.fr s = .unk ∨ (s ∈ pl.reads ∧ look pl.fr s = look st.fr s)
  belowS : dr = true → ∀ s, belowV st.hp.length 4 (look pl.fr s) = true
  run : pl.run = true → OpOK P o (St.ev { n := st.n, fr := pl.fr, hp := [] }) (nth pl.hp) st.hp.length pl.R ∧
    (∀ k want, o.guard = some (k, want) → ∃ g, (ops[k]?).bind (·.dst) = some g ∧ g ∈ pl.reads ∧ look st.fr g = .bool want)
  skip : pl.run = false → pl.R = { v := .tup [] } ∧ ∃ k want g, o.guard = some (k, want) ∧ (ops[k]?).bind (·.dst) = some g ∧ g ∈ pl.reads ∧ (look st.fr g = .bool (!want) ∨ look st.fr g = .tup [])

theorem look_unk_map (f : Nat → AV) : ∀ (l : List Nat) (s : Nat), look (l.map fun s => (s, f s)) s = .unk ∨ (s ∈ l ∧ look (l.map fun s => (s, f s)) s = f s) := by
  intro l
  induction l with
  | nil => intro s; exact .inl rfl
  | cons x r ih =>
    intro s
    simp only [List.map_cons, look]
    cases hb : Nat.beq x s with
    | true => have := Nat.eq_of_beq_eq_true hb; subst this; exact .inr ⟨by simp, rfl⟩
    | false => exact (ih s).imp id fun h => ⟨List.mem_cons_of_mem _ h.1, h.2⟩

theorem look_prop {p : AV → Prop} {l : List (Nat × AV)} (h0 : p .unk) (h : ∀ x ∈ l, p x.2) (s : Nat) : p (look l s) := by
  induction l with
  | nil => exact h0
  | cons x r ih =>
    obtain ⟨k, v⟩ := x
    simp only [look]
    split
    · exact h (k, v) (by simp)
    · exact ih fun y hy => h y (List.mem_cons_of_mem _ hy)

theorem planRun_spec {H : HT} {dr : Bool} {m : Nat} {o : Oper} {st : St} {rs : List Nat} {pl : Pl} {p : Prop} (h : planRun P H dr m o st rs = some (pl, p)) (hp : p) :
    pl.run = true ∧ (∀ g ∈ rs, g ∈ pl.reads) ∧ pl.hp.length = st.hp.length ∧ (∀ b blk, nth pl.hp b = some blk → nth st.hp b = some blk) ∧ (dr = false → pl.hp = st.hp) ∧ (∀ b, b ∈ pl.R.dead → m ≤ b) ∧
    pl.R.fits (nth pl.hp) ∧ (dr = true → ∀ b blk, nth pl.hp b = some blk → belowB st.hp.length blk = true) ∧ (∀ s, look pl.fr s = .unk ∨ (s ∈ pl.reads ∧ look pl.fr s = look st.fr s)) ∧
    (dr = true → ∀ s, belowV st.hp.length 4 (look pl.fr s) = true) ∧ OpOK P o (St.ev { n := st.n, fr := pl.fr, hp := [] }) (nth pl.hp) st.hp.length pl.R := by
  unfold planRun at h
  simp only at h
  generalize hhp : (match dr with | true => maskH (reach st.hp 2 (roots o ((opSlots o).map fun s => (s, refV H s (look st.fr s))))) 0 st.hp | false => st.hp) = hp' at h
  have hlen : hp'.length = st.hp.length := by
    rw [← hhp]; cases dr
    · rfl
    · exact length_maskH _ _ _
  have hsub : ∀ b blk, nth hp' b = some blk → nth st.hp b = some blk := by
    intro b blk hb
    rw [← hhp] at hb
    cases dr
    · exact hb
    · exact nth_maskH _ _ _ _ _ hb
  have hwhole : dr = false → hp' = st.hp := by rintro rfl; exact hhp.symm
  split at h
  case h_2 => cases h
  rename_i R q hop
  split at h
  case h_2 => cases h
  rename_i hc
  cases h
  simp only [Bool.and_eq_true, Bool.or_eq_true, Bool.not_eq_true'] at hc
  obtain ⟨hrf, hp⟩ := foldr_and hp
  obtain ⟨h1, h2⟩ := aop_sound hop hp
  rw [hlen] at h1
  refine ⟨rfl, fun g hg => List.mem_append_left _ hg, hlen, hsub, hwhole, fun b hb => Nat.le_of_ble_eq_true (List.all_eq_true.1 hc.1 b hb), h2, fun hd b blk hb => ?_, fun s => ?_, fun hd s => ?_, h1⟩
  · rcases hc.2 with hc | hc
    · rw [hd] at hc; cases hc
    · have hm : some blk ∈ hp' := by
        rw [nth_eq] at hb
        cases hq : hp'[b]? with
        | none => simp [hq] at hb
        | some ob => simp [hq] at hb; subst hb; exact List.mem_of_getElem? hq
      exact List.all_eq_true.1 hc.2 _ hm
  · exact (look_unk_map (fun s => refV H s (look st.fr s)) (opSlots o) s).imp id fun h => ⟨List.mem_append_right _ h.1, h.2.trans (refV_eq (hrf _ (List.mem_map.2 ⟨s, h.1, rfl⟩)))⟩
  · rcases hc.2 with hc | hc
    · rw [hd] at hc; cases hc
    · exact look_prop (p := fun v => belowV st.hp.length 4 v = true) rfl (fun x hx => List.all_eq_true.1 hc.1 x hx) s

theorem planSkip_spec {dr : Bool} {m : Nat} {ops : Array Oper} {o : Oper} {st : St} {k g : Nat} {want : Bool} (hd : ∀ d, o.dst = some d → d < st.n) (hg : o.guard = some (k, want)) (hk : (ops[k]?).bind (·.dst) = some g)
    (hv : look st.fr g = .bool (!want) ∨ look st.fr g = .tup []) : PlF P dr m ops o st (planSkip g st) := by
  refine ⟨hd, length_maskH _ _ _, fun b blk h => nth_maskH _ _ _ _ _ h, fun _ h => (by cases h), fun b h => (by simp [planSkip] at h), OpR.fits_value _ _, fun _ b blk h => ?_, fun s => .inl rfl, fun _ s => rfl, fun h => (by cases h), fun _ => ⟨rfl, k, want, g, hg, hk, by simp [planSkip], hv⟩⟩
  exfalso
  have : ∀ (l : List (Option Blk)) (i b : Nat), nth (maskH [] i l) b = none := by
    intro l
    induction l with
    | nil => intro i b; rfl
    | cons x r ih => intro i b; cases b with
      | zero => rfl
      | succ b => exact ih _ _
  simp only [planSkip] at h
  rw [this] at h
  cases h

theorem planOp_spec {H : HT} {dr : Bool} {m : Nat} {ops : Array Oper} {o : Oper} {st : St} {pl : Pl} {p : Prop} (h : planOp P H dr m ops o st = some (pl, p)) (hp : p) : PlF P dr m ops o st pl := by
  unfold planOp at h
  split at h
  case h_1 => cases h
  rename_i hdst
  have hd : ∀ d, o.dst = some d → d < st.n := by
    intro d hd
    rw [hd] at hdst
    exact Nat.le_of_ble_eq_true (show Nat.ble (d + 1) st.n = true from hdst)
  split at h
  · rename_i hg
    obtain ⟨h1, h2, h3, h4, h5, h6, h7, h8, h9, h10, h11⟩ := planRun_spec h hp
    exact ⟨hd, h3, h4, fun h _ => h5 h, h6, h7, h8, h9, h10, fun _ => ⟨h11, fun k want hk => by rw [hg] at hk; cases hk⟩, fun h => by rw [h1] at h; cases h⟩
  rename_i k want hg
  split at h
  case h_1 => cases h
  rename_i g hk
  split at h
  · rename_i b hb
    have main : ∀ p0, (gd H g b).2 → (gd H g b).1 = want → planRun P H dr m o st [g] = some (pl, p0) → p0 → PlF P dr m ops o st pl := by
      intro p0 hgp hw hr hp0
      obtain ⟨h1, h2, h3, h4, h5, h6, h7, h8, h9, h10, h11⟩ := planRun_spec hr hp0
      refine ⟨hd, h3, h4, fun h _ => h5 h, h6, h7, h8, h9, h10, fun _ => ⟨h11, fun k' want' hk' => ?_⟩, fun h => by rw [h1] at h; cases h⟩
      rw [hg] at hk'; cases hk'
      exact ⟨g, hk, h2 g (by simp), by rw [hb, gd_spec hgp, hw]⟩
    split at h
    · rename_i hw
      split at h
      · rename_i pl' p' hr; cases h; exact main _ hp.1 hw hr hp.2
      · cases h
    · rename_i hw
      split at h
      · rename_i pl' p' hr; cases h; exact main _ hp.1 hw hr hp.2
      · cases h
    · rename_i n1 n2
      cases h
      refine planSkip_spec hd hg hk (.inl ?_)
      rw [hb, gd_spec hp]
      congr 1
      revert n1 n2
      cases (gd H g b).1 <;> (intro n1 n2; simp at n1 n2; first | (simp [n1]; done) | (simp [n2]; done))
  · rename_i l hl
    split at h
    · cases h; exact planSkip_spec hd hg hk (.inr hl)
    · cases h
  · cases h

def evalOps (P : Program) (H : HT) (dr : Bool) (m : Nat) (ops : Array Oper) : List Oper → St → Option (List (Option Nat × Pl) × St × Prop)
  | [], st => some ([], st, True)
  | o :: r, st => match planOp P H dr m ops o st with
    | some (pl, p) => match evalOps P H dr m ops r (st.app o.dst pl.R) with
      | some (pls, st', q) => some ((o.dst, pl) :: pls, st', p ∧ q)
      | none => none
    | none => none

def stAt (st : St) (pls : List (Option Nat × Pl)) : Nat → St
  | 0 => st
  | j + 1 => match pls[j]? with
    | some x => (stAt st pls j).app x.1 x.2.R
    | none => stAt st pls j

theorem stAt_cons (st : St) (x : Option Nat × Pl) (pls : List (Option Nat × Pl)) : ∀ j, stAt st (x :: pls) (j + 1) = stAt (st.app x.1 x.2.R) pls j := by
  intro j
  induction j with
  | zero => rfl
  | succ j ih =>
    show (match (x :: pls)[j + 1]? with | some x => _ | none => _) = _
    simp only [List.getElem?_cons_succ]
    rw [ih]; rfl

theorem evalOps_spec {H : HT} {dr : Bool} {m : Nat} {ops : Array Oper} : ∀ {l : List Oper} {st st' : St} {pls : List (Option Nat × Pl)} {p : Prop}, evalOps P H dr m ops l st = some (pls, st', p) → p →
    pls.length = l.length ∧ st' = stAt st pls l.length ∧ ∀ (j : Nat) o, l[j]? = some o → ∃ pl, pls[j]? = some (o.dst, pl) ∧ PlF P dr m ops o (stAt st pls j) pl := by
  intro l
  induction l with
  | nil => intro st st' pls p h hp; simp only [evalOps, Option.some.injEq, Prod.mk.injEq] at h; obtain ⟨rfl, rfl, _⟩ := h; exact ⟨rfl, rfl, fun j o h => by simp at h⟩
  | cons o r ih =>
    intro st st' pls p h hp
    simp only [evalOps] at h
    split at h
    case h_2 => cases h
    rename_i pl p1 h1
    split at h
    case h_2 => cases h
    rename_i pls' st1 q h2
    cases h
    obtain ⟨g1, g2, g3⟩ := ih h2 hp.2
    refine ⟨by simp [g1], by rw [g2, List.length_cons, stAt_cons], fun j o' hj => ?_⟩
    cases j with
    | zero => simp at hj; subst hj; exact ⟨pl, rfl, planOp_spec h1 hp.1⟩
    | succ j =>
      obtain ⟨pl', k1, k2⟩ := g3 j o' (by simpa using hj)
      exact ⟨pl', by simpa using k1, by rw [stAt_cons]; exact k2⟩

end Go.AX

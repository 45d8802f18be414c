import Derived.Test.YtnpmcikbnnlmkaaAxM
/-! Abstract states and code. -/
namespace Go.AX
variable {P : Program}

def Ok (A0 : Nat → Prop) (n0 : Nat) (φ : Phi) (h : Hp) (w : World) (r : Nat) : Prop := (A0 r ∨ n0 ≤ r) ∧ r < w.heap.size ∧ ¬ Mut φ h r

structure Rel (A0 : Nat → Prop) (n0 m : Nat) (φ : Phi) (st : St) (a : Act) (w : World) : Prop where
  defs : a.defers = []
  size : a.tmps.size = st.n
  slot : ∀ s, VR φ (Ok A0 n0 φ st.h w) w (look st.fr s) (a.tmps.getD s undef)
  heap : HR φ (Ok A0 n0 φ st.h w) w st.h
  out : ∀ b, st.hp.length ≤ b → φ b = none
  base : n0 ≤ w.heap.size
  own : ∀ b r z, m ≤ b → φ b = some (r, z) → n0 ≤ r

structure Tr (m : Nat) (φ : Phi) (h : Hp) (w : World) (φ' : Phi) (h' : Hp) (w' : World) : Prop where
  par : ∀ b, b < m → φ' b = φ b
  keep : Keep (Mut φ h) w w'
  mutd : ∀ r, Mut φ' h' r → Mut φ h r ∨ w.heap.size ≤ r

theorem Tr.refl (m : Nat) (φ : Phi) (h : Hp) (w : World) : Tr m φ h w φ h w := ⟨fun _ _ => rfl, Keep.refl _ w, fun _ h => .inl h⟩

theorem Tr.trans {m : Nat} {φ φ' φ'' : Phi} {h h' h'' : Hp} {w w' w'' : World} (t : Tr m φ h w φ' h' w') (u : Tr m φ' h' w' φ'' h'' w'') : Tr m φ h w φ'' h'' w'' :=
  ⟨fun b hb => (u.par b hb).trans (t.par b hb), t.keep.trans u.keep t.mutd,
    fun r hr => (u.mutd r hr).elim (t.mutd r) fun hs => .inr (Nat.le_trans t.keep.size hs)⟩

def St.ev (st : St) : Operand → AV
  | .tmp t => look st.fr t
  | .const v => absC v
  | .global _ => .unk
  | .func f => .fn f []

theorem Rel.ev {A0 : Nat → Prop} {n0 m : Nat} {φ : Phi} {st : St} {a : Act} {w : World} (h : Rel A0 n0 m φ st a w) (x : Operand) :
    VR φ (Ok A0 n0 φ st.h w) w (st.ev x) (a.eval x) := by
  cases x with
  | tmp t => exact h.slot t
  | const v => exact .imm _ _ (RT.absC v)
  | global g => exact .imm _ _ (.unk _)
  | func f => exact VR.fn (φ := φ) (A := Ok A0 n0 φ st.h w) (w := w) f [] [] rfl (fun i c v hc => by simp at hc)

def assocB : List (Nat × Blk) → Nat → Option Blk
  | [], _ => none
  | (k, v) :: r, s => match Nat.beq k s with | true => some v | false => assocB r s

def memN : List Nat → Nat → Bool
  | [], _ => false
  | k :: r, s => match Nat.beq k s with | true => true | false => memN r s

def updL (dead : List Nat) (chg : List (Nat × Blk)) : Nat → List (Option Blk) → List (Option Blk)
  | _, [] => []
  | i, x :: r => (match assocB chg i with
      | some blk => some blk
      | none => match memN dead i with | true => none | false => x) :: updL dead chg (i + 1) r

def mapSome : List Blk → List (Option Blk)
  | [] => []
  | x :: r => some x :: mapSome r

def put (dst : Option Nat) (v : AV) (fr : List (Nat × AV)) : List (Nat × AV) :=
  match dst with
  | some d => (d, v) :: fr
  | none => fr

def St.app (st : St) (dst : Option Nat) (R : OpR) : St :=
  { n := st.n, fr := put dst R.v st.fr, hp := updL R.dead R.chg 0 st.hp ++ mapSome R.new }

theorem nth_eq {α : Type} (l : List (Option α)) (b : Nat) : nth l b = (l[b]?).join := by
  induction l generalizing b with
  | nil => rfl
  | cons x r ih => cases b with
    | zero => simp [nth]
    | succ b => simp [nth, ih]

theorem length_updL (dead : List Nat) (chg : List (Nat × Blk)) : ∀ (l : List (Option Blk)) (i : Nat), (updL dead chg i l).length = l.length
  | [], _ => rfl
  | x :: r, i => by simp [updL, length_updL dead chg r (i + 1)]

theorem nth_updL (dead : List Nat) (chg : List (Nat × Blk)) : ∀ (l : List (Option Blk)) (i b : Nat), b < l.length →
    nth (updL dead chg i l) b = match assocB chg (i + b) with
      | some blk => some blk
      | none => match memN dead (i + b) with | true => none | false => nth l b := by
  intro l
  induction l with
  | nil => intro i b hb; simp at hb
  | cons x r ih =>
    intro i b hb
    cases b with
    | zero => simp [updL, nth]
    | succ b =>
      simp only [updL, nth]
      rw [ih (i + 1) b (by simpa using hb), show i + 1 + b = i + (b + 1) by omega]

theorem length_mapSome (l : List Blk) : (mapSome l).length = l.length := by induction l <;> simp_all [mapSome]

theorem nth_mapSome (l : List Blk) (b : Nat) : nth (mapSome l) b = l[b]? := by
  induction l generalizing b with
  | nil => rfl
  | cons x r ih => cases b <;> simp [mapSome, nth, ih]

theorem nth_append {α : Type} (l m : List (Option α)) (b : Nat) : nth (l ++ m) b = if b < l.length then nth l b else nth m (b - l.length) := by
  rw [nth_eq, List.getElem?_append]
  split
  · rw [nth_eq]
  · rw [nth_eq]

theorem assocB_mem {l : List (Nat × Blk)} {k : Nat} {v : Blk} (h : assocB l k = some v) : (k, v) ∈ l := by
  induction l with
  | nil => simp [assocB] at h
  | cons x r ih =>
    obtain ⟨k', v'⟩ := x
    simp only [assocB] at h
    split at h
    · rename_i he; have := Nat.eq_of_beq_eq_true he; subst this; cases h; simp
    · exact List.mem_cons_of_mem _ (ih h)

theorem assocB_none {l : List (Nat × Blk)} {k : Nat} (h : assocB l k = none) (v : Blk) : (k, v) ∉ l := by
  induction l with
  | nil => simp
  | cons x r ih =>
    obtain ⟨k', v'⟩ := x
    simp only [assocB] at h
    split at h
    · cases h
    · rename_i he
      intro hm
      rcases List.mem_cons.1 hm with hm | hm
      · cases hm; rw [Nat.beq_refl] at he; cases he
      · exact ih h hm

theorem memN_iff {l : List Nat} {k : Nat} : memN l k = true ↔ k ∈ l := by
  induction l with
  | nil => simp [memN]
  | cons x r ih =>
    simp only [memN]
    split
    · rename_i he; have := Nat.eq_of_beq_eq_true he; subst this; simp
    · rename_i he
      rw [ih, List.mem_cons]
      constructor
      · exact .inr
      · rintro (h | h)
        · subst h; rw [Nat.beq_refl] at he; cases he
        · exact h

/-- The heap behind a step. -/
theorem app_h (st : St) (dst : Option Nat) (R : OpR) (b : Nat) : (st.app dst R).h b =
    if b < st.hp.length then (match assocB R.chg b with
      | some blk => some blk
      | none => match memN R.dead b with | true => none | false => st.h b) else R.new[b - st.hp.length]? := by
  unfold St.h St.app
  rw [nth_append, length_updL]
  split
  · rename_i hb; rw [nth_updL _ _ _ _ _ hb]; simp
  · rw [nth_mapSome]

/-- What may be asked of a step beside its effect. -/
def OpR.fits (R : OpR) (h : Hp) : Prop := (∀ b blk, (b, blk) ∈ R.chg → ∃ blk0, h b = some blk0 ∧ blk0.wr = true) ∧
  ∀ b, b ∈ R.dead → (∃ blk, h b = some blk ∧ blk.wr = true) ∧ assocB R.chg b = none

theorem look_put (dst : Option Nat) (v : AV) (fr : List (Nat × AV)) (s : Nat) : look (put dst v fr) s = if dst = some s then v else look fr s := by
  cases dst with
  | none => simp [put]
  | some d =>
    simp only [put, look]
    by_cases h : d = s
    · subst h; simp [Nat.beq_refl]
    · have : Nat.beq d s = false := by
        cases hb : Nat.beq d s with
        | false => rfl
        | true => exact absurd (Nat.eq_of_beq_eq_true hb) h
      simp [this, h]

theorem Rel.step {A0 : Nat → Prop} {n0 m : Nat} {φ : Phi} {st : St} {a : Act} {w : World} (hr : Rel A0 n0 m φ st a w) {o : Oper} {R : OpR} {v' : Value} {w' : World} {φ' : Phi}
    (hm : m ≤ st.hp.length) (hmd : ∀ b, b ∈ R.dead → m ≤ b) (hd : ∀ d, o.dst = some d → d < st.n) (hf : R.fits st.h)
    (he : Eff φ (Ok A0 n0 φ st.h w) w st.h st.hp.length R v' w' φ') :
    Rel A0 n0 m φ' (st.app o.dst R) (a.put o.dst v') w' ∧ Tr m φ st.h w φ' (st.app o.dst R).h w' := by
  have hφ : ∀ b x, φ b = some x → φ' b = some x := fun b x hb => by
    rcases Nat.lt_or_ge b st.hp.length with h | h
    · rw [he.old b h]; exact hb
    · rw [hr.out b h] at hb; cases hb
  have hmut : ∀ r, Mut φ' (st.app o.dst R).h r → Mut φ st.h r ∨ (w.heap.size ≤ r ∧ New φ' st.hp.length r) := by
    rintro r ⟨b, blk, z, hb, hw, hbr⟩
    rw [app_h] at hb
    split at hb
    · rename_i hlt
      rw [he.old b hlt] at hbr
      split at hb
      · rename_i blk' ha
        obtain ⟨blk0, h0, h1⟩ := hf.1 b blk' (assocB_mem ha)
        exact .inl ⟨b, blk0, z, h0, h1, hbr⟩
      · split at hb
        · cases hb
        · exact .inl ⟨b, blk, z, hb, hw, hbr⟩
    · rename_i hge
      rcases he.fresh b r z (by omega) hbr with ⟨h1, _⟩ | ⟨b0, z0, blk0, h1, h2, h3, h4⟩
      · exact .inr ⟨h1, b, z, by omega, hbr⟩
      · exact .inl ⟨b0, blk0, z0, h2, h3, h4⟩
  have hdirty : ∀ r, (∃ b z, R.dirty b ∧ φ b = some (r, z)) → Mut φ st.h r := by
    rintro r ⟨b, z, hb, hbr⟩
    rcases hb with hb | ⟨blk, hb⟩
    · obtain ⟨⟨blk0, h0, h1⟩, _⟩ := hf.2 b hb
      exact ⟨b, blk0, z, h0, h1, hbr⟩
    · obtain ⟨blk0, h0, h1⟩ := hf.1 b blk hb
      exact ⟨b, blk0, z, h0, h1, hbr⟩
  have hlive : ∀ b blk r z, st.h b = some blk → φ b = some (r, z) → r < w.heap.size := by
    intro b blk r z hb hbr
    rcases hr.heap.blk b blk hb with ⟨_, h0, _⟩ | ⟨r', cs, T, h1, h2, _⟩
    · rw [hbr] at h0; cases h0
    · rw [hbr] at h1; simp at h1; rw [h1.1]; exact (Array.getElem?_eq_some_iff.1 h2).1
  have hmutlt : ∀ r, Mut φ st.h r → r < w.heap.size := fun r ⟨b, blk, z, hb, _, hbr⟩ => hlive b blk r z hb hbr
  have hG : ∀ r, Grow (Ok A0 n0 φ st.h w) φ' st.hp.length w w' r → Ok A0 n0 φ' (st.app o.dst R).h w' r := by
    rintro r (⟨h1, h2, h3⟩ | ⟨h1, h2, h3⟩)
    · refine ⟨h1, Nat.lt_of_lt_of_le h2 he.keep.size, fun hmm => ?_⟩
      rcases hmut r hmm with h | ⟨h, _⟩
      · exact h3 h
      · omega
    · refine ⟨.inr (Nat.le_trans hr.base h1), h2, fun hmm => ?_⟩
      rcases hmut r hmm with h | ⟨_, h⟩
      · have := hmutlt r h; omega
      · exact h3 h
  have hA : ∀ r, Ok A0 n0 φ st.h w r → Ok A0 n0 φ' (st.app o.dst R).h w' r := fun r h => hG r (.inl h)
  have hblk : ∀ r, Ok A0 n0 φ st.h w r → w'.heap[r]? = w.heap[r]? := fun r h => he.keep.block r h.2.1 fun hd => h.2.2 (hdirty r hd)
  have hmono : ∀ {c u}, VR φ (Ok A0 n0 φ st.h w) w c u → VR φ' (Ok A0 n0 φ' (st.app o.dst R).h w') w' c u := fun h => h.mono hφ hA hblk he.keep.row
  have hmono2 : ∀ {c u}, VR φ' (Grow (Ok A0 n0 φ st.h w) φ' st.hp.length w w') w' c u → VR φ' (Ok A0 n0 φ' (st.app o.dst R).h w') w' c u := fun h =>
    h.mono (fun _ _ h => h) hG (fun _ _ => rfl) (fun _ => Nat.le_refl _)
  have hbr2 : ∀ {b blk}, BR φ' (Grow (Ok A0 n0 φ st.h w) φ' st.hp.length w w') w' b blk → BR φ' (Ok A0 n0 φ' (st.app o.dst R).h w') w' b blk := by
    rintro b blk (h | ⟨r, cs, T, h1, h2, h3, h4⟩)
    · exact .inl h
    · refine .inr ⟨r, cs, T, h1, h2, h3, fun i e hi => ⟨(h4 i e hi).1, fun j c hj => ?_⟩⟩
      obtain ⟨g1, u, g2, g3⟩ := (h4 i e hi).2 j c hj
      exact ⟨g1, u, g2, hmono2 g3⟩
  have hcase : ∀ b blk, (st.app o.dst R).h b = some blk → (b < st.hp.length ∧ ((b, blk) ∈ R.chg ∨ (assocB R.chg b = none ∧ b ∉ R.dead ∧ st.h b = some blk))) ∨ ∃ k, b = st.hp.length + k ∧ R.new[k]? = some blk := by
    intro b blk hb
    rw [app_h] at hb
    split at hb
    · rename_i hlt
      split at hb
      · rename_i blk' ha; cases hb; exact .inl ⟨hlt, .inl (assocB_mem ha)⟩
      · rename_i ha
        split at hb
        · cases hb
        · rename_i hd0
          refine .inl ⟨hlt, .inr ⟨ha, fun hm => ?_, hb⟩⟩
          rw [memN_iff.2 hm] at hd0; cases hd0
    · rename_i hge; exact .inr ⟨b - st.hp.length, by omega, hb⟩
  have hold : ∀ b, b < st.hp.length → ((st.app o.dst R).h b).isSome = true → (st.h b).isSome = true ∧ (b ∈ R.dead → False) := by
    intro b hlt hs
    obtain ⟨blk, hb⟩ := Option.isSome_iff_exists.1 hs
    rcases hcase b blk hb with ⟨_, h | ⟨_, h1, h2⟩⟩ | ⟨k, h1, _⟩
    · obtain ⟨blk0, h0, _⟩ := hf.1 b blk h
      refine ⟨by simp [h0], fun hd0 => ?_⟩
      exact absurd h (assocB_none (hf.2 b hd0).2 blk)
    · exact ⟨by simp [h2], h1⟩
    · omega
  refine ⟨⟨?_, ?_, fun s => ?_, ⟨fun b blk hb => ?_, fun b blk hb hfl => ?_, fun b b' r z z' hb hb' h1 h2 => ?_⟩, fun b hb => ?_, Nat.le_trans hr.base he.keep.size, fun b r z hb hbr => ?_⟩, ⟨fun b hb => he.old b (by omega), ?_, fun r h => (hmut r h).imp id (·.1)⟩⟩
  · cases ho : o.dst <;> simpa [Act.put, ho] using hr.defs
  · cases ho : o.dst <;> simpa [Act.put, ho, St.app] using hr.size
  · show VR _ _ _ (look (put o.dst R.v st.fr) s) _
    rw [look_put]
    cases ho : o.dst with
    | none => rw [← ho]; have := hmono (hr.slot s); simpa [Act.put, ho] using this
    | some d =>
      by_cases hds : d = s
      · subst hds
        rw [if_pos rfl]
        have : d < a.tmps.size := by rw [hr.size]; exact hd d ho
        have e1 : (a.put (some d) v').tmps.getD d undef = v' := by simp [Act.put, this]
        rw [e1, ← ho]
        exact hmono2 he.val
      · rw [if_neg (by simpa using hds)]
        have e1 : (a.put (some d) v').tmps.getD s undef = a.tmps.getD s undef := by simp [Act.put, Array.getElem?_setIfInBounds_ne hds]
        rw [e1, ← ho]
        exact hmono (hr.slot s)
  · rcases hcase b blk hb with ⟨hlt, h | ⟨hnone, h1, h2⟩⟩ | ⟨k, rfl, hk⟩
    · exact hbr2 (he.chgd b blk h)
    · rcases hr.heap.blk b blk h2 with ⟨g1, g2, g3⟩ | ⟨r, cs, T, g1, g2, g3, g4⟩
      · exact .inl ⟨g1, by rw [he.old b hlt]; exact g2, g3⟩
      · refine .inr ⟨r, cs, T, hφ _ _ g1, ?_, g3, fun i e hi => ⟨(g4 i e hi).1, fun j c hj => ?_⟩⟩
        · rw [he.keep.block r (hlive b blk r _ h2 g1) ?_]
          · exact g2
          · rintro ⟨b', z', hdd, hb'⟩
            have hl' : (st.h b').isSome = true := by
              rcases hdd with hdd | ⟨blk', hdd⟩
              · obtain ⟨⟨blk0, h0, _⟩, _⟩ := hf.2 b' hdd; simp [h0]
              · obtain ⟨blk0, h0, _⟩ := hf.1 b' blk' hdd; simp [h0]
            have hbb := hr.heap.inj b b' r _ _ (by simp [h2]) hl' g1 hb'
            subst hbb
            rcases hdd with hdd | ⟨blk', hdd⟩
            · exact h1 hdd
            · exact assocB_none hnone blk' hdd
        · obtain ⟨k1, u, k2, k3⟩ := (g4 i e hi).2 j c hj
          exact ⟨k1, u, k2, hmono k3⟩
    · exact hbr2 (he.newb k blk hk)
  · rcases hcase b blk hb with ⟨hlt, h | ⟨_, _, h2⟩⟩ | ⟨k, rfl, hk⟩
    · exact he.flc b blk h hfl
    · exact hr.heap.flat b blk h2 hfl
    · exact he.fln blk (List.mem_of_getElem? hk) hfl
  · have mixed : ∀ b b' r z z', b < st.hp.length → ¬ b' < st.hp.length → ((st.app o.dst R).h b).isSome = true → φ' b = some (r, z) → φ' b' = some (r, z') → False := by
      intro b b' r z z' hlt hge hs h1 h2
      obtain ⟨g1, g2⟩ := hold b hlt hs
      obtain ⟨blk, hblk⟩ := Option.isSome_iff_exists.1 g1
      rw [he.old b hlt] at h1
      rcases he.fresh b' r z' (by omega) h2 with ⟨k1, _⟩ | ⟨b0, z0, blk0, k1, k2, k3, k4⟩
      · have := hlive b blk r z hblk h1; omega
      · have := hr.heap.inj b b0 r _ _ g1 (by simp [k2]) h1 k4
        subst this; exact g2 k1
    by_cases e1 : b < st.hp.length
    · by_cases e2 : b' < st.hp.length
      · rw [he.old b e1] at h1; rw [he.old b' e2] at h2
        exact hr.heap.inj b b' r z z' (hold b e1 hb).1 (hold b' e2 hb').1 h1 h2
      · exact (mixed b b' r z z' e1 e2 hb h1 h2).elim
    · by_cases e2 : b' < st.hp.length
      · exact (mixed b' b r z' z e2 e1 hb' h2 h1).elim
      · exact he.inj b b' r z z' (by omega) (by omega) h1 h2
  · refine he.out b ?_
    have : (st.app o.dst R).hp.length = st.hp.length + R.new.length := by simp [St.app, length_updL, length_mapSome]
    omega
  · rcases Nat.lt_or_ge b st.hp.length with hlt | hge
    · rw [he.old b hlt] at hbr; exact hr.own b r z hb hbr
    · rcases he.fresh b r z hge hbr with ⟨h1, _⟩ | ⟨b0, z0, blk0, h1, _, _, h4⟩
      · exact Nat.le_trans hr.base h1
      · exact hr.own b0 r z0 (hmd b0 h1) h4
  · exact he.keep.mono hdirty

end Go.AX

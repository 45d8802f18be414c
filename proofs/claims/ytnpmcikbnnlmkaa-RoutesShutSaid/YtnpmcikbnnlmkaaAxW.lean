import Derived.Test.YtnpmcikbnnlmkaaAxV
/-! Steps out of order: abstract states as functions, and an operation seen through a mask. -/
namespace Go.AX
variable {P : Program}

structure RelF (A0 : Nat → Prop) (n0 m n : Nat) (φ : Phi) (fr : Nat → AV) (h : Hp) (a : Act) (w : World) : Prop where
  defs : a.defers = []
  size : a.tmps.size = n
  slot : ∀ s, VR φ (Ok A0 n0 φ h w) w (fr s) (a.tmps.getD s undef)
  heap : HR φ (Ok A0 n0 φ h w) w h
  base : n0 ≤ w.heap.size
  own : ∀ b r z, m ≤ b → φ b = some (r, z) → n0 ≤ r

theorem Rel.toF {A0 : Nat → Prop} {n0 m : Nat} {φ : Phi} {st : St} {a : Act} {w : World} (h : Rel A0 n0 m φ st a w) : RelF A0 n0 m st.n φ (look st.fr) st.h a w :=
  ⟨h.defs, h.size, h.slot, h.heap, h.base, h.own⟩

def refs : Nat → AV → List Nat
  | 0, _ => []
  | d + 1, v => match v with
    | .ptr b _ _ => [b]
    | .sl b _ _ => [b]
    | .agg cs => (cs.map (refs d)).flatten
    | .tup cs => (cs.map (refs d)).flatten
    | .fn _ cs => (cs.map (refs d)).flatten
    | _ => []

def belowV (nb : Nat) : Nat → AV → Bool
  | 0, _ => false
  | d + 1, v => match v with
    | .ptr b _ _ => Nat.blt b nb
    | .sl b _ _ => Nat.blt b nb
    | .agg cs => cs.all (belowV nb d)
    | .tup cs => cs.all (belowV nb d)
    | .fn _ cs => cs.all (belowV nb d)
    | _ => true

def belowB (nb : Nat) (blk : Blk) : Bool := match blk.flat with
  | true => true
  | false => blk.es.all fun e => e.cells.all (belowV nb 3)

def cutPhi (nb : Nat) (φ : Phi) : Phi := fun b => if b < nb then φ b else none

theorem VR.cut {φ : Phi} {A : Nat → Prop} {w : World} {nb : Nat} : ∀ (d : Nat) (c : AV) (v : Value), VR φ A w c v → belowV nb d c = true → VR (cutPhi nb φ) A w c v := by
  intro d
  induction d with
  | zero => intro c v _ h; simp [belowV] at h
  | succ d ih =>
    intro c v h hb
    have kids : ∀ (cs : List AV) (vs : List Value), cs.all (belowV nb d) = true → (∀ (i : Nat) c u, cs[i]? = some c → vs[i]? = some u → VR φ A w c u) →
        ∀ (i : Nat) c u, cs[i]? = some c → vs[i]? = some u → VR (cutPhi nb φ) A w c u := by
      intro cs vs hall hh i c u hc hu
      exact ih c u (hh i c u hc hu) (List.all_eq_true.1 hall _ (List.mem_of_getElem? hc))
    cases h with
    | imm a v h => exact .imm _ _ h
    | ptr b i j r z hφ =>
      simp only [belowV, Nat.blt, Nat.ble_eq] at hb
      exact .ptr b i j r z (by simp only [cutPhi]; rw [if_pos (by omega)]; exact hφ)
    | sl b i n r z cap hφ hn hr =>
      simp only [belowV, Nat.blt, Nat.ble_eq] at hb
      exact .sl b i n r z cap (by simp only [cutPhi]; rw [if_pos (by omega)]; exact hφ) hn hr
    | slnil b i a => exact .slnil b i a
    | agg cs vs hl hh => exact .agg _ _ hl (kids cs vs hb hh)
    | tup cs vs hl hh => exact .tup _ _ hl (kids cs vs hb hh)
    | fn f cs vs hl hh => exact .fn f _ _ hl (kids cs vs hb hh)

theorem cutPhi_some {nb : Nat} {φ : Phi} {b : Nat} {x : Nat × Nat} (h : cutPhi nb φ b = some x) : b < nb ∧ φ b = some x := by
  unfold cutPhi at h
  split at h
  · exact ⟨by assumption, h⟩
  · cases h

/-- The heap behind an operation whose new blocks bear the numbers from 'nb' on. -/
def actH (nb : Nat) (R : OpR) (b : Nat) : Option (Option Blk) :=
  if b < nb then (match assocB R.chg b with
    | some blk => some (some blk)
    | none => match memN R.dead b with | true => some none | false => none) else if b < nb + R.new.length then some R.new[b - nb]? else none

def updF (nb : Nat) (R : OpR) (h : Hp) : Hp := fun b => (actH nb R b).getD (h b)

def putF (dst : Option Nat) (v : AV) (fr : Nat → AV) : Nat → AV := fun s => if dst = some s then v else fr s

/-- ONE STEP SEEN THROUGH A MASK. -/
theorem RelF.step {A0 : Nat → Prop} {n0 m n nb : Nat} {φ : Phi} {fr : Nat → AV} {h h0 : Hp} {a : Act} {w : World} (hr : RelF A0 n0 m n φ fr h a w) {dst : Option Nat} {R : OpR} {v' : Value} {w' : World} {φ0 : Phi}
    (hm : m ≤ nb) (hmd : ∀ b, b ∈ R.dead → m ≤ b) (hd : ∀ d, dst = some d → d < n) (hf : R.fits h0)
    (hsub : ∀ b blk, h0 b = some blk → b < nb ∧ h b = some blk) (hnew : ∀ b, nb ≤ b → b < nb + R.new.length → φ b = none)
    (he : Eff (cutPhi nb φ) (Ok A0 n0 φ h w) w h0 nb R v' w' φ0) :
    ∃ φ', RelF A0 n0 m n φ' (putF dst R.v fr) (updF nb R h) (a.put dst v') w' ∧ Tr m φ h w φ' (updF nb R h) w' ∧ (∀ b, φ' b ≠ none → φ b ≠ none ∨ (nb ≤ b ∧ b < nb + R.new.length)) := by
  let φ' : Phi := fun b => if nb ≤ b ∧ b < nb + R.new.length then φ0 b else φ b
  have hin : ∀ b, nb ≤ b → b < nb + R.new.length → φ' b = φ0 b := fun b h1 h2 => if_pos ⟨h1, h2⟩
  have hoff : ∀ b, ¬ (nb ≤ b ∧ b < nb + R.new.length) → φ' b = φ b := fun b h1 => if_neg h1
  have hφ0 : ∀ b x, φ0 b = some x → φ' b = some x := by
    intro b x hb
    rcases Nat.lt_or_ge b nb with h1 | h1
    · rw [he.old b h1] at hb
      rw [hoff b (by omega)]
      exact (cutPhi_some hb).2
    · rcases Nat.lt_or_ge b (nb + R.new.length) with h2 | h2
      · rw [hin b h1 h2]; exact hb
      · rw [he.out b h2] at hb; cases hb
  have hφ : ∀ b x, φ b = some x → φ' b = some x := fun b x hb => by
    by_cases h1 : nb ≤ b ∧ b < nb + R.new.length
    · rw [hnew b h1.1 h1.2] at hb; cases hb
    · rw [hoff b h1]; exact hb
  have hlive : ∀ b blk r z, h b = some blk → φ b = some (r, z) → r < w.heap.size := by
    intro b blk r z hb hbr
    rcases hr.heap.blk b blk hb with ⟨_, h0, _⟩ | ⟨r', cs, T, h1, h2, _⟩
    · rw [hbr] at h0; cases h0
    · rw [hbr] at h1; simp at h1; rw [h1.1]; exact (Array.getElem?_eq_some_iff.1 h2).1
  have hnone : ∀ b blk, h b = some blk → φ b = none → blk.es = [] := by
    intro b blk hb hbr
    rcases hr.heap.blk b blk hb with ⟨h1, _⟩ | ⟨r', cs, T, h1, h2, _⟩
    · exact h1
    · rw [hbr] at h1; cases h1
  -- what acts on b
  have hact : ∀ b blk, updF nb R h b = some blk → (b < nb ∧ (b, blk) ∈ R.chg) ∨ (actH nb R b = none ∧ h b = some blk) ∨ ∃ k, b = nb + k ∧ R.new[k]? = some blk := by
    intro b blk hb
    unfold updF at hb
    cases ha : actH nb R b with
    | none => rw [ha] at hb; exact .inr (.inl ⟨rfl, hb⟩)
    | some ob =>
      rw [ha] at hb
      simp only [Option.getD_some] at hb
      subst hb
      unfold actH at ha
      split at ha
      · rename_i hlt
        split at ha
        · rename_i blk' hc; cases ha; exact .inl ⟨hlt, assocB_mem hc⟩
        · split at ha <;> cases ha
      · split at ha
        · rename_i h1 h2; simp at ha; exact .inr (.inr ⟨b - nb, by omega, ha⟩)
        · cases ha
  have hnact : ∀ b, actH nb R b = none → b < nb → assocB R.chg b = none ∧ b ∉ R.dead := by
    intro b ha hb
    unfold actH at ha
    rw [if_pos hb] at ha
    split at ha
    · cases ha
    · rename_i hc
      split at ha
      · cases ha
      · rename_i hd0; exact ⟨hc, fun hm => by rw [memN_iff.2 hm] at hd0; cases hd0⟩
  have hnact2 : ∀ b, actH nb R b = none → ¬ (nb ≤ b ∧ b < nb + R.new.length) := by
    intro b ha hb
    unfold actH at ha
    rw [if_neg (by omega), if_pos hb.2] at ha
    cases ha
  have hdirtyb : ∀ b, R.dirty b → ∃ blk0, h0 b = some blk0 ∧ blk0.wr = true := by
    intro b hb
    rcases hb with hb | ⟨blk, hb⟩
    · exact (hf.2 b hb).1
    · exact hf.1 b blk hb
  have hmut : ∀ r, Mut φ' (updF nb R h) r → Mut φ h r ∨ (w.heap.size ≤ r ∧ New φ0 nb r) := by
    rintro r ⟨b, blk, z, hb, hw, hbr⟩
    rcases hact b blk hb with ⟨hlt, hc⟩ | ⟨ha, hb⟩ | ⟨k, rfl, hk⟩
    · rw [hoff b (by omega)] at hbr
      obtain ⟨blk0, g0, g1⟩ := hf.1 b blk hc
      exact .inl ⟨b, blk0, z, (hsub b blk0 g0).2, g1, hbr⟩
    · rw [hoff b (hnact2 b ha)] at hbr
      exact .inl ⟨b, blk, z, hb, hw, hbr⟩
    · have hlt : k < R.new.length := (List.getElem?_eq_some_iff.1 hk).1
      rw [hin _ (by omega) (by omega)] at hbr
      rcases he.fresh _ r z (by omega) hbr with ⟨h1, _⟩ | ⟨b0, z0, blk0, h1, h2, h3, h4⟩
      · exact .inr ⟨h1, nb + k, z, by omega, hbr⟩
      · exact .inl ⟨b0, blk0, z0, (hsub b0 blk0 h2).2, h3, (cutPhi_some h4).2⟩
  have hdirty : ∀ r, (∃ b z, R.dirty b ∧ cutPhi nb φ b = some (r, z)) → Mut φ h r := by
    rintro r ⟨b, z, hb, hbr⟩
    obtain ⟨blk0, g0, g1⟩ := hdirtyb b hb
    exact ⟨b, blk0, z, (hsub b blk0 g0).2, g1, (cutPhi_some hbr).2⟩
  have hmutlt : ∀ r, Mut φ h r → r < w.heap.size := fun r ⟨b, blk, z, hb, _, hbr⟩ => hlive b blk r z hb hbr
  have hG : ∀ r, Grow (Ok A0 n0 φ h w) φ0 nb w w' r → Ok A0 n0 φ' (updF nb R h) w' r := by
    rintro r (⟨h1, h2, h3⟩ | ⟨h1, h2, h3⟩)
    · refine ⟨h1, Nat.lt_of_lt_of_le h2 he.keep.size, fun hmm => ?_⟩
      rcases hmut r hmm with h | ⟨h, _⟩
      · exact h3 h
      · omega
    · refine ⟨.inr (Nat.le_trans hr.base h1), h2, fun hmm => ?_⟩
      rcases hmut r hmm with h | ⟨_, h⟩
      · have := hmutlt r h; omega
      · exact h3 h
  have hA : ∀ r, Ok A0 n0 φ h w r → Ok A0 n0 φ' (updF nb R h) w' r := fun r h => hG r (.inl h)
  have hblk : ∀ r, Ok A0 n0 φ h w r → w'.heap[r]? = w.heap[r]? := fun r h => he.keep.block r h.2.1 fun hd => h.2.2 (hdirty r hd)
  have hmono : ∀ {c u}, VR φ (Ok A0 n0 φ h w) w c u → VR φ' (Ok A0 n0 φ' (updF nb R h) w') w' c u := fun h => h.mono hφ hA hblk he.keep.row
  have hmono2 : ∀ {c u}, VR φ0 (Grow (Ok A0 n0 φ h w) φ0 nb w w') w' c u → VR φ' (Ok A0 n0 φ' (updF nb R h) w') w' c u := fun h =>
    h.mono hφ0 hG (fun _ _ => rfl) (fun _ => Nat.le_refl _)
  have hbr2 : ∀ {b blk}, (φ0 b = none → φ' b = none) → BR φ0 (Grow (Ok A0 n0 φ h w) φ0 nb w w') w' b blk → BR φ' (Ok A0 n0 φ' (updF nb R h) w') w' b blk := by
    rintro b blk hb0 (⟨h1, h2, h3⟩ | ⟨r, cs, T, h1, h2, h3, h4⟩)
    · exact .inl ⟨h1, hb0 h2, h3⟩
    · refine .inr ⟨r, cs, T, hφ0 _ _ h1, h2, h3, fun i e hi => ⟨(h4 i e hi).1, fun j c hj => ?_⟩⟩
      obtain ⟨g1, u, g2, g3⟩ := (h4 i e hi).2 j c hj
      exact ⟨g1, u, g2, hmono2 g3⟩
  have hold : ∀ b, (updF nb R h b).isSome = true → ¬ (nb ≤ b ∧ b < nb + R.new.length) → (h b).isSome = true ∧ (b ∈ R.dead → False) := by
    intro b hs hnr
    obtain ⟨blk, hb⟩ := Option.isSome_iff_exists.1 hs
    rcases hact b blk hb with ⟨_, h⟩ | ⟨h1, h2⟩ | ⟨k, h1, h2⟩
    · obtain ⟨blk0, h0, _⟩ := hf.1 b blk h
      refine ⟨by simp [(hsub _ _ h0).2], fun hd0 => ?_⟩
      exact absurd h (assocB_none (hf.2 b hd0).2 blk)
    · refine ⟨by simp [h2], fun hd0 => ?_⟩
      obtain ⟨⟨blk0, g0, _⟩, _⟩ := hf.2 b hd0
      exact (hnact b h1 (hsub _ _ g0).1).2 hd0
    · have hlt : k < R.new.length := (List.getElem?_eq_some_iff.1 h2).1
      omega
  refine ⟨φ', ⟨?_, ?_, fun s => ?_, ⟨fun b blk hb => ?_, fun b blk hb hfl => ?_, fun b b' r z z' hb hb' h1 h2 => ?_⟩, Nat.le_trans hr.base he.keep.size, fun b r z hb hbr => ?_⟩, ⟨fun b hb => hoff b (by omega), ?_, fun r h => (hmut r h).imp id (·.1)⟩, fun b hb => ?_⟩
  · cases ho : dst <;> simpa [Act.put, ho] using hr.defs
  · cases ho : dst <;> simpa [Act.put, ho] using hr.size
  · show VR _ _ _ (putF dst R.v fr s) _
    unfold putF
    cases ho : dst with
    | none => have := hmono (hr.slot s); simpa [Act.put, ho] using this
    | some d =>
      by_cases hds : d = s
      · subst hds
        rw [if_pos rfl]
        have : d < a.tmps.size := by rw [hr.size]; exact hd d ho
        have e1 : (a.put (some d) v').tmps.getD d undef = v' := by simp [Act.put, this]
        rw [e1]
        exact hmono2 he.val
      · rw [if_neg (by simpa using hds)]
        have e1 : (a.put (some d) v').tmps.getD s undef = a.tmps.getD s undef := by simp [Act.put, Array.getElem?_setIfInBounds_ne hds]
        rw [e1]
        exact hmono (hr.slot s)
  · rcases hact b blk hb with ⟨hlt, h⟩ | ⟨ha, h2⟩ | ⟨k, rfl, hk⟩
    · exact hbr2 (fun h0 => by
        rw [he.old b hlt] at h0
        rw [hoff b (by omega)]
        unfold cutPhi at h0
        rwa [if_pos hlt] at h0) (he.chgd b blk h)
    · rcases hr.heap.blk b blk h2 with ⟨g1, g2, g3⟩ | ⟨r, cs, T, g1, g2, g3, g4⟩
      · exact .inl ⟨g1, by rw [hoff b (hnact2 b ha)]; exact g2, g3⟩
      · refine .inr ⟨r, cs, T, hφ _ _ g1, ?_, g3, fun i e he => ⟨(g4 i e he).1, fun j c hj => ?_⟩⟩
        · rw [he.keep.block r (hlive b blk r _ h2 g1) ?_]
          · exact g2
          · rintro ⟨b', z', hdd, hb'⟩
            obtain ⟨blk0, q0, _⟩ := hdirtyb b' hdd
            obtain ⟨q1, q2⟩ := hsub _ _ q0
            have hbb := hr.heap.inj b b' r _ _ (by simp [h2]) (by simp [q2]) g1 (cutPhi_some hb').2
            subst hbb
            obtain ⟨k1, k2⟩ := hnact b ha q1
            rcases hdd with hdd | ⟨blk', hdd⟩
            · exact k2 hdd
            · exact assocB_none k1 blk' hdd
        · obtain ⟨k1, u, k2, k3⟩ := (g4 i e he).2 j c hj
          exact ⟨k1, u, k2, hmono k3⟩
    · have hlt : k < R.new.length := (List.getElem?_eq_some_iff.1 hk).1
      exact hbr2 (fun h0 => by rw [hin _ (by omega) (by omega)]; exact h0) (he.newb k blk hk)
  · rcases hact b blk hb with ⟨hlt, h⟩ | ⟨_, h2⟩ | ⟨k, rfl, hk⟩
    · exact he.flc b blk h hfl
    · exact hr.heap.flat b blk h2 hfl
    · exact he.fln blk (List.mem_of_getElem? hk) hfl
  · have mixed : ∀ b b' r z z', ¬ (nb ≤ b ∧ b < nb + R.new.length) → (nb ≤ b' ∧ b' < nb + R.new.length) → (updF nb R h b).isSome = true → φ' b = some (r, z) → φ' b' = some (r, z') → False := by
      intro b b' r z z' hlt hge hs h1 h2
      obtain ⟨g1, g2⟩ := hold b hs hlt
      obtain ⟨blk, hblk⟩ := Option.isSome_iff_exists.1 g1
      rw [hoff b hlt] at h1
      rw [hin b' hge.1 hge.2] at h2
      rcases he.fresh b' r z' hge.1 h2 with ⟨k1, _⟩ | ⟨b0, z0, blk0, k1, k2, k3, k4⟩
      · have := hlive b blk r z hblk h1; omega
      · have := hr.heap.inj b b0 r _ _ g1 (by simp [(hsub _ _ k2).2]) h1 (cutPhi_some k4).2
        subst this; exact g2 k1
    by_cases e1 : nb ≤ b ∧ b < nb + R.new.length
    · by_cases e2 : nb ≤ b' ∧ b' < nb + R.new.length
      · rw [hin b e1.1 e1.2] at h1; rw [hin b' e2.1 e2.2] at h2
        exact he.inj b b' r z z' e1.1 e2.1 h1 h2
      · exact (mixed b' b r z' z e2 e1 hb' h2 h1).elim
    · by_cases e2 : nb ≤ b' ∧ b' < nb + R.new.length
      · exact (mixed b b' r z z' e1 e2 hb h1 h2).elim
      · rw [hoff b e1] at h1; rw [hoff b' e2] at h2
        exact hr.heap.inj b b' r z z' (hold b hb e1).1 (hold b' hb' e2).1 h1 h2
  · by_cases e1 : nb ≤ b ∧ b < nb + R.new.length
    · rw [hin b e1.1 e1.2] at hbr
      rcases he.fresh b r z e1.1 hbr with ⟨h1, _⟩ | ⟨b0, z0, blk0, h1, _, _, h4⟩
      · exact Nat.le_trans hr.base h1
      · exact hr.own b0 r z0 (hmd b0 h1) (cutPhi_some h4).2
    · rw [hoff b e1] at hbr; exact hr.own b r z hb hbr
  · exact he.keep.mono hdirty
  · by_cases e1 : nb ≤ b ∧ b < nb + R.new.length
    · exact .inr e1
    · rw [hoff b e1] at hb; exact .inl hb

end Go.AX

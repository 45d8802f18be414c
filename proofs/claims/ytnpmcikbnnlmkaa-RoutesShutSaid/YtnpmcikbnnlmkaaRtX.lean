import Derived.Test.YtnpmcikbnnlmkaaRtM
import Derived.KernelRfl
/-! What the distances are. -/
open Go Go.AX Go.Proofs
set_option maxRecDepth 100000
set_option maxHeartbeats 1000000
set_option linter.unusedVariables false
set_option linter.unusedSimpArgs false
namespace Go.Proofs.Ytnpmcikbnnlmkaa
theorem getD_set (d : List Int) (v u : Nat) (x : Int) (hv : v < d.length) : (d.set v x).getD u 0 = if v = u then x else d.getD u 0 := by
  rw [List.getD_eq_getElem?_getD, List.getElem?_set, List.getD_eq_getElem?_getD]
  split
  · first | rfl | (rw [if_pos hv]; rfl)
  · rfl

theorem edges_eq (v far : Nat) : ∀ (r : List Int) (d : List Int), v < d.length → (∀ w ∈ r, w.toNat ≠ v) →
    edgesL r v far d = if (r.any fun w => d.getD w.toNat 0 == (far : Int)) = true then d.set v ((far + 1 : Nat) : Int) else d := by
  intro r
  induction r with
  | nil => intro d _ _; simp [edgesL]
  | cons w r ih =>
    intro d hv hr
    have hw := hr w (by simp)
    have hr' := fun x hx => hr x (List.mem_cons_of_mem _ hx)
    show edgesL r v far (edgeF v far d w) = _
    have key : ∀ d' : List Int, (∀ u, u ≠ v → d'.getD u 0 = d.getD u 0) → (r.any fun w => d'.getD w.toNat 0 == (far : Int)) = (r.any fun w => d.getD w.toNat 0 == (far : Int)) := by
      intro d' h
      rw [Bool.eq_iff_iff, List.any_eq_true, List.any_eq_true]
      constructor
      · rintro ⟨x, hx, he⟩; exact ⟨x, hx, by rw [← h _ (hr' x hx)]; exact he⟩
      · rintro ⟨x, hx, he⟩; exact ⟨x, hx, by rw [h _ (hr' x hx)]; exact he⟩
    rw [ih _ (by rw [edgeF_len]; exact hv) hr', List.any_cons]
    unfold edgeF
    by_cases he : (d.getD w.toNat 0 == (far : Int)) = true
    · rw [if_pos he, he, Bool.true_or, if_pos rfl, List.set_set]
      split <;> rfl
    · rw [if_neg he, Bool.eq_false_iff.2 he, Bool.false_or]

/-- What a round makes of a vertex. -/
def rdV (g : List (List Int)) (s : List Bool) (d : List Int) (far v : Nat) : Int :=
  if s.getD v false = true then d.getD v 0 else if 0 ≤ d.getD v 0 then d.getD v 0 else if ((g.getD v []).any fun w => d.getD w.toNat 0 == (far : Int)) = true then ((far + 1 : Nat) : Int) else d.getD v 0

theorem round_get {g : List (List Int)} {s : List Bool} (hg : OkG g s) (d : List Int) (hd : d.length = g.length) (far : Nat) : ∀ v, v < g.length → (roundL g s d far).getD v 0 = rdV g s d far v := by
  have key : ∀ j, j ≤ g.length → ∀ v, v < g.length → ((List.range j).foldl (vertF g s far) d).getD v 0 = if v < j then rdV g s d far v else d.getD v 0 := by
    intro j
    induction j with
    | zero => intro _ v _; rw [if_neg (by omega)]; rfl
    | succ j ih =>
      intro hj v hv
      have ih := ih (by omega)
      rw [range_fold]
      have hlen : ((List.range j).foldl (vertF g s far) d).length = g.length := by rw [foldl_len (vertF_len g s far), hd]
      generalize (List.range j).foldl (vertF g s far) d = e at ih hlen
      have hej : e.getD j 0 = d.getD j 0 := by rw [ih j (by omega), if_neg (by omega)]
      have hw : ∀ w ∈ g.getD j [], w.toNat ≠ j := fun w hw => by have := (hg.row j (by omega)).2 w hw; omega
      have hany : ((g.getD j []).any fun w => e.getD w.toNat 0 == (far : Int)) = ((g.getD j []).any fun w => d.getD w.toNat 0 == (far : Int)) := by
        have pt : ∀ w ∈ g.getD j [], (e.getD w.toNat 0 == (far : Int)) = (d.getD w.toNat 0 == (far : Int)) := by
          intro w hwm
          have := (hg.row j (by omega)).2 w hwm
          rw [ih w.toNat (by omega)]
          split
          · unfold rdV
            split
            · rfl
            · split
              · rfl
              · split
                · rw [Bool.eq_iff_iff, beq_iff_eq, beq_iff_eq]; constructor <;> intro h <;> omega
                · rfl
          · rfl
        rw [Bool.eq_iff_iff, List.any_eq_true, List.any_eq_true]
        constructor
        · rintro ⟨x, hx, he⟩; exact ⟨x, hx, by rw [← pt x hx]; exact he⟩
        · rintro ⟨x, hx, he⟩; exact ⟨x, hx, by rw [pt x hx]; exact he⟩
      have hv1 : (vertF g s far e j).getD v 0 = if v = j then rdV g s d far j else e.getD v 0 := by
        unfold vertF rdV
        rw [hej]
        by_cases h1 : s.getD j false = true
        · rw [if_pos h1, if_pos h1]; split
          · rename_i h; subst h; exact hej
          · rfl
        · rw [if_neg h1, if_neg h1]
          by_cases h2 : 0 ≤ d.getD j 0
          · rw [decide_eq_true h2, if_pos rfl, if_pos h2]; split
            · rename_i h; subst h; exact hej
            · rfl
          · rw [if_neg (by simpa using h2), if_neg h2, edges_eq j far _ e (by omega) hw, hany]
            by_cases h3 : ((g.getD j []).any fun w => d.getD w.toNat 0 == (far : Int)) = true
            · rw [if_pos h3, if_pos h3, getD_set e j v _ (by omega)]
              by_cases h4 : v = j
              · rw [if_pos h4.symm, if_pos h4]
              · rw [if_neg fun h => h4 h.symm, if_neg h4]
            · rw [if_neg h3, if_neg h3]; split
              · rename_i h; subst h; exact hej
              · rfl
      rw [hv1]
      by_cases h : v = j
      · subst h; rw [if_pos rfl, if_pos (by omega)]
      · rw [if_neg h, ih v hv]
        by_cases h2 : v < j
        · rw [if_pos h2, if_pos (by omega)]
        · rw [if_neg h2, if_neg (by omega)]
  intro v hv
  rw [roundL, key g.length (Nat.le_refl _) v hv, if_pos hv]

/-- What holds after 'k' rounds. -/
structure Lev (g : List (List Int)) (s : List Bool) (goal k : Nat) (d : List Int) : Prop where
  len : d.length = g.length
  zero : d.getD goal 0 = 0
  bnd : ∀ v, v < g.length → -1 ≤ d.getD v 0 ∧ d.getD v 0 ≤ k
  back : ∀ v, v < g.length → 0 ≤ d.getD v 0 → v = goal ∨ (s.getD v false = false ∧ ∃ w ∈ g.getD v [], 0 ≤ d.getD w.toNat 0 ∧ d.getD v 0 = d.getD w.toNat 0 + 1)
  fwd : ∀ v, v < g.length → s.getD v false = false → ∀ w ∈ g.getD v [], 0 ≤ d.getD w.toNat 0 → d.getD w.toNat 0 < k → 0 ≤ d.getD v 0 ∧ d.getD v 0 ≤ d.getD w.toNat 0 + 1

theorem Lev.step {g : List (List Int)} {s : List Bool} (hg : OkG g s) {goal k : Nat} {d : List Int} (hgo : goal < g.length) (h : Lev g s goal k d) : Lev g s goal (k + 1) (roundL g s d k) := by
  have rg := round_get hg d h.len k
  have same : ∀ v, v < g.length → 0 ≤ d.getD v 0 → rdV g s d k v = d.getD v 0 := by
    intro v hv h0; unfold rdV
    by_cases h1 : s.getD v false = true
    · rw [if_pos h1]
    · rw [if_neg h1, if_pos h0]
  have inr : ∀ v, v < g.length → ∀ w ∈ g.getD v [], w.toNat < g.length := fun v hv w hw => by have := (hg.row v hv).2 w hw; omega
  have cases' : ∀ v, v < g.length → rdV g s d k v = d.getD v 0 ∨ (s.getD v false = false ∧ d.getD v 0 < 0 ∧ rdV g s d k v = ((k + 1 : Nat) : Int) ∧ ∃ w ∈ g.getD v [], d.getD w.toNat 0 = (k : Int)) := by
    intro v hv
    unfold rdV
    by_cases h1 : s.getD v false = true
    · rw [if_pos h1]; exact .inl rfl
    · rw [if_neg h1]
      by_cases h2 : 0 ≤ d.getD v 0
      · rw [if_pos h2]; exact .inl rfl
      · rw [if_neg h2]
        by_cases h3 : ((g.getD v []).any fun w => d.getD w.toNat 0 == (k : Int)) = true
        · rw [if_pos h3]
          obtain ⟨w, hw, he⟩ := List.any_eq_true.1 h3
          exact .inr ⟨Bool.eq_false_iff.2 h1, by omega, rfl, w, hw, by simpa using he⟩
        · rw [if_neg h3]; exact .inl rfl
  refine ⟨by rw [roundL_len, h.len], ?_, fun v hv => ?_, fun v hv h0 => ?_, fun v hv hs w hw h0 hk => ?_⟩
  · rw [rg goal hgo, same goal hgo (by rw [h.zero]; omega), h.zero]
  · rw [rg v hv]
    have := h.bnd v hv
    rcases cases' v hv with e | ⟨_, _, e, _⟩ <;> rw [e] <;> omega
  · rw [rg v hv] at h0 ⊢
    rcases cases' v hv with e | ⟨e1, e2, e3, w, hw, e4⟩
    · rw [e] at h0 ⊢
      rcases h.back v hv h0 with hgl | ⟨h1, w, hw, h2, h3⟩
      · exact .inl hgl
      · refine .inr ⟨h1, w, hw, ?_⟩
        rw [rg _ (inr v hv w hw), same _ (inr v hv w hw) h2]
        exact ⟨h2, h3⟩
    · refine .inr ⟨e1, w, hw, ?_⟩
      rw [rg _ (inr v hv w hw), same _ (inr v hv w hw) (by omega), e3, e4]
      exact ⟨by omega, by omega⟩
  · have hwr := inr v hv w hw
    rw [rg _ hwr] at h0 hk ⊢
    rw [rg v hv]
    have hbv := h.bnd v hv
    have hbw := h.bnd _ hwr
    rcases cases' _ hwr with e | ⟨_, _, e, _⟩
    · rw [e] at h0 hk ⊢
      by_cases hlt : d.getD w.toNat 0 < k
      · obtain ⟨g1, g2⟩ := h.fwd v hv hs w hw h0 hlt
        rw [same v hv g1]; exact ⟨g1, g2⟩
      · have hwk : d.getD w.toNat 0 = (k : Int) := by omega
        by_cases hv0 : 0 ≤ d.getD v 0
        · rw [same v hv hv0]; exact ⟨hv0, by omega⟩
        · unfold rdV
          rw [if_neg (by rw [hs]; simp), if_neg hv0, if_pos (List.any_eq_true.2 ⟨w, hw, by simpa using hwk⟩)]
          exact ⟨by omega, by omega⟩
    · rw [e] at hk; omega

theorem Lev.start {g : List (List Int)} {s : List Bool} (hg : OkG g s) {goal : Nat} (hgo : goal < g.length) : Lev g s goal 0 (dist0 g goal) := by
  have rep : ∀ v, v < g.length → (List.replicate g.length (-1 : Int)).getD v 0 = -1 := by
    intro v hv; simp [List.getD_eq_getElem?_getD, hv]
  have e : ∀ v, v < g.length → (dist0 g goal).getD v 0 = if goal = v then 0 else -1 := by
    intro v hv
    unfold dist0
    rw [getD_set _ _ _ _ (by simpa using hgo), rep v hv]
  refine ⟨dist0_len g goal, by rw [e goal hgo, if_pos rfl], fun v hv => ?_, fun v hv h0 => ?_, fun v hv hs w hw h0 hk => ?_⟩
  · rw [e v hv]; split <;> omega
  · rw [e v hv] at h0
    split at h0
    · rename_i h; exact .inl h.symm
    · omega
  · omega

theorem Lev.run {g : List (List Int)} {s : List Bool} (hg : OkG g s) {goal : Nat} (hgo : goal < g.length) : ∀ k, Lev g s goal k ((List.range k).foldl (roundL g s) (dist0 g goal)) := by
  intro k
  induction k with
  | zero => exact Lev.start hg hgo
  | succ k ih => rw [range_fold]; exact ih.step hg hgo

theorem nodup_len : ∀ {l d : List Int}, l.Nodup → (∀ x ∈ l, x ∈ d) → l.length ≤ d.length := by
  intro l
  induction l with
  | nil => intro d _ _; simp
  | cons a l ih =>
    intro d hn hs
    rw [List.nodup_cons] at hn
    have ha := hs a (by simp)
    have := ih (d := d.erase a) hn.2 fun x hx => (List.mem_erase_of_ne (fun e => hn.1 (by rw [← e]; exact hx))).2 (hs x (List.mem_cons_of_mem _ hx))
    rw [List.length_erase_of_mem ha] at this
    have : 0 < d.length := List.length_pos_of_mem ha
    simp only [List.length_cons]; omega

/-- No level is as high as there are vertices. -/
theorem Lev.top {g : List (List Int)} {s : List Bool} (hg : OkG g s) {goal k : Nat} {d : List Int} (h : Lev g s goal k d) {v : Nat} (hv : v < g.length) : d.getD v 0 < g.length := by
  rcases Int.lt_or_le (d.getD v 0) 0 with hneg | hpos
  · omega
  obtain ⟨m, hm⟩ : ∃ m : Nat, d.getD v 0 = (m : Int) := ⟨(d.getD v 0).toNat, by omega⟩
  have occ : ∀ j, j ≤ m → ∃ u, u < g.length ∧ d.getD u 0 = ((m - j : Nat) : Int) := by
    intro j
    induction j with
    | zero => intro _; exact ⟨v, hv, by rw [hm]; rfl⟩
    | succ j ih =>
      intro hj
      obtain ⟨u, hu, he⟩ := ih (by omega)
      rcases h.back u hu (by omega) with rfl | ⟨_, w, hw, h1, h2⟩
      · rw [h.zero] at he; omega
      · have := (hg.row u hu).2 w hw
        exact ⟨w.toNat, by omega, by omega⟩
  have sub : ∀ x ∈ (List.range (m + 1)).map (fun j : Nat => (j : Int)), x ∈ d := by
    intro x hx
    obtain ⟨j, hj, rfl⟩ := List.mem_map.1 hx
    have hj := List.mem_range.1 hj
    obtain ⟨u, hu, he⟩ := occ (m - j) (by omega)
    rw [show m - (m - j) = j by omega] at he
    rw [← he, List.getD_eq_getElem?_getD, List.getElem?_eq_getElem (by rw [h.len]; exact hu)]
    exact List.getElem_mem _
  have nd : ((List.range (m + 1)).map (fun j : Nat => (j : Int))).Nodup := by
    refine List.pairwise_map.2 ((List.nodup_range (n := m + 1)).imp fun hne e => hne (Int.ofNat_inj.1 e))
  have := nodup_len nd sub
  simp only [List.length_map, List.length_range, h.len] at this
  omega

/-- What the distances are. -/
structure Dst (g : List (List Int)) (s : List Bool) (goal : Nat) (d : List Int) : Prop where
  len : d.length = g.length
  shut : s.getD goal false = true → ∀ v, v < g.length → d.getD v 0 = -1
  zero : s.getD goal false = false → d.getD goal 0 = 0
  bnd : ∀ v, v < g.length → -1 ≤ d.getD v 0 ∧ d.getD v 0 < g.length
  back : ∀ v, v < g.length → 0 ≤ d.getD v 0 → v = goal ∨ (s.getD v false = false ∧ ∃ w ∈ g.getD v [], 0 ≤ d.getD w.toNat 0 ∧ d.getD v 0 = d.getD w.toNat 0 + 1)
  fwd : ∀ v, v < g.length → s.getD v false = false → ∀ w ∈ g.getD v [], 0 ≤ d.getD w.toNat 0 → 0 ≤ d.getD v 0 ∧ d.getD v 0 ≤ d.getD w.toNat 0 + 1

theorem dst_ok {g : List (List Int)} {s : List Bool} (hg : OkG g s) {goal : Nat} (hgo : goal < g.length) : Dst g s goal (distL g s goal g.length) := by
  have hl := distL_len g s goal g.length
  by_cases hs : s.getD goal false = true
  · have e : distL g s goal g.length = List.replicate g.length (-1) := by unfold distL; rw [if_pos hs]
    rw [e] at hl ⊢
    have rep : ∀ v, v < g.length → (List.replicate g.length (-1 : Int)).getD v 0 = -1 := by
      intro v hv; simp [List.getD_eq_getElem?_getD, hv]
    refine ⟨hl, fun _ => rep, fun h => by (rw [hs] at h; cases h), fun v hv => by rw [rep v hv]; omega, fun v hv h0 => by (rw [rep v hv] at h0; omega), fun v hv _ w hw h0 => ?_⟩
    have := (hg.row v hv).2 w hw
    rw [rep _ (by omega)] at h0; omega
  · have e : distL g s goal g.length = (List.range g.length).foldl (roundL g s) (dist0 g goal) := by unfold distL; rw [if_neg hs]
    rw [e] at hl ⊢
    have h := Lev.run hg hgo g.length
    exact ⟨h.len, fun h' => absurd h' hs, fun _ => h.zero, fun v hv => ⟨(h.bnd v hv).1, h.top hg hv⟩, h.back, fun v hv h1 w hw h0 => h.fwd v hv h1 w hw h0 (h.top hg (by have := (hg.row v hv).2 w hw; omega))⟩
#print axioms dst_ok
end Go.Proofs.Ytnpmcikbnnlmkaa

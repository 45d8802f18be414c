import Derived.Test.YtliflcmdhenckaaChanp
import Derived.KernelRfl
/-! Contracts. -/
open Go Go.AX Go.Proofs
set_option maxRecDepth 100000
set_option maxHeartbeats 1000000
set_option linter.unusedVariables false
set_option linter.unusedSimpArgs false
namespace Go.Proofs.Ytliflcmdhenckaa

def hasZ (c : List Fr) (i : Int) : Bool := decide (c.length ≤ 6) && (decide (0 ≤ i) && decide (i < (c.length : Int)))

theorem frL_len (c : List Fr) : (frL c).length = c.length := by simp [frL]
theorem frL_cells (c : List Fr) : ∀ e ∈ frL c, e.cells.length = 5 := by
  intro e he
  obtain ⟨x, _, rfl⟩ := List.mem_map.1 he
  rfl
theorem frL_get (c : List Fr) (n : Nat) (x : Fr) (h : c[n]? = some x) : (frL c)[n]? = some (frA x) := by simp [frL, h]
theorem frL_cells' (c l : List AV) (h : ∀ e ∈ c, e.cells.length = 5) (hl : ∀ e ∈ l, e ∈ c) : ∀ e ∈ l, e.cells.length = 5 := fun e he => h e (hl e he)

theorem has_ct (c : List Fr) (i : Int) : CT Try.prog 32 [] [.lst (frL c), .int .i64 i] [] (.bool (hasZ c i)) := by
  have hb : Try.f32.body = some (bodyOf Try.f32) := by kernel_rfl
  have hn : [AV.lst (frL c), .int .i64 i].length ≤ Try.f32.ntmps := Nat.le_of_ble_eq_true rfl
  have hl := frL_len c
  by_cases h1 : c.length ≤ 6
  · by_cases h2 : 0 ≤ i
    · exact CT.pathS mix Try.func32 hb hn (has_0 c i (by simp [iN]; omega) (by simpa using h2)) (by simp [hasZ, iN, h1, h2, hl])
    · exact CT.pathS mix Try.func32 hb hn (has_1 c i (by simp [iN]; omega) (by simpa using h2)) (by simp [hasZ, h1, h2])
  · exact CT.pathS mix Try.func32 hb hn (has_2 c i (by simp [iN]; omega)) (by simp [hasZ, h1])

theorem rhas_ct (c : List Fr) (i : Int) : CT Try.prog 33 [] [.lst (frL c), .int .i64 i] [] (.bool (hasZ c i)) := by
  have hb : Try.f33.body = some (bodyOf Try.f33) := by kernel_rfl
  have hn : [AV.lst (frL c), .int .i64 i].length ≤ Try.f33.ntmps := Nat.le_of_ble_eq_true rfl
  have hl := frL_len c
  by_cases h1 : c.length ≤ 6
  · by_cases h2 : 0 ≤ i
    · exact CT.pathS mix Try.func33 hb hn (rhas_0 c i (by simp [iN]; omega) (by simpa using h2)) (by simp [hasZ, iN, h1, h2, hl])
    · exact CT.pathS mix Try.func33 hb hn (rhas_1 c i (by simp [iN]; omega) (by simpa using h2)) (by simp [hasZ, h1, h2])
  · exact CT.pathS mix Try.func33 hb hn (rhas_2 c i (by simp [iN]; omega)) (by simp [hasZ, h1])

noncomputable def delZ (c : List Fr) (i : Int) : Fr × List Fr × Bool := if hasZ c i then (c.getD i.toNat fr0, c.take i.toNat ++ c.drop (i.toNat + 1), true) else (fr0, [], false)
def delA (y : Fr × List Fr × Bool) : AV := .tup [frA y.1, .lst (frL y.2.1), .bool y.2.2]

theorem hasZ_true {c : List Fr} {i : Int} (h : hasZ c i = true) : c.length ≤ 6 ∧ 0 ≤ i ∧ i < (c.length : Int) := by
  simpa [hasZ] using h

theorem frL_append (c d : List Fr) : frL (c ++ d) = frL c ++ frL d := by simp [frL]
theorem frL_take (c : List Fr) (n : Nat) : frL (c.take n) = (frL c).take n := by simp [frL]
theorem frL_drop (c : List Fr) (n : Nat) : frL (c.drop n) = (frL c).drop n := by simp [frL]

theorem wrap_s (i : Int) (h0 : 0 ≤ i) (h1 : i < 9223372036854775807) : IntKind.i64.wrap (i + 1) = i + 1 := by
  have := wrap_nat i.toNat (by omega)
  rw [show ((i.toNat : Nat) : Int) = i by omega] at this
  rw [this]; omega

theorem del_ct (c : List Fr) (i : Int) : CT Try.prog 12 [] [.lst (frL c), .int .i64 i] [] (delA (delZ c i)) := by
  have hb : Try.f12.body = some (bodyOf Try.f12) := by kernel_rfl
  have hn : [AV.lst (frL c), .int .i64 i].length ≤ Try.f12.ntmps := Nat.le_of_ble_eq_true rfl
  have hl := frL_len c
  unfold delZ
  by_cases h : hasZ c i = true
  · obtain ⟨g1, g2, g3⟩ := hasZ_true h
    have hw : IntKind.i64.wrap (i + 1) = i + 1 := wrap_s i g2 (by omega)
    have hx : c[i.toNat]? = some (c.getD i.toNat fr0) := by
      rw [List.getD_eq_getElem?_getD, List.getElem?_eq_getElem (by omega)]; rfl
    have hx := frL_get c _ _ hx
    have hwn : (i + 1).toNat = i.toNat + 1 := by omega
    have hm : min c.length i.toNat = i.toNat := by omega
    rw [if_pos h]
    refine CT.pathS mix Try.func12 hb hn (del_1 c i (c.getD i.toNat fr0) true (by have := has_ct c i; rwa [h] at this) rfl g2 (by simp [iN]; omega) (by simp [iN]; omega) (by simp [iN]; omega) (by simp) (frL_cells c) hx (by omega) (by simp [iN]; omega) (Int.le_refl _) ?_ (frL_cells' _ _ (frL_cells c) fun e he => List.mem_of_mem_drop (List.mem_of_mem_take he)) ?_ ?_ ?_) ?_
    all_goals simp only [hl, hw, hwn, hm, Nat.zero_add, List.length_replicate, List.nil_append, List.drop_replicate, Nat.sub_self, List.replicate_zero, List.append_nil, List.length_append, List.length_take, List.length_drop, hl]
    · omega
    · omega
    · omega
    · simp only [delA, frL_append, frL_take, frL_drop]
      rw [List.take_of_length_le (l := List.drop _ _) (by simp; omega)]
      rfl
  · rw [if_neg h]
    have h' : hasZ c i = false := by simpa using h
    exact CT.pathW mix Try.func12 hb hn (del_0 c i fr0 false (by have := has_ct c i; rwa [h'] at this) rfl) rfl

theorem rdel_ct (c : List Fr) (i : Int) : CT Try.prog 28 [] [.lst (frL c), .int .i64 i] [] (delA (delZ c i)) := by
  have hb : Try.f28.body = some (bodyOf Try.f28) := by kernel_rfl
  have hn : [AV.lst (frL c), .int .i64 i].length ≤ Try.f28.ntmps := Nat.le_of_ble_eq_true rfl
  have hl := frL_len c
  unfold delZ
  by_cases h : hasZ c i = true
  · obtain ⟨g1, g2, g3⟩ := hasZ_true h
    have hw : IntKind.i64.wrap (i + 1) = i + 1 := wrap_s i g2 (by omega)
    have hx : c[i.toNat]? = some (c.getD i.toNat fr0) := by
      rw [List.getD_eq_getElem?_getD, List.getElem?_eq_getElem (by omega)]; rfl
    have hx := frL_get c _ _ hx
    have hwn : (i + 1).toNat = i.toNat + 1 := by omega
    have h0 : Int.toNat 0 = 0 := rfl
    rw [if_pos h]
    refine CT.pathS mix Try.func28 hb hn (rdel_1 c i (c.getD i.toNat fr0) true (by have := rhas_ct c i; rwa [h] at this) rfl g2 hx (frL_cells c) (by simp [iN]; omega) (Int.le_refl _) (frL_cells' _ _ (frL_cells c) fun e he => List.mem_of_mem_drop (List.mem_of_mem_take he)) ?_ ?_ (by omega) (by simp [iN]; omega) (frL_cells' _ _ (frL_cells c) fun e he => List.mem_of_mem_drop (List.mem_of_mem_take he)) ?_ ?_ ?_) ?_
    all_goals simp only [hw, hwn, h0, List.drop_zero, Nat.sub_zero, Nat.zero_add, List.length_append, List.length_take, List.length_drop, hl]
    · omega
    · omega
    · omega
    · omega
    · simp only [delA, frL_append, frL_take, frL_drop]
      rw [List.take_of_length_le (l := List.drop _ _) (by simp; omega)]
      rfl
  · rw [if_neg h]
    have h' : hasZ c i = false := by simpa using h
    exact CT.pathW mix Try.func28 hb hn (rdel_0 c i fr0 false (by have := rhas_ct c i; rwa [h'] at this) rfl) rfl

noncomputable def sendZ (c : List Fr) (x : Fr) : List Fr := if 6 < c.length then [] else if c.length < 6 then c ++ [x] else c

theorem send_ct (c : List Fr) (x : Fr) : CT Try.prog 15 [] [.lst (frL c), frA x] [] (.lst (frL (sendZ c x))) := by
  have hb : Try.f15.body = some (bodyOf Try.f15) := by kernel_rfl
  have hn : [AV.lst (frL c), frA x].length ≤ Try.f15.ntmps := Nat.le_of_ble_eq_true rfl
  have hl := frL_len c
  unfold sendZ
  by_cases h : 6 < c.length
  · rw [if_pos h]
    exact CT.pathW mix Try.func15 hb hn (send_0 c x (by simp [iN]; omega)) rfl
  · rw [if_neg h]
    by_cases h2 : c.length < 6
    · rw [if_pos h2]
      refine CT.pathS mix Try.func15 hb hn (send_1 c x (by simp [iN]; omega) (by simp [iN]; omega) (by simp) (frL_cells c) (by simp [iN]; omega) ?_ (by simp) ?_ ?_ ?_) ?_
      all_goals simp [hl, frL_append, List.drop_replicate]
      all_goals first | omega | (rw [List.take_of_length_le (by omega)]; rfl)
    · rw [if_neg h2]
      refine CT.pathS mix Try.func15 hb hn (send_2 c x (by simp [iN]; omega) (by simp [iN]; omega) (by simp) (frL_cells c) (by simp [iN]; omega) ?_) ?_
      all_goals simp [hl, List.drop_replicate]
      all_goals first | omega | (rw [List.take_of_length_le (by omega)])

theorem rsend_ct (c : List Fr) (x : Fr) : CT Try.prog 29 [] [.lst (frL c), frA x] [] (.lst (frL (sendZ c x))) := by
  have hb : Try.f29.body = some (bodyOf Try.f29) := by kernel_rfl
  have hn : [AV.lst (frL c), frA x].length ≤ Try.f29.ntmps := Nat.le_of_ble_eq_true rfl
  have hl := frL_len c
  unfold sendZ
  by_cases h : 6 < c.length
  · rw [if_pos h]
    exact CT.pathW mix Try.func29 hb hn (rsend_0 c x (by simp [iN]; omega)) rfl
  · rw [if_neg h]
    by_cases h2 : c.length < 6
    · rw [if_pos h2]
      refine CT.pathS mix Try.func29 hb hn (rsend_1 c x (by simp [iN]; omega) (frL_cells c) (by omega) (by omega) (by simp [iN]; omega) (by simp) (by simp [hl]; omega) (by simp [hl]; omega) (by simp [hl])) ?_
      simp [frL_append]; rfl
    · rw [if_neg h2]
      exact CT.pathS mix Try.func29 hb hn (rsend_2 c x (by simp [iN]; omega) (frL_cells c) (by omega) (by omega) (by simp [iN]; omega)) rfl
end Go.Proofs.Ytliflcmdhenckaa

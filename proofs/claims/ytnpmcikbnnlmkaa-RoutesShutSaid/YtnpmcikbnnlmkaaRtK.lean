import Derived.Test.YtnpmcikbnnlmkaaRt3p
import Derived.KernelRfl
/-! Routes: known. -/
open Go Go.AX Go.Proofs
set_option maxRecDepth 100000
set_option maxHeartbeats 1000000
set_option linter.unusedVariables false
set_option linter.unusedSimpArgs false
namespace Go.Proofs.Ytnpmcikbnnlmkaa
theorem kg_ok : OkG kg ks := by
  refine ⟨by decide, fun v hv => ?_, rfl⟩
  have : v < 4 := hv
  match v, this with
  | 0, _ => exact ⟨by decide, by decide⟩
  | 1, _ => exact ⟨by decide, by decide⟩
  | 2, _ => exact ⟨by decide, by decide⟩
  | 3, _ => exact ⟨by decide, by decide⟩
theorem kg_asc : Asc kg := by
  intro v hv i h0 hi
  have : v < 4 := hv
  match v, this with
  | 0, _ => exact absurd hi (by show ¬ i < 1; omega)
  | 1, _ => exact absurd hi (by show ¬ i < 1; omega)
  | 2, _ => exact absurd hi (by show ¬ i < 1; omega)
  | 3, _ => exact absurd hi (by show ¬ i < 1; omega)
theorem kd0 : distL kg ks 0 4 = [0, 3, 2, 1] := by decide +kernel
theorem kh0 : hopsZ kg (distL kg ks 0 4) = [-1, 2, 3, 0] := by decide +kernel
theorem kt : tabZ kg ks 4 = [[-1, 2, 3, 0], [1, -1, 3, 0], [1, 2, -1, 0], [1, 2, 3, -1]] := by
  have h1 : hopsZ kg (distL kg ks 0 4) = [-1, 2, 3, 0] := by decide +kernel
  have h2 : hopsZ kg (distL kg ks 1 4) = [1, -1, 3, 0] := by decide +kernel
  have h3 : hopsZ kg (distL kg ks 2 4) = [1, 2, -1, 0] := by decide +kernel
  have h4 : hopsZ kg (distL kg ks 3 4) = [1, 2, 3, -1] := by decide +kernel
  show [hopsZ kg (distL kg ks 0 4), hopsZ kg (distL kg ks 1 4), hopsZ kg (distL kg ks 2 4), hopsZ kg (distL kg ks 3 4)] = _
  rw [h1, h2, h3, h4]
theorem kw : ∀ k, k < 4 → wkZ kg (distL kg ks 0 4) 1 k = [1, 2, 3, 0].getD k 0 := by
  have e1 : hopZ kg [0, 3, 2, 1] 1 = 2 := by decide +kernel
  have e2 : hopZ kg [0, 3, 2, 1] 2 = 3 := by decide +kernel
  have e3 : hopZ kg [0, 3, 2, 1] 3 = 0 := by decide +kernel
  have w0 : wkZ kg [0, 3, 2, 1] 1 0 = 1 := rfl
  have w1 : wkZ kg [0, 3, 2, 1] 1 1 = 2 := by show hopZ _ _ (wkZ kg [0, 3, 2, 1] 1 0).toNat = 2; rw [w0]; exact e1
  have w2 : wkZ kg [0, 3, 2, 1] 1 2 = 3 := by show hopZ _ _ (wkZ kg [0, 3, 2, 1] 1 1).toNat = 3; rw [w1]; exact e2
  have w3 : wkZ kg [0, 3, 2, 1] 1 3 = 0 := by show hopZ _ _ (wkZ kg [0, 3, 2, 1] 1 2).toNat = 0; rw [w2]; exact e3
  rw [kd0]
  intro k hk
  match k, hk with
  | 0, _ => exact w0
  | 1, _ => exact w1
  | 2, _ => exact w2
  | 3, _ => exact w3

theorem known_ct : CT Try.prog 8 [] [] [] (.bool true) := by
  have hb : Try.f8.body = some (bodyOf Try.f8) := by kernel_rfl
  have a1 := Distances_ct kg_ok kg_asc 0 (by decide)
  have a2 := Hops_ct kg_ok kg_asc 0 (by decide)
  have a3 := path_ct kg_ok kg_asc 1 0 3 (by decide) (by decide) (by rw [show kg.length = 4 from rfl, kd0]; rfl) (by omega) (fun k hk => by
    rw [show kg.length = 4 from rfl, kw k (by omega)]
    match k, hk with
    | 0, _ => exact ⟨by decide, by decide⟩
    | 1, _ => exact ⟨by decide, by decide⟩
    | 2, _ => exact ⟨by decide, by decide⟩)
  have a4 := table_ct kg_ok kg_asc (by decide)
  rw [show kg.length = 4 from rfl] at a1 a2 a3 a4
  rw [kh0] at a2
  rw [kd0] at a1
  rw [kt] at a4
  have ew : wkL kg (distL kg ks 0 4) 1 3 = [1, 2, 3, 0] := by
    show [wkZ kg (distL kg ks 0 4) 1 0, wkZ kg (distL kg ks 0 4) 1 1, wkZ kg (distL kg ks 0 4) 1 2, wkZ kg (distL kg ks 0 4) 1 3] = _
    rw [kw 0 (by omega), kw 1 (by omega), kw 2 (by omega), kw 3 (by omega)]; rfl
  rw [ew] at a3
  refine CT.of Try.func8 hb (Nat.zero_le _) (T.cut (by kernel_rfl) (T.path mix (k0_0 () fun st hst => T.ren hst ?_)))
  refine T.cut (by kernel_rfl) (T.path mix (k1_0 () fun st hst => T.ren hst ?_))
  rw [sR_succ 1 (bodyOf Try.f8) (by kernel_rfl)]
  refine T.ren ?_ (T.path mix (k2_0 () a1 a2 a3 a4 (sameInts_ct [0, 3, 2, 1] (by decide)) (sameInts_ct [-1, 2, 3, 0] (by decide)) (sameInts_ct [1, 2, 3, 0] (by decide))))
  exact okRen_spec (σ := []) (fz := [0]) (vars := [0, 1, 2]) (p := (True ∧ ((4 = [1, 2, 3, 4].length) ∧ (True ∧ True)))) rfl (by kernel_rfl) ⟨trivial, rfl, trivial, trivial⟩
#print axioms known_ct
end Go.Proofs.Ytnpmcikbnnlmkaa

import Derived.Test.YtoofpaocoogbjaaPl3p
import Derived.KernelRfl
/-! Plant: Put and made bodies. -/
open Go Go.AX Go.Proofs
set_option maxRecDepth 100000
set_option maxHeartbeats 1000000
set_option linter.unusedVariables false
set_option linter.unusedSimpArgs false
namespace Go.Proofs.Ytoofpaocoogbjaa
theorem bdL_cells (c : List Bd) : ∀ e ∈ bdL c, e.cells.length = 4 := by
  intro e he
  obtain ⟨x, _, rfl⟩ := List.mem_map.1 he
  rfl
theorem clone_ct (b : List Bd) (h : b ≠ []) (hb : b.length ≤ 100000) : CT Try.prog 104 [] [.lst (bdL b)] [some { es := bdL b, z := 4 }] (.sl 0 0 b.length) := by
  have hl := bdL_len b
  refine CT.pathS mix Try.func104 (show Try.f104.body = some (bodyOf Try.f104) by kernel_rfl) (Nat.le_of_ble_eq_true rfl) (cln_0 ⟨b, 0, 0, bd0, bd0, false, [], 0⟩ (fun e => ?_) (bdL_cells b) (by simp only; omega) (by simp only; omega)) (by simp only [hl, Nat.zero_add])
  · cases b with
    | nil => exact h rfl
    | cons x b => simp [bdL] at e
theorem resting_ct (v : Int) : CT Try.prog 67 [] [.int .i64 v] [] (bdA ⟨v, -1, false, false⟩) :=
  CT.path mix Try.func67 (show Try.f67.body = some (bodyOf Try.f67) by kernel_rfl) (Nat.le_of_ble_eq_true rfl) (rest_0 ⟨[], 0, v, bd0, bd0, false, [], 0⟩)
def wthZ (v : Int) : Bool := decide (0 ≤ v) && decide (v < 48)
theorem within_ct (v : Int) : CT Try.prog 63 [] [.int .i64 v] [] (.bool (wthZ v)) := by
  by_cases h : 0 ≤ v
  · exact CT.pathS mix Try.func63 (show Try.f63.body = some (bodyOf Try.f63) by kernel_rfl) (Nat.le_of_ble_eq_true rfl) (wthn_0 ⟨[], 0, v, bd0, bd0, false, [], 0⟩ (by simpa using h)) (by simp [wthZ, h])
  · exact CT.pathS mix Try.func63 (show Try.f63.body = some (bodyOf Try.f63) by kernel_rfl) (Nat.le_of_ble_eq_true rfl) (wthn_1 ⟨[], 0, v, bd0, bd0, false, [], 0⟩ (by simpa using h)) (by simp [wthZ, h])
theorem put1_ct (x : Bd) : CT Try.prog 65 [] [bdA x] [] (.bool (!onF x)) :=
  CT.path mix Try.func65 (show Try.f65.body = some (bodyOf Try.f65) by kernel_rfl) (Nat.le_of_ble_eq_true rfl) (put1_0 ⟨[], 0, 0, x, bd0, onF x, [], 0⟩ (onF_ct x))
theorem put2_ct (x : Bd) (v : Int) : CT Try.prog 66 [some { es := [.int .i64 v], z := 1 }] [bdA x, .ptr 0 0 0] [some { es := [.int .i64 v], z := 1 }] (bdA ⟨v, -1, false, false⟩) :=
  CT.path mix Try.func66 (show Try.f66.body = some (bodyOf Try.f66) by kernel_rfl) (Nat.le_of_ble_eq_true rfl) (put2_0 ⟨[], 0, v, x, bd0, false, [], 0⟩ (resting_ct v))

/-- A robot that isn't on the floor is put there. -/
theorem putOk_ct (b : List Bd) (r : Nat) (v : Int) (hr : r < b.length) (hb : b.length ≤ 100000) (hv : wthZ v = true) (ho : onF (b.getD r bd0) = false) :
    CT Try.prog 23 [] [.lst (bdL b), .int .i64 (r : Nat), .int .i64 v] [some { es := bdL (b.set r ⟨v, -1, false, false⟩), z := 4 }] (.tup [.sl 0 0 b.length, .int .i64 0]) := by
  have hl := bdL_len b
  have hw := within_ct v
  rw [hv] at hw
  have h1 := put1_ct (b.getD r bd0)
  rw [ho] at h1
  have hs : bdL (b.set r ⟨v, -1, false, false⟩) = (bdL b).set r (bdA ⟨v, -1, false, false⟩) := by unfold bdL; rw [List.map_set]
  have hc : CT Try.prog 64 [some { es := [.int .i64 v], z := 1 }] [.lst (bdL b), .int .i64 (r : Nat), .fn 65 [], .fn 66 [.ptr 0 0 0]] [some { es := [.int .i64 v], z := 1 }, some { es := bdL (b.set r ⟨v, -1, false, false⟩), z := 4 }] (.tup [.sl 1 0 (b.set r ⟨v, -1, false, false⟩).length, .int .i64 0]) := by
    rw [hs, List.length_set]
    have k := chg_0 ⟨b, (r : Nat), v, b.getD r bd0, ⟨v, -1, false, false⟩, true, b, 0⟩ (by simp) (by simp only [iN, hl]; simp; omega) (by simp) (bdL_get hr) h1 rfl (clone_ct b (by intro e; subst e; simp at hr) hb) (put2_ct _ v) (by simp [iN]; omega) (by simp [hl]; omega)
    simp only [Int.toNat_natCast, Nat.zero_add] at k
    exact CT.path mix Try.func64 (show Try.f64.body = some (bodyOf Try.f64) by kernel_rfl) (Nat.le_of_ble_eq_true rfl) k
  have k := put_0 ⟨b, (r : Nat), v, bd0, bd0, true, b.set r ⟨v, -1, false, false⟩, 0⟩ hw rfl hc
  simp only [List.length_set] at k
  exact CT.path mix Try.func23 (show Try.f23.body = some (bodyOf Try.f23) by kernel_rfl) (Nat.le_of_ble_eq_true rfl) k

theorem body_ex (L : List Int) (k : Nat) (n : Int) (hk : k < 4611686018427387904) : ∃ y : Bd × Nat, y.2 ≤ k + 5 ∧ CT Try.prog 15 [some (tapeB L k)] [.ptr 0 0 0, .int .i64 n] [some (tapeB L y.2)] (bdA y.1) := by
  have hb : Try.f15.body = some (bodyOf Try.f15) := by kernel_rfl
  have hn : [AV.ptr 0 0 0, .int .i64 n].length ≤ Try.f15.ntmps := Nat.le_of_ble_eq_true rfl
  have n0 := next_ct L k (IntKind.i64.wrap (n + 1)) (by omega)
  have n1 := next_ct L (k + 1) 4 (by omega)
  have n2 := next_ct L (k + 1 + 1) 5 (by omega)
  have n3 := next_ct L (k + 1 + 1 + 1) 3 (by omega)
  have n4 := next_ct L (k + 1 + 1 + 1 + 1) n (by omega)
  by_cases h : nextZ L (k + 1 + 1 + 1) 3 = 0
  · exact ⟨(⟨_, _, _, _⟩, _), Nat.le_of_ble_eq_true (by simp), CT.path mix Try.func15 hb hn (bdy_0 L k n _ _ _ _ _ n0 n1 n2 n3 (by simpa using h) n4)⟩
  · exact ⟨(⟨_, _, _, _⟩, _), Nat.le_of_ble_eq_true (by simp), CT.path mix Try.func15 hb hn (bdy_1 L k n _ _ _ _ 0 n0 n1 n2 n3 (by simpa using h))⟩
noncomputable def bodyX (L : List Int) (k : Nat) (n : Int) : Bd × Nat := if h : k < 4611686018427387904 then Classical.choose (body_ex L k n h) else (bd0, k)
theorem bodyX_ct (L : List Int) (k : Nat) (n : Int) (h : k < 4611686018427387904) : (bodyX L k n).2 ≤ k + 5 ∧ CT Try.prog 15 [some (tapeB L k)] [.ptr 0 0 0, .int .i64 n] [some (tapeB L (bodyX L k n).2)] (bdA (bodyX L k n).1) := by
  unfold bodyX
  rw [dif_pos h]
  exact Classical.choose_spec (body_ex L k n h)
theorem clsA_ex (o : Option (Nat × Nat)) : ∃ (a b : Int) (k : Bool), clsA o = .tup [.int .i64 a, .int .i64 b, .bool k] := by
  cases o with
  | none => exact ⟨_, _, _, rfl⟩
  | some x => exact ⟨_, _, _, rfl⟩
theorem cutZ_rng (v n : Int) (h1 : 1 ≤ n) (h2 : n ≤ 4611686018427387904) : 0 ≤ cutZ v n ∧ cutZ v n < n := by
  unfold cutZ
  split
  · omega
  · have ha := Int.tmod_lt_of_pos v (show 0 < n by omega)
    have hb := Int.lt_tmod_of_pos v (show 0 < n by omega)
    split
    · rw [wrapJ _ (by omega) (by omega)]; omega
    · omega
theorem nextZ_rng (L : List Int) (k : Nat) (n : Int) (h1 : 1 ≤ n) (h2 : n ≤ 4611686018427387904) : 0 ≤ nextZ L k n ∧ nextZ L k n < n := cutZ_rng _ n h1 h2
#print axioms bodyX_ct
end Go.Proofs.Ytoofpaocoogbjaa

import Derived.Test.YtnpmcikbnnlmkaaAxNe
import Derived.Test.YtnpmcikbnnlmkaaProg
import Derived.KernelRfl
/-! The paths of a function, by evaluation. -/
open Go Go.AX Go.Proofs
set_option maxRecDepth 100000
set_option maxHeartbeats 4000000
set_option linter.unusedVariables false
namespace Go.Proofs.Ytnpmcikbnnlmkaa
noncomputable def stCut (v n : Int) : St := { n := Try.f26.ntmps, fr := enumF 0 [.int .i64 v, .int .i64 n], hp := [] }
noncomputable def noC2 (v n : Int) : Nat → FuncId → List AV → List (Option Blk) → Hint := fun _ _ _ _ => .no
noncomputable def noE2 (v n : Int) : List (Nat × AV) := []
theorem cut_0 (v : Int) (n : Int) (h1 : (decide (n ≤ 1) = true)) : ∃ o' st' q', go Try.prog ({ dec := [(6, true)], els := noE2 v n, calls := noC2 v n, unroll := false } : HT) 0 4000 (.inl (bodyOf Try.f26)) [] (stCut v n) = some (o', st', q') ∧ q' ∧ Go.AX.Rest Try.prog 0 (Fin Try.prog Try.f26 0 [] (AV.int IntKind.i64 0)) st' o' :=
  endF_spec (σ := []) (fz := []) (show endF Try.prog Try.f26 0 [] [] (go Try.prog ({ dec := [(6, true)], els := noE2 v n, calls := noC2 v n, unroll := false } : HT) 0 4000 (.inl (bodyOf Try.f26)) [] (stCut v n)) = some ([], AV.int IntKind.i64 0, (((True ∧ True) ∧ (((True ∧ True) ∧ ((True ∧ True) ∧ True)) ∧ ((type_of% h1) ∧ ((True ∧ True) ∧ True)))) ∧ (True ∧ True))) by kernel_rfl) ⟨⟨⟨trivial, trivial⟩, ⟨⟨⟨trivial, trivial⟩, ⟨⟨trivial, trivial⟩, trivial⟩⟩, ⟨h1, ⟨⟨trivial, trivial⟩, trivial⟩⟩⟩⟩, ⟨trivial, trivial⟩⟩
theorem cut_1 (v : Int) (n : Int) (h1 : (decide (n ≤ 1) = false)) (h2 : (n = 0 → False)) (h3 : (decide (v.tmod n < 0) = true)) : ∃ o' st' q', go Try.prog ({ dec := [(6, false), (11, true)], els := noE2 v n, calls := noC2 v n, unroll := false } : HT) 0 4000 (.inl (bodyOf Try.f26)) [] (stCut v n) = some (o', st', q') ∧ q' ∧ Go.AX.Rest Try.prog 0 (Fin Try.prog Try.f26 0 [] (AV.int IntKind.i64 (IntKind.i64.wrap (v.tmod n + n)))) st' o' :=
  endF_spec (σ := []) (fz := []) (show endF Try.prog Try.f26 0 [] [] (go Try.prog ({ dec := [(6, false), (11, true)], els := noE2 v n, calls := noC2 v n, unroll := false } : HT) 0 4000 (.inl (bodyOf Try.f26)) [] (stCut v n)) = some ([], AV.int IntKind.i64 (IntKind.i64.wrap (v.tmod n + n)), (((True ∧ True) ∧ (((True ∧ True) ∧ ((True ∧ True) ∧ True)) ∧ ((type_of% h1) ∧ (((True ∧ True) ∧ ((True ∧ True) ∧ ((True ∧ (True ∧ (type_of% h2))) ∧ ((True ∧ True) ∧ True)))) ∧ (((True ∧ True) ∧ ((True ∧ True) ∧ True)) ∧ ((type_of% h3) ∧ (((True ∧ True) ∧ ((True ∧ True) ∧ ((True ∧ (True ∧ True)) ∧ ((True ∧ True) ∧ True)))) ∧ (((True ∧ True) ∧ ((True ∧ True) ∧ True)) ∧ True)))))))) ∧ (True ∧ True))) by kernel_rfl) ⟨⟨⟨trivial, trivial⟩, ⟨⟨⟨trivial, trivial⟩, ⟨⟨trivial, trivial⟩, trivial⟩⟩, ⟨h1, ⟨⟨⟨trivial, trivial⟩, ⟨⟨trivial, trivial⟩, ⟨⟨trivial, ⟨trivial, h2⟩⟩, ⟨⟨trivial, trivial⟩, trivial⟩⟩⟩⟩, ⟨⟨⟨trivial, trivial⟩, ⟨⟨trivial, trivial⟩, trivial⟩⟩, ⟨h3, ⟨⟨⟨trivial, trivial⟩, ⟨⟨trivial, trivial⟩, ⟨⟨trivial, ⟨trivial, trivial⟩⟩, ⟨⟨trivial, trivial⟩, trivial⟩⟩⟩⟩, ⟨⟨⟨trivial, trivial⟩, ⟨⟨trivial, trivial⟩, trivial⟩⟩, trivial⟩⟩⟩⟩⟩⟩⟩⟩, ⟨trivial, trivial⟩⟩
theorem cut_2 (v : Int) (n : Int) (h1 : (decide (n ≤ 1) = false)) (h2 : (n = 0 → False)) (h3 : (decide (v.tmod n < 0) = false)) : ∃ o' st' q', go Try.prog ({ dec := [(6, false), (11, false)], els := noE2 v n, calls := noC2 v n, unroll := false } : HT) 0 4000 (.inl (bodyOf Try.f26)) [] (stCut v n) = some (o', st', q') ∧ q' ∧ Go.AX.Rest Try.prog 0 (Fin Try.prog Try.f26 0 [] (AV.int IntKind.i64 (v.tmod n))) st' o' :=
  endF_spec (σ := []) (fz := []) (show endF Try.prog Try.f26 0 [] [] (go Try.prog ({ dec := [(6, false), (11, false)], els := noE2 v n, calls := noC2 v n, unroll := false } : HT) 0 4000 (.inl (bodyOf Try.f26)) [] (stCut v n)) = some ([], AV.int IntKind.i64 (v.tmod n), (((True ∧ True) ∧ (((True ∧ True) ∧ ((True ∧ True) ∧ True)) ∧ ((type_of% h1) ∧ (((True ∧ True) ∧ ((True ∧ True) ∧ ((True ∧ (True ∧ (type_of% h2))) ∧ ((True ∧ True) ∧ True)))) ∧ (((True ∧ True) ∧ ((True ∧ True) ∧ True)) ∧ ((type_of% h3) ∧ (((True ∧ True) ∧ ((True ∧ True) ∧ True)) ∧ True))))))) ∧ (True ∧ True))) by kernel_rfl) ⟨⟨⟨trivial, trivial⟩, ⟨⟨⟨trivial, trivial⟩, ⟨⟨trivial, trivial⟩, trivial⟩⟩, ⟨h1, ⟨⟨⟨trivial, trivial⟩, ⟨⟨trivial, trivial⟩, ⟨⟨trivial, ⟨trivial, h2⟩⟩, ⟨⟨trivial, trivial⟩, trivial⟩⟩⟩⟩, ⟨⟨⟨trivial, trivial⟩, ⟨⟨trivial, trivial⟩, trivial⟩⟩, ⟨h3, ⟨⟨⟨trivial, trivial⟩, ⟨⟨trivial, trivial⟩, trivial⟩⟩, trivial⟩⟩⟩⟩⟩⟩⟩, ⟨trivial, trivial⟩⟩
noncomputable def cutZ (v n : Int) : Int := if n ≤ 1 then 0 else if v.tmod n < 0 then IntKind.i64.wrap (v.tmod n + n) else v.tmod n

theorem mix : Try.prog.follows .mixedOrders = true := by kernel_rfl

theorem cut_ct (v n : Int) : CT Try.prog 26 [] [.int .i64 v, .int .i64 n] [] (.int .i64 (cutZ v n)) := by
  have hb : Try.f26.body = some (bodyOf Try.f26) := by kernel_rfl
  have hn : [AV.int .i64 v, .int .i64 n].length ≤ Try.f26.ntmps := Nat.le_of_ble_eq_true rfl
  unfold cutZ
  by_cases h1 : n ≤ 1
  · rw [if_pos h1]
    exact CT.path mix Try.func26 hb hn (cut_0 v n (by simpa using h1))
  · rw [if_neg h1]
    by_cases h2 : v.tmod n < 0
    · rw [if_pos h2]
      exact CT.path mix Try.func26 hb hn (cut_1 v n (by simpa using h1) (by omega) (by simpa using h2))
    · rw [if_neg h2]
      exact CT.path mix Try.func26 hb hn (cut_2 v n (by simpa using h1) (by omega) (by simpa using h2))
#print axioms cut_ct
end Go.Proofs.Ytnpmcikbnnlmkaa

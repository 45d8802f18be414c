import Derived.Test.YtnpmcikbnnlmkaaAxNe
import Derived.Test.YtnpmcikbnnlmkaaProg
import Derived.KernelRfl
import Derived.Test.YtnpmcikbnnlmkaaCutCp
/-! The paths of a function, by evaluation. -/
open Go Go.AX Go.Proofs
set_option maxRecDepth 100000
set_option maxHeartbeats 4000000
set_option linter.unusedVariables false
namespace Go.Proofs.Ytnpmcikbnnlmkaa
def lstI (l : List Int) : AV := .lst (l.map (AV.int .i64))
def tapeB (L : List Int) (k : Nat) : Blk := { es := [.agg [lstI L, .int .i64 (k : Int)]], z := 2, flat := true, wr := true }
def stNext (L : List Int) (k : Nat) (n : Int) : St := { n := 42, fr := enumF 0 [.ptr 0 0 0, .int .i64 n], hp := [some (tapeB L k)] }
noncomputable def cutHint (f : FuncId) (args : List AV) : Hint := match f, args with
  | 26, [.int _ v, .int _ n] => .call [] [] [] (.int .i64 (cutZ v n))
  | _, _ => .no
noncomputable def cNext (L : List Int) (k : Nat) (n : Int) : Nat → FuncId → List AV → List (Option Blk) → Hint := fun _ f args _ => cutHint f args
def eNext (L : List Int) (k : Nat) (n : Int) : List (Nat × AV) := [(30, .int .i64 (L.getD k 0))]
theorem next_0 (L : List Int) (k : Nat) (n : Int) (h1 : (decide (iN k < iN (List.map (AV.int IntKind.i64) L).length) = true)) (h2 : ((List.map (AV.int IntKind.i64) L)[k]? = some (AV.int IntKind.i64 (L.getD k 0)))) (h3 : (CT Try.prog 26 [] [AV.int IntKind.i64 (L.getD k 0), AV.int IntKind.i64 n] [] (AV.int IntKind.i64 (cutZ (L.getD k 0) n)))) : ∃ o' st' q', go Try.prog ({ dec := [(21, true)], els := eNext L k n, calls := cNext L k n, unroll := false } : HT) 1 4000 (.inl (bodyOf Try.f11)) [] (stNext L k n) = some (o', st', q') ∧ q' ∧ Go.AX.Rest Try.prog 1 (Fin Try.prog Try.f11 1 [some (Blk.mk [AV.agg [AV.lst (List.map (AV.int IntKind.i64) L), AV.int IntKind.i64 (IntKind.i64.wrap (iN k + 1))]] 2 true true)] (AV.int IntKind.i64 (cutZ (L.getD k 0) n))) st' o' :=
  endF_spec (σ := [0]) (fz := []) (show endF Try.prog Try.f11 1 [0] [] (go Try.prog ({ dec := [(21, true)], els := eNext L k n, calls := cNext L k n, unroll := false } : HT) 1 4000 (.inl (bodyOf Try.f11)) [] (stNext L k n)) = some ([some (Blk.mk [AV.agg [AV.lst (List.map (AV.int IntKind.i64) L), AV.int IntKind.i64 (IntKind.i64.wrap (iN k + 1))]] 2 true true)], AV.int IntKind.i64 (cutZ (L.getD k 0) n), (((True ∧ True) ∧ (((True ∧ True) ∧ ((True ∧ True) ∧ ((True ∧ True) ∧ ((True ∧ True) ∧ ((True ∧ True) ∧ ((True ∧ ((11 : Int) = (0 : Int) → False)) ∧ ((True ∧ True) ∧ True))))))) ∧ (((True ∧ True) ∧ ((True ∧ True) ∧ ((True ∧ True) ∧ ((True ∧ True) ∧ ((True ∧ True) ∧ ((True ∧ True) ∧ ((True ∧ True) ∧ ((True ∧ True) ∧ ((True ∧ True) ∧ ((True ∧ (True ∧ True)) ∧ True)))))))))) ∧ ((type_of% h1) ∧ (((True ∧ True) ∧ ((True ∧ True) ∧ ((True ∧ True) ∧ ((True ∧ True) ∧ ((True ∧ True) ∧ ((True ∧ True) ∧ ((True ∧ True) ∧ ((True ∧ True) ∧ ((True ∧ (True ∧ ((0 ≤ iN k) ∧ (type_of% h2)))) ∧ ((True ∧ True) ∧ ((True ∧ True) ∧ True))))))))))) ∧ (((True ∧ True) ∧ ((True ∧ True) ∧ ((True ∧ True) ∧ ((True ∧ True) ∧ ((True ∧ True) ∧ ((True ∧ True) ∧ ((True ∧ True) ∧ ((True ∧ (True ∧ True)) ∧ True)))))))) ∧ (((True ∧ True) ∧ ((True ∧ True) ∧ ((True ∧ (True ∧ (True ∧ (True ∧ ((type_of% h3) ∧ True))))) ∧ ((True ∧ True) ∧ True)))) ∧ True))))))) ∧ (True ∧ (True ∧ True)))) by kernel_rfl) ⟨⟨⟨trivial, trivial⟩, ⟨⟨⟨trivial, trivial⟩, ⟨⟨trivial, trivial⟩, ⟨⟨trivial, trivial⟩, ⟨⟨trivial, trivial⟩, ⟨⟨trivial, trivial⟩, ⟨⟨trivial, (by first | decide | exact Int.NonNeg.mk _)⟩, ⟨⟨trivial, trivial⟩, trivial⟩⟩⟩⟩⟩⟩⟩, ⟨⟨⟨trivial, trivial⟩, ⟨⟨trivial, trivial⟩, ⟨⟨trivial, trivial⟩, ⟨⟨trivial, trivial⟩, ⟨⟨trivial, trivial⟩, ⟨⟨trivial, trivial⟩, ⟨⟨trivial, trivial⟩, ⟨⟨trivial, trivial⟩, ⟨⟨trivial, trivial⟩, ⟨⟨trivial, ⟨trivial, trivial⟩⟩, trivial⟩⟩⟩⟩⟩⟩⟩⟩⟩⟩, ⟨h1, ⟨⟨⟨trivial, trivial⟩, ⟨⟨trivial, trivial⟩, ⟨⟨trivial, trivial⟩, ⟨⟨trivial, trivial⟩, ⟨⟨trivial, trivial⟩, ⟨⟨trivial, trivial⟩, ⟨⟨trivial, trivial⟩, ⟨⟨trivial, trivial⟩, ⟨⟨trivial, ⟨trivial, ⟨(Int.natCast_nonneg _), h2⟩⟩⟩, ⟨⟨trivial, trivial⟩, ⟨⟨trivial, trivial⟩, trivial⟩⟩⟩⟩⟩⟩⟩⟩⟩⟩⟩, ⟨⟨⟨trivial, trivial⟩, ⟨⟨trivial, trivial⟩, ⟨⟨trivial, trivial⟩, ⟨⟨trivial, trivial⟩, ⟨⟨trivial, trivial⟩, ⟨⟨trivial, trivial⟩, ⟨⟨trivial, trivial⟩, ⟨⟨trivial, ⟨trivial, trivial⟩⟩, trivial⟩⟩⟩⟩⟩⟩⟩⟩, ⟨⟨⟨trivial, trivial⟩, ⟨⟨trivial, trivial⟩, ⟨⟨trivial, ⟨trivial, ⟨trivial, ⟨trivial, ⟨h3, trivial⟩⟩⟩⟩⟩, ⟨⟨trivial, trivial⟩, trivial⟩⟩⟩⟩, trivial⟩⟩⟩⟩⟩⟩⟩, ⟨trivial, ⟨trivial, trivial⟩⟩⟩
theorem next_1 (L : List Int) (k : Nat) (n : Int) (h1 : (decide (iN k < iN (List.map (AV.int IntKind.i64) L).length) = false)) (h2 : (CT Try.prog 26 [] [AV.int IntKind.i64 ((IntKind.i64.wrap (iN k * 7)).tmod 11), AV.int IntKind.i64 n] [] (AV.int IntKind.i64 (cutZ ((IntKind.i64.wrap (iN k * 7)).tmod 11) n)))) : ∃ o' st' q', go Try.prog ({ dec := [(21, false)], els := eNext L k n, calls := cNext L k n, unroll := false } : HT) 1 4000 (.inl (bodyOf Try.f11)) [] (stNext L k n) = some (o', st', q') ∧ q' ∧ Go.AX.Rest Try.prog 1 (Fin Try.prog Try.f11 1 [some (Blk.mk [AV.agg [AV.lst (List.map (AV.int IntKind.i64) L), AV.int IntKind.i64 (IntKind.i64.wrap (iN k + 1))]] 2 true true)] (AV.int IntKind.i64 (cutZ ((IntKind.i64.wrap (iN k * 7)).tmod 11) n))) st' o' :=
  endF_spec (σ := [0]) (fz := []) (show endF Try.prog Try.f11 1 [0] [] (go Try.prog ({ dec := [(21, false)], els := eNext L k n, calls := cNext L k n, unroll := false } : HT) 1 4000 (.inl (bodyOf Try.f11)) [] (stNext L k n)) = some ([some (Blk.mk [AV.agg [AV.lst (List.map (AV.int IntKind.i64) L), AV.int IntKind.i64 (IntKind.i64.wrap (iN k + 1))]] 2 true true)], AV.int IntKind.i64 (cutZ ((IntKind.i64.wrap (iN k * 7)).tmod 11) n), (((True ∧ True) ∧ (((True ∧ True) ∧ ((True ∧ True) ∧ ((True ∧ True) ∧ ((True ∧ True) ∧ ((True ∧ True) ∧ ((True ∧ ((11 : Int) = (0 : Int) → False)) ∧ ((True ∧ True) ∧ True))))))) ∧ (((True ∧ True) ∧ ((True ∧ True) ∧ ((True ∧ True) ∧ ((True ∧ True) ∧ ((True ∧ True) ∧ ((True ∧ True) ∧ ((True ∧ True) ∧ ((True ∧ True) ∧ ((True ∧ True) ∧ ((True ∧ (True ∧ True)) ∧ True)))))))))) ∧ ((type_of% h1) ∧ (((True ∧ True) ∧ ((True ∧ True) ∧ ((True ∧ True) ∧ ((True ∧ True) ∧ ((True ∧ True) ∧ ((True ∧ True) ∧ ((True ∧ True) ∧ ((True ∧ (True ∧ True)) ∧ True)))))))) ∧ (((True ∧ True) ∧ ((True ∧ True) ∧ ((True ∧ (True ∧ (True ∧ (True ∧ ((type_of% h2) ∧ True))))) ∧ ((True ∧ True) ∧ True)))) ∧ True)))))) ∧ (True ∧ (True ∧ True)))) by kernel_rfl) ⟨⟨⟨trivial, trivial⟩, ⟨⟨⟨trivial, trivial⟩, ⟨⟨trivial, trivial⟩, ⟨⟨trivial, trivial⟩, ⟨⟨trivial, trivial⟩, ⟨⟨trivial, trivial⟩, ⟨⟨trivial, (by first | decide | exact Int.NonNeg.mk _)⟩, ⟨⟨trivial, trivial⟩, trivial⟩⟩⟩⟩⟩⟩⟩, ⟨⟨⟨trivial, trivial⟩, ⟨⟨trivial, trivial⟩, ⟨⟨trivial, trivial⟩, ⟨⟨trivial, trivial⟩, ⟨⟨trivial, trivial⟩, ⟨⟨trivial, trivial⟩, ⟨⟨trivial, trivial⟩, ⟨⟨trivial, trivial⟩, ⟨⟨trivial, trivial⟩, ⟨⟨trivial, ⟨trivial, trivial⟩⟩, trivial⟩⟩⟩⟩⟩⟩⟩⟩⟩⟩, ⟨h1, ⟨⟨⟨trivial, trivial⟩, ⟨⟨trivial, trivial⟩, ⟨⟨trivial, trivial⟩, ⟨⟨trivial, trivial⟩, ⟨⟨trivial, trivial⟩, ⟨⟨trivial, trivial⟩, ⟨⟨trivial, trivial⟩, ⟨⟨trivial, ⟨trivial, trivial⟩⟩, trivial⟩⟩⟩⟩⟩⟩⟩⟩, ⟨⟨⟨trivial, trivial⟩, ⟨⟨trivial, trivial⟩, ⟨⟨trivial, ⟨trivial, ⟨trivial, ⟨trivial, ⟨h2, trivial⟩⟩⟩⟩⟩, ⟨⟨trivial, trivial⟩, trivial⟩⟩⟩⟩, trivial⟩⟩⟩⟩⟩⟩, ⟨trivial, ⟨trivial, trivial⟩⟩⟩
noncomputable def rawZ (L : List Int) (k : Nat) : Int := if k < L.length then L.getD k 0 else (IntKind.i64.wrap ((k : Int) * 7)).tmod 11
noncomputable def nextZ (L : List Int) (k : Nat) (n : Int) : Int := cutZ (rawZ L k) n

theorem wrap_nat (k : Nat) (h : k < 9223372036854775807) : IntKind.i64.wrap ((k : Int) + 1) = ((k + 1 : Nat) : Int) := by
  have : IntKind.i64.wrap ((k : Int) + 1) = (k : Int) + 1 := by
    have e1 : (2 : Int) ^ IntKind.i64.bits = 18446744073709551616 := by decide
    have e2 : (2 : Int) ^ (IntKind.i64.bits - 1) = 9223372036854775808 := by decide
    have e3 : IntKind.i64.signed = true := by decide
    simp only [IntKind.wrap, e1, e2, e3, Bool.true_and, decide_eq_true_eq]
    split <;> omega
  rw [this]; rfl

theorem next_ct (L : List Int) (k : Nat) (n : Int) (hk : k < 9223372036854775807) : CT Try.prog 11 [some (tapeB L k)] [.ptr 0 0 0, .int .i64 n] [some (tapeB L (k + 1))] (.int .i64 (nextZ L k n)) := by
  have hb : Try.f11.body = some (bodyOf Try.f11) := by kernel_rfl
  have hn : [AV.ptr 0 0 0, .int .i64 n].length ≤ Try.f11.ntmps := Nat.le_of_ble_eq_true rfl
  unfold nextZ rawZ
  by_cases h : k < L.length
  · rw [if_pos h]
    have := next_0 L k n (by simpa [iN] using h) (by simp [iN, h]) (cut_ct _ _)
    simp only [iN, wrap_nat k hk] at this
    exact CT.path mix Try.func11 hb hn this
  · rw [if_neg h]
    have := next_1 L k n (by simpa [iN] using h) (cut_ct _ _)
    simp only [iN, wrap_nat k hk] at this
    exact CT.path mix Try.func11 hb hn this
#print axioms next_ct
end Go.Proofs.Ytnpmcikbnnlmkaa

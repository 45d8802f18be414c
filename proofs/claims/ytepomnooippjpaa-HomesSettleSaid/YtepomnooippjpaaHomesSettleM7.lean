/- Parts of the proof: Rpp, HoH, Ho8m, HoI, HoK, HoL, Ho9m, HoJ, HoM, Ho11m, St7m, StG, St8m, StH, StR, HoN. -/
import Derived.Test.YtepomnooippjpaaProg
import Derived.KernelRfl
import Derived.Test.YtepomnooippjpaaHomesSettleM6
open Go Go.AX Go.Proofs
set_option maxRecDepth 100000
set_option maxHeartbeats 4000000
set_option linter.unusedVariables false
namespace Go.Proofs.Ytepomnooippjpaa
noncomputable def cRp : Nat → FuncId → List AV → List (Option Blk) → Hint := fun dst f args hp => match f, args with
  | 141, [_, .int _ c] => .call [] [] [] (.tup [.int .u64 0, .int .u64 c])
  | _, _ => .no
def eRp : List (Nat × AV) := []
noncomputable def rpS0 : St := { n := Try.f113.ntmps, fr := [(0, lI [-1]), (1, .int .i64 0)], hp := [] }
noncomputable def rpS1 : St := { n := Try.f113.ntmps, fr := [(0, lI [-1]), (1, .int .i64 1)], hp := [] }
noncomputable def rpS2 : St := { n := Try.f113.ntmps, fr := [(0, lI [-1]), (1, .int .i64 2)], hp := [] }
noncomputable def rpS3 : St := { n := Try.f113.ntmps, fr := [(0, lI [-1]), (1, .int .i64 3)], hp := [] }
noncomputable def rpS4 : St := { n := Try.f113.ntmps, fr := [(0, lI [-1]), (1, .int .i64 4)], hp := [] }
noncomputable def rpS5 : St := { n := Try.f113.ntmps, fr := [(0, lI [-1]), (1, .int .i64 5)], hp := [] }
noncomputable def rpS6 : St := { n := Try.f113.ntmps, fr := [(0, lI [-1]), (1, .int .i64 6)], hp := [] }
noncomputable def rpS7 : St := { n := Try.f113.ntmps, fr := [(0, lI [-1]), (1, .int .i64 7)], hp := [] }
noncomputable def rpS8 : St := { n := Try.f113.ntmps, fr := [(0, lI [-1]), (1, .int .i64 8)], hp := [] }
theorem rp0_0 (h1 : (CT Try.prog (nat_lit 141) [] [AV.int IntKind.u64 (1 : Int), AV.int IntKind.u64 (0 : Int)] [] (AV.tup [AV.int IntKind.u64 (0 : Int), AV.int IntKind.u64 (0 : Int)]))) : ∃ o' st' q', go Try.prog ({ dec := [], els := eRp , calls := cRp , unroll := true } : HT) 0 4000 (.inl (bodyOf Try.f113)) [] rpS0 = some (o', st', q') ∧ q' ∧ Go.AX.Rest Try.prog 0 (Fin Try.prog Try.f113 0 [some (Blk.mk [] 1 true true none)] (AV.sl 0 0 0)) st' o' :=
  endF_spec (σ := [0]) (fz := []) (by kernel_rfl) (aj (u2 (aj (u2 s2) (ak (aj (u2 (u2 (u2 (u2 (u2 (aj (ak (k3 (al h1))) (u2 (u2 (u2 (u2 s2)))))))))) (aj (u2 (u2 (u2 (aj t3 (aj t3 (al t3)))))) (ak (aj (u2 (u2 (aj (k2 (aj (show ((0 : Int) ≤ (0 : Int)) by first | exact Nat.le_of_ble_eq_true rfl | decide) (aj (show ((0 : Int) ≤ (0 : Int)) by first | exact Nat.le_of_ble_eq_true rfl | decide) (aj (show ((0 : Int) ≤ (281474976710656 : Int)) by first | exact Nat.le_of_ble_eq_true rfl | decide) (show ((0 : Int) ≤ (9223372036854775807 : Int)) by first | exact Nat.le_of_ble_eq_true rfl | decide))))) s2))) (aj (u2 (u2 (aj (k2 (aj (show (nat_lit 0 ≤ nat_lit 0) by first | exact Nat.le_of_ble_eq_true rfl | decide) (show (∀ (e : AV), e ∈ [AV.int IntKind.i64 (-1 : Int)] → e.cells.length = nat_lit 1) by first | decide | exact Int.NonNeg.mk _))) s2))) (aj (u2 (u2 (u2 (al t3)))) (ak (al (u2 s2)))))))))))) t3)
theorem rp1_0 (h1 : (CT Try.prog (nat_lit 141) [] [AV.int IntKind.u64 (1 : Int), AV.int IntKind.u64 (1 : Int)] [] (AV.tup [AV.int IntKind.u64 (0 : Int), AV.int IntKind.u64 (1 : Int)]))) : ∃ o' st' q', go Try.prog ({ dec := [], els := eRp , calls := cRp , unroll := true } : HT) 0 4000 (.inl (bodyOf Try.f113)) [] rpS1 = some (o', st', q') ∧ q' ∧ Go.AX.Rest Try.prog 0 (Fin Try.prog Try.f113 0 [some (Blk.mk [AV.int IntKind.i64 (-1)] 1 true true none)] (AV.sl 0 0 1)) st' o' :=
  endF_spec (σ := [0]) (fz := []) (by kernel_rfl) (aj (u2 (aj (u2 s2) (ak (aj (u2 (u2 (u2 (u2 (u2 (aj (ak (k3 (al h1))) (u2 (u2 (u2 (u2 s2)))))))))) (aj (u2 (u2 (u2 (aj t3 (aj t3 (al t3)))))) (ak (aj (u2 (u2 (aj (k2 (aj (show ((0 : Int) ≤ (1 : Int)) by first | exact Nat.le_of_ble_eq_true rfl | decide) (aj (show ((1 : Int) ≤ (1 : Int)) by first | exact Nat.le_of_ble_eq_true rfl | decide) (aj (show ((8 : Int) ≤ (281474976710656 : Int)) by first | exact Nat.le_of_ble_eq_true rfl | decide) (show ((1 : Int) ≤ (9223372036854775807 : Int)) by first | exact Nat.le_of_ble_eq_true rfl | decide))))) s2))) (aj (u2 (u2 (aj (k2 (aj (show (nat_lit 1 ≤ nat_lit 1) by first | exact Nat.le_of_ble_eq_true rfl | decide) (show (∀ (e : AV), e ∈ [AV.int IntKind.i64 (-1 : Int)] → e.cells.length = nat_lit 1) by first | decide | exact Int.NonNeg.mk _))) s2))) (aj (u2 (u2 (u2 (al t3)))) (ak (al (u2 s2)))))))))))) t3)
theorem rp2_0 (h1 : (CT Try.prog (nat_lit 141) [] [AV.int IntKind.u64 (1 : Int), AV.int IntKind.u64 (2 : Int)] [] (AV.tup [AV.int IntKind.u64 (0 : Int), AV.int IntKind.u64 (2 : Int)]))) : ∃ o' st' q', go Try.prog ({ dec := [], els := eRp , calls := cRp , unroll := true } : HT) 0 4000 (.inl (bodyOf Try.f113)) [] rpS2 = some (o', st', q') ∧ q' ∧ Go.AX.Rest Try.prog 0 (Fin Try.prog Try.f113 0 [some (Blk.mk [AV.int IntKind.i64 (-1), AV.int IntKind.i64 (-1)] 1 true true none)] (AV.sl 0 0 2)) st' o' :=
  endF_spec (σ := [0]) (fz := []) (by kernel_rfl) (aj (u2 (aj (u2 s2) (ak (aj (u2 (u2 (u2 (u2 (u2 (aj (ak (k3 (al h1))) (u2 (u2 (u2 (u2 s2)))))))))) (aj (u2 (u2 (u2 (aj t3 (aj t3 (al t3)))))) (ak (aj (u2 (u2 (aj (k2 (aj (show ((0 : Int) ≤ (2 : Int)) by first | exact Nat.le_of_ble_eq_true rfl | decide) (aj (show ((2 : Int) ≤ (2 : Int)) by first | exact Nat.le_of_ble_eq_true rfl | decide) (aj (show ((16 : Int) ≤ (281474976710656 : Int)) by first | exact Nat.le_of_ble_eq_true rfl | decide) (show ((2 : Int) ≤ (9223372036854775807 : Int)) by first | exact Nat.le_of_ble_eq_true rfl | decide))))) s2))) (aj (u2 (u2 (aj (k2 (aj (show (nat_lit 2 ≤ nat_lit 2) by first | exact Nat.le_of_ble_eq_true rfl | decide) (show (∀ (e : AV), e ∈ [AV.int IntKind.i64 (-1 : Int)] → e.cells.length = nat_lit 1) by first | decide | exact Int.NonNeg.mk _))) s2))) (aj (u2 (u2 (u2 (al t3)))) (ak (aj (u2 (u2 (u2 (aj (k2 (aj (show ((0 : Int) ≤ (1 : Int)) by first | exact Nat.le_of_ble_eq_true rfl | decide) (aj (show ((1 : Int) ≤ (2 : Int)) by first | exact Nat.le_of_ble_eq_true rfl | decide) (aj (show ((2 : Int) ≤ (2 : Int)) by first | exact Nat.le_of_ble_eq_true rfl | decide) (show ((2 : Int) ≤ (2 : Int)) by first | exact Nat.le_of_ble_eq_true rfl | decide))))) (u2 (u2 (aj (k2 (aj (show ((0 : Int) ≤ (0 : Int)) by first | exact Nat.le_of_ble_eq_true rfl | decide) (aj (show ((0 : Int) ≤ (1 : Int)) by first | exact Nat.le_of_ble_eq_true rfl | decide) (aj (show ((1 : Int) ≤ (2 : Int)) by first | exact Nat.le_of_ble_eq_true rfl | decide) (show ((2 : Int) ≤ (2 : Int)) by first | exact Nat.le_of_ble_eq_true rfl | decide))))) (aj (k2 (aj (show (nat_lit 2 ≤ nat_lit 2) by first | exact Nat.le_of_ble_eq_true rfl | decide) (aj (show (nat_lit 1 = nat_lit 1) by first | decide | exact Int.NonNeg.mk _) (show (nat_lit 1 ≤ nat_lit 2) by first | exact Nat.le_of_ble_eq_true rfl | decide)))) (aj t3 s2))))))))) (aj (u2 (u2 (u2 (al t3)))) (ak (al (u2 s2))))))))))))))) t3)
theorem rp3_0 (h1 : (CT Try.prog (nat_lit 141) [] [AV.int IntKind.u64 (1 : Int), AV.int IntKind.u64 (3 : Int)] [] (AV.tup [AV.int IntKind.u64 (0 : Int), AV.int IntKind.u64 (3 : Int)]))) : ∃ o' st' q', go Try.prog ({ dec := [], els := eRp , calls := cRp , unroll := true } : HT) 0 4000 (.inl (bodyOf Try.f113)) [] rpS3 = some (o', st', q') ∧ q' ∧ Go.AX.Rest Try.prog 0 (Fin Try.prog Try.f113 0 [some (Blk.mk [AV.int IntKind.i64 (-1), AV.int IntKind.i64 (-1), AV.int IntKind.i64 (-1)] 1 true true none)] (AV.sl 0 0 3)) st' o' :=
  endF_spec (σ := [0]) (fz := []) (by kernel_rfl) (aj (u2 (aj (u2 s2) (ak (aj (u2 (u2 (u2 (u2 (u2 (aj (ak (k3 (al h1))) (u2 (u2 (u2 (u2 s2)))))))))) (aj (u2 (u2 (u2 (aj t3 (aj t3 (al t3)))))) (ak (aj (u2 (u2 (aj (k2 (aj (show ((0 : Int) ≤ (3 : Int)) by first | exact Nat.le_of_ble_eq_true rfl | decide) (aj (show ((3 : Int) ≤ (3 : Int)) by first | exact Nat.le_of_ble_eq_true rfl | decide) (aj (show ((24 : Int) ≤ (281474976710656 : Int)) by first | exact Nat.le_of_ble_eq_true rfl | decide) (show ((3 : Int) ≤ (9223372036854775807 : Int)) by first | exact Nat.le_of_ble_eq_true rfl | decide))))) s2))) (aj (u2 (u2 (aj (k2 (aj (show (nat_lit 3 ≤ nat_lit 3) by first | exact Nat.le_of_ble_eq_true rfl | decide) (show (∀ (e : AV), e ∈ [AV.int IntKind.i64 (-1 : Int)] → e.cells.length = nat_lit 1) by first | decide | exact Int.NonNeg.mk _))) s2))) (aj (u2 (u2 (u2 (al t3)))) (ak (aj (u2 (u2 (u2 (aj (k2 (aj (show ((0 : Int) ≤ (1 : Int)) by first | exact Nat.le_of_ble_eq_true rfl | decide) (aj (show ((1 : Int) ≤ (3 : Int)) by first | exact Nat.le_of_ble_eq_true rfl | decide) (aj (show ((3 : Int) ≤ (3 : Int)) by first | exact Nat.le_of_ble_eq_true rfl | decide) (show ((3 : Int) ≤ (3 : Int)) by first | exact Nat.le_of_ble_eq_true rfl | decide))))) (u2 (u2 (aj (k2 (aj (show ((0 : Int) ≤ (0 : Int)) by first | exact Nat.le_of_ble_eq_true rfl | decide) (aj (show ((0 : Int) ≤ (1 : Int)) by first | exact Nat.le_of_ble_eq_true rfl | decide) (aj (show ((1 : Int) ≤ (3 : Int)) by first | exact Nat.le_of_ble_eq_true rfl | decide) (show ((3 : Int) ≤ (3 : Int)) by first | exact Nat.le_of_ble_eq_true rfl | decide))))) (aj (k2 (aj (show (nat_lit 3 ≤ nat_lit 3) by first | exact Nat.le_of_ble_eq_true rfl | decide) (aj (show (nat_lit 1 = nat_lit 1) by first | decide | exact Int.NonNeg.mk _) (show (nat_lit 1 ≤ nat_lit 3) by first | exact Nat.le_of_ble_eq_true rfl | decide)))) (aj t3 s2))))))))) (aj (u2 (u2 (u2 (al t3)))) (ak (aj (u2 (u2 (u2 (aj (k2 (aj (show ((0 : Int) ≤ (2 : Int)) by first | exact Nat.le_of_ble_eq_true rfl | decide) (aj (show ((2 : Int) ≤ (3 : Int)) by first | exact Nat.le_of_ble_eq_true rfl | decide) (aj (show ((3 : Int) ≤ (3 : Int)) by first | exact Nat.le_of_ble_eq_true rfl | decide) (show ((3 : Int) ≤ (3 : Int)) by first | exact Nat.le_of_ble_eq_true rfl | decide))))) (u2 (u2 (aj (k2 (aj (show ((0 : Int) ≤ (0 : Int)) by first | exact Nat.le_of_ble_eq_true rfl | decide) (aj (show ((0 : Int) ≤ (2 : Int)) by first | exact Nat.le_of_ble_eq_true rfl | decide) (aj (show ((2 : Int) ≤ (3 : Int)) by first | exact Nat.le_of_ble_eq_true rfl | decide) (show ((3 : Int) ≤ (3 : Int)) by first | exact Nat.le_of_ble_eq_true rfl | decide))))) (aj (k2 (aj (show (nat_lit 3 ≤ nat_lit 3) by first | exact Nat.le_of_ble_eq_true rfl | decide) (aj (show (nat_lit 1 = nat_lit 1) by first | decide | exact Int.NonNeg.mk _) (show (nat_lit 2 ≤ nat_lit 3) by first | exact Nat.le_of_ble_eq_true rfl | decide)))) (aj t3 s2))))))))) (aj (u2 (u2 (u2 (al t3)))) (ak (al (u2 s2)))))))))))))))))) t3)
theorem rp4_0 (h1 : (CT Try.prog (nat_lit 141) [] [AV.int IntKind.u64 (1 : Int), AV.int IntKind.u64 (4 : Int)] [] (AV.tup [AV.int IntKind.u64 (0 : Int), AV.int IntKind.u64 (4 : Int)]))) : ∃ o' st' q', go Try.prog ({ dec := [], els := eRp , calls := cRp , unroll := true } : HT) 0 4000 (.inl (bodyOf Try.f113)) [] rpS4 = some (o', st', q') ∧ q' ∧ Go.AX.Rest Try.prog 0 (Fin Try.prog Try.f113 0 [some (Blk.mk [AV.int IntKind.i64 (-1), AV.int IntKind.i64 (-1), AV.int IntKind.i64 (-1), AV.int IntKind.i64 (-1)] 1 true true none)] (AV.sl 0 0 4)) st' o' :=
  endF_spec (σ := [0]) (fz := []) (by kernel_rfl) (aj (u2 (aj (u2 s2) (ak (aj (u2 (u2 (u2 (u2 (u2 (aj (ak (k3 (al h1))) (u2 (u2 (u2 (u2 s2)))))))))) (aj (u2 (u2 (u2 (aj t3 (aj t3 (al t3)))))) (ak (aj (u2 (u2 (aj (k2 (aj (show ((0 : Int) ≤ (4 : Int)) by first | exact Nat.le_of_ble_eq_true rfl | decide) (aj (show ((4 : Int) ≤ (4 : Int)) by first | exact Nat.le_of_ble_eq_true rfl | decide) (aj (show ((32 : Int) ≤ (281474976710656 : Int)) by first | exact Nat.le_of_ble_eq_true rfl | decide) (show ((4 : Int) ≤ (9223372036854775807 : Int)) by first | exact Nat.le_of_ble_eq_true rfl | decide))))) s2))) (aj (u2 (u2 (aj (k2 (aj (show (nat_lit 4 ≤ nat_lit 4) by first | exact Nat.le_of_ble_eq_true rfl | decide) (show (∀ (e : AV), e ∈ [AV.int IntKind.i64 (-1 : Int)] → e.cells.length = nat_lit 1) by first | decide | exact Int.NonNeg.mk _))) s2))) (aj (u2 (u2 (u2 (al t3)))) (ak (aj (u2 (u2 (u2 (aj (k2 (aj (show ((0 : Int) ≤ (1 : Int)) by first | exact Nat.le_of_ble_eq_true rfl | decide) (aj (show ((1 : Int) ≤ (4 : Int)) by first | exact Nat.le_of_ble_eq_true rfl | decide) (aj (show ((4 : Int) ≤ (4 : Int)) by first | exact Nat.le_of_ble_eq_true rfl | decide) (show ((4 : Int) ≤ (4 : Int)) by first | exact Nat.le_of_ble_eq_true rfl | decide))))) (u2 (u2 (aj (k2 (aj (show ((0 : Int) ≤ (0 : Int)) by first | exact Nat.le_of_ble_eq_true rfl | decide) (aj (show ((0 : Int) ≤ (1 : Int)) by first | exact Nat.le_of_ble_eq_true rfl | decide) (aj (show ((1 : Int) ≤ (4 : Int)) by first | exact Nat.le_of_ble_eq_true rfl | decide) (show ((4 : Int) ≤ (4 : Int)) by first | exact Nat.le_of_ble_eq_true rfl | decide))))) (aj (k2 (aj (show (nat_lit 4 ≤ nat_lit 4) by first | exact Nat.le_of_ble_eq_true rfl | decide) (aj (show (nat_lit 1 = nat_lit 1) by first | decide | exact Int.NonNeg.mk _) (show (nat_lit 1 ≤ nat_lit 4) by first | exact Nat.le_of_ble_eq_true rfl | decide)))) (aj t3 s2))))))))) (aj (u2 (u2 (u2 (al t3)))) (ak (aj (u2 (u2 (u2 (aj (k2 (aj (show ((0 : Int) ≤ (2 : Int)) by first | exact Nat.le_of_ble_eq_true rfl | decide) (aj (show ((2 : Int) ≤ (4 : Int)) by first | exact Nat.le_of_ble_eq_true rfl | decide) (aj (show ((4 : Int) ≤ (4 : Int)) by first | exact Nat.le_of_ble_eq_true rfl | decide) (show ((4 : Int) ≤ (4 : Int)) by first | exact Nat.le_of_ble_eq_true rfl | decide))))) (u2 (u2 (aj (k2 (aj (show ((0 : Int) ≤ (0 : Int)) by first | exact Nat.le_of_ble_eq_true rfl | decide) (aj (show ((0 : Int) ≤ (2 : Int)) by first | exact Nat.le_of_ble_eq_true rfl | decide) (aj (show ((2 : Int) ≤ (4 : Int)) by first | exact Nat.le_of_ble_eq_true rfl | decide) (show ((4 : Int) ≤ (4 : Int)) by first | exact Nat.le_of_ble_eq_true rfl | decide))))) (aj (k2 (aj (show (nat_lit 4 ≤ nat_lit 4) by first | exact Nat.le_of_ble_eq_true rfl | decide) (aj (show (nat_lit 1 = nat_lit 1) by first | decide | exact Int.NonNeg.mk _) (show (nat_lit 2 ≤ nat_lit 4) by first | exact Nat.le_of_ble_eq_true rfl | decide)))) (aj t3 s2))))))))) (aj (u2 (u2 (u2 (al t3)))) (ak (al (u2 s2)))))))))))))))))) t3)
theorem rp5_0 (h1 : (CT Try.prog (nat_lit 141) [] [AV.int IntKind.u64 (1 : Int), AV.int IntKind.u64 (5 : Int)] [] (AV.tup [AV.int IntKind.u64 (0 : Int), AV.int IntKind.u64 (5 : Int)]))) : ∃ o' st' q', go Try.prog ({ dec := [], els := eRp , calls := cRp , unroll := true } : HT) 0 4000 (.inl (bodyOf Try.f113)) [] rpS5 = some (o', st', q') ∧ q' ∧ Go.AX.Rest Try.prog 0 (Fin Try.prog Try.f113 0 [some (Blk.mk [AV.int IntKind.i64 (-1), AV.int IntKind.i64 (-1), AV.int IntKind.i64 (-1), AV.int IntKind.i64 (-1), AV.int IntKind.i64 (-1)] 1 true true none)] (AV.sl 0 0 5)) st' o' :=
  endF_spec (σ := [0]) (fz := []) (by kernel_rfl) (aj (u2 (aj (u2 s2) (ak (aj (u2 (u2 (u2 (u2 (u2 (aj (ak (k3 (al h1))) (u2 (u2 (u2 (u2 s2)))))))))) (aj (u2 (u2 (u2 (aj t3 (aj t3 (al t3)))))) (ak (aj (u2 (u2 (aj (k2 (aj (show ((0 : Int) ≤ (5 : Int)) by first | exact Nat.le_of_ble_eq_true rfl | decide) (aj (show ((5 : Int) ≤ (5 : Int)) by first | exact Nat.le_of_ble_eq_true rfl | decide) (aj (show ((40 : Int) ≤ (281474976710656 : Int)) by first | exact Nat.le_of_ble_eq_true rfl | decide) (show ((5 : Int) ≤ (9223372036854775807 : Int)) by first | exact Nat.le_of_ble_eq_true rfl | decide))))) s2))) (aj (u2 (u2 (aj (k2 (aj (show (nat_lit 5 ≤ nat_lit 5) by first | exact Nat.le_of_ble_eq_true rfl | decide) (show (∀ (e : AV), e ∈ [AV.int IntKind.i64 (-1 : Int)] → e.cells.length = nat_lit 1) by first | decide | exact Int.NonNeg.mk _))) s2))) (aj (u2 (u2 (u2 (al t3)))) (ak (aj (u2 (u2 (u2 (aj (k2 (aj (show ((0 : Int) ≤ (1 : Int)) by first | exact Nat.le_of_ble_eq_true rfl | decide) (aj (show ((1 : Int) ≤ (5 : Int)) by first | exact Nat.le_of_ble_eq_true rfl | decide) (aj (show ((5 : Int) ≤ (5 : Int)) by first | exact Nat.le_of_ble_eq_true rfl | decide) (show ((5 : Int) ≤ (5 : Int)) by first | exact Nat.le_of_ble_eq_true rfl | decide))))) (u2 (u2 (aj (k2 (aj (show ((0 : Int) ≤ (0 : Int)) by first | exact Nat.le_of_ble_eq_true rfl | decide) (aj (show ((0 : Int) ≤ (1 : Int)) by first | exact Nat.le_of_ble_eq_true rfl | decide) (aj (show ((1 : Int) ≤ (5 : Int)) by first | exact Nat.le_of_ble_eq_true rfl | decide) (show ((5 : Int) ≤ (5 : Int)) by first | exact Nat.le_of_ble_eq_true rfl | decide))))) (aj (k2 (aj (show (nat_lit 5 ≤ nat_lit 5) by first | exact Nat.le_of_ble_eq_true rfl | decide) (aj (show (nat_lit 1 = nat_lit 1) by first | decide | exact Int.NonNeg.mk _) (show (nat_lit 1 ≤ nat_lit 5) by first | exact Nat.le_of_ble_eq_true rfl | decide)))) (aj t3 s2))))))))) (aj (u2 (u2 (u2 (al t3)))) (ak (aj (u2 (u2 (u2 (aj (k2 (aj (show ((0 : Int) ≤ (2 : Int)) by first | exact Nat.le_of_ble_eq_true rfl | decide) (aj (show ((2 : Int) ≤ (5 : Int)) by first | exact Nat.le_of_ble_eq_true rfl | decide) (aj (show ((5 : Int) ≤ (5 : Int)) by first | exact Nat.le_of_ble_eq_true rfl | decide) (show ((5 : Int) ≤ (5 : Int)) by first | exact Nat.le_of_ble_eq_true rfl | decide))))) (u2 (u2 (aj (k2 (aj (show ((0 : Int) ≤ (0 : Int)) by first | exact Nat.le_of_ble_eq_true rfl | decide) (aj (show ((0 : Int) ≤ (2 : Int)) by first | exact Nat.le_of_ble_eq_true rfl | decide) (aj (show ((2 : Int) ≤ (5 : Int)) by first | exact Nat.le_of_ble_eq_true rfl | decide) (show ((5 : Int) ≤ (5 : Int)) by first | exact Nat.le_of_ble_eq_true rfl | decide))))) (aj (k2 (aj (show (nat_lit 5 ≤ nat_lit 5) by first | exact Nat.le_of_ble_eq_true rfl | decide) (aj (show (nat_lit 1 = nat_lit 1) by first | decide | exact Int.NonNeg.mk _) (show (nat_lit 2 ≤ nat_lit 5) by first | exact Nat.le_of_ble_eq_true rfl | decide)))) (aj t3 s2))))))))) (aj (u2 (u2 (u2 (al t3)))) (ak (aj (u2 (u2 (u2 (aj (k2 (aj (show ((0 : Int) ≤ (4 : Int)) by first | exact Nat.le_of_ble_eq_true rfl | decide) (aj (show ((4 : Int) ≤ (5 : Int)) by first | exact Nat.le_of_ble_eq_true rfl | decide) (aj (show ((5 : Int) ≤ (5 : Int)) by first | exact Nat.le_of_ble_eq_true rfl | decide) (show ((5 : Int) ≤ (5 : Int)) by first | exact Nat.le_of_ble_eq_true rfl | decide))))) (u2 (u2 (aj (k2 (aj (show ((0 : Int) ≤ (0 : Int)) by first | exact Nat.le_of_ble_eq_true rfl | decide) (aj (show ((0 : Int) ≤ (4 : Int)) by first | exact Nat.le_of_ble_eq_true rfl | decide) (aj (show ((4 : Int) ≤ (5 : Int)) by first | exact Nat.le_of_ble_eq_true rfl | decide) (show ((5 : Int) ≤ (5 : Int)) by first | exact Nat.le_of_ble_eq_true rfl | decide))))) (aj (k2 (aj (show (nat_lit 5 ≤ nat_lit 5) by first | exact Nat.le_of_ble_eq_true rfl | decide) (aj (show (nat_lit 1 = nat_lit 1) by first | decide | exact Int.NonNeg.mk _) (show (nat_lit 4 ≤ nat_lit 5) by first | exact Nat.le_of_ble_eq_true rfl | decide)))) (aj t3 s2))))))))) (aj (u2 (u2 (u2 (al t3)))) (ak (al (u2 s2))))))))))))))))))))) t3)
theorem rp6_0 (h1 : (CT Try.prog (nat_lit 141) [] [AV.int IntKind.u64 (1 : Int), AV.int IntKind.u64 (6 : Int)] [] (AV.tup [AV.int IntKind.u64 (0 : Int), AV.int IntKind.u64 (6 : Int)]))) : ∃ o' st' q', go Try.prog ({ dec := [], els := eRp , calls := cRp , unroll := true } : HT) 0 4000 (.inl (bodyOf Try.f113)) [] rpS6 = some (o', st', q') ∧ q' ∧ Go.AX.Rest Try.prog 0 (Fin Try.prog Try.f113 0 [some (Blk.mk [AV.int IntKind.i64 (-1), AV.int IntKind.i64 (-1), AV.int IntKind.i64 (-1), AV.int IntKind.i64 (-1), AV.int IntKind.i64 (-1), AV.int IntKind.i64 (-1)] 1 true true none)] (AV.sl 0 0 6)) st' o' :=
  endF_spec (σ := [0]) (fz := []) (by kernel_rfl) (aj (u2 (aj (u2 s2) (ak (aj (u2 (u2 (u2 (u2 (u2 (aj (ak (k3 (al h1))) (u2 (u2 (u2 (u2 s2)))))))))) (aj (u2 (u2 (u2 (aj t3 (aj t3 (al t3)))))) (ak (aj (u2 (u2 (aj (k2 (aj (show ((0 : Int) ≤ (6 : Int)) by first | exact Nat.le_of_ble_eq_true rfl | decide) (aj (show ((6 : Int) ≤ (6 : Int)) by first | exact Nat.le_of_ble_eq_true rfl | decide) (aj (show ((48 : Int) ≤ (281474976710656 : Int)) by first | exact Nat.le_of_ble_eq_true rfl | decide) (show ((6 : Int) ≤ (9223372036854775807 : Int)) by first | exact Nat.le_of_ble_eq_true rfl | decide))))) s2))) (aj (u2 (u2 (aj (k2 (aj (show (nat_lit 6 ≤ nat_lit 6) by first | exact Nat.le_of_ble_eq_true rfl | decide) (show (∀ (e : AV), e ∈ [AV.int IntKind.i64 (-1 : Int)] → e.cells.length = nat_lit 1) by first | decide | exact Int.NonNeg.mk _))) s2))) (aj (u2 (u2 (u2 (al t3)))) (ak (aj (u2 (u2 (u2 (aj (k2 (aj (show ((0 : Int) ≤ (1 : Int)) by first | exact Nat.le_of_ble_eq_true rfl | decide) (aj (show ((1 : Int) ≤ (6 : Int)) by first | exact Nat.le_of_ble_eq_true rfl | decide) (aj (show ((6 : Int) ≤ (6 : Int)) by first | exact Nat.le_of_ble_eq_true rfl | decide) (show ((6 : Int) ≤ (6 : Int)) by first | exact Nat.le_of_ble_eq_true rfl | decide))))) (u2 (u2 (aj (k2 (aj (show ((0 : Int) ≤ (0 : Int)) by first | exact Nat.le_of_ble_eq_true rfl | decide) (aj (show ((0 : Int) ≤ (1 : Int)) by first | exact Nat.le_of_ble_eq_true rfl | decide) (aj (show ((1 : Int) ≤ (6 : Int)) by first | exact Nat.le_of_ble_eq_true rfl | decide) (show ((6 : Int) ≤ (6 : Int)) by first | exact Nat.le_of_ble_eq_true rfl | decide))))) (aj (k2 (aj (show (nat_lit 6 ≤ nat_lit 6) by first | exact Nat.le_of_ble_eq_true rfl | decide) (aj (show (nat_lit 1 = nat_lit 1) by first | decide | exact Int.NonNeg.mk _) (show (nat_lit 1 ≤ nat_lit 6) by first | exact Nat.le_of_ble_eq_true rfl | decide)))) (aj t3 s2))))))))) (aj (u2 (u2 (u2 (al t3)))) (ak (aj (u2 (u2 (u2 (aj (k2 (aj (show ((0 : Int) ≤ (2 : Int)) by first | exact Nat.le_of_ble_eq_true rfl | decide) (aj (show ((2 : Int) ≤ (6 : Int)) by first | exact Nat.le_of_ble_eq_true rfl | decide) (aj (show ((6 : Int) ≤ (6 : Int)) by first | exact Nat.le_of_ble_eq_true rfl | decide) (show ((6 : Int) ≤ (6 : Int)) by first | exact Nat.le_of_ble_eq_true rfl | decide))))) (u2 (u2 (aj (k2 (aj (show ((0 : Int) ≤ (0 : Int)) by first | exact Nat.le_of_ble_eq_true rfl | decide) (aj (show ((0 : Int) ≤ (2 : Int)) by first | exact Nat.le_of_ble_eq_true rfl | decide) (aj (show ((2 : Int) ≤ (6 : Int)) by first | exact Nat.le_of_ble_eq_true rfl | decide) (show ((6 : Int) ≤ (6 : Int)) by first | exact Nat.le_of_ble_eq_true rfl | decide))))) (aj (k2 (aj (show (nat_lit 6 ≤ nat_lit 6) by first | exact Nat.le_of_ble_eq_true rfl | decide) (aj (show (nat_lit 1 = nat_lit 1) by first | decide | exact Int.NonNeg.mk _) (show (nat_lit 2 ≤ nat_lit 6) by first | exact Nat.le_of_ble_eq_true rfl | decide)))) (aj t3 s2))))))))) (aj (u2 (u2 (u2 (al t3)))) (ak (aj (u2 (u2 (u2 (aj (k2 (aj (show ((0 : Int) ≤ (4 : Int)) by first | exact Nat.le_of_ble_eq_true rfl | decide) (aj (show ((4 : Int) ≤ (6 : Int)) by first | exact Nat.le_of_ble_eq_true rfl | decide) (aj (show ((6 : Int) ≤ (6 : Int)) by first | exact Nat.le_of_ble_eq_true rfl | decide) (show ((6 : Int) ≤ (6 : Int)) by first | exact Nat.le_of_ble_eq_true rfl | decide))))) (u2 (u2 (aj (k2 (aj (show ((0 : Int) ≤ (0 : Int)) by first | exact Nat.le_of_ble_eq_true rfl | decide) (aj (show ((0 : Int) ≤ (4 : Int)) by first | exact Nat.le_of_ble_eq_true rfl | decide) (aj (show ((4 : Int) ≤ (6 : Int)) by first | exact Nat.le_of_ble_eq_true rfl | decide) (show ((6 : Int) ≤ (6 : Int)) by first | exact Nat.le_of_ble_eq_true rfl | decide))))) (aj (k2 (aj (show (nat_lit 6 ≤ nat_lit 6) by first | exact Nat.le_of_ble_eq_true rfl | decide) (aj (show (nat_lit 1 = nat_lit 1) by first | decide | exact Int.NonNeg.mk _) (show (nat_lit 4 ≤ nat_lit 6) by first | exact Nat.le_of_ble_eq_true rfl | decide)))) (aj t3 s2))))))))) (aj (u2 (u2 (u2 (al t3)))) (ak (al (u2 s2))))))))))))))))))))) t3)
theorem rp7_0 (h1 : (CT Try.prog (nat_lit 141) [] [AV.int IntKind.u64 (1 : Int), AV.int IntKind.u64 (7 : Int)] [] (AV.tup [AV.int IntKind.u64 (0 : Int), AV.int IntKind.u64 (7 : Int)]))) : ∃ o' st' q', go Try.prog ({ dec := [], els := eRp , calls := cRp , unroll := true } : HT) 0 4000 (.inl (bodyOf Try.f113)) [] rpS7 = some (o', st', q') ∧ q' ∧ Go.AX.Rest Try.prog 0 (Fin Try.prog Try.f113 0 [some (Blk.mk [AV.int IntKind.i64 (-1), AV.int IntKind.i64 (-1), AV.int IntKind.i64 (-1), AV.int IntKind.i64 (-1), AV.int IntKind.i64 (-1), AV.int IntKind.i64 (-1), AV.int IntKind.i64 (-1)] 1 true true none)] (AV.sl 0 0 7)) st' o' :=
  endF_spec (σ := [0]) (fz := []) (by kernel_rfl) (aj (u2 (aj (u2 s2) (ak (aj (u2 (u2 (u2 (u2 (u2 (aj (ak (k3 (al h1))) (u2 (u2 (u2 (u2 s2)))))))))) (aj (u2 (u2 (u2 (aj t3 (aj t3 (al t3)))))) (ak (aj (u2 (u2 (aj (k2 (aj (show ((0 : Int) ≤ (7 : Int)) by first | exact Nat.le_of_ble_eq_true rfl | decide) (aj (show ((7 : Int) ≤ (7 : Int)) by first | exact Nat.le_of_ble_eq_true rfl | decide) (aj (show ((56 : Int) ≤ (281474976710656 : Int)) by first | exact Nat.le_of_ble_eq_true rfl | decide) (show ((7 : Int) ≤ (9223372036854775807 : Int)) by first | exact Nat.le_of_ble_eq_true rfl | decide))))) s2))) (aj (u2 (u2 (aj (k2 (aj (show (nat_lit 7 ≤ nat_lit 7) by first | exact Nat.le_of_ble_eq_true rfl | decide) (show (∀ (e : AV), e ∈ [AV.int IntKind.i64 (-1 : Int)] → e.cells.length = nat_lit 1) by first | decide | exact Int.NonNeg.mk _))) s2))) (aj (u2 (u2 (u2 (al t3)))) (ak (aj (u2 (u2 (u2 (aj (k2 (aj (show ((0 : Int) ≤ (1 : Int)) by first | exact Nat.le_of_ble_eq_true rfl | decide) (aj (show ((1 : Int) ≤ (7 : Int)) by first | exact Nat.le_of_ble_eq_true rfl | decide) (aj (show ((7 : Int) ≤ (7 : Int)) by first | exact Nat.le_of_ble_eq_true rfl | decide) (show ((7 : Int) ≤ (7 : Int)) by first | exact Nat.le_of_ble_eq_true rfl | decide))))) (u2 (u2 (aj (k2 (aj (show ((0 : Int) ≤ (0 : Int)) by first | exact Nat.le_of_ble_eq_true rfl | decide) (aj (show ((0 : Int) ≤ (1 : Int)) by first | exact Nat.le_of_ble_eq_true rfl | decide) (aj (show ((1 : Int) ≤ (7 : Int)) by first | exact Nat.le_of_ble_eq_true rfl | decide) (show ((7 : Int) ≤ (7 : Int)) by first | exact Nat.le_of_ble_eq_true rfl | decide))))) (aj (k2 (aj (show (nat_lit 7 ≤ nat_lit 7) by first | exact Nat.le_of_ble_eq_true rfl | decide) (aj (show (nat_lit 1 = nat_lit 1) by first | decide | exact Int.NonNeg.mk _) (show (nat_lit 1 ≤ nat_lit 7) by first | exact Nat.le_of_ble_eq_true rfl | decide)))) (aj t3 s2))))))))) (aj (u2 (u2 (u2 (al t3)))) (ak (aj (u2 (u2 (u2 (aj (k2 (aj (show ((0 : Int) ≤ (2 : Int)) by first | exact Nat.le_of_ble_eq_true rfl | decide) (aj (show ((2 : Int) ≤ (7 : Int)) by first | exact Nat.le_of_ble_eq_true rfl | decide) (aj (show ((7 : Int) ≤ (7 : Int)) by first | exact Nat.le_of_ble_eq_true rfl | decide) (show ((7 : Int) ≤ (7 : Int)) by first | exact Nat.le_of_ble_eq_true rfl | decide))))) (u2 (u2 (aj (k2 (aj (show ((0 : Int) ≤ (0 : Int)) by first | exact Nat.le_of_ble_eq_true rfl | decide) (aj (show ((0 : Int) ≤ (2 : Int)) by first | exact Nat.le_of_ble_eq_true rfl | decide) (aj (show ((2 : Int) ≤ (7 : Int)) by first | exact Nat.le_of_ble_eq_true rfl | decide) (show ((7 : Int) ≤ (7 : Int)) by first | exact Nat.le_of_ble_eq_true rfl | decide))))) (aj (k2 (aj (show (nat_lit 7 ≤ nat_lit 7) by first | exact Nat.le_of_ble_eq_true rfl | decide) (aj (show (nat_lit 1 = nat_lit 1) by first | decide | exact Int.NonNeg.mk _) (show (nat_lit 2 ≤ nat_lit 7) by first | exact Nat.le_of_ble_eq_true rfl | decide)))) (aj t3 s2))))))))) (aj (u2 (u2 (u2 (al t3)))) (ak (aj (u2 (u2 (u2 (aj (k2 (aj (show ((0 : Int) ≤ (4 : Int)) by first | exact Nat.le_of_ble_eq_true rfl | decide) (aj (show ((4 : Int) ≤ (7 : Int)) by first | exact Nat.le_of_ble_eq_true rfl | decide) (aj (show ((7 : Int) ≤ (7 : Int)) by first | exact Nat.le_of_ble_eq_true rfl | decide) (show ((7 : Int) ≤ (7 : Int)) by first | exact Nat.le_of_ble_eq_true rfl | decide))))) (u2 (u2 (aj (k2 (aj (show ((0 : Int) ≤ (0 : Int)) by first | exact Nat.le_of_ble_eq_true rfl | decide) (aj (show ((0 : Int) ≤ (4 : Int)) by first | exact Nat.le_of_ble_eq_true rfl | decide) (aj (show ((4 : Int) ≤ (7 : Int)) by first | exact Nat.le_of_ble_eq_true rfl | decide) (show ((7 : Int) ≤ (7 : Int)) by first | exact Nat.le_of_ble_eq_true rfl | decide))))) (aj (k2 (aj (show (nat_lit 7 ≤ nat_lit 7) by first | exact Nat.le_of_ble_eq_true rfl | decide) (aj (show (nat_lit 1 = nat_lit 1) by first | decide | exact Int.NonNeg.mk _) (show (nat_lit 4 ≤ nat_lit 7) by first | exact Nat.le_of_ble_eq_true rfl | decide)))) (aj t3 s2))))))))) (aj (u2 (u2 (u2 (al t3)))) (ak (al (u2 s2))))))))))))))))))))) t3)
theorem rp8_0 (h1 : (CT Try.prog (nat_lit 141) [] [AV.int IntKind.u64 (1 : Int), AV.int IntKind.u64 (8 : Int)] [] (AV.tup [AV.int IntKind.u64 (0 : Int), AV.int IntKind.u64 (8 : Int)]))) : ∃ o' st' q', go Try.prog ({ dec := [], els := eRp , calls := cRp , unroll := true } : HT) 0 4000 (.inl (bodyOf Try.f113)) [] rpS8 = some (o', st', q') ∧ q' ∧ Go.AX.Rest Try.prog 0 (Fin Try.prog Try.f113 0 [some (Blk.mk [AV.int IntKind.i64 (-1), AV.int IntKind.i64 (-1), AV.int IntKind.i64 (-1), AV.int IntKind.i64 (-1), AV.int IntKind.i64 (-1), AV.int IntKind.i64 (-1), AV.int IntKind.i64 (-1), AV.int IntKind.i64 (-1)] 1 true true none)] (AV.sl 0 0 8)) st' o' :=
  endF_spec (σ := [0]) (fz := []) (by kernel_rfl) (aj (u2 (aj (u2 s2) (ak (aj (u2 (u2 (u2 (u2 (u2 (aj (ak (k3 (al h1))) (u2 (u2 (u2 (u2 s2)))))))))) (aj (u2 (u2 (u2 (aj t3 (aj t3 (al t3)))))) (ak (aj (u2 (u2 (aj (k2 (aj (show ((0 : Int) ≤ (8 : Int)) by first | exact Nat.le_of_ble_eq_true rfl | decide) (aj (show ((8 : Int) ≤ (8 : Int)) by first | exact Nat.le_of_ble_eq_true rfl | decide) (aj (show ((64 : Int) ≤ (281474976710656 : Int)) by first | exact Nat.le_of_ble_eq_true rfl | decide) (show ((8 : Int) ≤ (9223372036854775807 : Int)) by first | exact Nat.le_of_ble_eq_true rfl | decide))))) s2))) (aj (u2 (u2 (aj (k2 (aj (show (nat_lit 8 ≤ nat_lit 8) by first | exact Nat.le_of_ble_eq_true rfl | decide) (show (∀ (e : AV), e ∈ [AV.int IntKind.i64 (-1 : Int)] → e.cells.length = nat_lit 1) by first | decide | exact Int.NonNeg.mk _))) s2))) (aj (u2 (u2 (u2 (al t3)))) (ak (aj (u2 (u2 (u2 (aj (k2 (aj (show ((0 : Int) ≤ (1 : Int)) by first | exact Nat.le_of_ble_eq_true rfl | decide) (aj (show ((1 : Int) ≤ (8 : Int)) by first | exact Nat.le_of_ble_eq_true rfl | decide) (aj (show ((8 : Int) ≤ (8 : Int)) by first | exact Nat.le_of_ble_eq_true rfl | decide) (show ((8 : Int) ≤ (8 : Int)) by first | exact Nat.le_of_ble_eq_true rfl | decide))))) (u2 (u2 (aj (k2 (aj (show ((0 : Int) ≤ (0 : Int)) by first | exact Nat.le_of_ble_eq_true rfl | decide) (aj (show ((0 : Int) ≤ (1 : Int)) by first | exact Nat.le_of_ble_eq_true rfl | decide) (aj (show ((1 : Int) ≤ (8 : Int)) by first | exact Nat.le_of_ble_eq_true rfl | decide) (show ((8 : Int) ≤ (8 : Int)) by first | exact Nat.le_of_ble_eq_true rfl | decide))))) (aj (k2 (aj (show (nat_lit 8 ≤ nat_lit 8) by first | exact Nat.le_of_ble_eq_true rfl | decide) (aj (show (nat_lit 1 = nat_lit 1) by first | decide | exact Int.NonNeg.mk _) (show (nat_lit 1 ≤ nat_lit 8) by first | exact Nat.le_of_ble_eq_true rfl | decide)))) (aj t3 s2))))))))) (aj (u2 (u2 (u2 (al t3)))) (ak (aj (u2 (u2 (u2 (aj (k2 (aj (show ((0 : Int) ≤ (2 : Int)) by first | exact Nat.le_of_ble_eq_true rfl | decide) (aj (show ((2 : Int) ≤ (8 : Int)) by first | exact Nat.le_of_ble_eq_true rfl | decide) (aj (show ((8 : Int) ≤ (8 : Int)) by first | exact Nat.le_of_ble_eq_true rfl | decide) (show ((8 : Int) ≤ (8 : Int)) by first | exact Nat.le_of_ble_eq_true rfl | decide))))) (u2 (u2 (aj (k2 (aj (show ((0 : Int) ≤ (0 : Int)) by first | exact Nat.le_of_ble_eq_true rfl | decide) (aj (show ((0 : Int) ≤ (2 : Int)) by first | exact Nat.le_of_ble_eq_true rfl | decide) (aj (show ((2 : Int) ≤ (8 : Int)) by first | exact Nat.le_of_ble_eq_true rfl | decide) (show ((8 : Int) ≤ (8 : Int)) by first | exact Nat.le_of_ble_eq_true rfl | decide))))) (aj (k2 (aj (show (nat_lit 8 ≤ nat_lit 8) by first | exact Nat.le_of_ble_eq_true rfl | decide) (aj (show (nat_lit 1 = nat_lit 1) by first | decide | exact Int.NonNeg.mk _) (show (nat_lit 2 ≤ nat_lit 8) by first | exact Nat.le_of_ble_eq_true rfl | decide)))) (aj t3 s2))))))))) (aj (u2 (u2 (u2 (al t3)))) (ak (aj (u2 (u2 (u2 (aj (k2 (aj (show ((0 : Int) ≤ (4 : Int)) by first | exact Nat.le_of_ble_eq_true rfl | decide) (aj (show ((4 : Int) ≤ (8 : Int)) by first | exact Nat.le_of_ble_eq_true rfl | decide) (aj (show ((8 : Int) ≤ (8 : Int)) by first | exact Nat.le_of_ble_eq_true rfl | decide) (show ((8 : Int) ≤ (8 : Int)) by first | exact Nat.le_of_ble_eq_true rfl | decide))))) (u2 (u2 (aj (k2 (aj (show ((0 : Int) ≤ (0 : Int)) by first | exact Nat.le_of_ble_eq_true rfl | decide) (aj (show ((0 : Int) ≤ (4 : Int)) by first | exact Nat.le_of_ble_eq_true rfl | decide) (aj (show ((4 : Int) ≤ (8 : Int)) by first | exact Nat.le_of_ble_eq_true rfl | decide) (show ((8 : Int) ≤ (8 : Int)) by first | exact Nat.le_of_ble_eq_true rfl | decide))))) (aj (k2 (aj (show (nat_lit 8 ≤ nat_lit 8) by first | exact Nat.le_of_ble_eq_true rfl | decide) (aj (show (nat_lit 1 = nat_lit 1) by first | decide | exact Int.NonNeg.mk _) (show (nat_lit 4 ≤ nat_lit 8) by first | exact Nat.le_of_ble_eq_true rfl | decide)))) (aj t3 s2))))))))) (aj (u2 (u2 (u2 (al t3)))) (ak (al (u2 s2))))))))))))))))))))) t3)
end Go.Proofs.Ytepomnooippjpaa
set_option linter.unusedSimpArgs false
namespace Go.Proofs.Ytepomnooippjpaa
theorem mul_one_ct (c : Int) (h : 0 ≤ c ∧ c ≤ 8) : CT Try.prog 141 [] [.int .u64 1, .int .u64 c] [] (.tup [.int .u64 0, .int .u64 c]) := mul_ct c ([], _) (.val (by unfold mulEn; rw [gu_t h]))
theorem rep_ct (c : Nat) (h : c ≤ 8) : CT Try.prog 113 [] [lI [-1], .int .i64 (iN c)] [some (dB (List.replicate c (-1)))] (.sl 0 0 c) := by
  have hb : Try.f113.body = some (bodyOf Try.f113) := by kernel_rfl
  have hn : ∀ x : Int, [lI [-1], .int .i64 x].length ≤ Try.f113.ntmps := fun _ => Nat.le_of_ble_eq_true rfl
  have : c = 0 ∨ c = 1 ∨ c = 2 ∨ c = 3 ∨ c = 4 ∨ c = 5 ∨ c = 6 ∨ c = 7 ∨ c = 8 := by omega
  rcases this with rfl | rfl | rfl | rfl | rfl | rfl | rfl | rfl | rfl
  · exact CT.path mix Try.func113 hb (hn 0) (rp0_0 (mul_one_ct 0 (by omega)))
  · exact CT.path mix Try.func113 hb (hn 1) (rp1_0 (mul_one_ct 1 (by omega)))
  · exact CT.path mix Try.func113 hb (hn 2) (rp2_0 (mul_one_ct 2 (by omega)))
  · exact CT.path mix Try.func113 hb (hn 3) (rp3_0 (mul_one_ct 3 (by omega)))
  · exact CT.path mix Try.func113 hb (hn 4) (rp4_0 (mul_one_ct 4 (by omega)))
  · exact CT.path mix Try.func113 hb (hn 5) (rp5_0 (mul_one_ct 5 (by omega)))
  · exact CT.path mix Try.func113 hb (hn 6) (rp6_0 (mul_one_ct 6 (by omega)))
  · exact CT.path mix Try.func113 hb (hn 7) (rp7_0 (mul_one_ct 7 (by omega)))
  · exact CT.path mix Try.func113 hb (hn 8) (rp8_0 (mul_one_ct 8 (by omega)))
inductive hSePc where
  | l0 (v0 : List Int) (v1 : Int)
  | l1 (v0 : List Int) (v1 : Nat) (v2 : Int)
  | l2 (v0 : List Int) (v1 : Nat) (v2 : Int)
  | l3 (v0 : List Int) (v1 : Int) (v2 : Nat) (v3 : Int)
noncomputable def hSeSt (n : NetD) (sh : List Bool) (hm gs : List Int) : hSePc → St
  | .l0 v0 v1 => St.mk 138 [(1, AV.lst (boL sh)), (2, AV.lst (List.map (iv) hm)), (3, AV.lst (List.map (iv) gs)), (4, AV.ptr 0 0 0), (11, AV.sl 1 0 v0.length), (35, iv (iN (List.map (iv) hm).length)), (36, iv v1)] [some (Blk.mk [netA n] 8 true true none), some (Blk.mk (List.map (iv) v0) 1 true true none)]
  | .l1 v0 v1 v2 => St.mk 138 [(1, AV.lst (boL sh)), (2, AV.lst (List.map (iv) hm)), (4, AV.ptr 0 0 0), (11, AV.sl 1 0 v0.length), (72, iv (iN v1)), (73, iv v2)] [some (Blk.mk [netA n] 8 true true none), some (Blk.mk (List.map (iv) v0) 1 true true none)]
  | .l2 v0 v1 v2 => St.mk 138 [(1, AV.lst (boL sh)), (4, AV.ptr 0 0 0), (11, AV.sl 1 0 v0.length), (108, iv (iN v1)), (109, iv v2)] [some (Blk.mk [netA n] 8 true true none), some (Blk.mk (List.map (iv) v0) 1 true true none)]
  | .l3 v0 v1 v2 v3 => St.mk 138 [(1, AV.lst (boL sh)), (4, AV.ptr 0 0 0), (11, AV.sl 1 0 v0.length), (14, iv v1), (108, iv (iN v2)), (109, iv v1), (114, iv (iN (List.map sA n.ss).length)), (115, iv v3)] [some (Blk.mk [netA n] 8 true true none), some (Blk.mk (List.map (iv) v0) 1 true true none)]
def hSeHd : hSePc → Nat
  | .l0 _ _ => 0
  | .l1 _ _ _ => 1
  | .l2 _ _ _ => 2
  | .l3 _ _ _ _ => 3
noncomputable def hSeEn (n : NetD) (sh : List Bool) (hm gs : List Int) : Option (hSePc ⊕ Ret) :=
  gu (Rows n.nx) <|
  br (hkE n sh hm != 0)
  (some (.inr ([], AV.tup [AV.nils, AV.int IntKind.i64 (hkE n sh hm)])))
  (gu (hm.length ≤ 1000) <|
   br (!isB n hm gs)
   (some (.inr ([], AV.tup [AV.nils, AV.int IntKind.i64 19])))
   (gu ((List.map (AV.int IntKind.i64) hm).length ≤ 8) <|
    gu (∀ (blk : Blk), blk ∈ [dB (List.replicate (List.map (AV.int IntKind.i64) hm).length (-1))] → ImmB blk) <|
    some (.inl (.l0 (List.replicate (List.map (AV.int IntKind.i64) hm).length (-1)) ((0 : Int))))))
noncomputable def hSeS0 (n : NetD) (sh : List Bool) (hm gs : List Int) (v0 : List Int) (v1 : Int) : Option (hSePc ⊕ Ret) :=
  br (decide (v1 < iN (List.map (AV.int IntKind.i64) hm).length))
  (gu (0 ≤ v1) <|
   el (hm) (v1.toNat) fun (x42 : Int) =>
   br (x42 == -2)
   (gu (v1 < iN v0.length) <|
    gu ((0 + v1.toNat).succ.le (List.map (AV.int IntKind.i64) v0).length) <|
    some (.inl (.l0 (v0.set (0 + v1.toNat) (-2)) (IntKind.i64.wrap (v1 + 1)))))
   (el (gs) (v1.toNat) fun (x51 : Int) =>
    br (decide (0 ≤ x51))
    (el (gs) (v1.toNat) fun (x59 : Int) =>
     gu (Rows n.nx) <|
     gu (ValidN n) <|
     gu (sh.length = celN n) <|
     gu (0 ≤ x59 ∧ x59 < iN n.ss.length) <|
     br (odB n sh x59)
     (el (gs) (v1.toNat) fun (x67 : Int) =>
      gu (v1 < iN v0.length) <|
      gu ((0 + v1.toNat).succ.le (List.map (AV.int IntKind.i64) v0).length) <|
      some (.inl (.l0 (v0.set (0 + v1.toNat) x67) (IntKind.i64.wrap (v1 + 1)))))
     (some (.inl (.l0 (v0) (IntKind.i64.wrap (v1 + 1))))))
    (some (.inl (.l0 (v0) (IntKind.i64.wrap (v1 + 1)))))))
  (some (.inl (.l1 (v0) (v0.length) ((0 : Int)))))
noncomputable def hSeS1 (n : NetD) (sh : List Bool) (hm gs : List Int) (v0 : List Int) (v1 : Nat) (v2 : Int) : Option (hSePc ⊕ Ret) :=
  br (decide (v2 < iN v1))
  (gu (0 ≤ v2) <|
   gu (v2 < iN v0.length) <|
   el (v0) (0 + v2.toNat) fun (x79 : Int) =>
   br (x79 == -1)
   (el (hm) (v2.toNat) fun (x84 : Int) =>
    br (decide (0 ≤ x84))
    (el (hm) (v2.toNat) fun (x94 : Int) =>
     gu (Rows n.nx) <|
     gu (ValidN n) <|
     gu (sh.length = celN n) <|
     gu (0 ≤ x94 ∧ x94 < iN n.ss.length) <|
     gu (v0.length ≤ 1000) <|
     br (decide (0 < plZ n sh v0 x94))
     (el (hm) (v2.toNat) fun (x103 : Int) =>
      gu ((0 + v2.toNat).succ.le (List.map (AV.int IntKind.i64) v0).length) <|
      some (.inl (.l1 (v0.set (0 + v2.toNat) x103) (v1) (IntKind.i64.wrap (v2 + 1)))))
     (some (.inl (.l1 (v0) (v1) (IntKind.i64.wrap (v2 + 1))))))
    (some (.inl (.l1 (v0) (v1) (IntKind.i64.wrap (v2 + 1))))))
   (some (.inl (.l1 (v0) (v1) (IntKind.i64.wrap (v2 + 1))))))
  (some (.inl (.l2 (v0) (v0.length) ((0 : Int)))))
noncomputable def hSeS2 (n : NetD) (sh : List Bool) (hm gs : List Int) (v0 : List Int) (v1 : Nat) (v2 : Int) : Option (hSePc ⊕ Ret) :=
  br (decide (v2 < iN v1))
  (some (.inl (.l3 (v0) (v2) (v1) ((0 : Int)))))
  (some (.inr ([], AV.tup [AV.lst (List.map (AV.int IntKind.i64) v0), AV.int IntKind.i64 0])))
noncomputable def hSeS3 (n : NetD) (sh : List Bool) (hm gs : List Int) (v0 : List Int) (v1 : Int) (v2 : Nat) (v3 : Int) : Option (hSePc ⊕ Ret) :=
  br (decide (v3 < iN (List.map sA n.ss).length))
  (gu (0 ≤ v1) <|
   gu (v1 < iN v0.length) <|
   el (v0) (0 + v1.toNat) fun (x121 : Int) =>
   br (x121 == -1)
   (gu (Rows n.nx) <|
    gu (ValidN n) <|
    gu (sh.length = celN n) <|
    gu (0 ≤ v3 ∧ v3 < iN n.ss.length) <|
    gu (v0.length ≤ 1000) <|
    br (decide (0 < plZ n sh v0 v3))
    (gu ((0 + v1.toNat).succ.le (List.map (AV.int IntKind.i64) v0).length) <|
     some (.inl (.l3 (v0.set (0 + v1.toNat) v3) (v1) (v2) (IntKind.i64.wrap (v3 + 1)))))
    (some (.inl (.l3 (v0) (v1) (v2) (IntKind.i64.wrap (v3 + 1))))))
   (some (.inl (.l3 (v0) (v1) (v2) (IntKind.i64.wrap (v3 + 1))))))
  (some (.inl (.l2 (v0) (v2) (IntKind.i64.wrap (v1 + 1)))))
noncomputable def hSeStep (n : NetD) (sh : List Bool) (hm gs : List Int) : hSePc → Option (hSePc ⊕ Ret)
  | .l0 v0 v1 => hSeS0 n sh hm gs v0 v1
  | .l1 v0 v1 v2 => hSeS1 n sh hm gs v0 v1 v2
  | .l2 v0 v1 v2 => hSeS2 n sh hm gs v0 v1 v2
  | .l3 v0 v1 v2 v3 => hSeS3 n sh hm gs v0 v1 v2 v3
theorem hSeEn_ok (n : NetD) (sh : List Bool) (hm gs : List Int) (o : hSePc ⊕ Ret) (h : hSeEn n sh hm gs = some o) : Arr Try.prog Try.f62 0 (hSeSt n sh hm gs) hSeHd (bodyOf Try.f62) [] { n := Try.f62.ntmps, fr := enumF 0 ([netA n, .lst (boL sh), lI hm, lI gs]), hp := ([]) } o := by
 unfold hSeEn at h
 obtain ⟨a0, h⟩ := gu_inv h
 rcases br_inv h with ⟨a1, h⟩ | ⟨a1, h⟩
 ·
  cases h
  exact Arr.rt [41] [] [(19, hc (iv (hkE n sh hm)))] [] [] [] mix (by kernel_rfl) (aj (aj (u2 t3) (aj (u2 (u2 (u2 (aj (k3 (aj t9 (k2 (al (hcheck_ct a0 (sh) (hm)))))) s2)))) (aj (u2 (u2 s2)) (aj a1 (al (u2 (ak s2))))))) (al t3))
 ·
  obtain ⟨a2, h⟩ := gu_inv h
  rcases br_inv h with ⟨a3, h⟩ | ⟨a3, h⟩
  ·
   cases h
   exact Arr.rt [40, 49] [] [(19, hc (iv (hkE n sh hm))), (28, hc (AV.bool (isB n hm gs)))] [] [] [] mix (by kernel_rfl) (aj (aj (u2 t3) (aj (u2 (u2 (u2 (aj (k3 (aj t9 (k2 (al (hcheck_ct a0 (sh) (hm)))))) s2)))) (aj (u2 (u2 s2)) (aj a1 (aj (u2 (u2 (u2 (aj (k3 (aj t9 (k2 (al (inside_ct (n) (hm) (gs) a2))))) (u2 s2))))) (aj a3 (al t3))))))) (al t3))
  ·
   obtain ⟨a4, h⟩ := gu_inv h
   obtain ⟨a5, h⟩ := gu_inv h
   cases h
   exact Arr.loopE (H := hT (ds [40, 48]) [] [(19, hc (AV.int IntKind.i64 (hkE n sh hm))), (28, hc (AV.bool (isB n hm gs))), (33, Hint.call [] [1] [dB (List.replicate (List.map (AV.int IntKind.i64) hm).length (-1))] (AV.sl 0 0 (List.map (AV.int IntKind.i64) hm).length))]) (F := []) (n := 4000) (s' := St.mk 138 [(1, AV.lst (boL sh)), (2, AV.lst (List.map (AV.int IntKind.i64) hm)), (3, AV.lst (List.map (AV.int IntKind.i64) gs)), (4, AV.ptr 0 0 0), (11, AV.sl 1 0 (List.map (AV.int IntKind.i64) hm).length), (35, AV.int IntKind.i64 (iN (List.map (AV.int IntKind.i64) hm).length)), (36, AV.int IntKind.i64 0)] [some (Blk.mk [AV.agg [AV.lst (List.map bA n.bs), AV.lst (gL n.nx), AV.lst (List.map sA n.ss), AV.lst (List.map (AV.int IntKind.i64) n.rs), AV.int IntKind.i64 n.q, AV.int IntKind.i64 n.a, AV.int IntKind.i64 n.d, AV.int IntKind.i64 n.p]] 8 true true none), some (Blk.mk (List.map (AV.int IntKind.i64) (List.replicate (List.map (AV.int IntKind.i64) hm).length (-1))) 1 true true none)]) [] [0, 2] [] [1, 2, 3, 4, 11, 35, 36] mix (by kernel_rfl) (aj (aj (u2 t3) (aj (u2 (u2 (u2 (aj (k3 (aj t9 (k2 (al (hcheck_ct a0 (sh) (hm)))))) s2)))) (aj (u2 (u2 s2)) (aj a1 (aj (u2 (u2 (u2 (aj (k3 (aj t9 (k2 (al (inside_ct (n) (hm) (gs) a2))))) (u2 s2))))) (aj a3 (aj (ak (u2 (u2 (aj (k2 (aj (show nat_lit 1 = nat_lit 1 from rfl) (ak (aj (rep_ct ((List.map (AV.int IntKind.i64) hm).length) a4) a5)))) s2)))) (al (u2 (u2 t2)))))))))) (ak t9)) (by simp [iv, netA, tapeB, lstI, hSeSt, gL, boL, lI, sA, bA])
theorem hSeS0_ok (n : NetD) (sh : List Bool) (hm gs : List Int) (v0 : List Int) (v1 : Int) (o : hSePc ⊕ Ret) (h : hSeS0 n sh hm gs v0 v1 = some o) : Arr Try.prog Try.f62 0 (hSeSt n sh hm gs) hSeHd (headC Try.f62 0) (.rnd (headC Try.f62 0) :: headK Try.f62 0) (hSeSt n sh hm gs (.l0 v0 v1)) o := by
 unfold hSeS0 at h
 rcases br_inv h with ⟨a0, h⟩ | ⟨a0, h⟩
 ·
  obtain ⟨a1, h⟩ := gu_inv h
  obtain ⟨x42, a2, h⟩ := el_inv h
  rcases br_inv h with ⟨a3, h⟩ | ⟨a3, h⟩
  ·
   obtain ⟨a4, h⟩ := gu_inv h
   obtain ⟨a5, h⟩ := gu_inv h
   cases h
   exact Arr.loopE (H := hT (ds [75, 79]) [(42, AV.int IntKind.i64 x42)] []) (F := []) (n := 4000) (s' := St.mk 138 [(1, AV.lst (boL sh)), (2, AV.lst (List.map (AV.int IntKind.i64) hm)), (3, AV.lst (List.map (AV.int IntKind.i64) gs)), (4, AV.ptr 0 0 0), (11, AV.sl 1 0 v0.length), (35, AV.int IntKind.i64 (iN (List.map (AV.int IntKind.i64) hm).length)), (36, AV.int IntKind.i64 (IntKind.i64.wrap (v1 + 1)))] [some (Blk.mk [AV.agg [AV.lst (List.map bA n.bs), AV.lst (gL n.nx), AV.lst (List.map sA n.ss), AV.lst (List.map (AV.int IntKind.i64) n.rs), AV.int IntKind.i64 n.q, AV.int IntKind.i64 n.a, AV.int IntKind.i64 n.d, AV.int IntKind.i64 n.p]] 8 true true none), some (Blk.mk ((List.map (AV.int IntKind.i64) v0).set (0 + v1.toNat) (AV.int IntKind.i64 (-2))) 1 true true none)]) [] [0, 1] [] [1, 2, 3, 4, 11, 35, 36] mix (by kernel_rfl) (aj (aj (al t3) (aj a0 (aj (u2 s2) (aj (u2 (u2 (aj (k2 (aj a1 (getMap (f := AV.int IntKind.i64) a2))) (u2 (u2 s2))))) (aj a3 (aj (u2 (u2 (aj (k2 (aj a1 a4)) (al (ak a5))))) (al (u2 s2)))))))) (ak t9)) (by simp [iv, netA, tapeB, lstI, hSeSt, gL, boL, lI, sA, bA])
  ·
   obtain ⟨x51, a4, h⟩ := el_inv h
   rcases br_inv h with ⟨a5, h⟩ | ⟨a5, h⟩
   ·
    obtain ⟨x59, a6, h⟩ := el_inv h
    obtain ⟨a7, h⟩ := gu_inv h
    obtain ⟨a8, h⟩ := gu_inv h
    obtain ⟨a9, h⟩ := gu_inv h
    obtain ⟨a10, h⟩ := gu_inv h
    rcases br_inv h with ⟨a11, h⟩ | ⟨a11, h⟩
    ·
     obtain ⟨x67, a12, h⟩ := el_inv h
     obtain ⟨a13, h⟩ := gu_inv h
     obtain ⟨a14, h⟩ := gu_inv h
     cases h
     exact Arr.loopE (H := hT (ds [75, 78, 109, 97]) [(42, AV.int IntKind.i64 x42), (51, AV.int IntKind.i64 x51), (59, AV.int IntKind.i64 x59), (67, AV.int IntKind.i64 x67)] [(61, hc (AV.bool (odB n sh x59)))]) (F := []) (n := 4000) (s' := St.mk 138 [(1, AV.lst (boL sh)), (2, AV.lst (List.map (AV.int IntKind.i64) hm)), (3, AV.lst (List.map (AV.int IntKind.i64) gs)), (4, AV.ptr 0 0 0), (11, AV.sl 1 0 v0.length), (35, AV.int IntKind.i64 (iN (List.map (AV.int IntKind.i64) hm).length)), (36, AV.int IntKind.i64 (IntKind.i64.wrap (v1 + 1)))] [some (Blk.mk [AV.agg [AV.lst (List.map bA n.bs), AV.lst (gL n.nx), AV.lst (List.map sA n.ss), AV.lst (List.map (AV.int IntKind.i64) n.rs), AV.int IntKind.i64 n.q, AV.int IntKind.i64 n.a, AV.int IntKind.i64 n.d, AV.int IntKind.i64 n.p]] 8 true true none), some (Blk.mk ((List.map (AV.int IntKind.i64) v0).set (0 + v1.toNat) (AV.int IntKind.i64 x67)) 1 true true none)]) [] [0, 1] [] [1, 2, 3, 4, 11, 35, 36] mix (by kernel_rfl) (aj (aj (al t3) (aj a0 (aj (u2 s2) (aj (u2 (u2 (aj (k2 (aj a1 (getMap (f := AV.int IntKind.i64) a2))) (u2 (u2 s2))))) (aj a3 (aj (u2 (u2 (aj (k2 (aj a1 (getMap (f := AV.int IntKind.i64) a4))) (u2 (u2 (u2 (ag a5 (ag a5 (ag a5 (ag a5 (aj (aj a5 (k2 (aj a1 (getMap (f := AV.int IntKind.i64) a6)))) (ag a5 (aj (aj a5 (k3 (aj t9 (k2 (al (hopen_ct (n) (sh) (x59) a7 a8 a9 a10)))))) (ag a5 s2)))))))))))))) (aj a11 (aj (u2 (u2 (u2 (u2 (aj (k2 (aj a1 (getMap (f := AV.int IntKind.i64) a12))) (u2 (aj (k2 (aj a1 a13)) (al (k2 a14))))))))) (al (u2 s2)))))))))) (ak t9)) (by simp [iv, netA, tapeB, lstI, hSeSt, gL, boL, lI, sA, bA])
    ·
     cases h
     exact Arr.lp [75, 78, 109, 96] [(42, iv x42), (51, iv x51), (59, iv x59)] [(61, hc (AV.bool (odB n sh x59)))] [] [] [0, 1] [1, 2, 3, 4, 11, 35, 36] mix (by kernel_rfl) (aj (aj (al t3) (aj a0 (aj (u2 s2) (aj (u2 (u2 (aj (k2 (aj a1 (getMap (f := iv) a2))) (u2 (u2 s2))))) (aj a3 (aj (u2 (u2 (aj (k2 (aj a1 (getMap (f := iv) a4))) (u2 (u2 (u2 (ag a5 (ag a5 (ag a5 (ag a5 (aj (aj a5 (k2 (aj a1 (getMap (f := iv) a6)))) (ag a5 (aj (aj a5 (k3 (aj t9 (k2 (al (hopen_ct (n) (sh) (x59) a7 a8 a9 a10)))))) (ag a5 s2)))))))))))))) (aj a11 (al (u2 s2))))))))) (ak t9))
   ·
    cases h
    exact Arr.lp [75, 78, 108] [(42, iv x42), (51, iv x51)] [] [] [] [0, 1] [1, 2, 3, 4, 11, 35, 36] mix (by kernel_rfl) (aj (aj (al t3) (aj a0 (aj (u2 s2) (aj (u2 (u2 (aj (k2 (aj a1 (getMap (f := iv) a2))) (u2 (u2 s2))))) (aj a3 (aj (u2 (u2 (aj (k2 (aj a1 (getMap (f := iv) a4))) (u2 (u2 (u2 (aj a5 (aj a5 (aj a5 (aj a5 (aj a5 (aj a5 (aj a5 (ag a5 s2)))))))))))))) (ak (al (u2 s2))))))))) (ak t9))
 ·
  cases h
  exact Arr.lp [74] [] [] [] [] [0, 1] [1, 2, 4, 11, 72, 73] mix (by kernel_rfl) (aj (aj (al t3) (aj a0 (al (u2 (u2 t2))))) t9)
theorem hSeS1_ok (n : NetD) (sh : List Bool) (hm gs : List Int) (v0 : List Int) (v1 : Nat) (v2 : Int) (o : hSePc ⊕ Ret) (h : hSeS1 n sh hm gs v0 v1 v2 = some o) : Arr Try.prog Try.f62 0 (hSeSt n sh hm gs) hSeHd (headC Try.f62 1) (.rnd (headC Try.f62 1) :: headK Try.f62 1) (hSeSt n sh hm gs (.l1 v0 v1 v2)) o := by
 unfold hSeS1 at h
 rcases br_inv h with ⟨a0, h⟩ | ⟨a0, h⟩
 ·
  obtain ⟨a1, h⟩ := gu_inv h
  obtain ⟨a2, h⟩ := gu_inv h
  obtain ⟨x79, a3, h⟩ := el_inv h
  rcases br_inv h with ⟨a4, h⟩ | ⟨a4, h⟩
  ·
   obtain ⟨x84, a5, h⟩ := el_inv h
   rcases br_inv h with ⟨a6, h⟩ | ⟨a6, h⟩
   ·
    obtain ⟨x94, a7, h⟩ := el_inv h
    obtain ⟨a8, h⟩ := gu_inv h
    obtain ⟨a9, h⟩ := gu_inv h
    obtain ⟨a10, h⟩ := gu_inv h
    obtain ⟨a11, h⟩ := gu_inv h
    obtain ⟨a12, h⟩ := gu_inv h
    rcases br_inv h with ⟨a13, h⟩ | ⟨a13, h⟩
    ·
     obtain ⟨x103, a14, h⟩ := el_inv h
     obtain ⟨a15, h⟩ := gu_inv h
     cases h
     exact Arr.loopE (H := hT (ds [149, 163, 177, 197]) [(79, AV.int IntKind.i64 x79), (84, AV.int IntKind.i64 x84), (94, AV.int IntKind.i64 x94), (103, AV.int IntKind.i64 x103)] [(96, Hint.call [] [1] [] (AV.int IntKind.i64 (plZ n sh v0 x94)))]) (F := []) (n := 4000) (s' := St.mk 138 [(1, AV.lst (boL sh)), (2, AV.lst (List.map (AV.int IntKind.i64) hm)), (4, AV.ptr 0 0 0), (11, AV.sl 1 0 v0.length), (72, AV.int IntKind.i64 (iN v1)), (73, AV.int IntKind.i64 (IntKind.i64.wrap (v2 + 1)))] [some (Blk.mk [AV.agg [AV.lst (List.map bA n.bs), AV.lst (gL n.nx), AV.lst (List.map sA n.ss), AV.lst (List.map (AV.int IntKind.i64) n.rs), AV.int IntKind.i64 n.q, AV.int IntKind.i64 n.a, AV.int IntKind.i64 n.d, AV.int IntKind.i64 n.p]] 8 true true none), some (Blk.mk ((List.map (AV.int IntKind.i64) v0).set (0 + v2.toNat) (AV.int IntKind.i64 x103)) 1 true true none)]) [] [0, 1] [] [1, 2, 4, 11, 72, 73] mix (by kernel_rfl) (aj (aj (al t3) (aj a0 (aj (u2 s2) (aj (u2 (u2 (aj (k2 (aj a1 a2)) (aj (ak (getMap (f := AV.int IntKind.i64) a3)) (u2 (u2 (ag a4 (ag a4 (aj (aj a4 (k2 (aj a1 (getMap (f := AV.int IntKind.i64) a5)))) (ag a4 (ag a4 (ag a4 (u2 (ag a6 (ag a6 (ag a6 (ag a6 (ag a6 (aj (aj a6 (k2 (aj a1 (getMap (f := AV.int IntKind.i64) a7)))) (ag a6 (aj (aj a6 (ak (k3 (aj t9 (ak (aj (show v0.length = (List.map (AV.int IntKind.i64) v0).length by simp) (ak (aj (hfree_ct (n) (sh) (v0) (x94) a8 a9 a10 a11 a12) (show ∀ (blk : Blk), blk ∈ [] → ImmB blk from (by intro _ h; cases h)))))))))) (ag a6 (al (aj a6 t2)))))))))))))))))))))))) (aj a13 (aj (u2 (u2 (u2 (u2 (aj (k2 (aj a1 (getMap (f := AV.int IntKind.i64) a14))) (u2 (aj (k2 (aj a1 a2)) (al (k2 a15))))))))) (al (u2 s2)))))))) t9) (by simp [iv, netA, tapeB, lstI, hSeSt, gL, boL, lI, sA, bA])
    ·
     cases h
     exact Arr.lp [149, 163, 177, 196] [(79, iv x79), (84, iv x84), (94, iv x94)] [(96, Hint.call [] [1] [] (iv (plZ n sh v0 x94)))] [] [] [0, 1] [1, 2, 4, 11, 72, 73] mix (by kernel_rfl) (aj (aj (al t3) (aj a0 (aj (u2 s2) (aj (u2 (u2 (aj (k2 (aj a1 a2)) (aj (ak (getMap (f := iv) a3)) (u2 (u2 (ag a4 (ag a4 (aj (aj a4 (k2 (aj a1 (getMap (f := iv) a5)))) (ag a4 (ag a4 (ag a4 (u2 (ag a6 (ag a6 (ag a6 (ag a6 (ag a6 (aj (aj a6 (k2 (aj a1 (getMap (f := iv) a7)))) (ag a6 (aj (aj a6 (ak (k3 (aj t9 (ak (aj (show v0.length = (List.map (iv) v0).length by simp) (ak (aj (hfree_ct (n) (sh) (v0) (x94) a8 a9 a10 a11 a12) (show ∀ (blk : Blk), blk ∈ [] → ImmB blk from (by intro _ h; cases h)))))))))) (ag a6 (al (aj a6 t2)))))))))))))))))))))))) (aj a13 (al (u2 s2))))))) t9)
   ·
    cases h
    exact Arr.lp [149, 163, 176] [(79, iv x79), (84, iv x84)] [] [] [] [0, 1] [1, 2, 4, 11, 72, 73] mix (by kernel_rfl) (aj (aj (al t3) (aj a0 (aj (u2 s2) (aj (u2 (u2 (aj (k2 (aj a1 a2)) (aj (ak (getMap (f := iv) a3)) (u2 (u2 (ag a4 (ag a4 (aj (aj a4 (k2 (aj a1 (getMap (f := iv) a5)))) (ag a4 (ag a4 (ag a4 (u2 (aj a6 (aj a6 (aj a6 (aj a6 (aj a6 (aj a6 (aj a6 (aj a6 (aj a6 (al (aj a6 t2)))))))))))))))))))))))) (ak (al (u2 s2))))))) t9)
  ·
   cases h
   exact Arr.lp [149, 162] [(79, iv x79)] [] [] [] [0, 1] [1, 2, 4, 11, 72, 73] mix (by kernel_rfl) (aj (aj (al t3) (aj a0 (aj (u2 s2) (aj (u2 (u2 (aj (k2 (aj a1 a2)) (aj (ak (getMap (f := iv) a3)) (u2 (u2 (aj a4 (aj a4 (aj a4 (aj a4 (aj a4 (ag a4 (u2 (ak (k3 (k5 (al t3))))))))))))))))) (ak (al (u2 s2))))))) t9)
 ·
  cases h
  exact Arr.lp [148] [] [] [] [] [0, 1] [1, 4, 11, 108, 109] mix (by kernel_rfl) (aj (aj (al t3) (aj a0 (al (u2 (u2 t2))))) t8)
theorem hSeS2_ok (n : NetD) (sh : List Bool) (hm gs : List Int) (v0 : List Int) (v1 : Nat) (v2 : Int) (o : hSePc ⊕ Ret) (h : hSeS2 n sh hm gs v0 v1 v2 = some o) : Arr Try.prog Try.f62 0 (hSeSt n sh hm gs) hSeHd (headC Try.f62 2) (.rnd (headC Try.f62 2) :: headK Try.f62 2) (hSeSt n sh hm gs (.l2 v0 v1 v2)) o := by
 unfold hSeS2 at h
 rcases br_inv h with ⟨a0, h⟩ | ⟨a0, h⟩
 ·
  cases h
  exact Arr.lp [221] [] [] [] [] [0, 1] [1, 4, 11, 14, 108, 109, 114, 115] mix (by kernel_rfl) (aj (aj (al t3) (aj a0 (aj (u2 s2) (al (u2 (u2 (u2 t2))))))) (k2 t9))
 ·
  cases h
  exact Arr.rt [220] [] [] [] [] [1] mix (by kernel_rfl) (aj (aj (al t3) (aj a0 (al (u2 (u2 t2))))) (al (aj (show v0.length = (List.map (iv) v0).length by simp) t2)))
theorem hSeS3_ok (n : NetD) (sh : List Bool) (hm gs : List Int) (v0 : List Int) (v1 : Int) (v2 : Nat) (v3 : Int) (o : hSePc ⊕ Ret) (h : hSeS3 n sh hm gs v0 v1 v2 v3 = some o) : Arr Try.prog Try.f62 0 (hSeSt n sh hm gs) hSeHd (headC Try.f62 3) (.rnd (headC Try.f62 3) :: headK Try.f62 3) (hSeSt n sh hm gs (.l3 v0 v1 v2 v3)) o := by
 unfold hSeS3 at h
 rcases br_inv h with ⟨a0, h⟩ | ⟨a0, h⟩
 ·
  obtain ⟨a1, h⟩ := gu_inv h
  obtain ⟨a2, h⟩ := gu_inv h
  obtain ⟨x121, a3, h⟩ := el_inv h
  rcases br_inv h with ⟨a4, h⟩ | ⟨a4, h⟩
  ·
   obtain ⟨a5, h⟩ := gu_inv h
   obtain ⟨a6, h⟩ := gu_inv h
   obtain ⟨a7, h⟩ := gu_inv h
   obtain ⟨a8, h⟩ := gu_inv h
   obtain ⟨a9, h⟩ := gu_inv h
   rcases br_inv h with ⟨a10, h⟩ | ⟨a10, h⟩
   ·
    obtain ⟨a11, h⟩ := gu_inv h
    cases h
    exact Arr.loopE (H := hT (ds [233, 247, 261]) [(121, AV.int IntKind.i64 x121)] [(128, Hint.call [] [1] [] (AV.int IntKind.i64 (plZ n sh v0 v3)))]) (F := []) (n := 4000) (s' := St.mk 138 [(1, AV.lst (boL sh)), (4, AV.ptr 0 0 0), (11, AV.sl 1 0 v0.length), (14, AV.int IntKind.i64 v1), (108, AV.int IntKind.i64 (iN v2)), (109, AV.int IntKind.i64 v1), (114, AV.int IntKind.i64 (iN (List.map sA n.ss).length)), (115, AV.int IntKind.i64 (IntKind.i64.wrap (v3 + 1)))] [some (Blk.mk [AV.agg [AV.lst (List.map bA n.bs), AV.lst (gL n.nx), AV.lst (List.map sA n.ss), AV.lst (List.map (AV.int IntKind.i64) n.rs), AV.int IntKind.i64 n.q, AV.int IntKind.i64 n.a, AV.int IntKind.i64 n.d, AV.int IntKind.i64 n.p]] 8 true true none), some (Blk.mk ((List.map (AV.int IntKind.i64) v0).set (0 + v1.toNat) (AV.int IntKind.i64 v3)) 1 true true none)]) [] [0, 1] [] [1, 4, 11, 14, 108, 109, 114, 115] mix (by kernel_rfl) (aj (aj (al t3) (aj a0 (aj (u2 s2) (aj (u2 (u2 (aj (k2 (aj a1 a2)) (aj (ak (getMap (f := AV.int IntKind.i64) a3)) (u2 (u2 (ag a4 (ag a4 (ag a4 (ag a4 (aj (aj a4 (ak (k3 (aj t9 (ak (aj (show v0.length = (List.map (AV.int IntKind.i64) v0).length by simp) (ak (aj (hfree_ct (n) (sh) (v0) (v3) a5 a6 a7 a8 a9) (show ∀ (blk : Blk), blk ∈ [] → ImmB blk from (by intro _ h; cases h)))))))))) (ag a4 (al (aj a4 t2)))))))))))))) (aj a10 (aj (u2 (u2 (u2 (aj (k2 (aj a1 a2)) (al (k2 a11)))))) (al (u2 s2)))))))) (k2 t9)) (by simp [iv, netA, tapeB, lstI, hSeSt, gL, boL, lI, sA, bA])
   ·
    cases h
    exact Arr.lp [233, 247, 260] [(121, iv x121)] [(128, Hint.call [] [1] [] (iv (plZ n sh v0 v3)))] [] [] [0, 1] [1, 4, 11, 14, 108, 109, 114, 115] mix (by kernel_rfl) (aj (aj (al t3) (aj a0 (aj (u2 s2) (aj (u2 (u2 (aj (k2 (aj a1 a2)) (aj (ak (getMap (f := iv) a3)) (u2 (u2 (ag a4 (ag a4 (ag a4 (ag a4 (aj (aj a4 (ak (k3 (aj t9 (ak (aj (show v0.length = (List.map (iv) v0).length by simp) (ak (aj (hfree_ct (n) (sh) (v0) (v3) a5 a6 a7 a8 a9) (show ∀ (blk : Blk), blk ∈ [] → ImmB blk from (by intro _ h; cases h)))))))))) (ag a4 (al (aj a4 t2)))))))))))))) (aj a10 (al (u2 s2))))))) (k2 t9))
  ·
   cases h
   exact Arr.lp [233, 246] [(121, iv x121)] [] [] [] [0, 1] [1, 4, 11, 14, 108, 109, 114, 115] mix (by kernel_rfl) (aj (aj (al t3) (aj a0 (aj (u2 s2) (aj (u2 (u2 (aj (k2 (aj a1 a2)) (aj (ak (getMap (f := iv) a3)) (u2 (u2 (aj a4 (aj a4 (aj a4 (aj a4 (aj a4 (aj a4 (al (aj a4 t2)))))))))))))) (ak (al (u2 s2))))))) (k2 t9))
 ·
  cases h
  exact Arr.lp [232] [] [] [] [] [0, 1] [1, 4, 11, 108, 109] mix (by kernel_rfl) (aj (aj (al t3) (aj a0 (al (u2 s2)))) t8)
theorem hSe_ct (n : NetD) (sh : List Bool) (hm gs : List Int) (r : Ret) (h : MReach (hSeStep n sh hm gs) (hSeEn n sh hm gs) r) : CT Try.prog 62 ([]) ([netA n, .lst (boL sh), lI hm, lI gs]) r.1 r.2 :=
  CT.mach (fn := Try.f62) (c := bodyOf Try.f62) (S := hSeSt n sh hm gs) (hd := hSeHd) Try.func62 (by kernel_rfl) (Nat.le_of_ble_eq_true rfl)
    (fun s o ho => match s, ho with
      | .l0 v0 v1, ho => hSeS0_ok n sh hm gs v0 v1 o ho
      | .l1 v0 v1 v2, ho => hSeS1_ok n sh hm gs v0 v1 v2 o ho
      | .l2 v0 v1 v2, ho => hSeS2_ok n sh hm gs v0 v1 v2 o ho
      | .l3 v0 v1 v2 v3, ho => hSeS3_ok n sh hm gs v0 v1 v2 v3 o ho
    )
    (fun o ho => hSeEn_ok n sh hm gs o ho) h
theorem dBi (l : List Int) : ∀ blk ∈ [dB l], ImmB blk := fun b hb => by
  rw [List.mem_singleton.1 hb]
  intro e he c hc
  obtain ⟨x, _, rfl⟩ := List.mem_map.1 he
  rw [List.mem_singleton.1 hc]; rfl
theorem setZ_eq (n : NetD) (sh : List Bool) (hm gs : List Int) : F1 n sh hm gs (-1) hm.length = F2 n sh hm gs 0 := F1_full
theorem hSettle_ct {n : NetD} (hrw : Rows n.nx) (sh : List Bool) (hm gs : List Int) : CT Try.prog 62 [] [netA n, .lst (boL sh), lI hm, lI gs] [] (.tup [lI (setL n sh hm gs), .int .i64 (setE n sh hm gs)]) := by
  have key : ∀ r : Ret, MReach (hSeStep n sh hm gs) (hSeEn n sh hm gs) r → CT Try.prog 62 [] [netA n, .lst (boL sh), lI hm, lI gs] r.1 (wkV r.2) := fun r h => (hSe_ct n sh hm gs r h).wk
  by_cases h : hkE n sh hm = 0
  case neg =>
    have hE : setE n sh hm gs = hkE n sh hm := by unfold setE; rw [if_neg h]
    unfold setL
    rw [hE, if_neg h]
    refine key ([], .tup [.nils, .int .i64 (hkE n sh hm)]) (.val ?_)
    unfold hSeEn
    rw [gu_t hrw, br_t (by simpa using h)]
  obtain ⟨hv, h8, hh, hl⟩ := hkE_zero h
  cases hg : isB n hm gs with
  | false =>
    have hE : setE n sh hm gs = 19 := by unfold setE; rw [if_pos h, hg, if_neg (by simp)]
    unfold setL
    rw [hE, if_neg (by omega)]
    refine key ([], .tup [.nils, .int .i64 19]) (.val ?_)
    unfold hSeEn
    rw [gu_t hrw, br_f (by simp [h]), gu_t (by omega), br_t (by rw [hg]; rfl)]
  | true =>
  have hE : setE n sh hm gs = 0 := by unfold setE; rw [if_pos h, hg, if_pos rfl]
  unfold setL
  rw [hE, if_pos rfl]
  refine key ([], .tup [lI (setZ n sh hm gs), .int .i64 0]) ?_
  have ns := hv.ns
  obtain ⟨hgl, hga⟩ : gs.length = hm.length ∧ ∀ x ∈ gs, inB n x = true := by
    unfold isB at hg; simp only [Bool.and_eq_true, beq_iff_eq, List.all_eq_true] at hg; exact hg
  have hhm : ∀ x ∈ hm, hmB n x = true := by simpa using hh
  have dpr : ∀ x, dpB n x = true → 0 ≤ x ∧ x < n.ss.length := fun x h => by
    by_cases a : x < 0
    · rw [dpB_out (.inl a)] at h; cases h
    · by_cases b : (n.ss.length : Int) ≤ x
      · rw [dpB_out (.inr b)] at h; cases h
      · omega
  have nw : ∀ i : Nat, i ≤ 1000 → IntKind.i64.wrap ((i : Int) + 1) = ((i + 1 : Nat) : Int) := fun i h => wrap_nat i (by omega)
  have lsm : iN (List.map (AV.int IntKind.i64) hm).length = hm.length := by simp [iN]
  unfold hSeEn
  rw [gu_t hrw, br_f (by simp [h]), gu_t (by omega), br_f (by rw [hg]; rfl), gu_t (by rw [List.length_map]; exact h8), gu_t (dBi _), List.length_map, ← F1_zero (n := n) (sh := sh) (hm := hm) (gs := gs)]
  refine loop_up (fun i => hSePc.l0 (F1 n sh hm gs (-1) i) (i : Int)) hm.length (fun i hi hr => .to ?_ hr) (.to (show _ = some (.inl (.l1 (F2 n sh hm gs 0) hm.length 0)) from ?_) ?_)
  · show hSeS0 n sh hm gs _ i = _
    have hx := getZ hi
    have hy := getZ (show i < gs.length by omega)
    unfold hSeS0
    have e0 : (0 + i).succ.le ((F1 n sh hm gs (-1) i).map (AV.int .i64)).length := by rw [List.length_map, F1_len]; show 0 + i + 1 ≤ _; omega
    have e1 : (i : Int) < iN (F1 n sh hm gs (-1) i).length := by simp only [iN, F1_len]; omega
    rw [br_t (dec_t (by rw [lsm]; omega)), gu_t (by omega), Int.toNat_natCast, el_t hx, nw i (by omega)]
    simp only [Nat.zero_add] at e0 ⊢
    have fs := F1_set (n := n) (sh := sh) (gs := gs) (b := -1) hi
    have skip : p1 n sh hm gs i = -1 → F1 n sh hm gs (-1) i = F1 n sh hm gs (-1) (i + 1) := fun e => by
      rw [← fs, e]
      apply List.ext_getElem
      · simp
      · intro j h1 h2
        rw [List.getElem_set]
        split
        · rename_i ej; subst ej; simp [F1]
        · rfl
    by_cases h1 : (hm.getD i 0 == -2) = true
    · have : p1 n sh hm gs i = -2 := by unfold p1; rw [if_pos h1]
      rw [br_t h1, gu_t e1, gu_t e0]
      rw [this] at fs; rw [fs]
    · rw [br_f (by simpa using h1)]
      simp only [el_t hy]
      by_cases h2 : 0 ≤ gs.getD i 0
      · have hin := hga _ (List.mem_of_getElem? hy)
        have hd : dpB n (gs.getD i 0) = true := by
          unfold inB at hin
          rw [show (gs.getD i 0 == -1) = false by simp only [beq_eq_false_iff_ne]; omega, Bool.false_or] at hin
          exact hin
        have ho' : odB n sh (gs.getD i 0) = opB n sh (gs.getD i 0) := by unfold odB; rw [hd, Bool.and_true]
        rw [br_t (dec_t h2), gu_t hrw, gu_t hv, gu_t hl, gu_t (dpr _ hd), ho']
        cases ho : opB n sh (gs.getD i 0) with
        | true =>
          have : p1 n sh hm gs i = gs.getD i 0 := by unfold p1; rw [if_neg h1, if_pos (by rw [ho, dec_t h2]; rfl)]
          rw [br_t rfl, gu_t e1, gu_t e0]
          rw [this] at fs; rw [fs]
        | false => rw [br_f rfl, skip (by unfold p1; rw [if_neg h1, if_neg (by rw [ho]; simp)])]
      · rw [br_f (dec_f h2), skip (by unfold p1; rw [if_neg h1, if_neg (by rw [dec_f h2]; simp)])]
  · show hSeS0 n sh hm gs _ hm.length = _
    unfold hSeS0
    rw [br_f (dec_f (by rw [lsm]; omega)), F1_len, setZ_eq]
  refine loop_up (fun i => hSePc.l1 (F2 n sh hm gs i) hm.length (i : Int)) hm.length (fun i hi hr => .to ?_ hr) (.to (show _ = some (.inl (.l2 (F3 n sh hm gs 0) hm.length 0)) from ?_) ?_)
  · show hSeS1 n sh hm gs _ _ i = _
    have hx := getZ hi
    have hy := getZ (l := F2 n sh hm gs i) (i := i) (by rw [F2_len]; exact hi)
    unfold hSeS1
    rw [br_t (dec_t (by simp only [iN]; omega)), gu_t (by omega), gu_t (by simp only [iN, F2_len]; omega), Int.toNat_natCast, Nat.zero_add, el_t hy, nw i (by omega)]
    simp only [el_t hx]
    show _ = some (Sum.inl (hSePc.l1 (st2 n sh hm (F2 n sh hm gs i) i) hm.length ((i + 1 : Nat) : Int)))
    unfold st2
    cases h1 : (F2 n sh hm gs i).getD i 0 == -1 with
    | false => rw [br_f rfl]; rfl
    | true =>
      rw [br_t rfl]
      by_cases h2 : 0 ≤ hm.getD i 0
      · have hin := hhm _ (List.mem_of_getElem? hx)
        have hd : dpB n (hm.getD i 0) = true := by
          unfold hmB at hin
          rw [show (hm.getD i 0 == -1) = false by simp only [beq_eq_false_iff_ne]; omega, show (hm.getD i 0 == -2) = false by simp only [beq_eq_false_iff_ne]; omega] at hin
          exact hin
        rw [br_t (dec_t h2), gu_t hrw, gu_t hv, gu_t hl, gu_t (dpr _ hd), gu_t (by rw [F2_len]; omega), dec_t h2]
        by_cases h3 : 0 < plZ n sh (F2 n sh hm gs i) (hm.getD i 0)
        · rw [br_t (dec_t h3), dec_t h3, gu_t (by rw [List.length_map, F2_len]; show i + 1 ≤ _; omega)]; rfl
        · rw [br_f (dec_f h3), dec_f h3]; rfl
      · rw [br_f (dec_f h2), dec_f h2]; rfl
  · show hSeS1 n sh hm gs _ _ hm.length = _
    unfold hSeS1
    rw [br_f (dec_f (by simp only [iN]; omega)), F2_len]; rfl
  refine loop_up (fun i => hSePc.l2 (F3 n sh hm gs i) hm.length (i : Int)) hm.length (fun i hi hr => ?_) (.to ?_ (.ret _))
  · refine .to (show hSeS2 n sh hm gs _ _ i = some (.inl (.l3 (G3 n sh i (F3 n sh hm gs i) 0) (i : Int) hm.length ((0 : Nat) : Int))) from ?_) ?_
    · unfold hSeS2
      rw [br_t (dec_t (by simp only [iN]; omega))]; rfl
    refine loop_up (fun k => hSePc.l3 (G3 n sh i (F3 n sh hm gs i) k) (i : Int) hm.length (k : Int)) n.ss.length (fun k hk hr2 => .to ?_ hr2) (.to ?_ hr)
    · have hy := getZ (l := G3 n sh i (F3 n sh hm gs i) k) (i := i) (by rw [G3_len, F3_len]; exact hi)
      show hSeS3 n sh hm gs _ i _ k = some (Sum.inl (hSePc.l3 (st3 n sh i (G3 n sh i (F3 n sh hm gs i) k) k) (i : Int) hm.length ((k + 1 : Nat) : Int)))
      unfold hSeS3
      rw [br_t (rngB hk), gu_t (by omega), gu_t (by simp only [iN, G3_len, F3_len]; omega), Int.toNat_natCast, Nat.zero_add, el_t hy, nw k (by omega)]
      unfold st3
      cases h1 : (G3 n sh i (F3 n sh hm gs i) k).getD i 0 == -1 with
      | false => rw [br_f rfl]; rfl
      | true =>
        rw [br_t rfl, gu_t hrw, gu_t hv, gu_t hl, gu_t (by simp only [iN]; omega), gu_t (by rw [G3_len, F3_len]; omega)]
        by_cases h3 : 0 < plZ n sh (G3 n sh i (F3 n sh hm gs i) k) (k : Int)
        · rw [br_t (dec_t h3), gu_t (by rw [List.length_map, G3_len, F3_len]; show i + 1 ≤ _; omega), dec_t h3]; rfl
        · rw [br_f (dec_f h3), dec_f h3]; rfl
    · show hSeS3 n sh hm gs _ i _ _ = _
      unfold hSeS3
      rw [rngE, nw i (by omega)]; rfl
  · show hSeS2 n sh hm gs _ _ hm.length = _
    unfold hSeS2
    rw [br_f (dec_f (by simp only [iN]; omega))]; rfl
theorem two_exP : ∃ n : NetD, n = ⟨[⟨⟨#[97]⟩, 0, 0⟩, ⟨⟨#[98]⟩, 0, 0⟩], [[1], [0]], [⟨⟨#[100]⟩, true, 0, 0, 2, 2⟩, ⟨⟨#[101]⟩, true, 1, 1, 2, 4⟩], [], 1, 0, 0, 1⟩ := ⟨_, rfl⟩
@[irreducible] noncomputable def twoN : NetD := Classical.choose two_exP
theorem twoN_eq : twoN = ⟨[⟨⟨#[97]⟩, 0, 0⟩, ⟨⟨#[98]⟩, 0, 0⟩], [[1], [0]], [⟨⟨#[100]⟩, true, 0, 0, 2, 2⟩, ⟨⟨#[101]⟩, true, 1, 1, 2, 4⟩], [], 1, 0, 0, 1⟩ := by unfold twoN; exact Classical.choose_spec two_exP
theorem two_ct : CT Try.prog 106 [] [] [] (netA twoN) := by
  rw [twoN_eq]
  have h0 := tw_ct _ (.val (show twEn = some (.inr _) by unfold twEn; exact rfl))
  unfold netA
  refine h0.less (LessC.agg ?_ ?_).2
  · rfl
  intro i c' h
  match i, h with
  | 0, h => cases h; exact ⟨_, rfl, .refl _⟩
  | 1, h => cases h; exact ⟨_, rfl, .refl _⟩
  | 2, h => cases h; exact ⟨_, rfl, .refl _⟩
  | 3, h => cases h; exact ⟨_, rfl, .nilL⟩
  | 4, h => cases h; exact ⟨_, rfl, .refl _⟩
  | 5, h => cases h; exact ⟨_, rfl, .refl _⟩
  | 6, h => cases h; exact ⟨_, rfl, .refl _⟩
  | 7, h => cases h; exact ⟨_, rfl, .refl _⟩
  | i + 8, h => simp at h
theorem twoN_rows : Rows twoN.nx := by
  rw [twoN_eq]
  intro v hv
  match v, hv with
  | 0, _ => decide
  | 1, _ => decide
  | v + 2, hv => simp at hv; try omega
theorem twoN_ok : ValidN twoN := by
  rw [twoN_eq]
  refine ⟨by decide +kernel, rfl, by decide, by decide, by decide +kernel, ?_, ?_, ?_, ?_, ?_⟩
  · intro i b h
    match i, h with
    | 0, h => cases h; exact ⟨by decide +kernel, by decide +kernel, by decide +kernel, by decide +kernel⟩
    | 1, h => cases h; exact ⟨by decide +kernel, by decide +kernel, by decide +kernel, by decide +kernel⟩
    | i + 2, h => simp at h
  · intro i s h
    match i, h with
    | 0, h => cases h; exact ⟨by decide +kernel, by decide +kernel, by decide +kernel, by decide +kernel, by decide +kernel⟩
    | 1, h => cases h; exact ⟨by decide +kernel, by decide +kernel, by decide +kernel, by decide +kernel, by decide +kernel⟩
    | i + 2, h => simp at h
  · decide +kernel
  · exact ⟨2, ⟨⟨#[100]⟩, true, 0, 0, 2, 2⟩, by simp, rfl, by decide, by decide⟩
  · intro i c h; simp at h
theorem twoN_cel : celN twoN = 6 := by rw [twoN_eq]; decide +kernel
theorem two_hk (sh : List Bool) (hm : List Int) (h1 : sh.length = 6) (h2 : hm.length ≤ 8) (h3 : hm.all (hmB twoN) = true) : hkE twoN sh hm = 0 := by
  unfold hkE
  rw [if_pos ⟨valB_iff.2 twoN_ok, h2, h3⟩, if_pos (by rw [h1, twoN_cel])]
theorem two_all : List.all [0, 0, 1] (hmB twoN) = true := by rw [twoN_eq]; decide +kernel
theorem kset_ct : CT Try.prog 62 [] [netA twoN, .lst (boL [true, false, false, false, false, false]), lI [0, 0, 1], lI [-1, -1, -1]] [] (.tup [lI [1, -1, 1], .int .i64 0]) := by
  have h := hSettle_ct (n := twoN) twoN_rows [true, false, false, false, false, false] [0, 0, 1] [-1, -1, -1]
  have e : setE twoN [true, false, false, false, false, false] [0, 0, 1] [-1, -1, -1] = 0 := by
    unfold setE
    rw [if_pos (two_hk _ _ rfl (by decide) two_all), if_pos (by rw [twoN_eq]; decide +kernel)]
  have z : setL twoN [true, false, false, false, false, false] [0, 0, 1] [-1, -1, -1] = [1, -1, 1] := by
    unfold setL
    rw [if_pos e]
    rw [twoN_eq]
    decide +kernel
  rw [e, z] at h
  exact h
theorem kfre_ct : CT Try.prog 60 [] [netA twoN, .lst (boL (List.replicate 6 false)), lI [0, 0, 1], .int .i64 1] [] (.tup [.int .i64 1, .int .i64 0]) := by
  have h := hFree_ct (n := twoN) twoN_rows (List.replicate 6 false) [0, 0, 1] 1
  have e : freE twoN (List.replicate 6 false) [0, 0, 1] 1 = 0 := by
    unfold freE
    rw [if_pos (two_hk _ _ rfl (by decide) two_all), if_neg (by rw [twoN_eq]; decide)]
  have z : freZ twoN (List.replicate 6 false) [0, 0, 1] 1 = 1 := by
    unfold freZ
    rw [if_pos e]
    rw [twoN_eq]
    decide +kernel
  rw [e, z] at h
  exact h
noncomputable def kwSt : Empty → St
  | x => x.elim
def kwHd : Empty → Nat
  | x => x.elim
noncomputable def kwEn : Option (Empty ⊕ Ret) :=
  some (.inr ([], AV.bool true))
noncomputable def kwStep : Empty → Option (Empty ⊕ Ret)
  | x => x.elim
theorem kwEn_ok (o : Empty ⊕ Ret) (h : kwEn = some o) : Arr Try.prog Try.f57 0 (kwSt) kwHd (bodyOf Try.f57) [] { n := Try.f57.ntmps, fr := enumF 0 ([]), hp := ([]) } o := by
 unfold kwEn at h
 cases h
 exact Arr.rt [] [(6, AV.lst []), (10, AV.lst []), (11, AV.lst []), (17, AV.lst []), (18, AV.lst []), (30, AV.lst [])] [(8, hc (netA twoN)), (12, hc (AV.tup [lI [1, -1, 1], iv 0])), (16, hc (netA twoN)), (19, hc (AV.tup [iv 1, iv 0])), (31, hc (AV.bool true))] [] [] [] mix (by kernel_rfl) (aj (u2 (aj (ak s2) (aj (aj (al (two_ct)) (u2 (k2 (aj (ak (k3 (aj t9 (k3 (al (kset_ct)))))) (u2 (u2 (u2 (u2 s2)))))))) (aj (aj (al (two_ct)) (aj (aj (show (0 : Int) ≤ (6 : Int) from (by first | exact Nat.le_of_ble_eq_true rfl | decide)) (aj (show (6 : Int) ≤ (6 : Int) from (by first | exact Nat.le_of_ble_eq_true rfl | decide)) (aj (show (6 : Int) ≤ (281474976710656 : Int) from (by first | exact Nat.le_of_ble_eq_true rfl | decide)) (show (6 : Int) ≤ (9223372036854775807 : Int) from (by first | exact Nat.le_of_ble_eq_true rfl | decide))))) (ak (aj (k3 (aj t9 (k3 (al (kfre_ct))))) (u2 (u2 (u2 (u2 s2)))))))) (al (u2 (u2 (u2 (aj t3 (aj t3 (aj t3 (u2 (aj t3 (u2 (aj (k5 (al (sameInts_ct ([1, -1, 1]) (show [(1 : Int), (-1 : Int), (1 : Int)].length ≤ (1000000 : Nat) from (by first | exact Nat.le_of_ble_eq_true rfl | decide))))) (aj t3 (u2 (aj t3 (aj t3 (aj t3 s2)))))))))))))))))))) t2)
theorem kw_ct (r : Ret) (h : MReach (kwStep) (kwEn) r) : CT Try.prog 57 ([]) ([]) r.1 r.2 :=
  CT.mach (fn := Try.f57) (c := bodyOf Try.f57) (S := kwSt) (hd := kwHd) Try.func57 (by kernel_rfl) (Nat.le_of_ble_eq_true rfl)
    (fun s o ho => match s, ho with
      | x, _ => x.elim)
    (fun o ho => kwEn_ok o ho) h
def cntI (l : List Int) (j : Nat) : Nat := (l.filter (fun y => y == (j : Int))).length
structure HmI (n : NetD) (h g : List Int) : Prop where
  h8 : h.length ≤ 8
  gl : g.length = h.length
  hh : ∀ x ∈ h, hmB n x = true
  gg : ∀ y ∈ g, inB n y = true
  ct : ∀ (j : Nat) (s : SpuD), n.ss[j]? = some s → (cntI g j : Int) ≤ s.k
theorem cntI_none (l : List Int) (j : Nat) : cntI (l ++ [-1]) j = cntI l j := by
  unfold cntI
  rw [List.filter_append, List.length_append]
  have : ((-1 : Int) == (j : Int)) = false := by simp <;> omega
  simp [List.filter, this]
theorem cntI_add (l : List Int) (i j : Nat) : cntI (l ++ [(i : Int)]) j = cntI l j + if i = j then 1 else 0 := by
  unfold cntI
  rw [List.filter_append, List.length_append]
  by_cases h : i = j
  · subst h; simp [List.filter]
  · have : ((i : Int) == (j : Int)) = false := by simp <;> omega
    simp [List.filter, this, h]
theorem depL_at {n : NetD} {x : Int} (h : x ∈ depL n) : ∃ (i : Nat) (s : SpuD), x = (i : Int) ∧ n.ss[i]? = some s ∧ s.dep = true := by
  unfold depL depI at h
  obtain ⟨i, hi, rfl⟩ := List.mem_map.1 h
  have h2 := (List.mem_filter.1 hi).2
  unfold isD at h2
  split at h2
  · rename_i s hs; exact ⟨i, s, rfl, hs, h2⟩
  · cases h2
theorem depL_hm {n : NetD} {x : Int} (h : x ∈ depL n) : dpB n x = true := by
  obtain ⟨i, s, rfl, hs, hd⟩ := depL_at h
  unfold dpB; rw [Int.toNat_natCast, hs, dec_t (by omega)]; exact hd
theorem depL_pos {n : NetD} (hn : LooseOk n) : 1 ≤ (depL n).length ∧ (depL n).length ≤ 6 := by
  have hl := hn.ln
  have h0 : (0 : Int) ∈ depL n := by
    unfold depL depI
    refine List.mem_map.2 ⟨0, List.mem_filter.2 ⟨List.mem_range.2 (by omega), ?_⟩, rfl⟩
    have hs := List.getElem?_eq_getElem (show 0 < n.ss.length by omega)
    unfold isD; rw [hs]; exact hn.d0 _ hs
  have h1 := depI_len n n.ss.length
  have h2 : 0 < (depL n).length := List.length_pos_of_mem h0
  unfold depL at *
  omega
theorem hmd_run {n : NetD} (hn : LooseOk n) {L : List Int} {kk : Nat} : ∀ (m : Nat) (h g left : List Int) (k : Nat), HmI n h g → h.length + m ≤ 8 → left.length = n.ss.length → (∀ (j : Nat) (s : SpuD), n.ss[j]? = some s → left[j]? = some (s.k - cntI g j)) → k + 10 * m ≤ 100000 →
    ∃ (h' g' : List Int) (k' : Nat), HmI n h' g' ∧ k' ≤ k + 3 * m ∧ MReach (hmdStep n L kk) (some (.inl (.l1 h g left (m : Int) k))) (([some (tapeB L k')], .tup [lI h', lI g']) : Ret) := by
  intro m
  have hp := depL_pos hn
  have hv := hn.v
  have ns := hv.ns
  have hln := hn.ln
  induction m with
  | zero =>
    intro h g left k hi hl hf hq hk
    refine ⟨h, g, k, hi, by omega, .to ?_ (.ret _)⟩
    show hmdS1 n L kk h g left 0 k = _
    unfold hmdS1
    rw [br_f (by simp)]; rfl
  | succ m ih =>
    intro h g left k hi hl hf hq hk
    have h8 := hi.h8
    have gl := hi.gl
    have w2 : IntKind.i64.wrap (iN (depL n).length + 2) = ((depL n).length : Int) + 2 := by simp only [iN]; exact wrapS _ (by omega) (by omega)
    have r0 := nextZ_rng L k (((depL n).length : Int) + 2) (by omega) (by omega)
    have r1 := nextZ_rng L (k + 1) (iN (depL n).length) (by simp only [iN]; omega) (by simp only [iN]; omega)
    have e1 : iN (depL n).length = ((depL n).length : Int) := rfl
    have w3 : IntKind.i64.wrap (nextZ L k (((depL n).length : Int) + 2) - 2) = nextZ L k (((depL n).length : Int) + 2) - 2 := wrapS _ (by omega) (by omega)
    have wm : IntKind.i64.wrap (((m + 1 : Nat) : Int) - 1) = (m : Int) := by rw [wrapS _ (by omega) (by omega)]; omega
    generalize hA : nextZ L k (((depL n).length : Int) + 2) - 2 = A at *
    generalize hB : nextZ L (k + 1) (iN (depL n).length) = B at *
    obtain ⟨d, hd⟩ : ∃ d, (depL n)[B.toNat]? = some d := ⟨_, List.getElem?_eq_getElem (by omega)⟩
    obtain ⟨j, s, rfl, hs, hsd⟩ := depL_at (List.mem_of_getElem? hd)
    have hjl := (List.getElem?_eq_some_iff.1 hs).1
    have hlj := hq j s hs
    have sb := hv.sb hs
    -- the second half, whatever the new home is
    have half : ∀ x : Int, hmB n x = true → ∃ (h' g' : List Int) (k' : Nat), HmI n h' g' ∧ k' ≤ k + 3 * (m + 1) ∧ MReach (hmdStep n L kk)
        (br (nextZ L (k + 1 + 1) 2 == 0)
    (gu (0 ≤ (j : Int)) <|
     gu ((j : Int) < iN left.length) <|
     el (left) (0 + (j : Int).toNat) fun (x73 : Int) =>
     br (decide (0 < x73))
     (el (left) (0 + (j : Int).toNat) fun (x79 : Int) =>
      gu ((0 + (j : Int).toNat).succ.le (List.map (AV.int IntKind.i64) left).length) <|
      gu ((List.map (AV.int IntKind.i64) g).length + [AV.int IntKind.i64 (j : Int)].length ≤ 9223372036854775807) <|
      gu (((List.map (AV.int IntKind.i64) g).length + [AV.int IntKind.i64 (j : Int)].length) * 8 ≤ 140737488355328) <|
      some (.inl (.l1 (h ++ [x]) (g ++ [(j : Int)]) (left.set (0 + (j : Int).toNat) (IntKind.i64.wrap (x79 - 1))) (IntKind.i64.wrap (((m + 1 : Nat) : Int) - 1)) (k + 1 + 1 + 1))))
     (gu ((List.map (AV.int IntKind.i64) g).length + 1 ≤ 9223372036854775807) <|
      gu (((List.map (AV.int IntKind.i64) g).length + 1) * 8 ≤ 140737488355328) <|
      some (.inl (.l1 (h ++ [x]) (g ++ [-1]) (left) (IntKind.i64.wrap (((m + 1 : Nat) : Int) - 1)) (k + 1 + 1 + 1)))))
    (gu ((List.map (AV.int IntKind.i64) g).length + 1 ≤ 9223372036854775807) <|
     gu (((List.map (AV.int IntKind.i64) g).length + 1) * 8 ≤ 140737488355328) <|
     some (.inl (.l1 (h ++ [x]) (g ++ [-1]) (left) (IntKind.i64.wrap (((m + 1 : Nat) : Int) - 1)) (k + 1 + 1 + 1))))) (([some (tapeB L k')], .tup [lI h', lI g']) : Ret) := by
      intro x hx
      have hh : ∀ y ∈ h ++ [x], hmB n y = true := fun y hy => by
        rcases List.mem_append.1 hy with h1 | h1
        · exact hi.hh y h1
        · rw [List.mem_singleton.1 h1]; exact hx
      have non : ∃ (h' g' : List Int) (k' : Nat), HmI n h' g' ∧ k' ≤ k + 3 * (m + 1) ∧ MReach (hmdStep n L kk) (some (.inl (.l1 (h ++ [x]) (g ++ [-1]) left (m : Int) (k + 1 + 1 + 1)))) (([some (tapeB L k')], .tup [lI h', lI g']) : Ret) := by
        obtain ⟨h', g', k', a, b, c⟩ := ih (h ++ [x]) (g ++ [-1]) left (k + 1 + 1 + 1) ⟨by simp; omega, by simp [gl], hh, fun y hy => by
            rcases List.mem_append.1 hy with h1 | h1
            · exact hi.gg y h1
            · rw [List.mem_singleton.1 h1]; rfl, fun j s hs => by rw [cntI_none]; exact hi.ct j s hs⟩ (by simp; omega) hf (fun j s hs => by rw [cntI_none]; exact hq j s hs) (by omega)
        exact ⟨h', g', k', a, by omega, c⟩
      rw [wm]
      cases hz : (nextZ L (k + 1 + 1) 2 == 0) with
      | false => rw [br_f rfl, gu_t (by simp; omega), gu_t (by simp; omega)]; exact non
      | true =>
        rw [br_t rfl, gu_t (by omega), gu_t (by simp only [iN]; omega), Int.toNat_natCast, Nat.zero_add, el_t hlj]
        by_cases hpos : 0 < s.k - (cntI g j : Int)
        · rw [br_t (dec_t hpos), el_t hlj, gu_t (by simp; omega), gu_t (by simp; omega), gu_t (by simp; omega), wrapS (s.k - (cntI g j : Int) - 1) (by omega) (by omega)]
          obtain ⟨h', g', k', a, b, c⟩ := ih (h ++ [x]) (g ++ [(j : Int)]) (left.set j (s.k - (cntI g j : Int) - 1)) (k + 1 + 1 + 1) ⟨by simp; omega, by simp [gl], hh, fun y hy => by
              rcases List.mem_append.1 hy with h1 | h1
              · exact hi.gg y h1
              · rw [List.mem_singleton.1 h1]; unfold inB; rw [depL_hm (List.mem_of_getElem? hd)]; simp, fun i t ht => by
              rw [cntI_add]
              by_cases hij : j = i
              · subst hij; rw [hs] at ht; cases ht; rw [if_pos rfl]; omega
              · rw [if_neg hij]; exact hi.ct i t ht⟩ (by simp; omega) (by simpa using hf) (fun i t ht => by
              rw [cntI_add]
              by_cases hij : j = i
              · subst hij; rw [hs] at ht; cases ht; rw [if_pos rfl, List.getElem?_set_self (by omega)]; congr 1; omega
              · rw [if_neg hij, List.getElem?_set_ne hij]; exact hq i t ht) (by omega)
          exact ⟨h', g', k', a, by omega, c⟩
        · rw [br_f (dec_f hpos), gu_t (by simp; omega), gu_t (by simp; omega)]; exact non
    have stp : hmdStep n L kk (.l1 h g left ((m + 1 : Nat) : Int) k) = hmdS1 n L kk h g left ((m + 1 : Nat) : Int) k := rfl
    unfold hmdS1 at stp
    rw [br_t (dec_t (by omega)), gu_t (by omega)] at stp
    simp only [List.length_map, w2, hA, w3, hB] at stp
    have hx2 : ¬ 0 ≤ A → hmB n A = true := fun h0 => by unfold hmB; rcases (show A = -1 ∨ A = -2 by omega) with h1 | h1 <;> rw [h1] <;> rfl
    by_cases h0 : 0 ≤ A
    · obtain ⟨c, hc⟩ : ∃ c, (depL n)[A.toNat]? = some c := ⟨_, List.getElem?_eq_getElem (by omega)⟩
      obtain ⟨h', g', k', a, b, c2⟩ := half c (by unfold hmB; rw [depL_hm (List.mem_of_getElem? hc)]; simp)
      refine ⟨h', g', k', a, b, .to ?_ c2⟩
      rw [stp, br_t (dec_t h0), gu_t h0, el_t hc, gu_t (by simp; omega), gu_t (by simp; omega), gu_t (by omega), gu_t (by omega), el_t hd, gu_t (by omega)]
      simp only [List.length_map]
    · obtain ⟨h', g', k', a, b, c2⟩ := half A (hx2 h0)
      refine ⟨h', g', k', a, b, .to ?_ c2⟩
      rw [stp, br_f (dec_f h0), gu_t (by simp; omega), gu_t (by simp; omega), gu_t (by omega), gu_t (by omega), el_t hd, gu_t (by omega)]
      simp only [List.length_map]
theorem hmd_fill {n : NetD} (hn : LooseOk n) {L : List Int} {kk : Nat} (hk : kk ≤ 50000) : ∀ (r i : Nat) (v : List Int), i + r = n.ss.length → v.length = n.ss.length → (∀ (j : Nat) (s : SpuD), j < i → n.ss[j]? = some s → v[j]? = some s.k) →
    ∃ (h' g' : List Int) (k' : Nat), HmI n h' g' ∧ k' ≤ kk + 30 ∧ MReach (hmdStep n L kk) (some (.inl (.l0 v (i : Int)))) (([some (tapeB L k')], .tup [lI h', lI g']) : Ret) := by
  intro r
  have ns := hn.v.ns
  induction r with
  | zero =>
    intro i v hi hl hf
    have rg := nextZ_rng L kk 9 (by omega) (by omega)
    obtain ⟨q, hq⟩ : ∃ q : Nat, nextZ L kk 9 = q := ⟨(nextZ L kk 9).toNat, by omega⟩
    obtain ⟨h', g', k', a, b, c⟩ := hmd_run hn (L := L) (kk := kk) q [] [] v (kk + 1) ⟨by simp, rfl, (fun x hx => by cases hx), (fun x hx => by cases hx), fun j s hs => by have := hn.v.sb hs; show ((0 : Nat) : Int) ≤ s.k; omega⟩ (by simp; omega) hl (fun j s hs => by rw [hf j s (by have := (List.getElem?_eq_some_iff.1 hs).1; omega) hs]; show some s.k = some (s.k - ((0 : Nat) : Int)); simp) (by omega)
    refine ⟨h', g', k', a, by omega, .to ?_ c⟩
    show hmdS0 n L kk v i = _
    unfold hmdS0
    rw [br_f (by simp [iN]; omega), gu_t (by omega), hq]
  | succ r ih =>
    intro i v hi hl hf
    obtain ⟨s, hs⟩ : ∃ s, n.ss[i]? = some s := ⟨_, List.getElem?_eq_getElem (by omega)⟩
    obtain ⟨h', g', k', a, b, c⟩ := ih (i + 1) (v.set i s.k) (by omega) (by simpa using hl) (fun j t hj ht => by
      by_cases hij : i = j
      · subst hij; rw [hs] at ht; cases ht; rw [List.getElem?_set_self (by omega)]
      · rw [List.getElem?_set_ne hij]; exact hf j t (by omega) ht)
    refine ⟨h', g', k', a, b, .to ?_ c⟩
    show hmdS0 n L kk v i = _
    unfold hmdS0
    rw [rngS hs, gu_t (by simp only [iN]; omega), gu_t (by simp; omega), wrap_nat i (by omega), Int.toNat_natCast, Nat.zero_add]
theorem hmd_exP (n : NetD) (L : List Int) (kk : Nat) : ∃ p : List Int × List Int × Nat, LooseOk n → kk ≤ 50000 → HmI n p.1 p.2.1 ∧ p.2.2 ≤ kk + 30 ∧ CT Try.prog 59 [some (tapeB L kk)] [.ptr 0 0 0, netA n] [some (tapeB L p.2.2)] (.tup [lI p.1, lI p.2.1]) := by
  by_cases h : LooseOk n ∧ kk ≤ 50000
  · obtain ⟨x, y, k, a, b, c⟩ := hmd_fill h.1 h.2 (L := L) n.ss.length 0 (List.replicate n.ss.length 0) (by omega) (by simp) (fun j s hj _ => by omega)
    refine ⟨(x, y, k), fun _ _ => ⟨a, b, hmd_ct n L kk ([some (tapeB L k)], .tup [lI x, lI y]) (MReach.eq ?_ c)⟩⟩
    have ns := h.1.v.ns
    unfold hmdEn
    rw [gu_t ns, gu_t (by simp [iN]; omega), gu_t (by simp [iN]; omega), List.length_map]; rfl
  · exact ⟨([], [], 0), fun a b => absurd ⟨a, b⟩ h⟩
@[irreducible] noncomputable def hmdH (n : NetD) (L : List Int) (kk : Nat) : List Int := (Classical.choose (hmd_exP n L kk)).1
@[irreducible] noncomputable def hmdG (n : NetD) (L : List Int) (kk : Nat) : List Int := (Classical.choose (hmd_exP n L kk)).2.1
@[irreducible] noncomputable def hmdK (n : NetD) (L : List Int) (kk : Nat) : Nat := (Classical.choose (hmd_exP n L kk)).2.2
theorem hmd_spec {n : NetD} {L : List Int} {kk : Nat} (h : LooseOk n) (hk : kk ≤ 50000) : HmI n (hmdH n L kk) (hmdG n L kk) ∧ hmdK n L kk ≤ kk + 30 ∧ CT Try.prog 59 [some (tapeB L kk)] [.ptr 0 0 0, netA n] [some (tapeB L (hmdK n L kk))] (.tup [lI (hmdH n L kk), lI (hmdG n L kk)]) :=
  by unfold hmdH hmdG hmdK; exact Classical.choose_spec (hmd_exP n L kk) h hk
theorem hmade_ct (n : NetD) (L : List Int) (kk : Nat) (h : LooseOk n) (hk : kk ≤ 50000) : CT Try.prog 59 [some (tapeB L kk)] [.ptr 0 0 0, netA n] [some (tapeB L (hmdK n L kk))] (.tup [lI (hmdH n L kk), lI (hmdG n L kk)]) := (hmd_spec h hk).2.2
theorem hknown_ct : CT Try.prog 57 [] [] [] (.bool true) := by
  refine kw_ct ([], _) (.val ?_)
  unfold kwEn
  rfl
inductive hSwPc where
  | l0 (v0 : List Bool) (v1 : List Int) (v2 : List Int) (v3 : Int) (v4 : Int) (v5 : NetD) (v6 : Nat)
noncomputable def hSwSt (n : NetD) (sh : List Bool) (hm gs : List Int) (w : Int) (l : List Int) : hSwPc → St
  | .l0 v0 v1 v2 v3 v4 v5 v6 => St.mk 104 [(1, AV.lst (List.map AV.bool v0)), (2, AV.lst (List.map (iv) v1)), (3, AV.lst (List.map (iv) v2)), (4, iv v3), (6, AV.ptr 0 0 0), (13, AV.ptr 1 0 0), (14, iv v4)] [some (Blk.mk [AV.agg [AV.lst (List.map bA v5.bs), AV.lst (List.map lI v5.nx), AV.lst (List.map sA v5.ss), AV.lst (List.map (iv) v5.rs), iv v5.q, iv v5.a, iv v5.d, iv v5.p]] 8 true true none), some (tapeB l v6)]
def hSwHd : hSwPc → Nat
  | .l0 _ _ _ _ _ _ _ => 0
noncomputable def hSwEn (n : NetD) (sh : List Bool) (hm gs : List Int) (w : Int) (l : List Int) : Option (hSwPc ⊕ Ret) :=
  some (.inl (.l0 (sh) (hm) (gs) (w) ((0 : Int)) (n) (nat_lit 0)))
noncomputable def hSwS0 (n : NetD) (sh : List Bool) (hm gs : List Int) (w : Int) (l : List Int) (v0 : List Bool) (v1 : List Int) (v2 : List Int) (v3 : Int) (v4 : Int) (v5 : NetD) (v6 : Nat) : Option (hSwPc ⊕ Ret) :=
  br (decide (v4 < 2))
  (br (v4 == 1)
   (gu (v6 ≤ 5000) <|
    gu (ValidN (looM l v6 6)) <|
    gu (celN (looM l v6 6) ≤ 1000) <|
    gu (looK l v6 6 ≤ 50000) <|
    gu (LooseOk (looM l v6 6)) <|
    gu (shuK l (looK l v6 6) (celN (looM l v6 6)) ≤ 50000) <|
    gu (hmdK (looM l v6 6) l (shuK l (looK l v6 6) (celN (looM l v6 6))) < 9223372036854775807) <|
    gu (Rows (looM l v6 6).nx) <|
    br (freZ (looM l v6 6) (shuL l (looK l v6 6) (celN (looM l v6 6))) (hmdH (looM l v6 6) l (shuK l (looK l v6 6) (celN (looM l v6 6)))) (IntKind.i64.wrap (nextZ l (hmdK (looM l v6 6) l (shuK l (looK l v6 6) (celN (looM l v6 6)))) (IntKind.i64.wrap (iN (List.map sA (looM l v6 6).ss).length + 2)) - 1)) != freZ (looM l v6 6) (shuL l (looK l v6 6) (celN (looM l v6 6))) (hmdH (looM l v6 6) l (shuK l (looK l v6 6) (celN (looM l v6 6)))) (IntKind.i64.wrap (nextZ l (hmdK (looM l v6 6) l (shuK l (looK l v6 6) (celN (looM l v6 6)))) (IntKind.i64.wrap (iN (List.map sA (looM l v6 6).ss).length + 2)) - 1)))
    (some (.inr ([], AV.bool false)))
    (br (freE (looM l v6 6) (shuL l (looK l v6 6) (celN (looM l v6 6))) (hmdH (looM l v6 6) l (shuK l (looK l v6 6) (celN (looM l v6 6)))) (IntKind.i64.wrap (nextZ l (hmdK (looM l v6 6) l (shuK l (looK l v6 6) (celN (looM l v6 6)))) (IntKind.i64.wrap (iN (List.map sA (looM l v6 6).ss).length + 2)) - 1)) != freE (looM l v6 6) (shuL l (looK l v6 6) (celN (looM l v6 6))) (hmdH (looM l v6 6) l (shuK l (looK l v6 6) (celN (looM l v6 6)))) (IntKind.i64.wrap (nextZ l (hmdK (looM l v6 6) l (shuK l (looK l v6 6) (celN (looM l v6 6)))) (IntKind.i64.wrap (iN (List.map sA (looM l v6 6).ss).length + 2)) - 1)))
     (some (.inr ([], AV.bool false)))
     (br (setE (looM l v6 6) (shuL l (looK l v6 6) (celN (looM l v6 6))) (hmdH (looM l v6 6) l (shuK l (looK l v6 6) (celN (looM l v6 6)))) (hmdG (looM l v6 6) l (shuK l (looK l v6 6) (celN (looM l v6 6)))) != setE (looM l v6 6) (shuL l (looK l v6 6) (celN (looM l v6 6))) (hmdH (looM l v6 6) l (shuK l (looK l v6 6) (celN (looM l v6 6)))) (hmdG (looM l v6 6) l (shuK l (looK l v6 6) (celN (looM l v6 6)))))
      (some (.inr ([], AV.bool false)))
      (gu ((setL (looM l v6 6) (shuL l (looK l v6 6) (celN (looM l v6 6))) (hmdH (looM l v6 6) l (shuK l (looK l v6 6) (celN (looM l v6 6)))) (hmdG (looM l v6 6) l (shuK l (looK l v6 6) (celN (looM l v6 6))))).length ≤ 1000000) <|
       some (.inl (.l0 (shuL l (looK l v6 6) (celN (looM l v6 6))) (hmdH (looM l v6 6) l (shuK l (looK l v6 6) (celN (looM l v6 6)))) (hmdG (looM l v6 6) l (shuK l (looK l v6 6) (celN (looM l v6 6)))) (IntKind.i64.wrap (nextZ l (hmdK (looM l v6 6) l (shuK l (looK l v6 6) (celN (looM l v6 6)))) (IntKind.i64.wrap (iN (List.map sA (looM l v6 6).ss).length + 2)) - 1)) (IntKind.i64.wrap (v4 + 1)) (looM l v6 6) (hmdK (looM l v6 6) l (shuK l (looK l v6 6) (celN (looM l v6 6))) + 1)))))))
   (gu (Rows v5.nx) <|
    br (freZ v5 v0 v1 v3 != freZ v5 v0 v1 v3)
    (some (.inr ([], AV.bool false)))
    (br (freE v5 v0 v1 v3 != freE v5 v0 v1 v3)
     (some (.inr ([], AV.bool false)))
     (br (setE v5 v0 v1 v2 != setE v5 v0 v1 v2)
      (some (.inr ([], AV.bool false)))
      (gu ((setL v5 v0 v1 v2).length ≤ 1000000) <|
       some (.inl (.l0 (v0) (v1) (v2) (v3) (IntKind.i64.wrap (v4 + 1)) (v5) (v6))))))))
  (some (.inr ([], AV.bool true)))
noncomputable def hSwStep (n : NetD) (sh : List Bool) (hm gs : List Int) (w : Int) (l : List Int) : hSwPc → Option (hSwPc ⊕ Ret)
  | .l0 v0 v1 v2 v3 v4 v5 v6 => hSwS0 n sh hm gs w l v0 v1 v2 v3 v4 v5 v6
theorem hSwEn_ok (n : NetD) (sh : List Bool) (hm gs : List Int) (w : Int) (l : List Int) (o : hSwPc ⊕ Ret) (h : hSwEn n sh hm gs w l = some o) : Arr Try.prog Try.f12 0 (hSwSt n sh hm gs w l) hSwHd (bodyOf Try.f12) [] { n := Try.f12.ntmps, fr := enumF 0 ([netA n, .lst (boL sh), lI hm, lI gs, .int .i64 w, lI l]), hp := ([]) } o := by
 unfold hSwEn at h
 cases h
 exact Arr.lp [] [] [(23, hc (AV.bool true))] [] [] [0, 1] [1, 2, 3, 4, 6, 13, 14] mix (by kernel_rfl) (aj (ag t2 (aj (aj (al (hknown_ct)) s2) (ak (aj (u2 (u2 (u2 s2))) s2)))) (ak t9))
theorem hSwS0_ok (n : NetD) (sh : List Bool) (hm gs : List Int) (w : Int) (l : List Int) (v0 : List Bool) (v1 : List Int) (v2 : List Int) (v3 : Int) (v4 : Int) (v5 : NetD) (v6 : Nat) (o : hSwPc ⊕ Ret) (h : hSwS0 n sh hm gs w l v0 v1 v2 v3 v4 v5 v6 = some o) : Arr Try.prog Try.f12 0 (hSwSt n sh hm gs w l) hSwHd (headC Try.f12 0) (.rnd (headC Try.f12 0) :: headK Try.f12 0) (hSwSt n sh hm gs w l (.l0 v0 v1 v2 v3 v4 v5 v6)) o := by
 unfold hSwS0 at h
 rcases br_inv h with ⟨a0, h⟩ | ⟨a0, h⟩
 ·
  rcases br_inv h with ⟨a1, h⟩ | ⟨a1, h⟩
  ·
   obtain ⟨a2, h⟩ := gu_inv h
   obtain ⟨a3, h⟩ := gu_inv h
   obtain ⟨a4, h⟩ := gu_inv h
   obtain ⟨a5, h⟩ := gu_inv h
   obtain ⟨a6, h⟩ := gu_inv h
   obtain ⟨a7, h⟩ := gu_inv h
   obtain ⟨a8, h⟩ := gu_inv h
   obtain ⟨a9, h⟩ := gu_inv h
   rcases br_inv h with ⟨a10, h⟩ | ⟨a10, h⟩
   ·
    cases h
    exact Arr.rt [59, 67, 177] [] [(35, Hint.call [1] [] [tapeB l (looK l v6 6)] (netA (looM l v6 6))), (38, hc (iv (iN (celN (looM l v6 6))))), (39, Hint.call [1] [] [tapeB l (shuK l (looK l v6 6) (celN (looM l v6 6)))] (AV.lst (boL (shuL l (looK l v6 6) (celN (looM l v6 6)))))), (43, Hint.call [1] [] [tapeB l (hmdK (looM l v6 6) l (shuK l (looK l v6 6) (celN (looM l v6 6))))] (AV.tup [lI (hmdH (looM l v6 6) l (shuK l (looK l v6 6) (celN (looM l v6 6)))), lI (hmdG (looM l v6 6) l (shuK l (looK l v6 6) (celN (looM l v6 6))))])), (51, Hint.call [1] [] [tapeB l (hmdK (looM l v6 6) l (shuK l (looK l v6 6) (celN (looM l v6 6))) + 1)] (iv (nextZ l (hmdK (looM l v6 6) l (shuK l (looK l v6 6) (celN (looM l v6 6)))) (IntKind.i64.wrap (iN (List.map sA (looM l v6 6).ss).length + 2))))), (58, hc (AV.tup [iv (freZ (looM l v6 6) (shuL l (looK l v6 6) (celN (looM l v6 6))) (hmdH (looM l v6 6) l (shuK l (looK l v6 6) (celN (looM l v6 6)))) (IntKind.i64.wrap (nextZ l (hmdK (looM l v6 6) l (shuK l (looK l v6 6) (celN (looM l v6 6)))) (IntKind.i64.wrap (iN (List.map sA (looM l v6 6).ss).length + 2)) - 1))), iv (freE (looM l v6 6) (shuL l (looK l v6 6) (celN (looM l v6 6))) (hmdH (looM l v6 6) l (shuK l (looK l v6 6) (celN (looM l v6 6)))) (IntKind.i64.wrap (nextZ l (hmdK (looM l v6 6) l (shuK l (looK l v6 6) (celN (looM l v6 6)))) (IntKind.i64.wrap (iN (List.map sA (looM l v6 6).ss).length + 2)) - 1)))])), (66, hc (AV.tup [iv (freZ (looM l v6 6) (shuL l (looK l v6 6) (celN (looM l v6 6))) (hmdH (looM l v6 6) l (shuK l (looK l v6 6) (celN (looM l v6 6)))) (IntKind.i64.wrap (nextZ l (hmdK (looM l v6 6) l (shuK l (looK l v6 6) (celN (looM l v6 6)))) (IntKind.i64.wrap (iN (List.map sA (looM l v6 6).ss).length + 2)) - 1))), iv (freE (looM l v6 6) (shuL l (looK l v6 6) (celN (looM l v6 6))) (hmdH (looM l v6 6) l (shuK l (looK l v6 6) (celN (looM l v6 6)))) (IntKind.i64.wrap (nextZ l (hmdK (looM l v6 6) l (shuK l (looK l v6 6) (celN (looM l v6 6)))) (IntKind.i64.wrap (iN (List.map sA (looM l v6 6).ss).length + 2)) - 1)))])), (74, hc (AV.tup [lI (setL (looM l v6 6) (shuL l (looK l v6 6) (celN (looM l v6 6))) (hmdH (looM l v6 6) l (shuK l (looK l v6 6) (celN (looM l v6 6)))) (hmdG (looM l v6 6) l (shuK l (looK l v6 6) (celN (looM l v6 6))))), iv (setE (looM l v6 6) (shuL l (looK l v6 6) (celN (looM l v6 6))) (hmdH (looM l v6 6) l (shuK l (looK l v6 6) (celN (looM l v6 6)))) (hmdG (looM l v6 6) l (shuK l (looK l v6 6) (celN (looM l v6 6)))))])), (82, hc (AV.tup [lI (setL (looM l v6 6) (shuL l (looK l v6 6) (celN (looM l v6 6))) (hmdH (looM l v6 6) l (shuK l (looK l v6 6) (celN (looM l v6 6)))) (hmdG (looM l v6 6) l (shuK l (looK l v6 6) (celN (looM l v6 6))))), iv (setE (looM l v6 6) (shuL l (looK l v6 6) (celN (looM l v6 6))) (hmdH (looM l v6 6) l (shuK l (looK l v6 6) (celN (looM l v6 6)))) (hmdG (looM l v6 6) l (shuK l (looK l v6 6) (celN (looM l v6 6)))))]))] [] [] [] mix (by kernel_rfl) (aj (aj (u2 s2) (aj a0 (aj (u2 s2) (aj a1 (aj (u2 (aj (ak (k3 (al (loose_ct (l) (v6) (6) a2 (show (1 : Int) ≤ (6 : Int) ∧ (6 : Int) ≤ (20 : Int) from ⟨(by first | exact Nat.le_of_ble_eq_true rfl | decide), (by first | exact Nat.le_of_ble_eq_true rfl | decide)⟩))))) (al (k2 (show Nat.le 1 [AV.agg [AV.lst (List.map bA v5.bs), AV.lst (List.map lI v5.nx), AV.lst (List.map sA v5.ss), AV.lst (List.map (iv) v5.rs), iv v5.q, iv v5.a, iv v5.d, iv v5.p]].length from (Nat.le_of_ble_eq_true rfl)))))) (aj (u2 (u2 (aj (ak (aj t9 (al (cells_ct a3)))) (aj (k5 (al (shut_ct (l) (looK l v6 6) (celN (looM l v6 6)) a4 a5))) s2)))) (aj (u2 (u2 (aj (k3 (aj t9 (ak (al (hmade_ct (looM l v6 6) (l) (shuK l (looK l v6 6) (celN (looM l v6 6))) a6 a7))))) (u2 (u2 (u2 (u2 s2))))))) (aj (u2 (u2 (u2 (u2 (u2 (aj (k5 (al (next_ct (l) (hmdK (looM l v6 6) l (shuK l (looK l v6 6) (celN (looM l v6 6)))) (IntKind.i64.wrap (iN (List.map sA (looM l v6 6).ss).length + 2)) a8))) (u2 s2))))))) (aj (u2 (u2 (u2 (u2 (aj (ak (k3 (aj t9 (k3 (al (hFree_ct a9 (shuL l (looK l v6 6) (celN (looM l v6 6))) (hmdH (looM l v6 6) l (shuK l (looK l v6 6) (celN (looM l v6 6)))) (IntKind.i64.wrap (nextZ l (hmdK (looM l v6 6) l (shuK l (looK l v6 6) (celN (looM l v6 6)))) (IntKind.i64.wrap (iN (List.map sA (looM l v6 6).ss).length + 2)) - 1)))))))) (u2 (u2 (u2 (u2 s2))))))))) (aj (u2 (u2 (u2 (u2 (aj (ak (k3 (aj t9 (k3 (al (rFree_ct a9 (shuL l (looK l v6 6) (celN (looM l v6 6))) (hmdH (looM l v6 6) l (shuK l (looK l v6 6) (celN (looM l v6 6)))) (IntKind.i64.wrap (nextZ l (hmdK (looM l v6 6) l (shuK l (looK l v6 6) (celN (looM l v6 6)))) (IntKind.i64.wrap (iN (List.map sA (looM l v6 6).ss).length + 2)) - 1)))))))) (u2 (u2 (u2 (u2 s2))))))))) (aj (u2 (u2 (u2 (u2 (aj (ak (k3 (aj t9 (k3 (al (hSettle_ct a9 (shuL l (looK l v6 6) (celN (looM l v6 6))) (hmdH (looM l v6 6) l (shuK l (looK l v6 6) (celN (looM l v6 6)))) (hmdG (looM l v6 6) l (shuK l (looK l v6 6) (celN (looM l v6 6)))))))))) (u2 (u2 (u2 (u2 s2))))))))) (aj (u2 (u2 (u2 (u2 (aj (ak (k3 (aj t9 (k3 (al (rSettle_ct a9 (shuL l (looK l v6 6) (celN (looM l v6 6))) (hmdH (looM l v6 6) l (shuK l (looK l v6 6) (celN (looM l v6 6)))) (hmdG (looM l v6 6) l (shuK l (looK l v6 6) (celN (looM l v6 6)))))))))) (u2 (u2 (u2 (u2 s2))))))))) (aj (u2 (u2 (aj t3 (u2 (aj a10 (aj a10 (aj a10 (ag a10 (u2 (k3 (aj t3 (u2 (ak (k3 (al t3))))))))))))))) (ak s2)))))))))))))) t2)
   ·
    rcases br_inv h with ⟨a11, h⟩ | ⟨a11, h⟩
    ·
     cases h
     exact Arr.rt [59, 67, 176, 187] [] [(35, Hint.call [1] [] [tapeB l (looK l v6 6)] (netA (looM l v6 6))), (38, hc (iv (iN (celN (looM l v6 6))))), (39, Hint.call [1] [] [tapeB l (shuK l (looK l v6 6) (celN (looM l v6 6)))] (AV.lst (boL (shuL l (looK l v6 6) (celN (looM l v6 6)))))), (43, Hint.call [1] [] [tapeB l (hmdK (looM l v6 6) l (shuK l (looK l v6 6) (celN (looM l v6 6))))] (AV.tup [lI (hmdH (looM l v6 6) l (shuK l (looK l v6 6) (celN (looM l v6 6)))), lI (hmdG (looM l v6 6) l (shuK l (looK l v6 6) (celN (looM l v6 6))))])), (51, Hint.call [1] [] [tapeB l (hmdK (looM l v6 6) l (shuK l (looK l v6 6) (celN (looM l v6 6))) + 1)] (iv (nextZ l (hmdK (looM l v6 6) l (shuK l (looK l v6 6) (celN (looM l v6 6)))) (IntKind.i64.wrap (iN (List.map sA (looM l v6 6).ss).length + 2))))), (58, hc (AV.tup [iv (freZ (looM l v6 6) (shuL l (looK l v6 6) (celN (looM l v6 6))) (hmdH (looM l v6 6) l (shuK l (looK l v6 6) (celN (looM l v6 6)))) (IntKind.i64.wrap (nextZ l (hmdK (looM l v6 6) l (shuK l (looK l v6 6) (celN (looM l v6 6)))) (IntKind.i64.wrap (iN (List.map sA (looM l v6 6).ss).length + 2)) - 1))), iv (freE (looM l v6 6) (shuL l (looK l v6 6) (celN (looM l v6 6))) (hmdH (looM l v6 6) l (shuK l (looK l v6 6) (celN (looM l v6 6)))) (IntKind.i64.wrap (nextZ l (hmdK (looM l v6 6) l (shuK l (looK l v6 6) (celN (looM l v6 6)))) (IntKind.i64.wrap (iN (List.map sA (looM l v6 6).ss).length + 2)) - 1)))])), (66, hc (AV.tup [iv (freZ (looM l v6 6) (shuL l (looK l v6 6) (celN (looM l v6 6))) (hmdH (looM l v6 6) l (shuK l (looK l v6 6) (celN (looM l v6 6)))) (IntKind.i64.wrap (nextZ l (hmdK (looM l v6 6) l (shuK l (looK l v6 6) (celN (looM l v6 6)))) (IntKind.i64.wrap (iN (List.map sA (looM l v6 6).ss).length + 2)) - 1))), iv (freE (looM l v6 6) (shuL l (looK l v6 6) (celN (looM l v6 6))) (hmdH (looM l v6 6) l (shuK l (looK l v6 6) (celN (looM l v6 6)))) (IntKind.i64.wrap (nextZ l (hmdK (looM l v6 6) l (shuK l (looK l v6 6) (celN (looM l v6 6)))) (IntKind.i64.wrap (iN (List.map sA (looM l v6 6).ss).length + 2)) - 1)))])), (74, hc (AV.tup [lI (setL (looM l v6 6) (shuL l (looK l v6 6) (celN (looM l v6 6))) (hmdH (looM l v6 6) l (shuK l (looK l v6 6) (celN (looM l v6 6)))) (hmdG (looM l v6 6) l (shuK l (looK l v6 6) (celN (looM l v6 6))))), iv (setE (looM l v6 6) (shuL l (looK l v6 6) (celN (looM l v6 6))) (hmdH (looM l v6 6) l (shuK l (looK l v6 6) (celN (looM l v6 6)))) (hmdG (looM l v6 6) l (shuK l (looK l v6 6) (celN (looM l v6 6)))))])), (82, hc (AV.tup [lI (setL (looM l v6 6) (shuL l (looK l v6 6) (celN (looM l v6 6))) (hmdH (looM l v6 6) l (shuK l (looK l v6 6) (celN (looM l v6 6)))) (hmdG (looM l v6 6) l (shuK l (looK l v6 6) (celN (looM l v6 6))))), iv (setE (looM l v6 6) (shuL l (looK l v6 6) (celN (looM l v6 6))) (hmdH (looM l v6 6) l (shuK l (looK l v6 6) (celN (looM l v6 6)))) (hmdG (looM l v6 6) l (shuK l (looK l v6 6) (celN (looM l v6 6)))))]))] [] [] [] mix (by kernel_rfl) (aj (aj (u2 s2) (aj a0 (aj (u2 s2) (aj a1 (aj (u2 (aj (ak (k3 (al (loose_ct (l) (v6) (6) a2 (show (1 : Int) ≤ (6 : Int) ∧ (6 : Int) ≤ (20 : Int) from ⟨(by first | exact Nat.le_of_ble_eq_true rfl | decide), (by first | exact Nat.le_of_ble_eq_true rfl | decide)⟩))))) (al (k2 (show Nat.le 1 [AV.agg [AV.lst (List.map bA v5.bs), AV.lst (List.map lI v5.nx), AV.lst (List.map sA v5.ss), AV.lst (List.map (iv) v5.rs), iv v5.q, iv v5.a, iv v5.d, iv v5.p]].length from (Nat.le_of_ble_eq_true rfl)))))) (aj (u2 (u2 (aj (ak (aj t9 (al (cells_ct a3)))) (aj (k5 (al (shut_ct (l) (looK l v6 6) (celN (looM l v6 6)) a4 a5))) s2)))) (aj (u2 (u2 (aj (k3 (aj t9 (ak (al (hmade_ct (looM l v6 6) (l) (shuK l (looK l v6 6) (celN (looM l v6 6))) a6 a7))))) (u2 (u2 (u2 (u2 s2))))))) (aj (u2 (u2 (u2 (u2 (u2 (aj (k5 (al (next_ct (l) (hmdK (looM l v6 6) l (shuK l (looK l v6 6) (celN (looM l v6 6)))) (IntKind.i64.wrap (iN (List.map sA (looM l v6 6).ss).length + 2)) a8))) (u2 s2))))))) (aj (u2 (u2 (u2 (u2 (aj (ak (k3 (aj t9 (k3 (al (hFree_ct a9 (shuL l (looK l v6 6) (celN (looM l v6 6))) (hmdH (looM l v6 6) l (shuK l (looK l v6 6) (celN (looM l v6 6)))) (IntKind.i64.wrap (nextZ l (hmdK (looM l v6 6) l (shuK l (looK l v6 6) (celN (looM l v6 6)))) (IntKind.i64.wrap (iN (List.map sA (looM l v6 6).ss).length + 2)) - 1)))))))) (u2 (u2 (u2 (u2 s2))))))))) (aj (u2 (u2 (u2 (u2 (aj (ak (k3 (aj t9 (k3 (al (rFree_ct a9 (shuL l (looK l v6 6) (celN (looM l v6 6))) (hmdH (looM l v6 6) l (shuK l (looK l v6 6) (celN (looM l v6 6)))) (IntKind.i64.wrap (nextZ l (hmdK (looM l v6 6) l (shuK l (looK l v6 6) (celN (looM l v6 6)))) (IntKind.i64.wrap (iN (List.map sA (looM l v6 6).ss).length + 2)) - 1)))))))) (u2 (u2 (u2 (u2 s2))))))))) (aj (u2 (u2 (u2 (u2 (aj (ak (k3 (aj t9 (k3 (al (hSettle_ct a9 (shuL l (looK l v6 6) (celN (looM l v6 6))) (hmdH (looM l v6 6) l (shuK l (looK l v6 6) (celN (looM l v6 6)))) (hmdG (looM l v6 6) l (shuK l (looK l v6 6) (celN (looM l v6 6)))))))))) (u2 (u2 (u2 (u2 s2))))))))) (aj (u2 (u2 (u2 (u2 (aj (ak (k3 (aj t9 (k3 (al (rSettle_ct a9 (shuL l (looK l v6 6) (celN (looM l v6 6))) (hmdH (looM l v6 6) l (shuK l (looK l v6 6) (celN (looM l v6 6)))) (hmdG (looM l v6 6) l (shuK l (looK l v6 6) (celN (looM l v6 6)))))))))) (u2 (u2 (u2 (u2 s2))))))))) (aj (u2 (u2 (aj t3 (u2 (ag a10 (ag a10 (aj (aj a10 t3) (ag a10 (u2 (aj a11 (aj a11 (aj a11 (ag a11 (u2 (ak (k3 (al t3))))))))))))))))) (ak s2)))))))))))))) t2)
    ·
     rcases br_inv h with ⟨a12, h⟩ | ⟨a12, h⟩
     ·
      cases h
      exact Arr.rt [59, 67, 176, 186, 197] [] [(35, Hint.call [1] [] [tapeB l (looK l v6 6)] (netA (looM l v6 6))), (38, hc (iv (iN (celN (looM l v6 6))))), (39, Hint.call [1] [] [tapeB l (shuK l (looK l v6 6) (celN (looM l v6 6)))] (AV.lst (boL (shuL l (looK l v6 6) (celN (looM l v6 6)))))), (43, Hint.call [1] [] [tapeB l (hmdK (looM l v6 6) l (shuK l (looK l v6 6) (celN (looM l v6 6))))] (AV.tup [lI (hmdH (looM l v6 6) l (shuK l (looK l v6 6) (celN (looM l v6 6)))), lI (hmdG (looM l v6 6) l (shuK l (looK l v6 6) (celN (looM l v6 6))))])), (51, Hint.call [1] [] [tapeB l (hmdK (looM l v6 6) l (shuK l (looK l v6 6) (celN (looM l v6 6))) + 1)] (iv (nextZ l (hmdK (looM l v6 6) l (shuK l (looK l v6 6) (celN (looM l v6 6)))) (IntKind.i64.wrap (iN (List.map sA (looM l v6 6).ss).length + 2))))), (58, hc (AV.tup [iv (freZ (looM l v6 6) (shuL l (looK l v6 6) (celN (looM l v6 6))) (hmdH (looM l v6 6) l (shuK l (looK l v6 6) (celN (looM l v6 6)))) (IntKind.i64.wrap (nextZ l (hmdK (looM l v6 6) l (shuK l (looK l v6 6) (celN (looM l v6 6)))) (IntKind.i64.wrap (iN (List.map sA (looM l v6 6).ss).length + 2)) - 1))), iv (freE (looM l v6 6) (shuL l (looK l v6 6) (celN (looM l v6 6))) (hmdH (looM l v6 6) l (shuK l (looK l v6 6) (celN (looM l v6 6)))) (IntKind.i64.wrap (nextZ l (hmdK (looM l v6 6) l (shuK l (looK l v6 6) (celN (looM l v6 6)))) (IntKind.i64.wrap (iN (List.map sA (looM l v6 6).ss).length + 2)) - 1)))])), (66, hc (AV.tup [iv (freZ (looM l v6 6) (shuL l (looK l v6 6) (celN (looM l v6 6))) (hmdH (looM l v6 6) l (shuK l (looK l v6 6) (celN (looM l v6 6)))) (IntKind.i64.wrap (nextZ l (hmdK (looM l v6 6) l (shuK l (looK l v6 6) (celN (looM l v6 6)))) (IntKind.i64.wrap (iN (List.map sA (looM l v6 6).ss).length + 2)) - 1))), iv (freE (looM l v6 6) (shuL l (looK l v6 6) (celN (looM l v6 6))) (hmdH (looM l v6 6) l (shuK l (looK l v6 6) (celN (looM l v6 6)))) (IntKind.i64.wrap (nextZ l (hmdK (looM l v6 6) l (shuK l (looK l v6 6) (celN (looM l v6 6)))) (IntKind.i64.wrap (iN (List.map sA (looM l v6 6).ss).length + 2)) - 1)))])), (74, hc (AV.tup [lI (setL (looM l v6 6) (shuL l (looK l v6 6) (celN (looM l v6 6))) (hmdH (looM l v6 6) l (shuK l (looK l v6 6) (celN (looM l v6 6)))) (hmdG (looM l v6 6) l (shuK l (looK l v6 6) (celN (looM l v6 6))))), iv (setE (looM l v6 6) (shuL l (looK l v6 6) (celN (looM l v6 6))) (hmdH (looM l v6 6) l (shuK l (looK l v6 6) (celN (looM l v6 6)))) (hmdG (looM l v6 6) l (shuK l (looK l v6 6) (celN (looM l v6 6)))))])), (82, hc (AV.tup [lI (setL (looM l v6 6) (shuL l (looK l v6 6) (celN (looM l v6 6))) (hmdH (looM l v6 6) l (shuK l (looK l v6 6) (celN (looM l v6 6)))) (hmdG (looM l v6 6) l (shuK l (looK l v6 6) (celN (looM l v6 6))))), iv (setE (looM l v6 6) (shuL l (looK l v6 6) (celN (looM l v6 6))) (hmdH (looM l v6 6) l (shuK l (looK l v6 6) (celN (looM l v6 6)))) (hmdG (looM l v6 6) l (shuK l (looK l v6 6) (celN (looM l v6 6)))))]))] [] [] [] mix (by kernel_rfl) (aj (aj (u2 s2) (aj a0 (aj (u2 s2) (aj a1 (aj (u2 (aj (ak (k3 (al (loose_ct (l) (v6) (6) a2 (show (1 : Int) ≤ (6 : Int) ∧ (6 : Int) ≤ (20 : Int) from ⟨(by first | exact Nat.le_of_ble_eq_true rfl | decide), (by first | exact Nat.le_of_ble_eq_true rfl | decide)⟩))))) (al (k2 (show Nat.le 1 [AV.agg [AV.lst (List.map bA v5.bs), AV.lst (List.map lI v5.nx), AV.lst (List.map sA v5.ss), AV.lst (List.map (iv) v5.rs), iv v5.q, iv v5.a, iv v5.d, iv v5.p]].length from (Nat.le_of_ble_eq_true rfl)))))) (aj (u2 (u2 (aj (ak (aj t9 (al (cells_ct a3)))) (aj (k5 (al (shut_ct (l) (looK l v6 6) (celN (looM l v6 6)) a4 a5))) s2)))) (aj (u2 (u2 (aj (k3 (aj t9 (ak (al (hmade_ct (looM l v6 6) (l) (shuK l (looK l v6 6) (celN (looM l v6 6))) a6 a7))))) (u2 (u2 (u2 (u2 s2))))))) (aj (u2 (u2 (u2 (u2 (u2 (aj (k5 (al (next_ct (l) (hmdK (looM l v6 6) l (shuK l (looK l v6 6) (celN (looM l v6 6)))) (IntKind.i64.wrap (iN (List.map sA (looM l v6 6).ss).length + 2)) a8))) (u2 s2))))))) (aj (u2 (u2 (u2 (u2 (aj (ak (k3 (aj t9 (k3 (al (hFree_ct a9 (shuL l (looK l v6 6) (celN (looM l v6 6))) (hmdH (looM l v6 6) l (shuK l (looK l v6 6) (celN (looM l v6 6)))) (IntKind.i64.wrap (nextZ l (hmdK (looM l v6 6) l (shuK l (looK l v6 6) (celN (looM l v6 6)))) (IntKind.i64.wrap (iN (List.map sA (looM l v6 6).ss).length + 2)) - 1)))))))) (u2 (u2 (u2 (u2 s2))))))))) (aj (u2 (u2 (u2 (u2 (aj (ak (k3 (aj t9 (k3 (al (rFree_ct a9 (shuL l (looK l v6 6) (celN (looM l v6 6))) (hmdH (looM l v6 6) l (shuK l (looK l v6 6) (celN (looM l v6 6)))) (IntKind.i64.wrap (nextZ l (hmdK (looM l v6 6) l (shuK l (looK l v6 6) (celN (looM l v6 6)))) (IntKind.i64.wrap (iN (List.map sA (looM l v6 6).ss).length + 2)) - 1)))))))) (u2 (u2 (u2 (u2 s2))))))))) (aj (u2 (u2 (u2 (u2 (aj (ak (k3 (aj t9 (k3 (al (hSettle_ct a9 (shuL l (looK l v6 6) (celN (looM l v6 6))) (hmdH (looM l v6 6) l (shuK l (looK l v6 6) (celN (looM l v6 6)))) (hmdG (looM l v6 6) l (shuK l (looK l v6 6) (celN (looM l v6 6)))))))))) (u2 (u2 (u2 (u2 s2))))))))) (aj (u2 (u2 (u2 (u2 (aj (ak (k3 (aj t9 (k3 (al (rSettle_ct a9 (shuL l (looK l v6 6) (celN (looM l v6 6))) (hmdH (looM l v6 6) l (shuK l (looK l v6 6) (celN (looM l v6 6)))) (hmdG (looM l v6 6) l (shuK l (looK l v6 6) (celN (looM l v6 6)))))))))) (u2 (u2 (u2 (u2 s2))))))))) (aj (u2 (u2 (aj t3 (u2 (ag a10 (ag a10 (aj (aj a10 t3) (ag a10 (u2 (ag a11 (ag a11 (aj (aj a11 t3) (ag a11 (u2 (aj a12 (aj a12 (aj a12 (aj a12 (al (aj a12 t2)))))))))))))))))))) (ak s2)))))))))))))) t2)
     ·
      obtain ⟨a13, h⟩ := gu_inv h
      cases h
      exact Arr.lp [59, 67, 176, 186, 196] [] [(35, Hint.call [1] [] [tapeB l (looK l v6 6)] (netA (looM l v6 6))), (38, hc (iv (iN (celN (looM l v6 6))))), (39, Hint.call [1] [] [tapeB l (shuK l (looK l v6 6) (celN (looM l v6 6)))] (AV.lst (boL (shuL l (looK l v6 6) (celN (looM l v6 6)))))), (43, Hint.call [1] [] [tapeB l (hmdK (looM l v6 6) l (shuK l (looK l v6 6) (celN (looM l v6 6))))] (AV.tup [lI (hmdH (looM l v6 6) l (shuK l (looK l v6 6) (celN (looM l v6 6)))), lI (hmdG (looM l v6 6) l (shuK l (looK l v6 6) (celN (looM l v6 6))))])), (51, Hint.call [1] [] [tapeB l (hmdK (looM l v6 6) l (shuK l (looK l v6 6) (celN (looM l v6 6))) + 1)] (iv (nextZ l (hmdK (looM l v6 6) l (shuK l (looK l v6 6) (celN (looM l v6 6)))) (IntKind.i64.wrap (iN (List.map sA (looM l v6 6).ss).length + 2))))), (58, hc (AV.tup [iv (freZ (looM l v6 6) (shuL l (looK l v6 6) (celN (looM l v6 6))) (hmdH (looM l v6 6) l (shuK l (looK l v6 6) (celN (looM l v6 6)))) (IntKind.i64.wrap (nextZ l (hmdK (looM l v6 6) l (shuK l (looK l v6 6) (celN (looM l v6 6)))) (IntKind.i64.wrap (iN (List.map sA (looM l v6 6).ss).length + 2)) - 1))), iv (freE (looM l v6 6) (shuL l (looK l v6 6) (celN (looM l v6 6))) (hmdH (looM l v6 6) l (shuK l (looK l v6 6) (celN (looM l v6 6)))) (IntKind.i64.wrap (nextZ l (hmdK (looM l v6 6) l (shuK l (looK l v6 6) (celN (looM l v6 6)))) (IntKind.i64.wrap (iN (List.map sA (looM l v6 6).ss).length + 2)) - 1)))])), (66, hc (AV.tup [iv (freZ (looM l v6 6) (shuL l (looK l v6 6) (celN (looM l v6 6))) (hmdH (looM l v6 6) l (shuK l (looK l v6 6) (celN (looM l v6 6)))) (IntKind.i64.wrap (nextZ l (hmdK (looM l v6 6) l (shuK l (looK l v6 6) (celN (looM l v6 6)))) (IntKind.i64.wrap (iN (List.map sA (looM l v6 6).ss).length + 2)) - 1))), iv (freE (looM l v6 6) (shuL l (looK l v6 6) (celN (looM l v6 6))) (hmdH (looM l v6 6) l (shuK l (looK l v6 6) (celN (looM l v6 6)))) (IntKind.i64.wrap (nextZ l (hmdK (looM l v6 6) l (shuK l (looK l v6 6) (celN (looM l v6 6)))) (IntKind.i64.wrap (iN (List.map sA (looM l v6 6).ss).length + 2)) - 1)))])), (74, hc (AV.tup [lI (setL (looM l v6 6) (shuL l (looK l v6 6) (celN (looM l v6 6))) (hmdH (looM l v6 6) l (shuK l (looK l v6 6) (celN (looM l v6 6)))) (hmdG (looM l v6 6) l (shuK l (looK l v6 6) (celN (looM l v6 6))))), iv (setE (looM l v6 6) (shuL l (looK l v6 6) (celN (looM l v6 6))) (hmdH (looM l v6 6) l (shuK l (looK l v6 6) (celN (looM l v6 6)))) (hmdG (looM l v6 6) l (shuK l (looK l v6 6) (celN (looM l v6 6)))))])), (82, hc (AV.tup [lI (setL (looM l v6 6) (shuL l (looK l v6 6) (celN (looM l v6 6))) (hmdH (looM l v6 6) l (shuK l (looK l v6 6) (celN (looM l v6 6)))) (hmdG (looM l v6 6) l (shuK l (looK l v6 6) (celN (looM l v6 6))))), iv (setE (looM l v6 6) (shuL l (looK l v6 6) (celN (looM l v6 6))) (hmdH (looM l v6 6) l (shuK l (looK l v6 6) (celN (looM l v6 6)))) (hmdG (looM l v6 6) l (shuK l (looK l v6 6) (celN (looM l v6 6)))))])), (101, hc (AV.bool true))] [] [] [0, 1] [1, 2, 3, 4, 6, 13, 14] mix (by kernel_rfl) (aj (aj (u2 s2) (aj a0 (aj (u2 s2) (aj a1 (aj (u2 (aj (ak (k3 (al (loose_ct (l) (v6) (6) a2 (show (1 : Int) ≤ (6 : Int) ∧ (6 : Int) ≤ (20 : Int) from ⟨(by first | exact Nat.le_of_ble_eq_true rfl | decide), (by first | exact Nat.le_of_ble_eq_true rfl | decide)⟩))))) (al (k2 (show Nat.le 1 [AV.agg [AV.lst (List.map bA v5.bs), AV.lst (List.map lI v5.nx), AV.lst (List.map sA v5.ss), AV.lst (List.map (iv) v5.rs), iv v5.q, iv v5.a, iv v5.d, iv v5.p]].length from (Nat.le_of_ble_eq_true rfl)))))) (aj (u2 (u2 (aj (ak (aj t9 (al (cells_ct a3)))) (aj (k5 (al (shut_ct (l) (looK l v6 6) (celN (looM l v6 6)) a4 a5))) s2)))) (aj (u2 (u2 (aj (k3 (aj t9 (ak (al (hmade_ct (looM l v6 6) (l) (shuK l (looK l v6 6) (celN (looM l v6 6))) a6 a7))))) (u2 (u2 (u2 (u2 s2))))))) (aj (u2 (u2 (u2 (u2 (u2 (aj (k5 (al (next_ct (l) (hmdK (looM l v6 6) l (shuK l (looK l v6 6) (celN (looM l v6 6)))) (IntKind.i64.wrap (iN (List.map sA (looM l v6 6).ss).length + 2)) a8))) (u2 s2))))))) (aj (u2 (u2 (u2 (u2 (aj (ak (k3 (aj t9 (k3 (al (hFree_ct a9 (shuL l (looK l v6 6) (celN (looM l v6 6))) (hmdH (looM l v6 6) l (shuK l (looK l v6 6) (celN (looM l v6 6)))) (IntKind.i64.wrap (nextZ l (hmdK (looM l v6 6) l (shuK l (looK l v6 6) (celN (looM l v6 6)))) (IntKind.i64.wrap (iN (List.map sA (looM l v6 6).ss).length + 2)) - 1)))))))) (u2 (u2 (u2 (u2 s2))))))))) (aj (u2 (u2 (u2 (u2 (aj (ak (k3 (aj t9 (k3 (al (rFree_ct a9 (shuL l (looK l v6 6) (celN (looM l v6 6))) (hmdH (looM l v6 6) l (shuK l (looK l v6 6) (celN (looM l v6 6)))) (IntKind.i64.wrap (nextZ l (hmdK (looM l v6 6) l (shuK l (looK l v6 6) (celN (looM l v6 6)))) (IntKind.i64.wrap (iN (List.map sA (looM l v6 6).ss).length + 2)) - 1)))))))) (u2 (u2 (u2 (u2 s2))))))))) (aj (u2 (u2 (u2 (u2 (aj (ak (k3 (aj t9 (k3 (al (hSettle_ct a9 (shuL l (looK l v6 6) (celN (looM l v6 6))) (hmdH (looM l v6 6) l (shuK l (looK l v6 6) (celN (looM l v6 6)))) (hmdG (looM l v6 6) l (shuK l (looK l v6 6) (celN (looM l v6 6)))))))))) (u2 (u2 (u2 (u2 s2))))))))) (aj (u2 (u2 (u2 (u2 (aj (ak (k3 (aj t9 (k3 (al (rSettle_ct a9 (shuL l (looK l v6 6) (celN (looM l v6 6))) (hmdH (looM l v6 6) l (shuK l (looK l v6 6) (celN (looM l v6 6)))) (hmdG (looM l v6 6) l (shuK l (looK l v6 6) (celN (looM l v6 6)))))))))) (u2 (u2 (u2 (u2 s2))))))))) (aj (u2 (u2 (aj t3 (u2 (ag a10 (ag a10 (aj (aj a10 t3) (ag a10 (u2 (ag a11 (ag a11 (aj (aj a11 t3) (ag a11 (u2 (ag a12 (ag a12 (aj (aj a12 (ak (k3 (al (sameInts_ct (setL (looM l v6 6) (shuL l (looK l v6 6) (celN (looM l v6 6))) (hmdH (looM l v6 6) l (shuK l (looK l v6 6) (celN (looM l v6 6)))) (hmdG (looM l v6 6) l (shuK l (looK l v6 6) (celN (looM l v6 6))))) a13))))) (ag a12 (al (aj a12 t2)))))))))))))))))))) (ak (al (u2 (u2 s2))))))))))))))))) (ak t9))
  ·
   obtain ⟨a2, h⟩ := gu_inv h
   rcases br_inv h with ⟨a3, h⟩ | ⟨a3, h⟩
   ·
    cases h
    exact Arr.rt [59, 66, 177] [] [(58, hc (AV.tup [iv (freZ v5 v0 v1 v3), iv (freE v5 v0 v1 v3)])), (66, hc (AV.tup [iv (freZ v5 v0 v1 v3), iv (freE v5 v0 v1 v3)])), (74, hc (AV.tup [lI (setL v5 v0 v1 v2), iv (setE v5 v0 v1 v2)])), (82, hc (AV.tup [lI (setL v5 v0 v1 v2), iv (setE v5 v0 v1 v2)]))] [] [] [] mix (by kernel_rfl) (aj (aj (u2 s2) (aj a0 (aj (u2 s2) (aj a1 (aj (u2 (u2 (u2 (u2 (aj (ak (k3 (aj t9 (k3 (al (hFree_ct a2 (v0) (v1) (v3))))))) (u2 (u2 (u2 (u2 s2))))))))) (aj (u2 (u2 (u2 (u2 (aj (ak (k3 (aj t9 (k3 (al (rFree_ct a2 (v0) (v1) (v3))))))) (u2 (u2 (u2 (u2 s2))))))))) (aj (u2 (u2 (u2 (u2 (aj (ak (k3 (aj t9 (k3 (al (hSettle_ct a2 (v0) (v1) (v2))))))) (u2 (u2 (u2 (u2 s2))))))))) (aj (u2 (u2 (u2 (u2 (aj (ak (k3 (aj t9 (k3 (al (rSettle_ct a2 (v0) (v1) (v2))))))) (u2 (u2 (u2 (u2 s2))))))))) (aj (u2 (u2 (aj t3 (u2 (aj a3 (aj a3 (aj a3 (ag a3 (u2 (k3 (aj t3 (u2 (ak (k3 (al t3))))))))))))))) (ak s2)))))))))) t2)
   ·
    rcases br_inv h with ⟨a4, h⟩ | ⟨a4, h⟩
    ·
     cases h
     exact Arr.rt [59, 66, 176, 187] [] [(58, hc (AV.tup [iv (freZ v5 v0 v1 v3), iv (freE v5 v0 v1 v3)])), (66, hc (AV.tup [iv (freZ v5 v0 v1 v3), iv (freE v5 v0 v1 v3)])), (74, hc (AV.tup [lI (setL v5 v0 v1 v2), iv (setE v5 v0 v1 v2)])), (82, hc (AV.tup [lI (setL v5 v0 v1 v2), iv (setE v5 v0 v1 v2)]))] [] [] [] mix (by kernel_rfl) (aj (aj (u2 s2) (aj a0 (aj (u2 s2) (aj a1 (aj (u2 (u2 (u2 (u2 (aj (ak (k3 (aj t9 (k3 (al (hFree_ct a2 (v0) (v1) (v3))))))) (u2 (u2 (u2 (u2 s2))))))))) (aj (u2 (u2 (u2 (u2 (aj (ak (k3 (aj t9 (k3 (al (rFree_ct a2 (v0) (v1) (v3))))))) (u2 (u2 (u2 (u2 s2))))))))) (aj (u2 (u2 (u2 (u2 (aj (ak (k3 (aj t9 (k3 (al (hSettle_ct a2 (v0) (v1) (v2))))))) (u2 (u2 (u2 (u2 s2))))))))) (aj (u2 (u2 (u2 (u2 (aj (ak (k3 (aj t9 (k3 (al (rSettle_ct a2 (v0) (v1) (v2))))))) (u2 (u2 (u2 (u2 s2))))))))) (aj (u2 (u2 (aj t3 (u2 (ag a3 (ag a3 (aj (aj a3 t3) (ag a3 (u2 (aj a4 (aj a4 (aj a4 (ag a4 (u2 (ak (k3 (al t3))))))))))))))))) (ak s2)))))))))) t2)
    ·
     rcases br_inv h with ⟨a5, h⟩ | ⟨a5, h⟩
     ·
      cases h
      exact Arr.rt [59, 66, 176, 186, 197] [] [(58, hc (AV.tup [iv (freZ v5 v0 v1 v3), iv (freE v5 v0 v1 v3)])), (66, hc (AV.tup [iv (freZ v5 v0 v1 v3), iv (freE v5 v0 v1 v3)])), (74, hc (AV.tup [lI (setL v5 v0 v1 v2), iv (setE v5 v0 v1 v2)])), (82, hc (AV.tup [lI (setL v5 v0 v1 v2), iv (setE v5 v0 v1 v2)]))] [] [] [] mix (by kernel_rfl) (aj (aj (u2 s2) (aj a0 (aj (u2 s2) (aj a1 (aj (u2 (u2 (u2 (u2 (aj (ak (k3 (aj t9 (k3 (al (hFree_ct a2 (v0) (v1) (v3))))))) (u2 (u2 (u2 (u2 s2))))))))) (aj (u2 (u2 (u2 (u2 (aj (ak (k3 (aj t9 (k3 (al (rFree_ct a2 (v0) (v1) (v3))))))) (u2 (u2 (u2 (u2 s2))))))))) (aj (u2 (u2 (u2 (u2 (aj (ak (k3 (aj t9 (k3 (al (hSettle_ct a2 (v0) (v1) (v2))))))) (u2 (u2 (u2 (u2 s2))))))))) (aj (u2 (u2 (u2 (u2 (aj (ak (k3 (aj t9 (k3 (al (rSettle_ct a2 (v0) (v1) (v2))))))) (u2 (u2 (u2 (u2 s2))))))))) (aj (u2 (u2 (aj t3 (u2 (ag a3 (ag a3 (aj (aj a3 t3) (ag a3 (u2 (ag a4 (ag a4 (aj (aj a4 t3) (ag a4 (u2 (aj a5 (aj a5 (aj a5 (aj a5 (al (aj a5 t2)))))))))))))))))))) (ak s2)))))))))) t2)
     ·
      obtain ⟨a6, h⟩ := gu_inv h
      cases h
      exact Arr.lp [59, 66, 176, 186, 196] [] [(58, hc (AV.tup [iv (freZ v5 v0 v1 v3), iv (freE v5 v0 v1 v3)])), (66, hc (AV.tup [iv (freZ v5 v0 v1 v3), iv (freE v5 v0 v1 v3)])), (74, hc (AV.tup [lI (setL v5 v0 v1 v2), iv (setE v5 v0 v1 v2)])), (82, hc (AV.tup [lI (setL v5 v0 v1 v2), iv (setE v5 v0 v1 v2)])), (101, hc (AV.bool true))] [] [] [0, 1] [1, 2, 3, 4, 6, 13, 14] mix (by kernel_rfl) (aj (aj (u2 s2) (aj a0 (aj (u2 s2) (aj a1 (aj (u2 (u2 (u2 (u2 (aj (ak (k3 (aj t9 (k3 (al (hFree_ct a2 (v0) (v1) (v3))))))) (u2 (u2 (u2 (u2 s2))))))))) (aj (u2 (u2 (u2 (u2 (aj (ak (k3 (aj t9 (k3 (al (rFree_ct a2 (v0) (v1) (v3))))))) (u2 (u2 (u2 (u2 s2))))))))) (aj (u2 (u2 (u2 (u2 (aj (ak (k3 (aj t9 (k3 (al (hSettle_ct a2 (v0) (v1) (v2))))))) (u2 (u2 (u2 (u2 s2))))))))) (aj (u2 (u2 (u2 (u2 (aj (ak (k3 (aj t9 (k3 (al (rSettle_ct a2 (v0) (v1) (v2))))))) (u2 (u2 (u2 (u2 s2))))))))) (aj (u2 (u2 (aj t3 (u2 (ag a3 (ag a3 (aj (aj a3 t3) (ag a3 (u2 (ag a4 (ag a4 (aj (aj a4 t3) (ag a4 (u2 (ag a5 (ag a5 (aj (aj a5 (ak (k3 (al (sameInts_ct (setL v5 v0 v1 v2) a6))))) (ag a5 (al (aj a5 t2)))))))))))))))))))) (ak (al (u2 (u2 s2))))))))))))) (ak t9))
 ·
  cases h
  exact Arr.rt [58] [] [] [] [] [] mix (by kernel_rfl) (aj (aj (u2 s2) (aj a0 s2)) t2)
theorem hSw_ct (n : NetD) (sh : List Bool) (hm gs : List Int) (w : Int) (l : List Int) (r : Ret) (h : MReach (hSwStep n sh hm gs w l) (hSwEn n sh hm gs w l) r) : CT Try.prog 12 ([]) ([netA n, .lst (boL sh), lI hm, lI gs, .int .i64 w, lI l]) r.1 r.2 :=
  CT.mach (fn := Try.f12) (c := bodyOf Try.f12) (S := hSwSt n sh hm gs w l) (hd := hSwHd) Try.func12 (by kernel_rfl) (Nat.le_of_ble_eq_true rfl)
    (fun s o ho => match s, ho with
      | .l0 v0 v1 v2 v3 v4 v5 v6, ho => hSwS0_ok n sh hm gs w l v0 v1 v2 v3 v4 v5 v6 o ho
    )
    (fun o ho => hSwEn_ok n sh hm gs w l o ho) h
theorem rdInts {n : Nat} {es : List AV} (h : ∀ x ∈ es, ShV Try.prog n 3 x) : ∃ L : List Int, es = L.map (AV.int .i64) := by
  induction es with
  | nil => exact ⟨[], rfl⟩
  | cons x es ih =>
    obtain ⟨L, rfl⟩ := ih fun y hy => h y (List.mem_cons_of_mem _ hy)
    obtain ⟨i, _, rfl⟩ := (h x (by simp)).intD Try.underlying3
    exact ⟨i :: L, rfl⟩
theorem rdBools {n : Nat} {es : List AV} (h : ∀ x ∈ es, ShV Try.prog n 4 x) : ∃ s : List Bool, es = s.map AV.bool := by
  induction es with
  | nil => exact ⟨[], rfl⟩
  | cons x es ih =>
    obtain ⟨L, rfl⟩ := ih fun y hy => h y (List.mem_cons_of_mem _ hy)
    obtain ⟨i, rfl⟩ := (h x (by simp)).boolD Try.underlying4
    exact ⟨i :: L, rfl⟩
theorem rdBlkD115 {n : Nat} {a : AV} (h : ShV Try.prog (n + 1) 115 a) : ∃ x : BlkD, a = bA x := by
  obtain ⟨_, hs, rfl⟩ := h.structD Try.underlying115
  obtain ⟨_, _, rfl, g0, hs⟩ := hs.consD
  obtain ⟨_, _, rfl, g1, hs⟩ := hs.consD
  obtain ⟨_, _, rfl, g2, hs⟩ := hs.consD
  obtain rfl := hs.nilD
  obtain ⟨x0, _, rfl⟩ := g0.strD Try.underlying9
  obtain ⟨x1, _, rfl⟩ := g1.intD Try.underlying3
  obtain ⟨x2, _, rfl⟩ := g2.intD Try.underlying3
  exact ⟨⟨x0, x1, x2⟩, rfl⟩
theorem rdBlkDs115 {n : Nat} {es : List AV} (h : ∀ x ∈ es, ShV Try.prog (n + 1) 115 x) : ∃ L : List BlkD, es = L.map bA := by
  induction es with
  | nil => exact ⟨[], rfl⟩
  | cons x es ih =>
    obtain ⟨L, rfl⟩ := ih fun y hy => h y (List.mem_cons_of_mem _ hy)
    obtain ⟨f, rfl⟩ := rdBlkD115 (h x (by simp))
    exact ⟨f :: L, rfl⟩
theorem rdSpuD55 {n : Nat} {a : AV} (h : ShV Try.prog (n + 1) 55 a) : ∃ x : SpuD, a = sA x := by
  obtain ⟨_, hs, rfl⟩ := h.structD Try.underlying55
  obtain ⟨_, _, rfl, g0, hs⟩ := hs.consD
  obtain ⟨_, _, rfl, g1, hs⟩ := hs.consD
  obtain ⟨_, _, rfl, g2, hs⟩ := hs.consD
  obtain ⟨_, _, rfl, g3, hs⟩ := hs.consD
  obtain ⟨_, _, rfl, g4, hs⟩ := hs.consD
  obtain ⟨_, _, rfl, g5, hs⟩ := hs.consD
  obtain rfl := hs.nilD
  obtain ⟨x0, _, rfl⟩ := g0.strD Try.underlying9
  obtain ⟨x1, rfl⟩ := g1.boolD Try.underlying4
  obtain ⟨x2, _, rfl⟩ := g2.intD Try.underlying3
  obtain ⟨x3, _, rfl⟩ := g3.intD Try.underlying3
  obtain ⟨x4, _, rfl⟩ := g4.intD Try.underlying3
  obtain ⟨x5, _, rfl⟩ := g5.intD Try.underlying3
  exact ⟨⟨x0, x1, x2, x3, x4, x5⟩, rfl⟩
theorem rdSpuDs55 {n : Nat} {es : List AV} (h : ∀ x ∈ es, ShV Try.prog (n + 1) 55 x) : ∃ L : List SpuD, es = L.map sA := by
  induction es with
  | nil => exact ⟨[], rfl⟩
  | cons x es ih =>
    obtain ⟨L, rfl⟩ := ih fun y hy => h y (List.mem_cons_of_mem _ hy)
    obtain ⟨f, rfl⟩ := rdSpuD55 (h x (by simp))
    exact ⟨f :: L, rfl⟩
theorem rdRows23 {n : Nat} {es : List AV} (h : ∀ x ∈ es, ShV Try.prog (n + 1) 25 x) : ∃ g : List (List Int), es = gL g ∧ Rows g := by
  have key : ∃ g : List (List Int), es = gL g ∧ ∀ r ∈ g, r.length ≤ 9223372036854775807 := by
    induction es with
    | nil => exact ⟨[], rfl, fun r hr => by cases hr⟩
    | cons x es ih =>
      obtain ⟨g, rfl, hg⟩ := ih fun y hy => h y (List.mem_cons_of_mem _ hy)
      obtain ⟨ls, hm, hl, rfl⟩ := (h x (by simp)).sliceD Try.underlying25
      obtain ⟨L, rfl⟩ := rdInts hl
      refine ⟨L :: g, rfl, fun r hr => ?_⟩
      rcases List.mem_cons.1 hr with rfl | hr
      · simpa [maxLen] using hm
      · exact hg r hr
  obtain ⟨g, e, hg⟩ := key
  refine ⟨g, e, fun v hv => ?_⟩
  rw [List.getD_eq_getElem?_getD, List.getElem?_eq_getElem hv]
  exact hg _ (List.getElem_mem hv)
theorem rdNet29 {n : Nat} {a : AV} (h : ShV Try.prog (n + 4) 29 a) : ∃ x : NetD, a = netA x ∧ Rows x.nx := by
  obtain ⟨_, hs, rfl⟩ := h.structD Try.underlying29
  obtain ⟨_, _, rfl, g0, hs⟩ := hs.consD
  obtain ⟨_, _, rfl, g1, hs⟩ := hs.consD
  obtain ⟨_, _, rfl, g2, hs⟩ := hs.consD
  obtain ⟨_, _, rfl, g3, hs⟩ := hs.consD
  obtain ⟨_, _, rfl, g4, hs⟩ := hs.consD
  obtain rfl := hs.nilD
  obtain ⟨_, _, h0, rfl⟩ := g0.sliceD Try.underlying22
  obtain ⟨bs, rfl⟩ := rdBlkDs115 h0
  obtain ⟨_, _, h1, rfl⟩ := g1.sliceD Try.underlying23
  obtain ⟨nx, rfl, hnx⟩ := rdRows23 h1
  obtain ⟨_, _, h2, rfl⟩ := g2.sliceD Try.underlying24
  obtain ⟨ss, rfl⟩ := rdSpuDs55 h2
  obtain ⟨_, _, h3, rfl⟩ := g3.sliceD Try.underlying25
  obtain ⟨rs, rfl⟩ := rdInts h3
  obtain ⟨_, h4, rfl⟩ := g4.structD Try.underlying27
  obtain ⟨_, _, rfl, k0, h4⟩ := h4.consD
  obtain ⟨_, _, rfl, k1, h4⟩ := h4.consD
  obtain ⟨_, _, rfl, k2, h4⟩ := h4.consD
  obtain ⟨_, _, rfl, k3, h4⟩ := h4.consD
  obtain rfl := h4.nilD
  obtain ⟨q, _, rfl⟩ := k0.intD Try.underlying3
  obtain ⟨a, _, rfl⟩ := k1.intD Try.underlying3
  obtain ⟨d, _, rfl⟩ := k2.intD Try.underlying3
  obtain ⟨p, _, rfl⟩ := k3.intD Try.underlying3
  exact ⟨⟨bs, nx, ss, rs, q, a, d, p⟩, rfl, hnx⟩
theorem setL_len {n : NetD} {sh : List Bool} {hm gs : List Int} : (setL n sh hm gs).length ≤ 1000000 := by
  by_cases h1 : valB n = true ∧ hm.length ≤ 8 ∧ hm.all (hmB n) = true
  · unfold setL
    split
    · unfold setZ; rw [F3_len]; omega
    · simp
  · have e : setE n sh hm gs = 20 := by unfold setE hkE; rw [if_neg h1]; rfl
    unfold setL
    rw [e]; simp
theorem hSw_run (n : NetD) (hrw : Rows n.nx) (sh : List Bool) (hm gs : List Int) (w : Int) (l : List Int) : CT Try.prog 12 [] [netA n, .lst (boL sh), lI hm, lI gs, .int .i64 w, lI l] [] (.bool true) := by
  refine hSw_ct n sh hm gs w l ([], .bool true) ?_
  have ls := loo_spec (L := l) (kk := 0) (most := 6) (by omega) (by omega)
  have hn := ls.1
  have hce := hn.v.cel
  have ns := hn.v.ns
  have s1 := (shu_spec (L := l) (kk := looK l 0 6) (c := celN (looM l 0 6)) (by omega) (by omega)).2.1
  have s2 := (hmd_spec (L := l) (kk := shuK l (looK l 0 6) (celN (looM l 0 6))) hn (by omega)).2.1
  unfold hSwEn
  refine .to (s := hSwPc.l0 sh hm gs w 0 n 0) (y := some (.inl (hSwPc.l0 sh hm gs w 1 n 0))) ?_ (.to (y := some (.inl (hSwPc.l0 (shuL l (looK l 0 6) (celN (looM l 0 6))) (hmdH (looM l 0 6) l (shuK l (looK l 0 6) (celN (looM l 0 6)))) (hmdG (looM l 0 6) l (shuK l (looK l 0 6) (celN (looM l 0 6)))) (IntKind.i64.wrap (nextZ l (hmdK (looM l 0 6) l (shuK l (looK l 0 6) (celN (looM l 0 6)))) (IntKind.i64.wrap (iN (List.map sA (looM l 0 6).ss).length + 2)) - 1)) 2 (looM l 0 6) (hmdK (looM l 0 6) l (shuK l (looK l 0 6) (celN (looM l 0 6))) + 1)))) ?_ (.to (y := some (.inr ([], .bool true))) ?_ (.ret _)))
  · show hSwS0 n sh hm gs w l sh hm gs w 0 n 0 = _
    unfold hSwS0
    rw [br_t (by rfl), br_f (by rfl), gu_t hrw, br_f (by simp), br_f (by simp), br_f (by simp), gu_t setL_len]
    rfl
  · show hSwS0 n sh hm gs w l sh hm gs w 1 n 0 = _
    unfold hSwS0
    rw [br_t (by rfl), br_t (by rfl), gu_t (by omega), gu_t hn.v, gu_t (by omega), gu_t (by omega), gu_t hn, gu_t (by omega), gu_t (by omega), gu_t hn.rows, br_f (by simp), br_f (by simp), br_f (by simp), gu_t setL_len]
    rfl
  · show hSwS0 n sh hm gs w l _ _ _ _ 2 _ _ = _
    unfold hSwS0
    rw [br_f (by rfl)]
theorem homesSettle_row (avs : List AV) (h : ShVs Try.prog 6 Try.f12.params.toList avs) : CT Try.prog 12 [] avs [] (.bool true) := by
  rw [Try.params12] at h
  obtain ⟨a, _, rfl, ka, h⟩ := h.consD
  obtain ⟨b, _, rfl, kb, h⟩ := h.consD
  obtain ⟨c, _, rfl, kc, h⟩ := h.consD
  obtain ⟨d, _, rfl, kd, h⟩ := h.consD
  obtain ⟨e, _, rfl, ke, h⟩ := h.consD
  obtain ⟨f, _, rfl, kf, h⟩ := h.consD
  obtain rfl := h.nilD
  obtain ⟨n, rfl, hrw⟩ := rdNet29 ka
  obtain ⟨_, _, hb, rfl⟩ := kb.sliceD Try.underlying96
  obtain ⟨sh, rfl⟩ := rdBools hb
  obtain ⟨_, _, hc, rfl⟩ := kc.sliceD Try.underlying25
  obtain ⟨hm, rfl⟩ := rdInts hc
  obtain ⟨_, _, hd, rfl⟩ := kd.sliceD Try.underlying25
  obtain ⟨gs, rfl⟩ := rdInts hd
  obtain ⟨w, _, rfl⟩ := ke.intD Try.underlying3
  obtain ⟨_, _, hf, rfl⟩ := kf.sliceD Try.underlying25
  obtain ⟨l, rfl⟩ := rdInts hf
  exact hSw_run n hrw sh hm gs w l
end Go.Proofs.Ytepomnooippjpaa

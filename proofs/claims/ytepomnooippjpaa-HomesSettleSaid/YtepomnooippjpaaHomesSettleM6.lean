/- Parts of the proof: St6m, StE, St5m, StF, Ho1m, HoG, Ho7m, HoA, Ho2m, HoB, Ho3m, HoC, Ho4m, HoD, Ho5m, HoE, HoF, Ho6m. -/
import Derived.Test.YtepomnooippjpaaProg
import Derived.KernelRfl
import Derived.Test.YtepomnooippjpaaHomesSettleM5
open Go Go.AX Go.Proofs
set_option maxRecDepth 100000
set_option maxHeartbeats 4000000
set_option linter.unusedVariables false
set_option linter.unusedSimpArgs false
namespace Go.Proofs.Ytepomnooippjpaa
inductive loPc where
  | l0 (v0 : Int) (v1 : Nat) (v2 : List (List Int)) (v3 : List Int)
  | l1 (v0 : Int) (v1 : Int) (v2 : Nat) (v3 : List (List Int)) (v4 : List Int)
noncomputable def loSt (L : List Int) (kk : Nat) (most : Int) : loPc → St
  | .l0 v0 v1 v2 v3 => St.mk 83 [(4, AV.ptr 1 0 0), (5, AV.ptr 2 0 0), (6, iv v0)] [some (tapeB L v1), some (Blk.mk [AV.agg [AV.nils, AV.nils, AV.nils, AV.nils, iv 0, iv 0, iv 0, iv 0]] 8 true true none), some (Blk.mk [AV.agg [AV.lst (List.map bA (nltM L kk most).bs), AV.sl 3 0 v2.length, AV.lst (List.map sA (nltM L kk most).ss), AV.sl 4 0 v3.length, iv (nltM L kk most).q, iv (nltM L kk most).a, iv (nltM L kk most).d, iv (nltM L kk most).p]] 8 false true none), some (Blk.mk (List.map lI v2) 1 true true none), some (Blk.mk (List.map (iv) v3) 1 true true none)]
  | .l1 v0 v1 v2 v3 v4 => St.mk 83 [(4, AV.ptr 1 0 0), (5, AV.ptr 2 0 0), (6, iv v0), (7, iv v1)] [some (tapeB L v2), some (Blk.mk [AV.agg [AV.nils, AV.nils, AV.nils, AV.nils, iv 0, iv 0, iv 0, iv 0]] 8 true true none), some (Blk.mk [AV.agg [AV.lst (List.map bA (nltM L kk most).bs), AV.sl 3 0 v3.length, AV.lst (List.map sA (nltM L kk most).ss), AV.sl 4 0 v4.length, iv (nltM L kk most).q, iv (nltM L kk most).a, iv (nltM L kk most).d, iv (nltM L kk most).p]] 8 false true none), some (Blk.mk (List.map lI v3) 1 true true none), some (Blk.mk (List.map (iv) v4) 1 true true none)]
def loHd : loPc → Nat
  | .l0 _ _ _ _ => 0
  | .l1 _ _ _ _ _ => 1
noncomputable def loEn (L : List Int) (kk : Nat) (most : Int) : Option (loPc ⊕ Ret) :=
  gu (kk ≤ 5000) <|
  gu (1 ≤ most ∧ most ≤ 20) <|
  gu (nltK L kk most < 9223372036854775807) <|
  br (nextZ L (nltK L kk most) 3 == 0)
  (br (decide (1 < iN (List.map bA (nltM L kk most).bs).length))
   (gu (nltK L kk most + 1 < 9223372036854775807) <|
    gu (0 ≤ nextZ L (nltK L kk most + 1) (iN (List.map bA (nltM L kk most).bs).length)) <|
    gu (nextZ L (nltK L kk most + 1) (iN (List.map bA (nltM L kk most).bs).length) < iN (nltM L kk most).nx.length) <|
    gu ((0 + (nextZ L (nltK L kk most + 1) (iN (List.map bA (nltM L kk most).bs).length)).toNat).succ.le (gL (nltM L kk most).nx).length) <|
    gu (nltK L kk most + 1 + 1 < 9223372036854775807) <|
    br (nextZ L (nltK L kk most + 1 + 1) 3 == 0)
    (some (.inl (.l0 ((0 : Int)) (nltK L kk most + 1 + 1 + 1) ((nltM L kk most).nx.set (0 + (nextZ L (nltK L kk most + 1) (iN (List.map bA (nltM L kk most).bs).length)).toNat) []) ((nltM L kk most).rs))))
    (gu ((nltM L kk most).nx.length = ((gL (nltM L kk most).nx).set (0 + (nextZ L (nltK L kk most + 1) (iN (List.map bA (nltM L kk most).bs).length)).toNat) (AV.lst [])).length) <|
     some (.inr ([some (Blk.mk [AV.agg [AV.lst (List.map (AV.int IntKind.i64) L), AV.int IntKind.i64 (iN (nltK L kk most + 1 + 1 + 1))]] 2 true true none)], AV.agg [AV.lst (List.map bA (nltM L kk most).bs), AV.lst ((gL (nltM L kk most).nx).set (0 + (nextZ L (nltK L kk most + 1) (iN (List.map bA (nltM L kk most).bs).length)).toNat) (AV.lst [])), AV.lst (List.map sA (nltM L kk most).ss), AV.lst (List.map (AV.int IntKind.i64) (nltM L kk most).rs), AV.int IntKind.i64 (nltM L kk most).q, AV.int IntKind.i64 (nltM L kk most).a, AV.int IntKind.i64 (nltM L kk most).d, AV.int IntKind.i64 (nltM L kk most).p]))))
   (gu (nltK L kk most + 1 < 9223372036854775807) <|
    br (nextZ L (nltK L kk most + 1) 3 == 0)
    (some (.inl (.l0 ((0 : Int)) (nltK L kk most + 1 + 1) ((nltM L kk most).nx) ((nltM L kk most).rs))))
    (gu ((nltM L kk most).nx.length = (gL (nltM L kk most).nx).length) <|
     some (.inr ([some (Blk.mk [AV.agg [AV.lst (List.map (AV.int IntKind.i64) L), AV.int IntKind.i64 (iN (nltK L kk most + 1 + 1))]] 2 true true none)], AV.agg [AV.lst (List.map bA (nltM L kk most).bs), AV.lst (gL (nltM L kk most).nx), AV.lst (List.map sA (nltM L kk most).ss), AV.lst (List.map (AV.int IntKind.i64) (nltM L kk most).rs), AV.int IntKind.i64 (nltM L kk most).q, AV.int IntKind.i64 (nltM L kk most).a, AV.int IntKind.i64 (nltM L kk most).d, AV.int IntKind.i64 (nltM L kk most).p])))))
  (gu (nltK L kk most + 1 < 9223372036854775807) <|
   br (nextZ L (nltK L kk most + 1) 3 == 0)
   (some (.inl (.l0 ((0 : Int)) (nltK L kk most + 1 + 1) ((nltM L kk most).nx) ((nltM L kk most).rs))))
   (gu ((nltM L kk most).nx.length = (gL (nltM L kk most).nx).length) <|
    some (.inr ([some (Blk.mk [AV.agg [AV.lst (List.map (AV.int IntKind.i64) L), AV.int IntKind.i64 (iN (nltK L kk most + 1 + 1))]] 2 true true none)], AV.agg [AV.lst (List.map bA (nltM L kk most).bs), AV.lst (gL (nltM L kk most).nx), AV.lst (List.map sA (nltM L kk most).ss), AV.lst (List.map (AV.int IntKind.i64) (nltM L kk most).rs), AV.int IntKind.i64 (nltM L kk most).q, AV.int IntKind.i64 (nltM L kk most).a, AV.int IntKind.i64 (nltM L kk most).d, AV.int IntKind.i64 (nltM L kk most).p]))))
noncomputable def loS0 (L : List Int) (kk : Nat) (most : Int) (v0 : Int) (v1 : Nat) (v2 : List (List Int)) (v3 : List Int) : Option (loPc ⊕ Ret) :=
  br (decide (v0 < iN (List.map sA (nltM L kk most).ss).length))
  (some (.inl (.l1 (v0) ((0 : Int)) (v1) (v2) (v3))))
  (some (.inr ([some (Blk.mk [AV.agg [AV.lst (List.map (AV.int IntKind.i64) L), AV.int IntKind.i64 (iN v1)]] 2 true true none)], AV.agg [AV.lst (List.map bA (nltM L kk most).bs), AV.lst (List.map lI v2), AV.lst (List.map sA (nltM L kk most).ss), AV.lst (List.map (AV.int IntKind.i64) v3), AV.int IntKind.i64 (nltM L kk most).q, AV.int IntKind.i64 (nltM L kk most).a, AV.int IntKind.i64 (nltM L kk most).d, AV.int IntKind.i64 (nltM L kk most).p])))
noncomputable def loS1 (L : List Int) (kk : Nat) (most : Int) (v0 : Int) (v1 : Int) (v2 : Nat) (v3 : List (List Int)) (v4 : List Int) : Option (loPc ⊕ Ret) :=
  gu (0 ≤ v0) <|
  el ((nltM L kk most).ss) (v0.toNat) fun (x43 : SpuD) =>
  br (decide (v1 < x43.k))
  (el ((nltM L kk most).ss) (v0.toNat) fun (x51 : SpuD) =>
   br (x51.dep)
   (br (decide (iN v4.length < 8))
    (el ((nltM L kk most).ss) (v0.toNat) fun (x66 : SpuD) =>
     gu (v4.length ≤ 1000000) <|
     br (!hasZ v4 (IntKind.i64.wrap (x66.b + v1)))
     (gu ((List.map (AV.int IntKind.i64) v4).length + [AV.int IntKind.i64 (IntKind.i64.wrap (x66.b + v1))].length ≤ 9223372036854775807) <|
      gu (((List.map (AV.int IntKind.i64) v4).length + [AV.int IntKind.i64 (IntKind.i64.wrap (x66.b + v1))].length) * 8 ≤ 140737488355328) <|
      some (.inl (.l1 (v0) (IntKind.i64.wrap (v1 + 1)) (v2) (v3) (v4 ++ [IntKind.i64.wrap (x66.b + v1)]))))
     (some (.inl (.l1 (v0) (IntKind.i64.wrap (v1 + 1)) (v2) (v3) (v4)))))
    (some (.inl (.l0 (IntKind.i64.wrap (v0 + 1)) (v2) (v3) (v4)))))
   (some (.inl (.l0 (IntKind.i64.wrap (v0 + 1)) (v2) (v3) (v4)))))
  (some (.inl (.l0 (IntKind.i64.wrap (v0 + 1)) (v2) (v3) (v4))))
noncomputable def loStep (L : List Int) (kk : Nat) (most : Int) : loPc → Option (loPc ⊕ Ret)
  | .l0 v0 v1 v2 v3 => loS0 L kk most v0 v1 v2 v3
  | .l1 v0 v1 v2 v3 v4 => loS1 L kk most v0 v1 v2 v3 v4
theorem loEn_ok (L : List Int) (kk : Nat) (most : Int) (o : loPc ⊕ Ret) (h : loEn L kk most = some o) : Arr Try.prog Try.f16 1 (loSt L kk most) loHd (bodyOf Try.f16) [] { n := Try.f16.ntmps, fr := enumF 0 ([.ptr 0 0 0, .int .i64 most]), hp := ([some (tapeB L kk)]) } o := by
 unfold loEn at h
 obtain ⟨a0, h⟩ := gu_inv h
 obtain ⟨a1, h⟩ := gu_inv h
 obtain ⟨a2, h⟩ := gu_inv h
 rcases br_inv h with ⟨a3, h⟩ | ⟨a3, h⟩
 ·
  rcases br_inv h with ⟨a4, h⟩ | ⟨a4, h⟩
  ·
   obtain ⟨a5, h⟩ := gu_inv h
   obtain ⟨a6, h⟩ := gu_inv h
   obtain ⟨a7, h⟩ := gu_inv h
   obtain ⟨a8, h⟩ := gu_inv h
   obtain ⟨a9, h⟩ := gu_inv h
   rcases br_inv h with ⟨a10, h⟩ | ⟨a10, h⟩
   ·
    cases h
    exact Arr.loopE (H := hT (ds [31, 41, 63]) [(28, AV.lst [])] [(11, Hint.call [0] [] [tapeB L (nltK L kk most), gB (nltM L kk most).nx, dB (nltM L kk most).rs] (netB (nltM L kk most))), (13, Hint.call [0] [] [tapeB L (nltK L kk most + 1)] (AV.int IntKind.i64 (nextZ L (nltK L kk most) 3))), (27, Hint.call [0] [] [tapeB L (nltK L kk most + 1 + 1)] (AV.int IntKind.i64 (nextZ L (nltK L kk most + 1) (iN (List.map bA (nltM L kk most).bs).length)))), (30, Hint.call [0] [] [tapeB L (nltK L kk most + 1 + 1 + 1)] (AV.int IntKind.i64 (nextZ L (nltK L kk most + 1 + 1) 3)))]) (F := []) (n := 4000) (s' := St.mk 83 [(4, AV.ptr 1 0 0), (5, AV.ptr 2 0 0), (6, AV.int IntKind.i64 0)] [some (Blk.mk [AV.agg [AV.lst (List.map (AV.int IntKind.i64) L), AV.int IntKind.i64 (iN (nltK L kk most + 1 + 1 + 1))]] 2 true true none), some (Blk.mk [AV.agg [AV.nils, AV.nils, AV.nils, AV.nils, AV.int IntKind.i64 0, AV.int IntKind.i64 0, AV.int IntKind.i64 0, AV.int IntKind.i64 0]] 8 true true none), some (Blk.mk [AV.agg [AV.lst (List.map bA (nltM L kk most).bs), AV.sl 3 0 (nltM L kk most).nx.length, AV.lst (List.map sA (nltM L kk most).ss), AV.sl 4 0 (nltM L kk most).rs.length, AV.int IntKind.i64 (nltM L kk most).q, AV.int IntKind.i64 (nltM L kk most).a, AV.int IntKind.i64 (nltM L kk most).d, AV.int IntKind.i64 (nltM L kk most).p]] 8 false true none), some (Blk.mk ((gL (nltM L kk most).nx).set (0 + (nextZ L (nltK L kk most + 1) (iN (List.map bA (nltM L kk most).bs).length)).toNat) (AV.lst [])) 1 true true none), some (Blk.mk (List.map (AV.int IntKind.i64) (nltM L kk most).rs) 1 true true none)]) [] [0, 1, 4, 2, 3] [] [4, 5, 6] mix (by kernel_rfl) (aj (u2 (aj (u2 (u2 (aj (k5 (al (netL_ct (L) (kk) (most) a0 a1))) (ak (al (k2 n11)))))) (aj (u2 (aj (ak (k3 (al (next_ct (L) (nltK L kk most) (3) a2)))) (u2 (u2 (ag a3 (ag a3 (ag a3 (ag a3 (al (aj a3 t2)))))))))) (aj a4 (aj (u2 (u2 (u2 (u2 (u2 (u2 (aj (k5 (al (next_ct (L) (nltK L kk most + 1) (iN (List.map bA (nltM L kk most).bs).length) a5))) (aj (k2 (aj a6 a7)) (al (ak a8)))))))))) (aj (u2 (aj (ak (k3 (al (next_ct (L) (nltK L kk most + 1 + 1) (3) a9)))) s2)) (aj a10 s2))))))) (k5 (aj (al t9) t3))) (by simp [iv, netA, tapeB, lstI, loSt, gL, boL, lI, sA, bA])
   ·
    obtain ⟨a11, h⟩ := gu_inv h
    cases h
    exact Arr.rt [31, 41, 62] [(28, AV.lst [])] [(11, Hint.call [0] [] [tapeB L (nltK L kk most), gB (nltM L kk most).nx, dB (nltM L kk most).rs] (netB (nltM L kk most))), (13, Hint.call [0] [] [tapeB L (nltK L kk most + 1)] (iv (nextZ L (nltK L kk most) 3))), (27, Hint.call [0] [] [tapeB L (nltK L kk most + 1 + 1)] (iv (nextZ L (nltK L kk most + 1) (iN (List.map bA (nltM L kk most).bs).length)))), (30, Hint.call [0] [] [tapeB L (nltK L kk most + 1 + 1 + 1)] (iv (nextZ L (nltK L kk most + 1 + 1) 3)))] [] [0] [2, 3] mix (by kernel_rfl) (aj (u2 (aj (u2 (u2 (aj (k5 (al (netL_ct (L) (kk) (most) a0 a1))) (ak (al (k2 n11)))))) (aj (u2 (aj (ak (k3 (al (next_ct (L) (nltK L kk most) (3) a2)))) (u2 (u2 (ag a3 (ag a3 (ag a3 (ag a3 (al (aj a3 t2)))))))))) (aj a4 (aj (u2 (u2 (u2 (u2 (u2 (u2 (aj (k5 (al (next_ct (L) (nltK L kk most + 1) (iN (List.map bA (nltM L kk most).bs).length) a5))) (aj (k2 (aj a6 a7)) (al (ak a8)))))))))) (aj (u2 (aj (ak (k3 (al (next_ct (L) (nltK L kk most + 1 + 1) (3) a9)))) s2)) (aj a10 (al (u2 (al (k2 n11))))))))))) (aj (ak (aj a11 (ak (aj (show (nltM L kk most).rs.length = (List.map (iv) (nltM L kk most).rs).length by simp) t5)))) t2))
  ·
   obtain ⟨a5, h⟩ := gu_inv h
   rcases br_inv h with ⟨a6, h⟩ | ⟨a6, h⟩
   ·
    cases h
    exact Arr.lp [31, 40, 63] [] [(11, Hint.call [0] [] [tapeB L (nltK L kk most), gB (nltM L kk most).nx, dB (nltM L kk most).rs] (netB (nltM L kk most))), (13, Hint.call [0] [] [tapeB L (nltK L kk most + 1)] (iv (nextZ L (nltK L kk most) 3))), (30, Hint.call [0] [] [tapeB L (nltK L kk most + 1 + 1)] (iv (nextZ L (nltK L kk most + 1) 3)))] [] [] [0, 1, 4, 2, 3] [4, 5, 6] mix (by kernel_rfl) (aj (u2 (aj (u2 (u2 (aj (k5 (al (netL_ct (L) (kk) (most) a0 a1))) (ak (al (k2 n11)))))) (aj (u2 (aj (ak (k3 (al (next_ct (L) (nltK L kk most) (3) a2)))) (u2 (u2 (ag a3 (ag a3 (ag a3 (ag a3 (al (aj a3 t2)))))))))) (aj a4 (aj (u2 (aj (ak (k3 (al (next_ct (L) (nltK L kk most + 1) (3) a5)))) s2)) (aj a6 s2)))))) (k5 (aj (al t9) t3)))
   ·
    obtain ⟨a7, h⟩ := gu_inv h
    cases h
    exact Arr.rt [31, 40, 62] [] [(11, Hint.call [0] [] [tapeB L (nltK L kk most), gB (nltM L kk most).nx, dB (nltM L kk most).rs] (netB (nltM L kk most))), (13, Hint.call [0] [] [tapeB L (nltK L kk most + 1)] (iv (nextZ L (nltK L kk most) 3))), (30, Hint.call [0] [] [tapeB L (nltK L kk most + 1 + 1)] (iv (nextZ L (nltK L kk most + 1) 3)))] [] [0] [2, 3] mix (by kernel_rfl) (aj (u2 (aj (u2 (u2 (aj (k5 (al (netL_ct (L) (kk) (most) a0 a1))) (ak (al (k2 n11)))))) (aj (u2 (aj (ak (k3 (al (next_ct (L) (nltK L kk most) (3) a2)))) (u2 (u2 (ag a3 (ag a3 (ag a3 (ag a3 (al (aj a3 t2)))))))))) (aj a4 (aj (u2 (aj (ak (k3 (al (next_ct (L) (nltK L kk most + 1) (3) a5)))) s2)) (aj a6 (al (u2 (al (k2 n11)))))))))) (aj (ak (aj a7 (ak (aj (show (nltM L kk most).rs.length = (List.map (iv) (nltM L kk most).rs).length by simp) t5)))) t2))
 ·
  obtain ⟨a4, h⟩ := gu_inv h
  rcases br_inv h with ⟨a5, h⟩ | ⟨a5, h⟩
  ·
   cases h
   exact Arr.lp [30, 63] [] [(11, Hint.call [0] [] [tapeB L (nltK L kk most), gB (nltM L kk most).nx, dB (nltM L kk most).rs] (netB (nltM L kk most))), (13, Hint.call [0] [] [tapeB L (nltK L kk most + 1)] (iv (nextZ L (nltK L kk most) 3))), (30, Hint.call [0] [] [tapeB L (nltK L kk most + 1 + 1)] (iv (nextZ L (nltK L kk most + 1) 3)))] [] [] [0, 1, 4, 2, 3] [4, 5, 6] mix (by kernel_rfl) (aj (u2 (aj (u2 (u2 (aj (k5 (al (netL_ct (L) (kk) (most) a0 a1))) (ak (al (k2 n11)))))) (aj (u2 (aj (ak (k3 (al (next_ct (L) (nltK L kk most) (3) a2)))) (u2 (u2 (aj a3 (aj a3 (aj a3 (aj a3 (al (aj a3 t2)))))))))) (ak (aj (u2 (aj (ak (k3 (al (next_ct (L) (nltK L kk most + 1) (3) a4)))) s2)) (aj a5 s2)))))) (k5 (aj (al t9) t3)))
  ·
   obtain ⟨a6, h⟩ := gu_inv h
   cases h
   exact Arr.rt [30, 62] [] [(11, Hint.call [0] [] [tapeB L (nltK L kk most), gB (nltM L kk most).nx, dB (nltM L kk most).rs] (netB (nltM L kk most))), (13, Hint.call [0] [] [tapeB L (nltK L kk most + 1)] (iv (nextZ L (nltK L kk most) 3))), (30, Hint.call [0] [] [tapeB L (nltK L kk most + 1 + 1)] (iv (nextZ L (nltK L kk most + 1) 3)))] [] [0] [2, 3] mix (by kernel_rfl) (aj (u2 (aj (u2 (u2 (aj (k5 (al (netL_ct (L) (kk) (most) a0 a1))) (ak (al (k2 n11)))))) (aj (u2 (aj (ak (k3 (al (next_ct (L) (nltK L kk most) (3) a2)))) (u2 (u2 (aj a3 (aj a3 (aj a3 (aj a3 (al (aj a3 t2)))))))))) (ak (aj (u2 (aj (ak (k3 (al (next_ct (L) (nltK L kk most + 1) (3) a4)))) s2)) (aj a5 (al (u2 (al (k2 n11)))))))))) (aj (ak (aj a6 (ak (aj (show (nltM L kk most).rs.length = (List.map (iv) (nltM L kk most).rs).length by simp) t5)))) t2))
theorem loS0_ok (L : List Int) (kk : Nat) (most : Int) (v0 : Int) (v1 : Nat) (v2 : List (List Int)) (v3 : List Int) (o : loPc ⊕ Ret) (h : loS0 L kk most v0 v1 v2 v3 = some o) : Arr Try.prog Try.f16 1 (loSt L kk most) loHd (headC Try.f16 0) (.rnd (headC Try.f16 0) :: headK Try.f16 0) (loSt L kk most (.l0 v0 v1 v2 v3)) o := by
 unfold loS0 at h
 rcases br_inv h with ⟨a0, h⟩ | ⟨a0, h⟩
 ·
  cases h
  exact Arr.lp [73] [] [] [] [] [0, 1, 2, 3, 4] [4, 5, 6, 7] mix (by kernel_rfl) (aj (aj (u2 (u2 (u2 (u2 (al t3))))) (aj a0 s2)) (ak (k5 (aj (al t9) t3))))
 ·
  cases h
  exact Arr.rt [72] [] [] [] [0] [3, 4] mix (by kernel_rfl) (aj (aj (u2 (u2 (u2 (u2 (al t3))))) (aj a0 (al (u2 (al (k2 n11)))))) (aj (ak (aj (show v2.length = (List.map lI v2).length by simp) (ak (aj (show v3.length = (List.map (iv) v3).length by simp) t5)))) t2))
theorem loS1_ok (L : List Int) (kk : Nat) (most : Int) (v0 : Int) (v1 : Int) (v2 : Nat) (v3 : List (List Int)) (v4 : List Int) (o : loPc ⊕ Ret) (h : loS1 L kk most v0 v1 v2 v3 v4 = some o) : Arr Try.prog Try.f16 1 (loSt L kk most) loHd (headC Try.f16 1) (.rnd (headC Try.f16 1) :: headK Try.f16 1) (loSt L kk most (.l1 v0 v1 v2 v3 v4)) o := by
 unfold loS1 at h
 obtain ⟨a0, h⟩ := gu_inv h
 obtain ⟨x43, a1, h⟩ := el_inv h
 rcases br_inv h with ⟨a2, h⟩ | ⟨a2, h⟩
 ·
  obtain ⟨x51, a3, h⟩ := el_inv h
  rcases br_inv h with ⟨a4, h⟩ | ⟨a4, h⟩
  ·
   rcases br_inv h with ⟨a5, h⟩ | ⟨a5, h⟩
   ·
    obtain ⟨x66, a6, h⟩ := el_inv h
    obtain ⟨a7, h⟩ := gu_inv h
    rcases br_inv h with ⟨a8, h⟩ | ⟨a8, h⟩
    ·
     obtain ⟨a9, h⟩ := gu_inv h
     obtain ⟨a10, h⟩ := gu_inv h
     cases h
     exact Arr.loopE (H := hT (ds [95, 111, 121, 151]) [(43, sA x43), (51, sA x51), (66, sA x66)] [(74, Hint.call [] [4] [] (AV.bool (hasZ v4 (IntKind.i64.wrap (x66.b + v1)))))]) (F := []) (n := 4000) (s' := St.mk 83 [(4, AV.ptr 1 0 0), (5, AV.ptr 2 0 0), (6, AV.int IntKind.i64 v0), (7, AV.int IntKind.i64 (IntKind.i64.wrap (v1 + 1)))] [some (Blk.mk [AV.agg [AV.lst (List.map (AV.int IntKind.i64) L), AV.int IntKind.i64 (iN v2)]] 2 true true none), some (Blk.mk [AV.agg [AV.nils, AV.nils, AV.nils, AV.nils, AV.int IntKind.i64 0, AV.int IntKind.i64 0, AV.int IntKind.i64 0, AV.int IntKind.i64 0]] 8 true true none), some (Blk.mk [AV.agg [AV.lst (List.map bA (nltM L kk most).bs), AV.sl 3 0 v3.length, AV.lst (List.map sA (nltM L kk most).ss), AV.sl 4 0 ((List.map (AV.int IntKind.i64) v4).length + [AV.int IntKind.i64 (IntKind.i64.wrap (x66.b + v1))].length), AV.int IntKind.i64 (nltM L kk most).q, AV.int IntKind.i64 (nltM L kk most).a, AV.int IntKind.i64 (nltM L kk most).d, AV.int IntKind.i64 (nltM L kk most).p]] 8 false true none), some (Blk.mk (List.map lI v3) 1 true true none), some (Blk.mk (List.map (AV.int IntKind.i64) v4 ++ [AV.int IntKind.i64 (IntKind.i64.wrap (x66.b + v1))]) 1 true true none)]) [] [0, 1, 2, 3, 6] [] [4, 5, 6, 7] mix (by kernel_rfl) (aj (aj (u2 (u2 (u2 (u2 (aj (k2 (aj a0 (getMap (f := sA) a1))) (u2 (u2 (aj t3 (u2 (ag a2 (ag a2 (ag a2 (aj (aj a2 (k2 (aj a0 (getMap (f := sA) a3)))) (ag a2 (ag a2 (ag a2 (u2 (ag a4 (ag a4 (ag a4 (ag a4 (al (aj a4 t2))))))))))))))))))))))) (aj a5 (aj (u2 (u2 (u2 (aj (k2 (aj a0 (getMap (f := sA) a6))) (u2 (u2 (u2 (aj t3 s2)))))))) (aj (u2 (u2 (u2 (aj (k2 (aj (show v4.length = (List.map (AV.int IntKind.i64) v4).length by simp) (ak (aj (has_ct (v4) (IntKind.i64.wrap (x66.b + v1)) a7) (show ∀ (blk : Blk), blk ∈ [] → ImmB blk from (by intro _ h; cases h)))))) s2)))) (aj a8 (aj (u2 (u2 (u2 (u2 (aj (k2 (aj (show (List.map (AV.int IntKind.i64) v4).length = v4.length by simp) (aj (aj (show nat_lit 1 = nat_lit 1 from rfl) (show 1 ≤ [AV.int IntKind.i64 (IntKind.i64.wrap (x66.b + v1))].length by simp)) (aj a9 a10)))) (u2 (al t3))))))) (al (u2 (u2 s2))))))))) (ak (k5 (aj (al t9) t3)))) (by simp [iv, netA, tapeB, lstI, loSt, gL, boL, lI, sA, bA])
    ·
     cases h
     exact Arr.lp [95, 111, 121, 150] [(43, sA x43), (51, sA x51), (66, sA x66)] [(74, Hint.call [] [4] [] (AV.bool (hasZ v4 (IntKind.i64.wrap (x66.b + v1)))))] [] [] [0, 1, 2, 3, 4] [4, 5, 6, 7] mix (by kernel_rfl) (aj (aj (u2 (u2 (u2 (u2 (aj (k2 (aj a0 (getMap (f := sA) a1))) (u2 (u2 (aj t3 (u2 (ag a2 (ag a2 (ag a2 (aj (aj a2 (k2 (aj a0 (getMap (f := sA) a3)))) (ag a2 (ag a2 (ag a2 (u2 (ag a4 (ag a4 (ag a4 (ag a4 (al (aj a4 t2))))))))))))))))))))))) (aj a5 (aj (u2 (u2 (u2 (aj (k2 (aj a0 (getMap (f := sA) a6))) (u2 (u2 (u2 (aj t3 s2)))))))) (aj (u2 (u2 (u2 (aj (k2 (aj (show v4.length = (List.map (iv) v4).length by simp) (ak (aj (has_ct (v4) (IntKind.i64.wrap (x66.b + v1)) a7) (show ∀ (blk : Blk), blk ∈ [] → ImmB blk from (by intro _ h; cases h)))))) s2)))) (aj a8 (al (u2 (u2 s2)))))))) (ak (k5 (aj (al t9) t3))))
   ·
    cases h
    exact Arr.lp [95, 111, 120] [(43, sA x43), (51, sA x51)] [] [] [] [0, 1, 2, 3, 4] [4, 5, 6] mix (by kernel_rfl) (aj (aj (u2 (u2 (u2 (u2 (aj (k2 (aj a0 (getMap (f := sA) a1))) (u2 (u2 (aj t3 (u2 (ag a2 (ag a2 (ag a2 (aj (aj a2 (k2 (aj a0 (getMap (f := sA) a3)))) (ag a2 (ag a2 (ag a2 (u2 (ag a4 (ag a4 (ag a4 (ag a4 (al (aj a4 t2))))))))))))))))))))))) (aj a5 (al (u2 (u2 s2))))) (k5 (aj (al t9) t3)))
  ·
   cases h
   exact Arr.lp [95, 110] [(43, sA x43), (51, sA x51)] [] [] [] [0, 1, 2, 3, 4] [4, 5, 6] mix (by kernel_rfl) (aj (aj (u2 (u2 (u2 (u2 (aj (k2 (aj a0 (getMap (f := sA) a1))) (u2 (u2 (aj t3 (u2 (ag a2 (ag a2 (ag a2 (aj (aj a2 (k2 (aj a0 (getMap (f := sA) a3)))) (ag a2 (ag a2 (ag a2 (u2 (aj a4 (aj a4 (aj a4 (aj a4 (al (aj a4 t2))))))))))))))))))))))) (ak (al (u2 (u2 s2))))) (k5 (aj (al t9) t3)))
 ·
  cases h
  exact Arr.lp [94] [(43, sA x43)] [] [] [] [0, 1, 2, 3, 4] [4, 5, 6] mix (by kernel_rfl) (aj (aj (u2 (u2 (u2 (u2 (aj (k2 (aj a0 (getMap (f := sA) a1))) (u2 (u2 (aj t3 (u2 (aj a2 (aj a2 (aj a2 (aj a2 (aj a2 (aj a2 (ag a2 (u2 (ak (k3 (al t3)))))))))))))))))))) (ak (al (u2 (u2 s2))))) (k5 (aj (al t9) t3)))
theorem lo_ct (L : List Int) (kk : Nat) (most : Int) (r : Ret) (h : MReach (loStep L kk most) (loEn L kk most) r) : CT Try.prog 16 ([some (tapeB L kk)]) ([.ptr 0 0 0, .int .i64 most]) r.1 r.2 :=
  CT.mach (fn := Try.f16) (c := bodyOf Try.f16) (S := loSt L kk most) (hd := loHd) Try.func16 (by kernel_rfl) (Nat.le_of_ble_eq_true rfl)
    (fun s o ho => match s, ho with
      | .l0 v0 v1 v2 v3, ho => loS0_ok L kk most v0 v1 v2 v3 o ho
      | .l1 v0 v1 v2 v3 v4, ho => loS1_ok L kk most v0 v1 v2 v3 v4 o ho
    )
    (fun o ho => loEn_ok L kk most o ho) h
end Go.Proofs.Ytepomnooippjpaa
namespace Go.Proofs.Ytepomnooippjpaa
structure LooseOk (n : NetD) : Prop where
  v : ValidN n
  ln : 3 ≤ n.ss.length ∧ n.ss.length ≤ 5
  d0 : ∀ s, n.ss[0]? = some s → s.dep = true
  d1 : ∀ s, n.ss[1]? = some s → s.dep = false
  d2 : ∀ s, n.ss[2]? = some s → s.dep = false
  rb : n.rs ≠ []
  rows : Rows n.nx
theorem NetOk.loose {n : NetD} (h : NetOk n) : LooseOk n := ⟨h.v, h.ln, h.d0, h.d1, h.d2, h.rb, h.rows⟩
theorem nxB_nil (i m : Int) : nxB [] i m = true := by unfold nxB; simp [fnd]
theorem ValidN.lane {n : NetD} (h : ValidN n) (j : Nat) : ValidN { n with nx := n.nx.set j [] } := by
  refine ⟨h.nb, by simp [h.nx], h.ns, h.nr, ?_, fun i b hb => ?_, fun i s hs => ?_, h.nod, h.dep, h.rob⟩
  · have := h.cfg; unfold cfgB at this ⊢; exact this
  · have g := h.blk i b hb
    refine ⟨g.nm, g.x, g.y, ?_⟩
    show nxB ((n.nx.set j []).getD i []) i n.bs.length = true
    rw [List.getD_eq_getElem?_getD, List.getElem?_set]
    split
    · split
      · exact nxB_nil _ _
      · exact nxB_nil _ _
    · rw [← List.getD_eq_getElem?_getD]; exact g.nx
  · have g := h.spu i s hs
    exact ⟨g.nm, g.hi, g.ho, g.hk, g.hb⟩
theorem Rows.lane {g : List (List Int)} (h : Rows g) (j : Nat) : Rows (g.set j []) := by
  intro v hv
  have h1 := h v (by simpa using hv)
  rw [List.getD_eq_getElem?_getD, List.getElem?_set]
  split
  · split <;> simp
  · rw [← List.getD_eq_getElem?_getD]; exact h1
theorem RobOk.add {n : NetD} {rs : List Int} (h : RobOk n rs) {x : Int} (hd : DepS n n.ss.length x) (hx : x ∉ rs) : RobOk n (rs ++ [x]) := by
  intro i c hc
  rw [List.getElem?_append] at hc
  split at hc
  · rename_i hi
    obtain ⟨h1, h2⟩ := h i c hc
    exact ⟨h1, by rw [List.take_append_of_le_length (by omega)]; exact h2⟩
  · rename_i hi
    have e : i = rs.length := by
      have := (List.getElem?_eq_some_iff.1 hc).1; simp at this; omega
    subst e
    simp at hc; subst hc
    exact ⟨hd, by rw [List.take_append_of_le_length (by omega), List.take_length]; exact hx⟩
structure LoI (N : NetD) (n : NetD) : Prop where
  ok : LooseOk n
  bs : n.bs = N.bs
  ss : n.ss = N.ss
  q : n.q = N.q
  a : n.a = N.a
  d : n.d = N.d
  p : n.p = N.p
noncomputable def loRet (L : List Int) (k : Nat) (n : NetD) : Ret := ([some (tapeB L k)], netA n)
theorem lo_fill {L : List Int} {kk : Nat} {most : Int} {k : Nat} : ∀ (n : NetD), LoI (nltM L kk most) n → ∀ (m i : Nat), i + m = n.ss.length →
    ∃ n', LoI (nltM L kk most) n' ∧ MReach (loStep L kk most) (some (.inl (.l0 (i : Int) k n.nx n.rs))) (loRet L k n') := by
  intro n hn m
  induction m generalizing n with
  | zero =>
    intro i hi
    refine ⟨n, hn, .to ?_ (.ret _)⟩
    show loS0 L kk most i k n.nx n.rs = _
    unfold loS0
    rw [show (i : Int) = ((nltM L kk most).ss.length : Nat) by rw [← hn.ss]; omega, rngE]
    unfold loRet netA gL lI
    rw [hn.bs, hn.ss, hn.q, hn.a, hn.d, hn.p]; rfl
  | succ m ih =>
    intro i hi
    have hil : i < n.ss.length := by omega
    obtain ⟨s, hs⟩ : ∃ s, n.ss[i]? = some s := ⟨_, List.getElem?_eq_getElem hil⟩
    have hs' : (nltM L kk most).ss[i]? = some s := by rw [← hn.ss]; exact hs
    have sb := hn.ok.v.sb hs
    have ns := hn.ok.v.ns
    -- the slots of one spur
    have inner : ∀ (w j : Nat) (n1 : NetD), LoI (nltM L kk most) n1 → (j : Int) + w = s.k → ∃ n', LoI (nltM L kk most) n' ∧ MReach (loStep L kk most) (some (.inl (.l1 (i : Int) (j : Int) k n1.nx n1.rs))) (loRet L k n') := by
      intro w
      induction w with
      | zero =>
        intro j n1 h1 hj
        obtain ⟨n', g1, g2⟩ := ih n1 h1 (i + 1) (by rw [h1.ss, ← hn.ss]; omega)
        refine ⟨n', g1, .to ?_ g2⟩
        show loS1 L kk most i j k n1.nx n1.rs = _
        unfold loS1
        rw [gu_t (by omega), Int.toNat_natCast, el_t hs', br_f (dec_f (by omega)), wrap_nat i (by omega)]
      | succ w ihw =>
        intro j n1 h1 hj
        have out : ∃ n', LoI (nltM L kk most) n' ∧ MReach (loStep L kk most) (some (.inl (.l0 (IntKind.i64.wrap ((i : Int) + 1)) k n1.nx n1.rs))) (loRet L k n') := by
          rw [wrap_nat i (by omega)]
          exact ih n1 h1 (i + 1) (by rw [h1.ss, ← hn.ss]; omega)
        have go : ∀ {n'}, MReach (loStep L kk most) (loS1 L kk most i j k n1.nx n1.rs) (loRet L k n') → MReach (loStep L kk most) (some (.inl (.l1 (i : Int) (j : Int) k n1.nx n1.rs))) (loRet L k n') := fun h => .go _ _ h
        have nr := h1.ok.v.nr
        have e0 : loS1 L kk most i j k n1.nx n1.rs = br s.dep (br (decide (iN n1.rs.length < 8)) (gu (n1.rs.length ≤ 1000000) (br (!hasZ n1.rs (IntKind.i64.wrap (s.b + (j : Int)))) (gu ((List.map (AV.int IntKind.i64) n1.rs).length + [AV.int IntKind.i64 (IntKind.i64.wrap (s.b + (j : Int)))].length ≤ 9223372036854775807) (gu (((List.map (AV.int IntKind.i64) n1.rs).length + [AV.int IntKind.i64 (IntKind.i64.wrap (s.b + (j : Int)))].length) * 8 ≤ 140737488355328) (some (.inl (.l1 (i : Int) (IntKind.i64.wrap ((j : Int) + 1)) k n1.nx (n1.rs ++ [IntKind.i64.wrap (s.b + (j : Int))])))))) (some (.inl (.l1 (i : Int) (IntKind.i64.wrap ((j : Int) + 1)) k n1.nx n1.rs))))) (some (.inl (.l0 (IntKind.i64.wrap ((i : Int) + 1)) k n1.nx n1.rs)))) (some (.inl (.l0 (IntKind.i64.wrap ((i : Int) + 1)) k n1.nx n1.rs))) := by
          unfold loS1
          rw [gu_t (by omega), Int.toNat_natCast, el_t hs', br_t (dec_t (by omega)), el_t hs']
          cases s.dep with
          | false => rfl
          | true =>
            rw [br_t rfl, br_t rfl, el_t hs']
        cases hd : s.dep with
        | false =>
          obtain ⟨n', g1, g2⟩ := out
          exact ⟨n', g1, go (by rw [e0, hd, br_f rfl]; exact g2)⟩
        | true =>
          by_cases h8 : n1.rs.length < 8
          · have wj : IntKind.i64.wrap ((j : Int) + 1) = ((j + 1 : Nat) : Int) := wrap_nat j (by omega)
            have wx : IntKind.i64.wrap (s.b + (j : Int)) = s.b + (j : Int) := wrapS _ (by omega) (by omega)
            rw [hd, br_t rfl, br_t (dec_t (by show (n1.rs.length : Int) < 8; omega)), gu_t (by omega), wj, wx] at e0
            cases hh : hasZ n1.rs (s.b + (j : Int)) with
            | true =>
              obtain ⟨n', g1, g2⟩ := ihw (j + 1) n1 h1 (by omega)
              exact ⟨n', g1, go (by rw [e0, hh]; exact g2)⟩
            | false =>
              have hni : (s.b + (j : Int)) ∉ n1.rs := fun e => by rw [hasZ_mem.2 e] at hh; cases hh
              have hdep : DepS n1 n1.ss.length (s.b + (j : Int)) := ⟨s, by rw [List.take_length, h1.ss]; exact List.mem_of_getElem? hs', hd, by omega, by omega⟩
              have hr : RobOk n1 (n1.rs ++ [s.b + (j : Int)]) := RobOk.add h1.ok.v.rob hdep hni
              have hv2 := h1.ok.v.robots hr (by simp; omega)
              obtain ⟨n', g1, g2⟩ := ihw (j + 1) { n1 with rs := n1.rs ++ [s.b + (j : Int)] } ⟨⟨hv2, h1.ok.ln, h1.ok.d0, h1.ok.d1, h1.ok.d2, by simp, h1.ok.rows⟩, h1.bs, h1.ss, h1.q, h1.a, h1.d, h1.p⟩ (by omega)
              exact ⟨n', g1, go (by rw [e0, hh, br_t (by rfl), gu_t (by simp; omega), gu_t (by simp; omega)]; exact g2)⟩
          · obtain ⟨n', g1, g2⟩ := out
            exact ⟨n', g1, go (by rw [e0, hd, br_t rfl, br_f (dec_f (by show ¬ (n1.rs.length : Int) < 8; omega))]; exact g2)⟩
    obtain ⟨n', g1, g2⟩ := inner s.k.toNat 0 n hn (by omega)
    refine ⟨n', g1, .to ?_ g2⟩
    show loS0 L kk most i k n.nx n.rs = _
    unfold loS0
    rw [br_t (rngB (by rw [← hn.ss]; exact hil))]; rfl
theorem loose_ex (L : List Int) (kk : Nat) (most : Int) (hk : kk ≤ 5000) (hm : 1 ≤ most ∧ most ≤ 20) : ∃ n k, LooseOk n ∧ k ≤ kk + 210 ∧ CT Try.prog 16 [some (tapeB L kk)] [.ptr 0 0 0, .int .i64 most] [some (tapeB L k)] (netA n) := by
  obtain ⟨hN, hkk, _⟩ := nlt_spec (L := L) hk hm
  have key : ∀ (n : NetD) (k : Nat), MReach (loStep L kk most) (loEn L kk most) (loRet L k n) → CT Try.prog 16 [some (tapeB L kk)] [.ptr 0 0 0, .int .i64 most] [some (tapeB L k)] (netA n) := fun n k h => lo_ct L kk most _ h
  have nb := hN.v.nb24
  have hnx := hN.v.nx
  have base : LoI (nltM L kk most) (nltM L kk most) := ⟨hN.loose, rfl, rfl, rfl, rfl, rfl, rfl⟩
  -- with the depots filled or not
  have fin : ∀ (n : NetD) (k : Nat), LoI (nltM L kk most) n → k ≤ kk + 205 → MReach (loStep L kk most) (loEn L kk most) (loRet L k n) → ∃ n k, LooseOk n ∧ k ≤ kk + 210 ∧ CT Try.prog 16 [some (tapeB L kk)] [.ptr 0 0 0, .int .i64 most] [some (tapeB L k)] (netA n) :=
    fun n k h1 h2 h3 => ⟨n, k, h1.ok, by omega, key n k h3⟩
  have fill : ∀ (n : NetD) (k : Nat), LoI (nltM L kk most) n → k ≤ kk + 205 → loEn L kk most = some (.inl (.l0 0 k n.nx n.rs)) → ∃ n k, LooseOk n ∧ k ≤ kk + 210 ∧ CT Try.prog 16 [some (tapeB L kk)] [.ptr 0 0 0, .int .i64 most] [some (tapeB L k)] (netA n) := fun n k h1 h2 h3 => by
    obtain ⟨n', g1, g2⟩ := lo_fill (k := k) n h1 n.ss.length 0 (by omega)
    exact fin n' k g1 h2 (by rw [h3]; exact g2)
  unfold loEn at fill fin
  rw [gu_t hk, gu_t hm, gu_t (by omega)] at fill fin
  generalize nltK L kk most = K at hkk fill fin
  have r0 : ∀ k, 0 ≤ nextZ L k (iN (List.map bA (nltM L kk most).bs).length) ∧ nextZ L k (iN (List.map bA (nltM L kk most).bs).length) < (nltM L kk most).bs.length := fun k => by
    have := nextZ_rng L k (iN (List.map bA (nltM L kk most).bs).length) (by simp [iN]; omega) (by simp [iN]; omega)
    simp [iN] at this ⊢; omega
  by_cases h1 : (nextZ L K 3 == 0) = true
  · rw [br_t h1] at fill fin
    by_cases h2 : 1 < iN (List.map bA (nltM L kk most).bs).length
    · have r1 := r0 (K + 1)
      rw [br_t (dec_t h2), gu_t (by omega), gu_t (by omega), gu_t (by rw [show iN (nltM L kk most).nx.length = ((nltM L kk most).nx.length : Int) from rfl]; omega), gu_t (by show 0 + Int.toNat _ + 1 ≤ _; rw [gL_len]; omega), gu_t (by omega)] at fill fin
      have hl : LoI (nltM L kk most) { nltM L kk most with nx := (nltM L kk most).nx.set (0 + (nextZ L (K + 1) (iN (List.map bA (nltM L kk most).bs).length)).toNat) [] } :=
        ⟨⟨hN.v.lane _, hN.ln, hN.d0, hN.d1, hN.d2, hN.rb, hN.rows.lane _⟩, rfl, rfl, rfl, rfl, rfl, rfl⟩
      by_cases h3 : (nextZ L (K + 1 + 1) 3 == 0) = true
      · rw [br_t h3] at fill
        exact fill _ (K + 1 + 1 + 1) hl (by omega) rfl
      · rw [br_f (by simpa using h3), gu_t (by rw [List.length_set, gL_len])] at fin
        refine fin _ (K + 1 + 1 + 1) hl (by omega) (.val ?_)
        unfold loRet netA gL lI
        simp only [List.map_set]; rfl
    · rw [br_f (dec_f h2), gu_t (by omega)] at fill fin
      by_cases h3 : (nextZ L (K + 1) 3 == 0) = true
      · rw [br_t h3] at fill
        exact fill _ (K + 1 + 1) base (by omega) rfl
      · rw [br_f (by simpa using h3), gu_t (by rw [gL_len])] at fin
        exact fin _ (K + 1 + 1) base (by omega) (.val rfl)
  · rw [br_f (by simpa using h1), gu_t (by omega)] at fill fin
    by_cases h3 : (nextZ L (K + 1) 3 == 0) = true
    · rw [br_t h3] at fill
      exact fill _ (K + 1 + 1) base (by omega) rfl
    · rw [br_f (by simpa using h3), gu_t (by rw [gL_len])] at fin
      exact fin _ (K + 1 + 1) base (by omega) (.val rfl)
theorem loose_exP (L : List Int) (kk : Nat) (most : Int) : ∃ p : NetD × Nat, kk ≤ 5000 → (1 ≤ most ∧ most ≤ 20) → LooseOk p.1 ∧ p.2 ≤ kk + 210 ∧ CT Try.prog 16 [some (tapeB L kk)] [.ptr 0 0 0, .int .i64 most] [some (tapeB L p.2)] (netA p.1) := by
  by_cases h : kk ≤ 5000 ∧ (1 ≤ most ∧ most ≤ 20)
  · obtain ⟨n, k, a, b, c⟩ := loose_ex L kk most h.1 h.2
    exact ⟨(n, k), fun _ _ => ⟨a, b, c⟩⟩
  · exact ⟨(⟨[], [], [], [], 0, 0, 0, 0⟩, 0), fun a b => absurd ⟨a, b⟩ h⟩
@[irreducible] noncomputable def looM (L : List Int) (kk : Nat) (most : Int) : NetD := (Classical.choose (loose_exP L kk most)).1
@[irreducible] noncomputable def looK (L : List Int) (kk : Nat) (most : Int) : Nat := (Classical.choose (loose_exP L kk most)).2
theorem loo_spec {L : List Int} {kk : Nat} {most : Int} (h : kk ≤ 5000) (hm : 1 ≤ most ∧ most ≤ 20) : LooseOk (looM L kk most) ∧ looK L kk most ≤ kk + 210 ∧ CT Try.prog 16 [some (tapeB L kk)] [.ptr 0 0 0, .int .i64 most] [some (tapeB L (looK L kk most))] (netA (looM L kk most)) :=
  by unfold looM looK; exact Classical.choose_spec (loose_exP L kk most) h hm
theorem loose_ct (L : List Int) (kk : Nat) (most : Int) (h : kk ≤ 5000) (hm : 1 ≤ most ∧ most ≤ 20) : CT Try.prog 16 [some (tapeB L kk)] [.ptr 0 0 0, .int .i64 most] [some (tapeB L (looK L kk most))] (netA (looM L kk most)) := (loo_spec h hm).2.2
theorem LooseOk.st1 {n : NetD} (h : LooseOk n) : stB n 1 = true := by
  have hl : 1 < n.ss.length := by have := h.ln; omega
  have := h.d1 _ (List.getElem?_eq_getElem hl)
  unfold stB; rw [show (1 : Int).toNat = 1 from rfl, List.getElem?_eq_getElem hl]; simp [this]
theorem LooseOk.st2 {n : NetD} (h : LooseOk n) : stB n 2 = true := by
  have hl : 2 < n.ss.length := by have := h.ln; omega
  have := h.d2 _ (List.getElem?_eq_getElem hl)
  unfold stB; rw [show (2 : Int).toNat = 2 from rfl, List.getElem?_eq_getElem hl]; simp [this]
noncomputable def ckSSt (n : NetD) (sp : Int) : Empty → St
  | x => x.elim
def ckSHd : Empty → Nat
  | x => x.elim
noncomputable def ckSEn (n : NetD) (sp : Int) : Option (Empty ⊕ Ret) :=
  gu (Rows n.nx) <|
  br (!valB n)
  (some (.inr ([], AV.int IntKind.i64 20)))
  (br (decide (sp < 0))
   (some (.inr ([], AV.int IntKind.i64 19)))
   (br (decide (iN (List.map sA n.ss).length ≤ sp))
    (some (.inr ([], AV.int IntKind.i64 19)))
    (some (.inr ([], AV.int IntKind.i64 0)))))
noncomputable def ckSStep (n : NetD) (sp : Int) : Empty → Option (Empty ⊕ Ret)
  | x => x.elim
theorem ckSEn_ok (n : NetD) (sp : Int) (o : Empty ⊕ Ret) (h : ckSEn n sp = some o) : Arr Try.prog Try.f117 0 (ckSSt n sp) ckSHd (bodyOf Try.f117) [] { n := Try.f117.ntmps, fr := enumF 0 ([netA n, .int .i64 sp]), hp := ([]) } o := by
 unfold ckSEn at h
 obtain ⟨a0, h⟩ := gu_inv h
 rcases br_inv h with ⟨a1, h⟩ | ⟨a1, h⟩
 ·
  cases h
  exact Arr.rt [11] [] [(7, hc (AV.bool (valB n)))] [] [] [] mix (by kernel_rfl) (aj (ag t2 (aj (u2 (aj (ak (aj t9 (al (valid_net_ct a0)))) (u2 s2))) (aj a1 s2))) t2)
 ·
  rcases br_inv h with ⟨a2, h⟩ | ⟨a2, h⟩
  ·
   cases h
   exact Arr.rt [10, 25] [] [(7, hc (AV.bool (valB n)))] [] [] [] mix (by kernel_rfl) (aj (ag t2 (aj (u2 (aj (ak (aj t9 (al (valid_net_ct a0)))) (u2 s2))) (aj a1 (aj (u2 (u2 (u2 (aj a2 (aj a2 (aj a2 (aj a2 (aj a2 (ag a2 s2))))))))) (ak s2))))) t2)
  ·
   rcases br_inv h with ⟨a3, h⟩ | ⟨a3, h⟩
   ·
    cases h
    exact Arr.rt [10, 24, 19] [] [(7, hc (AV.bool (valB n)))] [] [] [] mix (by kernel_rfl) (aj (ag t2 (aj (u2 (aj (ak (aj t9 (al (valid_net_ct a0)))) (u2 s2))) (aj a1 (aj (u2 (u2 (u2 (ag a2 (ag a2 (ag a2 (ag a2 (aj (aj a2 t3) (ag a2 s2))))))))) (aj a3 s2))))) t2)
   ·
    cases h
    exact Arr.rt [10, 24, 18] [] [(7, hc (AV.bool (valB n)))] [] [] [] mix (by kernel_rfl) (aj (ag t2 (aj (u2 (aj (ak (aj t9 (al (valid_net_ct a0)))) (u2 s2))) (aj a1 (aj (u2 (u2 (u2 (ag a2 (ag a2 (ag a2 (ag a2 (aj (aj a2 t3) (ag a2 s2))))))))) (aj a3 s2))))) t2)
theorem ckS_ct (n : NetD) (sp : Int) (r : Ret) (h : MReach (ckSStep n sp) (ckSEn n sp) r) : CT Try.prog 117 ([]) ([netA n, .int .i64 sp]) r.1 r.2 :=
  CT.mach (fn := Try.f117) (c := bodyOf Try.f117) (S := ckSSt n sp) (hd := ckSHd) Try.func117 (by kernel_rfl) (Nat.le_of_ble_eq_true rfl)
    (fun s o ho => match s, ho with
      | x, _ => x.elim)
    (fun o ho => ckSEn_ok n sp o ho) h
inductive hckPc where
  | l0 (v0 : Int)
noncomputable def hckSt (n : NetD) (sh : List Bool) (hm : List Int) : hckPc → St
  | .l0 v0 => St.mk 63 [(1, AV.lst (boL sh)), (2, AV.lst (List.map (iv) hm)), (3, AV.ptr 0 0 0), (7, iv (celV n)), (24, iv (iN (List.map (iv) hm).length)), (25, iv v0)] [some (Blk.mk [netA n] 8 true true none)]
def hckHd : hckPc → Nat
  | .l0 _ => 0
noncomputable def hckEn (n : NetD) (sh : List Bool) (hm : List Int) : Option (hckPc ⊕ Ret) :=
  gu (Rows n.nx) <|
  br (errV n != 0)
  (some (.inr ([], AV.int IntKind.i64 20)))
  (br (decide (8 < iN (List.map (AV.int IntKind.i64) hm).length))
   (some (.inr ([], AV.int IntKind.i64 20)))
   (some (.inl (.l0 ((0 : Int))))))
noncomputable def hckS0 (n : NetD) (sh : List Bool) (hm : List Int) (v0 : Int) : Option (hckPc ⊕ Ret) :=
  br (decide (v0 < iN (List.map (AV.int IntKind.i64) hm).length))
  (gu (0 ≤ v0) <|
   el (hm) (v0.toNat) fun (x30 : Int) =>
   br (x30 != -1)
   (br (x30 != -2)
    (br (decide (x30 < 0))
     (some (.inr ([], AV.int IntKind.i64 20)))
     (br (decide (iN (List.map sA n.ss).length ≤ x30))
      (some (.inr ([], AV.int IntKind.i64 20)))
      (gu (0 ≤ x30) <|
       el (n.ss) (x30.toNat) fun (x52 : SpuD) =>
       br (!x52.dep)
       (some (.inr ([], AV.int IntKind.i64 20)))
       (some (.inl (.l0 (IntKind.i64.wrap (v0 + 1))))))))
    (some (.inl (.l0 (IntKind.i64.wrap (v0 + 1))))))
   (some (.inl (.l0 (IntKind.i64.wrap (v0 + 1))))))
  (br (iN (boL sh).length != celV n)
   (some (.inr ([], AV.int IntKind.i64 19)))
   (some (.inr ([], AV.int IntKind.i64 0))))
noncomputable def hckStep (n : NetD) (sh : List Bool) (hm : List Int) : hckPc → Option (hckPc ⊕ Ret)
  | .l0 v0 => hckS0 n sh hm v0
theorem hckEn_ok (n : NetD) (sh : List Bool) (hm : List Int) (o : hckPc ⊕ Ret) (h : hckEn n sh hm = some o) : Arr Try.prog Try.f108 0 (hckSt n sh hm) hckHd (bodyOf Try.f108) [] { n := Try.f108.ntmps, fr := enumF 0 ([netA n, .lst (boL sh), lI hm]), hp := ([]) } o := by
 unfold hckEn at h
 obtain ⟨a0, h⟩ := gu_inv h
 rcases br_inv h with ⟨a1, h⟩ | ⟨a1, h⟩
 ·
  cases h
  exact Arr.rt [37] [] [(13, hc (AV.tup [iv (celV n), iv (errV n)]))] [] [] [] mix (by kernel_rfl) (aj (ag t2 (aj (u2 (aj (ak (aj t9 (al (scount_ct a0)))) (u2 (u2 (u2 (u2 s2)))))) (aj (u2 (u2 (u2 (aj a1 (aj a1 (aj a1 (al (aj a1 t2)))))))) (ak s2)))) t2)
 ·
  rcases br_inv h with ⟨a2, h⟩ | ⟨a2, h⟩
  ·
   cases h
   exact Arr.rt [36, 45] [] [(13, hc (AV.tup [iv (celV n), iv (errV n)]))] [] [] [] mix (by kernel_rfl) (aj (ag t2 (aj (u2 (aj (ak (aj t9 (al (scount_ct a0)))) (u2 (u2 (u2 (u2 s2)))))) (aj (u2 (u2 (u2 (ag a1 (ag a1 (ag a1 (al (aj a1 t2)))))))) (aj a2 s2)))) t2)
  ·
   cases h
   exact Arr.lp [36, 44] [] [(13, hc (AV.tup [iv (celV n), iv (errV n)]))] [] [] [0] [1, 2, 3, 7, 24, 25] mix (by kernel_rfl) (aj (ag t2 (aj (u2 (aj (ak (aj t9 (al (scount_ct a0)))) (u2 (u2 (u2 (u2 s2)))))) (aj (u2 (u2 (u2 (ag a1 (ag a1 (ag a1 (al (aj a1 t2)))))))) (aj a2 (al (u2 (u2 t2))))))) t8)
theorem hckS0_ok (n : NetD) (sh : List Bool) (hm : List Int) (v0 : Int) (o : hckPc ⊕ Ret) (h : hckS0 n sh hm v0 = some o) : Arr Try.prog Try.f108 0 (hckSt n sh hm) hckHd (headC Try.f108 0) (.rnd (headC Try.f108 0) :: headK Try.f108 0) (hckSt n sh hm (.l0 v0)) o := by
 unfold hckS0 at h
 rcases br_inv h with ⟨a0, h⟩ | ⟨a0, h⟩
 ·
  obtain ⟨a1, h⟩ := gu_inv h
  obtain ⟨x30, a2, h⟩ := el_inv h
  rcases br_inv h with ⟨a3, h⟩ | ⟨a3, h⟩
  ·
   rcases br_inv h with ⟨a4, h⟩ | ⟨a4, h⟩
   ·
    rcases br_inv h with ⟨a5, h⟩ | ⟨a5, h⟩
    ·
     cases h
     exact Arr.rt [53, 69, 77, 83] [(30, iv x30)] [] [] [] [] mix (by kernel_rfl) (aj (aj (al t3) (aj a0 (aj (u2 s2) (aj (u2 (u2 (aj (k2 (aj a1 (getMap (f := iv) a2))) (u2 s2)))) (aj (u2 (u2 (u2 (ag a3 (ag a3 (ag a3 (u2 (ag a4 (ag a4 (ag a4 (aj a5 (aj a5 (aj a5 (aj a5 (aj a5 (aj (aj a4 (aj a5 t2)) (ag a4 (k2 (k5 (aj (aj a4 t3) (al (aj a4 t2)))))))))))))))))))))) (ak s2)))))) t2)
    ·
     rcases br_inv h with ⟨a6, h⟩ | ⟨a6, h⟩
     ·
      cases h
      exact Arr.rt [53, 69, 77, 82, 97] [(30, iv x30)] [] [] [] [] mix (by kernel_rfl) (aj (aj (al t3) (aj a0 (aj (u2 s2) (aj (u2 (u2 (aj (k2 (aj a1 (getMap (f := iv) a2))) (u2 s2)))) (aj (u2 (u2 (u2 (ag a3 (ag a3 (ag a3 (u2 (ag a4 (ag a4 (ag a4 (ag a5 (ag a5 (ag a5 (ag a5 (aj (aj a5 t3) (aj (aj a4 (aj a5 t2)) (ag a4 (aj a6 (aj a6 (aj a6 (aj a6 (aj a6 (aj a6 (aj a6 (aj (aj a4 (aj a6 t2)) (al (aj a4 t2))))))))))))))))))))))))))) (ak s2)))))) t2)
     ·
      obtain ⟨a7, h⟩ := gu_inv h
      obtain ⟨x52, a8, h⟩ := el_inv h
      rcases br_inv h with ⟨a9, h⟩ | ⟨a9, h⟩
      ·
       cases h
       exact Arr.rt [53, 69, 77, 82, 96, 115] [(30, iv x30), (52, sA x52)] [] [] [] [] mix (by kernel_rfl) (aj (aj (al t3) (aj a0 (aj (u2 s2) (aj (u2 (u2 (aj (k2 (aj a1 (getMap (f := iv) a2))) (u2 s2)))) (aj (u2 (u2 (u2 (ag a3 (ag a3 (ag a3 (u2 (ag a4 (ag a4 (ag a4 (ag a5 (ag a5 (ag a5 (ag a5 (aj (aj a5 t3) (aj (aj a4 (aj a5 t2)) (ag a4 (ag a6 (ag a6 (ag a6 (aj (aj a6 (k2 (aj a7 (getMap (f := sA) a8)))) (ag a6 (ag a6 (ag a6 (aj (aj a4 (aj a6 t2)) (al (aj a4 t2))))))))))))))))))))))))))) (aj a9 s2)))))) t2)
      ·
       cases h
       exact Arr.lp [53, 69, 77, 82, 96, 114] [(30, iv x30), (52, sA x52)] [] [] [] [0] [1, 2, 3, 7, 24, 25] mix (by kernel_rfl) (aj (aj (al t3) (aj a0 (aj (u2 s2) (aj (u2 (u2 (aj (k2 (aj a1 (getMap (f := iv) a2))) (u2 s2)))) (aj (u2 (u2 (u2 (ag a3 (ag a3 (ag a3 (u2 (ag a4 (ag a4 (ag a4 (ag a5 (ag a5 (ag a5 (ag a5 (aj (aj a5 t3) (aj (aj a4 (aj a5 t2)) (ag a4 (ag a6 (ag a6 (ag a6 (aj (aj a6 (k2 (aj a7 (getMap (f := sA) a8)))) (ag a6 (ag a6 (ag a6 (aj (aj a4 (aj a6 t2)) (al (aj a4 t2))))))))))))))))))))))))))) (aj a9 (al (u2 s2)))))))) t8)
   ·
    cases h
    exact Arr.lp [53, 69, 76] [(30, iv x30)] [] [] [] [0] [1, 2, 3, 7, 24, 25] mix (by kernel_rfl) (aj (aj (al t3) (aj a0 (aj (u2 s2) (aj (u2 (u2 (aj (k2 (aj a1 (getMap (f := iv) a2))) (u2 s2)))) (aj (u2 (u2 (u2 (ag a3 (ag a3 (ag a3 (u2 (aj a4 (aj a4 (aj a4 (k5 (aj a4 (aj a4 (k2 (k5 (aj a4 (al (aj a4 t2)))))))))))))))))) (ak (al (u2 s2)))))))) t8)
  ·
   cases h
   exact Arr.lp [53, 68] [(30, iv x30)] [] [] [] [0] [1, 2, 3, 7, 24, 25] mix (by kernel_rfl) (aj (aj (al t3) (aj a0 (aj (u2 s2) (aj (u2 (u2 (aj (k2 (aj a1 (getMap (f := iv) a2))) (u2 s2)))) (aj (u2 (u2 (u2 (aj a3 (aj a3 (ag a3 (u2 (k3 (k5 (k5 (k5 (al t3)))))))))))) (ak (al (u2 s2)))))))) t8)
 ·
  rcases br_inv h with ⟨a1, h⟩ | ⟨a1, h⟩
  ·
   cases h
   exact Arr.rt [52, 125] [] [] [] [] [] mix (by kernel_rfl) (aj (aj (al t3) (aj a0 (aj (u2 (u2 (u2 (al t3)))) (aj a1 s2)))) t2)
  ·
   cases h
   exact Arr.rt [52, 124] [] [] [] [] [] mix (by kernel_rfl) (aj (aj (al t3) (aj a0 (aj (u2 (u2 (u2 (al t3)))) (aj a1 s2)))) t2)
theorem hck_ct (n : NetD) (sh : List Bool) (hm : List Int) (r : Ret) (h : MReach (hckStep n sh hm) (hckEn n sh hm) r) : CT Try.prog 108 ([]) ([netA n, .lst (boL sh), lI hm]) r.1 r.2 :=
  CT.mach (fn := Try.f108) (c := bodyOf Try.f108) (S := hckSt n sh hm) (hd := hckHd) Try.func108 (by kernel_rfl) (Nat.le_of_ble_eq_true rfl)
    (fun s o ho => match s, ho with
      | .l0 v0, ho => hckS0_ok n sh hm v0 o ho
    )
    (fun o ho => hckEn_ok n sh hm o ho) h
inductive rhkPc where
  | l0 (v0 : Int)
noncomputable def rhkSt (n : NetD) (sh : List Bool) (hm : List Int) : rhkPc → St
  | .l0 v0 => St.mk 61 [(1, AV.lst (boL sh)), (2, AV.lst (List.map (iv) hm)), (3, AV.ptr 0 0 0), (7, iv v0)] [some (Blk.mk [netA n] 8 true true none)]
def rhkHd : rhkPc → Nat
  | .l0 _ => 0
noncomputable def rhkEn (n : NetD) (sh : List Bool) (hm : List Int) : Option (rhkPc ⊕ Ret) :=
  gu (Rows n.nx) <|
  br (!valB n)
  (some (.inr ([], AV.int IntKind.i64 20)))
  (br (decide (8 < iN (List.map (AV.int IntKind.i64) hm).length))
   (some (.inr ([], AV.int IntKind.i64 20)))
   (some (.inl (.l0 ((0 : Int))))))
noncomputable def rhkS0 (n : NetD) (sh : List Bool) (hm : List Int) (v0 : Int) : Option (rhkPc ⊕ Ret) :=
  br (decide (v0 < iN (List.map (AV.int IntKind.i64) hm).length))
  (gu (0 ≤ v0) <|
   el (hm) (v0.toNat) fun (x24 : Int) =>
   br (decide (x24 < -2))
   (some (.inr ([], AV.int IntKind.i64 20)))
   (el (hm) (v0.toNat) fun (x30 : Int) =>
    br (decide (iN (List.map sA n.ss).length ≤ x30))
    (some (.inr ([], AV.int IntKind.i64 20)))
    (el (hm) (v0.toNat) fun (x40 : Int) =>
     br (decide (0 ≤ x40))
     (el (hm) (v0.toNat) fun (x48 : Int) =>
      gu (0 ≤ x48) <|
      el (n.ss) (x48.toNat) fun (x50 : SpuD) =>
      br (!x50.dep)
      (some (.inr ([], AV.int IntKind.i64 20)))
      (some (.inl (.l0 (IntKind.i64.wrap (v0 + 1))))))
     (some (.inl (.l0 (IntKind.i64.wrap (v0 + 1))))))))
  (gu (ValidN n) <|
   br (iN (boL sh).length != iN (celN n))
   (some (.inr ([], AV.int IntKind.i64 19)))
   (some (.inr ([], AV.int IntKind.i64 0))))
noncomputable def rhkStep (n : NetD) (sh : List Bool) (hm : List Int) : rhkPc → Option (rhkPc ⊕ Ret)
  | .l0 v0 => rhkS0 n sh hm v0
theorem rhkEn_ok (n : NetD) (sh : List Bool) (hm : List Int) (o : rhkPc ⊕ Ret) (h : rhkEn n sh hm = some o) : Arr Try.prog Try.f110 0 (rhkSt n sh hm) rhkHd (bodyOf Try.f110) [] { n := Try.f110.ntmps, fr := enumF 0 ([netA n, .lst (boL sh), lI hm]), hp := ([]) } o := by
 unfold rhkEn at h
 obtain ⟨a0, h⟩ := gu_inv h
 rcases br_inv h with ⟨a1, h⟩ | ⟨a1, h⟩
 ·
  cases h
  exact Arr.rt [23] [] [(9, hc (AV.bool (valB n)))] [] [] [] mix (by kernel_rfl) (aj (ag t2 (aj (u2 (aj (ak (aj t9 (al (rvalid_net_ct a0)))) (u2 (u2 (aj a1 (aj a1 (aj a1 (al (aj a1 t2))))))))) (ak s2))) t2)
 ·
  rcases br_inv h with ⟨a2, h⟩ | ⟨a2, h⟩
  ·
   cases h
   exact Arr.rt [22, 31] [] [(9, hc (AV.bool (valB n)))] [] [] [] mix (by kernel_rfl) (aj (ag t2 (aj (u2 (aj (ak (aj t9 (al (rvalid_net_ct a0)))) (u2 (u2 (ag a1 (ag a1 (ag a1 (al (aj a1 t2))))))))) (aj a2 s2))) t2)
  ·
   cases h
   exact Arr.lp [22, 30] [] [(9, hc (AV.bool (valB n)))] [] [] [0] [1, 2, 3, 7] mix (by kernel_rfl) (aj (ag t2 (aj (u2 (aj (ak (aj t9 (al (rvalid_net_ct a0)))) (u2 (u2 (ag a1 (ag a1 (ag a1 (al (aj a1 t2))))))))) (aj a2 s2))) t6)
theorem rhkS0_ok (n : NetD) (sh : List Bool) (hm : List Int) (v0 : Int) (o : rhkPc ⊕ Ret) (h : rhkS0 n sh hm v0 = some o) : Arr Try.prog Try.f110 0 (rhkSt n sh hm) rhkHd (headC Try.f110 0) (.rnd (headC Try.f110 0) :: headK Try.f110 0) (rhkSt n sh hm (.l0 v0)) o := by
 unfold rhkS0 at h
 rcases br_inv h with ⟨a0, h⟩ | ⟨a0, h⟩
 ·
  obtain ⟨a1, h⟩ := gu_inv h
  obtain ⟨x24, a2, h⟩ := el_inv h
  rcases br_inv h with ⟨a3, h⟩ | ⟨a3, h⟩
  ·
   cases h
   exact Arr.rt [39, 55] [(24, iv x24)] [] [] [] [] mix (by kernel_rfl) (aj (aj (u2 (u2 (u2 (al t3)))) (aj a0 (aj (u2 (u2 (aj (k2 (aj a1 (getMap (f := iv) a2))) (u2 (u2 (u2 (aj a3 (aj a3 (aj a3 (aj a3 (aj a3 (aj a3 (aj a3 (aj a3 (ag a3 (u2 (k2 (k5 (k5 (k5 (al t3))))))))))))))))))))) (ak s2)))) t2)
  ·
   obtain ⟨x30, a4, h⟩ := el_inv h
   rcases br_inv h with ⟨a5, h⟩ | ⟨a5, h⟩
   ·
    cases h
    exact Arr.rt [39, 54, 75] [(24, iv x24), (30, iv x30)] [] [] [] [] mix (by kernel_rfl) (aj (aj (u2 (u2 (u2 (al t3)))) (aj a0 (aj (u2 (u2 (aj (k2 (aj a1 (getMap (f := iv) a2))) (u2 (u2 (u2 (ag a3 (ag a3 (aj (aj a3 (k2 (aj a1 (getMap (f := iv) a4)))) (ag a3 (ag a3 (ag a3 (ag a3 (aj (aj a3 t3) (ag a3 (u2 (aj a5 (aj a5 (aj a5 (aj a5 (aj a5 (aj a5 (k5 (k5 (aj a5 (al (aj a5 t2))))))))))))))))))))))))))) (ak s2)))) t2)
   ·
    obtain ⟨x40, a6, h⟩ := el_inv h
    rcases br_inv h with ⟨a7, h⟩ | ⟨a7, h⟩
    ·
     obtain ⟨x48, a8, h⟩ := el_inv h
     obtain ⟨a9, h⟩ := gu_inv h
     obtain ⟨x50, a10, h⟩ := el_inv h
     rcases br_inv h with ⟨a11, h⟩ | ⟨a11, h⟩
     ·
      cases h
      exact Arr.rt [39, 54, 74, 87, 111] [(24, iv x24), (30, iv x30), (40, iv x40), (48, iv x48), (50, sA x50)] [] [] [] [] mix (by kernel_rfl) (aj (aj (u2 (u2 (u2 (al t3)))) (aj a0 (aj (u2 (u2 (aj (k2 (aj a1 (getMap (f := iv) a2))) (u2 (u2 (u2 (ag a3 (ag a3 (aj (aj a3 (k2 (aj a1 (getMap (f := iv) a4)))) (ag a3 (ag a3 (ag a3 (ag a3 (aj (aj a3 t3) (ag a3 (u2 (ag a5 (ag a5 (aj (aj a5 (k2 (aj a1 (getMap (f := iv) a6)))) (ag a5 (ag a5 (ag a5 (ag a7 (ag a7 (ag a7 (ag a7 (aj (aj a7 (k2 (aj a1 (getMap (f := iv) a8)))) (ag a7 (aj (aj a7 (k2 (aj a9 (getMap (f := sA) a10)))) (ag a7 (ag a7 (ag a7 (aj (aj a5 (aj a7 t2)) (al (aj a5 t2))))))))))))))))))))))))))))))))))) (aj a11 s2)))) t2)
     ·
      cases h
      exact Arr.lp [39, 54, 74, 87, 110] [(24, iv x24), (30, iv x30), (40, iv x40), (48, iv x48), (50, sA x50)] [] [] [] [0] [1, 2, 3, 7] mix (by kernel_rfl) (aj (aj (u2 (u2 (u2 (al t3)))) (aj a0 (aj (u2 (u2 (aj (k2 (aj a1 (getMap (f := iv) a2))) (u2 (u2 (u2 (ag a3 (ag a3 (aj (aj a3 (k2 (aj a1 (getMap (f := iv) a4)))) (ag a3 (ag a3 (ag a3 (ag a3 (aj (aj a3 t3) (ag a3 (u2 (ag a5 (ag a5 (aj (aj a5 (k2 (aj a1 (getMap (f := iv) a6)))) (ag a5 (ag a5 (ag a5 (ag a7 (ag a7 (ag a7 (ag a7 (aj (aj a7 (k2 (aj a1 (getMap (f := iv) a8)))) (ag a7 (aj (aj a7 (k2 (aj a9 (getMap (f := sA) a10)))) (ag a7 (ag a7 (ag a7 (aj (aj a5 (aj a7 t2)) (al (aj a5 t2))))))))))))))))))))))))))))))))))) (aj a11 (al (u2 (u2 s2))))))) t6)
    ·
     cases h
     exact Arr.lp [39, 54, 74, 86] [(24, iv x24), (30, iv x30), (40, iv x40)] [] [] [] [0] [1, 2, 3, 7] mix (by kernel_rfl) (aj (aj (u2 (u2 (u2 (al t3)))) (aj a0 (aj (u2 (u2 (aj (k2 (aj a1 (getMap (f := iv) a2))) (u2 (u2 (u2 (ag a3 (ag a3 (aj (aj a3 (k2 (aj a1 (getMap (f := iv) a4)))) (ag a3 (ag a3 (ag a3 (ag a3 (aj (aj a3 t3) (ag a3 (u2 (ag a5 (ag a5 (aj (aj a5 (k2 (aj a1 (getMap (f := iv) a6)))) (ag a5 (ag a5 (ag a5 (aj a7 (aj a7 (aj a7 (aj a7 (aj a7 (aj a7 (aj a7 (aj a7 (aj a7 (aj a7 (aj (aj a5 (aj a7 t2)) (al (aj a5 t2))))))))))))))))))))))))))))))))))) (ak (al (u2 (u2 s2))))))) t6)
 ·
  obtain ⟨a1, h⟩ := gu_inv h
  rcases br_inv h with ⟨a2, h⟩ | ⟨a2, h⟩
  ·
   cases h
   exact Arr.rt [38, 121] [] [(59, hc (iv (iN (celN n))))] [] [] [] mix (by kernel_rfl) (aj (aj (u2 (u2 (u2 (al t3)))) (aj a0 (aj (u2 (u2 (u2 (aj (ak (aj t9 (al (cells_ct a1)))) (al t3))))) (aj a2 s2)))) t2)
  ·
   cases h
   exact Arr.rt [38, 120] [] [(59, hc (iv (iN (celN n))))] [] [] [] mix (by kernel_rfl) (aj (aj (u2 (u2 (u2 (al t3)))) (aj a0 (aj (u2 (u2 (u2 (aj (ak (aj t9 (al (cells_ct a1)))) (al t3))))) (aj a2 s2)))) t2)
theorem rhk_ct (n : NetD) (sh : List Bool) (hm : List Int) (r : Ret) (h : MReach (rhkStep n sh hm) (rhkEn n sh hm) r) : CT Try.prog 110 ([]) ([netA n, .lst (boL sh), lI hm]) r.1 r.2 :=
  CT.mach (fn := Try.f110) (c := bodyOf Try.f110) (S := rhkSt n sh hm) (hd := rhkHd) Try.func110 (by kernel_rfl) (Nat.le_of_ble_eq_true rfl)
    (fun s o ho => match s, ho with
      | .l0 v0, ho => rhkS0_ok n sh hm v0 o ho
    )
    (fun o ho => rhkEn_ok n sh hm o ho) h
inductive hciPc where
  | l0 (v0 : Int)
noncomputable def hciSt (n : NetD) (hm gs : List Int) : hciPc → St
  | .l0 v0 => St.mk 46 [(2, AV.lst (List.map (iv) gs)), (3, AV.ptr 0 0 0), (15, iv (iN (List.map (iv) gs).length)), (16, iv v0)] [some (Blk.mk [netA n] 8 true true none)]
def hciHd : hciPc → Nat
  | .l0 _ => 0
noncomputable def hciEn (n : NetD) (hm gs : List Int) : Option (hciPc ⊕ Ret) :=
  br (iN (List.map (AV.int IntKind.i64) gs).length != iN (List.map (AV.int IntKind.i64) hm).length)
  (some (.inr ([], AV.bool false)))
  (some (.inl (.l0 ((0 : Int)))))
noncomputable def hciS0 (n : NetD) (hm gs : List Int) (v0 : Int) : Option (hciPc ⊕ Ret) :=
  br (decide (v0 < iN (List.map (AV.int IntKind.i64) gs).length))
  (gu (0 ≤ v0) <|
   el (gs) (v0.toNat) fun (x21 : Int) =>
   br (x21 != -1)
   (br (decide (x21 < 0))
    (some (.inr ([], AV.bool false)))
    (br (decide (iN (List.map sA n.ss).length ≤ x21))
     (some (.inr ([], AV.bool false)))
     (gu (0 ≤ x21) <|
      el (n.ss) (x21.toNat) fun (x39 : SpuD) =>
      br (!x39.dep)
      (some (.inr ([], AV.bool false)))
      (some (.inl (.l0 (IntKind.i64.wrap (v0 + 1))))))))
   (some (.inl (.l0 (IntKind.i64.wrap (v0 + 1))))))
  (some (.inr ([], AV.bool true)))
noncomputable def hciStep (n : NetD) (hm gs : List Int) : hciPc → Option (hciPc ⊕ Ret)
  | .l0 v0 => hciS0 n hm gs v0
theorem hciEn_ok (n : NetD) (hm gs : List Int) (o : hciPc ⊕ Ret) (h : hciEn n hm gs = some o) : Arr Try.prog Try.f112 0 (hciSt n hm gs) hciHd (bodyOf Try.f112) [] { n := Try.f112.ntmps, fr := enumF 0 ([netA n, lI hm, lI gs]), hp := ([]) } o := by
 unfold hciEn at h
 rcases br_inv h with ⟨a0, h⟩ | ⟨a0, h⟩
 ·
  cases h
  exact Arr.rt [27] [] [] [] [] [] mix (by kernel_rfl) (aj (ag t2 (aj (u2 (u2 (u2 (u2 (al t3))))) (aj a0 s2))) t2)
 ·
  cases h
  exact Arr.lp [26] [] [] [] [] [0] [2, 3, 15, 16] mix (by kernel_rfl) (aj (ag t2 (aj (u2 (u2 (u2 (u2 (al t3))))) (aj a0 (al (u2 (u2 t2)))))) t6)
theorem hciS0_ok (n : NetD) (hm gs : List Int) (v0 : Int) (o : hciPc ⊕ Ret) (h : hciS0 n hm gs v0 = some o) : Arr Try.prog Try.f112 0 (hciSt n hm gs) hciHd (headC Try.f112 0) (.rnd (headC Try.f112 0) :: headK Try.f112 0) (hciSt n hm gs (.l0 v0)) o := by
 unfold hciS0 at h
 rcases br_inv h with ⟨a0, h⟩ | ⟨a0, h⟩
 ·
  obtain ⟨a1, h⟩ := gu_inv h
  obtain ⟨x21, a2, h⟩ := el_inv h
  rcases br_inv h with ⟨a3, h⟩ | ⟨a3, h⟩
  ·
   rcases br_inv h with ⟨a4, h⟩ | ⟨a4, h⟩
   ·
    cases h
    exact Arr.rt [35, 51, 57] [(21, iv x21)] [] [] [] [] mix (by kernel_rfl) (aj (aj (al t3) (aj a0 (aj (u2 s2) (aj (u2 (u2 (aj (k2 (aj a1 (getMap (f := iv) a2))) (u2 s2)))) (aj (u2 (u2 (u2 (ag a3 (ag a3 (ag a3 (aj a4 (aj a4 (aj a4 (aj a4 (aj a4 (aj (aj a3 (aj a4 t2)) (ag a3 (k2 (k5 (aj (aj a3 t3) (al (aj a3 t2)))))))))))))))))) (ak s2)))))) t2)
   ·
    rcases br_inv h with ⟨a5, h⟩ | ⟨a5, h⟩
    ·
     cases h
     exact Arr.rt [35, 51, 56, 71] [(21, iv x21)] [] [] [] [] mix (by kernel_rfl) (aj (aj (al t3) (aj a0 (aj (u2 s2) (aj (u2 (u2 (aj (k2 (aj a1 (getMap (f := iv) a2))) (u2 s2)))) (aj (u2 (u2 (u2 (ag a3 (ag a3 (ag a3 (ag a4 (ag a4 (ag a4 (ag a4 (aj (aj a4 t3) (aj (aj a3 (aj a4 t2)) (ag a3 (aj a5 (aj a5 (aj a5 (aj a5 (aj a5 (aj a5 (aj a5 (aj (aj a3 (aj a5 t2)) (al (aj a3 t2))))))))))))))))))))))) (ak s2)))))) t2)
    ·
     obtain ⟨a6, h⟩ := gu_inv h
     obtain ⟨x39, a7, h⟩ := el_inv h
     rcases br_inv h with ⟨a8, h⟩ | ⟨a8, h⟩
     ·
      cases h
      exact Arr.rt [35, 51, 56, 70, 89] [(21, iv x21), (39, sA x39)] [] [] [] [] mix (by kernel_rfl) (aj (aj (al t3) (aj a0 (aj (u2 s2) (aj (u2 (u2 (aj (k2 (aj a1 (getMap (f := iv) a2))) (u2 s2)))) (aj (u2 (u2 (u2 (ag a3 (ag a3 (ag a3 (ag a4 (ag a4 (ag a4 (ag a4 (aj (aj a4 t3) (aj (aj a3 (aj a4 t2)) (ag a3 (ag a5 (ag a5 (ag a5 (aj (aj a5 (k2 (aj a6 (getMap (f := sA) a7)))) (ag a5 (ag a5 (ag a5 (aj (aj a3 (aj a5 t2)) (al (aj a3 t2))))))))))))))))))))))) (aj a8 s2)))))) t2)
     ·
      cases h
      exact Arr.lp [35, 51, 56, 70, 88] [(21, iv x21), (39, sA x39)] [] [] [] [0] [2, 3, 15, 16] mix (by kernel_rfl) (aj (aj (al t3) (aj a0 (aj (u2 s2) (aj (u2 (u2 (aj (k2 (aj a1 (getMap (f := iv) a2))) (u2 s2)))) (aj (u2 (u2 (u2 (ag a3 (ag a3 (ag a3 (ag a4 (ag a4 (ag a4 (ag a4 (aj (aj a4 t3) (aj (aj a3 (aj a4 t2)) (ag a3 (ag a5 (ag a5 (ag a5 (aj (aj a5 (k2 (aj a6 (getMap (f := sA) a7)))) (ag a5 (ag a5 (ag a5 (aj (aj a3 (aj a5 t2)) (al (aj a3 t2))))))))))))))))))))))) (aj a8 (al (u2 s2)))))))) t6)
  ·
   cases h
   exact Arr.lp [35, 50] [(21, iv x21)] [] [] [] [0] [2, 3, 15, 16] mix (by kernel_rfl) (aj (aj (al t3) (aj a0 (aj (u2 s2) (aj (u2 (u2 (aj (k2 (aj a1 (getMap (f := iv) a2))) (u2 s2)))) (aj (u2 (u2 (u2 (aj a3 (aj a3 (aj a3 (k5 (aj a3 (aj a3 (k2 (k5 (aj a3 (al (aj a3 t2)))))))))))))) (ak (al (u2 s2)))))))) t6)
 ·
  cases h
  exact Arr.rt [34] [] [] [] [] [] mix (by kernel_rfl) (aj (aj (al t3) (aj a0 s2)) t2)
theorem hci_ct (n : NetD) (hm gs : List Int) (r : Ret) (h : MReach (hciStep n hm gs) (hciEn n hm gs) r) : CT Try.prog 112 ([]) ([netA n, lI hm, lI gs]) r.1 r.2 :=
  CT.mach (fn := Try.f112) (c := bodyOf Try.f112) (S := hciSt n hm gs) (hd := hciHd) Try.func112 (by kernel_rfl) (Nat.le_of_ble_eq_true rfl)
    (fun s o ho => match s, ho with
      | .l0 v0, ho => hciS0_ok n hm gs v0 o ho
    )
    (fun o ho => hciEn_ok n hm gs o ho) h
inductive shuPc where
  | l0 (v0 : List Bool) (v1 : Int) (v2 : Nat)
noncomputable def shuSt (L : List Int) (kk : Nat) (c : Int) : shuPc → St
  | .l0 v0 v1 v2 => St.mk 25 [(0, AV.ptr 0 0 0), (1, iv c), (5, AV.sl 1 0 v0.length), (6, iv v1)] [some (tapeB L v2), some (Blk.mk (List.map AV.bool v0) 1 true true none)]
def shuHd : shuPc → Nat
  | .l0 _ _ _ => 0
noncomputable def shuEn (L : List Int) (kk : Nat) (c : Int) : Option (shuPc ⊕ Ret) :=
  gu (0 ≤ c) <|
  gu (1 * c ≤ 281474976710656) <|
  gu (c ≤ 9223372036854775807) <|
  gu (kk < 9223372036854775807) <|
  some (.inl (.l0 (List.replicate c.toNat false) (nextZ L kk 3) (kk + 1)))
noncomputable def shuS0 (L : List Int) (kk : Nat) (c : Int) (v0 : List Bool) (v1 : Int) (v2 : Nat) : Option (shuPc ⊕ Ret) :=
  br (decide (0 < v1))
  (br (decide (0 < c))
   (gu (v2 < 9223372036854775807) <|
    gu (0 ≤ nextZ L v2 c) <|
    gu (nextZ L v2 c < iN v0.length) <|
    gu ((0 + (nextZ L v2 c).toNat).succ.le (List.map AV.bool v0).length) <|
    some (.inl (.l0 (v0.set (0 + (nextZ L v2 c).toNat) true) (IntKind.i64.wrap (v1 - 1)) (v2 + 1))))
   (some (.inr ([some (Blk.mk [AV.agg [AV.lst (List.map (AV.int IntKind.i64) L), AV.int IntKind.i64 (iN v2)]] 2 true true none)], AV.lst (List.map AV.bool v0)))))
  (some (.inr ([some (Blk.mk [AV.agg [AV.lst (List.map (AV.int IntKind.i64) L), AV.int IntKind.i64 (iN v2)]] 2 true true none)], AV.lst (List.map AV.bool v0))))
noncomputable def shuStep (L : List Int) (kk : Nat) (c : Int) : shuPc → Option (shuPc ⊕ Ret)
  | .l0 v0 v1 v2 => shuS0 L kk c v0 v1 v2
theorem shuEn_ok (L : List Int) (kk : Nat) (c : Int) (o : shuPc ⊕ Ret) (h : shuEn L kk c = some o) : Arr Try.prog Try.f58 1 (shuSt L kk c) shuHd (bodyOf Try.f58) [] { n := Try.f58.ntmps, fr := enumF 0 ([.ptr 0 0 0, .int .i64 c]), hp := ([some (tapeB L kk)]) } o := by
 unfold shuEn at h
 obtain ⟨a0, h⟩ := gu_inv h
 obtain ⟨a1, h⟩ := gu_inv h
 obtain ⟨a2, h⟩ := gu_inv h
 obtain ⟨a3, h⟩ := gu_inv h
 cases h
 exact Arr.loopE (H := hT (ds []) [] [(10, Hint.call [0] [] [tapeB L (kk + 1)] (AV.int IntKind.i64 (nextZ L kk 3)))]) (F := []) (n := 4000) (s' := St.mk 25 [(0, AV.ptr 0 0 0), (1, AV.int IntKind.i64 c), (5, AV.sl 1 0 c.toNat), (6, AV.int IntKind.i64 (nextZ L kk 3))] [some (Blk.mk [AV.agg [AV.lst (List.map (AV.int IntKind.i64) L), AV.int IntKind.i64 (iN (kk + 1))]] 2 true true none), some (Blk.mk (List.replicate c.toNat (AV.bool false)) 1 true true none)]) [] [0, 1] [] [0, 1, 5, 6] mix (by kernel_rfl) (aj (u2 (aj (u2 (aj (k2 (aj a0 (aj (show c ≤ c by omega) (aj a1 a2)))) s2)) (al (u2 (aj (ak (k3 (al (next_ct (L) (kk) (3) a3)))) s2))))) t7) (by simp [iv, netA, tapeB, lstI, shuSt, gL, boL, lI, sA, bA])
theorem shuS0_ok (L : List Int) (kk : Nat) (c : Int) (v0 : List Bool) (v1 : Int) (v2 : Nat) (o : shuPc ⊕ Ret) (h : shuS0 L kk c v0 v1 v2 = some o) : Arr Try.prog Try.f58 1 (shuSt L kk c) shuHd (headC Try.f58 0) (.rnd (headC Try.f58 0) :: headK Try.f58 0) (shuSt L kk c (.l0 v0 v1 v2)) o := by
 unfold shuS0 at h
 rcases br_inv h with ⟨a0, h⟩ | ⟨a0, h⟩
 ·
  rcases br_inv h with ⟨a1, h⟩ | ⟨a1, h⟩
  ·
   obtain ⟨a2, h⟩ := gu_inv h
   obtain ⟨a3, h⟩ := gu_inv h
   obtain ⟨a4, h⟩ := gu_inv h
   obtain ⟨a5, h⟩ := gu_inv h
   cases h
   exact Arr.loopE (H := hT (ds [27, 33]) [] [(22, Hint.call [0] [] [tapeB L (v2 + 1)] (AV.int IntKind.i64 (nextZ L v2 c)))]) (F := []) (n := 4000) (s' := St.mk 25 [(0, AV.ptr 0 0 0), (1, AV.int IntKind.i64 c), (5, AV.sl 1 0 v0.length), (6, AV.int IntKind.i64 (IntKind.i64.wrap (v1 - 1)))] [some (Blk.mk [AV.agg [AV.lst (List.map (AV.int IntKind.i64) L), AV.int IntKind.i64 (iN (v2 + 1))]] 2 true true none), some (Blk.mk ((List.map AV.bool v0).set (0 + (nextZ L v2 c).toNat) (AV.bool true)) 1 true true none)]) [] [0, 1] [] [0, 1, 5, 6] mix (by kernel_rfl) (aj (aj (u2 (u2 (u2 (ag a0 (ag a0 (al (aj a0 t2))))))) (aj a1 (aj (u2 (u2 (u2 (aj (k5 (al (next_ct (L) (v2) (c) a2))) (aj (k2 (aj a3 a4)) (al (ak a5))))))) (al (u2 (u2 s2)))))) t7) (by simp [iv, netA, tapeB, lstI, shuSt, gL, boL, lI, sA, bA])
  ·
   cases h
   exact Arr.rt [27, 32] [] [] [] [0] [1] mix (by kernel_rfl) (aj (aj (u2 (u2 (u2 (ag a0 (ag a0 (al (aj a0 t2))))))) (aj a1 (al (u2 s2)))) (aj (show v0.length = (List.map AV.bool v0).length by simp) t2))
 ·
  cases h
  exact Arr.rt [26] [] [] [] [0] [1] mix (by kernel_rfl) (aj (aj (u2 (u2 (u2 (aj a0 (aj a0 (al (aj a0 t2))))))) (ak (al (u2 s2)))) (aj (show v0.length = (List.map AV.bool v0).length by simp) t2))
theorem shu_ct (L : List Int) (kk : Nat) (c : Int) (r : Ret) (h : MReach (shuStep L kk c) (shuEn L kk c) r) : CT Try.prog 58 ([some (tapeB L kk)]) ([.ptr 0 0 0, .int .i64 c]) r.1 r.2 :=
  CT.mach (fn := Try.f58) (c := bodyOf Try.f58) (S := shuSt L kk c) (hd := shuHd) Try.func58 (by kernel_rfl) (Nat.le_of_ble_eq_true rfl)
    (fun s o ho => match s, ho with
      | .l0 v0 v1 v2, ho => shuS0_ok L kk c v0 v1 v2 o ho
    )
    (fun o ho => shuEn_ok L kk c o ho) h
inductive depPc where
  | l0 (v0 : List Int) (v1 : Int)
noncomputable def depSt (n : NetD) : depPc → St
  | .l0 v0 v1 => St.mk 23 [(1, AV.ptr 0 0 0), (3, AV.sl 1 0 v0.length), (4, iv v1)] [some (Blk.mk [netA n] 8 true true none), some (Blk.mk (List.map (iv) v0) 1 true true none)]
def depHd : depPc → Nat
  | .l0 _ _ => 0
noncomputable def depEn (n : NetD) : Option (depPc ⊕ Ret) :=
  some (.inl (.l0 ([]) ((0 : Int))))
noncomputable def depS0 (n : NetD) (v0 : List Int) (v1 : Int) : Option (depPc ⊕ Ret) :=
  br (decide (v1 < iN (List.map sA n.ss).length))
  (gu (0 ≤ v1) <|
   el (n.ss) (v1.toNat) fun (x15 : SpuD) =>
   br (x15.dep)
   (gu ((List.map (AV.int IntKind.i64) v0).length + [AV.int IntKind.i64 v1].length ≤ 9223372036854775807) <|
    gu (((List.map (AV.int IntKind.i64) v0).length + [AV.int IntKind.i64 v1].length) * 8 ≤ 140737488355328) <|
    some (.inl (.l0 (v0 ++ [v1]) (IntKind.i64.wrap (v1 + 1)))))
   (some (.inl (.l0 (v0) (IntKind.i64.wrap (v1 + 1))))))
  (some (.inr ([], AV.lst (List.map (AV.int IntKind.i64) v0))))
noncomputable def depStep (n : NetD) : depPc → Option (depPc ⊕ Ret)
  | .l0 v0 v1 => depS0 n v0 v1
theorem depEn_ok (n : NetD) (o : depPc ⊕ Ret) (h : depEn n = some o) : Arr Try.prog Try.f107 0 (depSt n) depHd (bodyOf Try.f107) [] { n := Try.f107.ntmps, fr := enumF 0 ([netA n]), hp := ([]) } o := by
 unfold depEn at h
 cases h
 exact Arr.lp [] [] [] [] [(3, 1)] [0, 1] [1, 3, 4] mix (by kernel_rfl) (aj (ag t2 (u2 s2)) t6)
theorem depS0_ok (n : NetD) (v0 : List Int) (v1 : Int) (o : depPc ⊕ Ret) (h : depS0 n v0 v1 = some o) : Arr Try.prog Try.f107 0 (depSt n) depHd (headC Try.f107 0) (.rnd (headC Try.f107 0) :: headK Try.f107 0) (depSt n (.l0 v0 v1)) o := by
 unfold depS0 at h
 rcases br_inv h with ⟨a0, h⟩ | ⟨a0, h⟩
 ·
  obtain ⟨a1, h⟩ := gu_inv h
  obtain ⟨x15, a2, h⟩ := el_inv h
  rcases br_inv h with ⟨a3, h⟩ | ⟨a3, h⟩
  ·
   obtain ⟨a4, h⟩ := gu_inv h
   obtain ⟨a5, h⟩ := gu_inv h
   cases h
   exact Arr.loopE (H := hT (ds [19, 35]) [(15, sA x15)] []) (F := []) (n := 4000) (s' := St.mk 23 [(1, AV.ptr 0 0 0), (3, AV.sl 1 0 ((List.map (AV.int IntKind.i64) v0).length + [AV.int IntKind.i64 v1].length)), (4, AV.int IntKind.i64 (IntKind.i64.wrap (v1 + 1)))] [some (Blk.mk [AV.agg [AV.lst (List.map bA n.bs), AV.lst (gL n.nx), AV.lst (List.map sA n.ss), AV.lst (List.map (AV.int IntKind.i64) n.rs), AV.int IntKind.i64 n.q, AV.int IntKind.i64 n.a, AV.int IntKind.i64 n.d, AV.int IntKind.i64 n.p]] 8 true true none), some (Blk.mk (List.map (AV.int IntKind.i64) v0 ++ [AV.int IntKind.i64 v1]) 1 true true none)]) [] [0, 3] [] [1, 3, 4] mix (by kernel_rfl) (aj (aj (u2 (u2 (u2 (u2 (al t3))))) (aj a0 (aj (u2 (u2 (u2 (aj (k2 (aj a1 (getMap (f := sA) a2))) (u2 s2))))) (aj a3 (aj (u2 (u2 (u2 (aj (k2 (aj (show (List.map (AV.int IntKind.i64) v0).length = v0.length by simp) (aj (aj (show nat_lit 1 = nat_lit 1 from rfl) (show 1 ≤ [AV.int IntKind.i64 v1].length by simp)) (aj a4 a5)))) s2)))) (al (u2 (u2 s2)))))))) t6) (by simp [iv, netA, tapeB, lstI, depSt, gL, boL, lI, sA, bA])
  ·
   cases h
   exact Arr.lp [19, 34] [(15, sA x15)] [] [] [] [0, 1] [1, 3, 4] mix (by kernel_rfl) (aj (aj (u2 (u2 (u2 (u2 (al t3))))) (aj a0 (aj (u2 (u2 (u2 (aj (k2 (aj a1 (getMap (f := sA) a2))) (u2 s2))))) (aj a3 (al (u2 (u2 s2))))))) t6)
 ·
  cases h
  exact Arr.rt [18] [] [] [] [] [1] mix (by kernel_rfl) (aj (aj (u2 (u2 (u2 (u2 (al t3))))) (aj a0 (al (u2 s2)))) (al (show v0.length = (List.map (iv) v0).length by simp)))
theorem dep_ct (n : NetD) (r : Ret) (h : MReach (depStep n) (depEn n) r) : CT Try.prog 107 ([]) ([netA n]) r.1 r.2 :=
  CT.mach (fn := Try.f107) (c := bodyOf Try.f107) (S := depSt n) (hd := depHd) Try.func107 (by kernel_rfl) (Nat.le_of_ble_eq_true rfl)
    (fun s o ho => match s, ho with
      | .l0 v0 v1, ho => depS0_ok n v0 v1 o ho
    )
    (fun o ho => depEn_ok n o ho) h
noncomputable def mlb0St : Empty → St
  | x => x.elim
def mlb0Hd : Empty → Nat
  | x => x.elim
noncomputable def mlb0En : Option (Empty ⊕ Ret) :=
  some (.inr ([], AV.tup [AV.int IntKind.u64 0, AV.int IntKind.u64 0]))
noncomputable def mlb0Step : Empty → Option (Empty ⊕ Ret)
  | x => x.elim
theorem mlb0En_ok (o : Empty ⊕ Ret) (h : mlb0En = some o) : Arr Try.prog Try.f158 0 (mlb0St) mlb0Hd (bodyOf Try.f158) [] { n := Try.f158.ntmps, fr := enumF 0 ([.int .u64 1, .int .u64 0]), hp := ([]) } o := by
 unfold mlb0En at h
 cases h
 exact Arr.rt [] [] [] [] [] [] mix (by kernel_rfl) (aj (aj t3 (aj (u2 (u2 s2)) (aj (u2 (aj (ak (show Int.NonNeg (32 : Int) from (by first | decide | exact Int.NonNeg.mk _))) s2)) (aj (u2 (u2 s2)) (aj (u2 (aj (ak (show Int.NonNeg (32 : Int) from (by first | decide | exact Int.NonNeg.mk _))) s2)) (aj (u2 (u2 (aj t3 s2))) (aj (u2 (u2 (aj t3 (u2 (aj (ak (show Int.NonNeg (32 : Int) from (by first | decide | exact Int.NonNeg.mk _))) (aj t3 s2)))))) (aj (u2 (u2 s2)) (aj (u2 (aj (ak (show Int.NonNeg (32 : Int) from (by first | decide | exact Int.NonNeg.mk _))) s2)) (aj (u2 (u2 (u2 (aj t3 (aj t3 s2))))) (aj (u2 (u2 (aj t3 (u2 (aj t3 (u2 (aj (ak (show Int.NonNeg (32 : Int) from (by first | decide | exact Int.NonNeg.mk _))) (aj t3 s2)))))))) (al (u2 (u2 (aj t3 s2))))))))))))))) (al t3))
theorem mlb0_ct (r : Ret) (h : MReach (mlb0Step) (mlb0En) r) : CT Try.prog 158 ([]) ([.int .u64 1, .int .u64 0]) r.1 r.2 :=
  CT.mach (fn := Try.f158) (c := bodyOf Try.f158) (S := mlb0St) (hd := mlb0Hd) Try.func158 (by kernel_rfl) (Nat.le_of_ble_eq_true rfl)
    (fun s o ho => match s, ho with
      | x, _ => x.elim)
    (fun o ho => mlb0En_ok o ho) h
noncomputable def mlb1St : Empty → St
  | x => x.elim
def mlb1Hd : Empty → Nat
  | x => x.elim
noncomputable def mlb1En : Option (Empty ⊕ Ret) :=
  some (.inr ([], AV.tup [AV.int IntKind.u64 0, AV.int IntKind.u64 1]))
noncomputable def mlb1Step : Empty → Option (Empty ⊕ Ret)
  | x => x.elim
theorem mlb1En_ok (o : Empty ⊕ Ret) (h : mlb1En = some o) : Arr Try.prog Try.f158 0 (mlb1St) mlb1Hd (bodyOf Try.f158) [] { n := Try.f158.ntmps, fr := enumF 0 ([.int .u64 1, .int .u64 1]), hp := ([]) } o := by
 unfold mlb1En at h
 cases h
 exact Arr.rt [] [] [] [] [] [] mix (by kernel_rfl) (aj (aj t3 (aj (u2 (u2 s2)) (aj (u2 (aj (ak (show Int.NonNeg (32 : Int) from (by first | decide | exact Int.NonNeg.mk _))) s2)) (aj (u2 (u2 s2)) (aj (u2 (aj (ak (show Int.NonNeg (32 : Int) from (by first | decide | exact Int.NonNeg.mk _))) s2)) (aj (u2 (u2 (aj t3 s2))) (aj (u2 (u2 (aj t3 (u2 (aj (ak (show Int.NonNeg (32 : Int) from (by first | decide | exact Int.NonNeg.mk _))) (aj t3 s2)))))) (aj (u2 (u2 s2)) (aj (u2 (aj (ak (show Int.NonNeg (32 : Int) from (by first | decide | exact Int.NonNeg.mk _))) s2)) (aj (u2 (u2 (u2 (aj t3 (aj t3 s2))))) (aj (u2 (u2 (aj t3 (u2 (aj t3 (u2 (aj (ak (show Int.NonNeg (32 : Int) from (by first | decide | exact Int.NonNeg.mk _))) (aj t3 s2)))))))) (al (u2 (u2 (aj t3 s2))))))))))))))) (al t3))
theorem mlb1_ct (r : Ret) (h : MReach (mlb1Step) (mlb1En) r) : CT Try.prog 158 ([]) ([.int .u64 1, .int .u64 1]) r.1 r.2 :=
  CT.mach (fn := Try.f158) (c := bodyOf Try.f158) (S := mlb1St) (hd := mlb1Hd) Try.func158 (by kernel_rfl) (Nat.le_of_ble_eq_true rfl)
    (fun s o ho => match s, ho with
      | x, _ => x.elim)
    (fun o ho => mlb1En_ok o ho) h
noncomputable def mlb2St : Empty → St
  | x => x.elim
def mlb2Hd : Empty → Nat
  | x => x.elim
noncomputable def mlb2En : Option (Empty ⊕ Ret) :=
  some (.inr ([], AV.tup [AV.int IntKind.u64 0, AV.int IntKind.u64 2]))
noncomputable def mlb2Step : Empty → Option (Empty ⊕ Ret)
  | x => x.elim
theorem mlb2En_ok (o : Empty ⊕ Ret) (h : mlb2En = some o) : Arr Try.prog Try.f158 0 (mlb2St) mlb2Hd (bodyOf Try.f158) [] { n := Try.f158.ntmps, fr := enumF 0 ([.int .u64 1, .int .u64 2]), hp := ([]) } o := by
 unfold mlb2En at h
 cases h
 exact Arr.rt [] [] [] [] [] [] mix (by kernel_rfl) (aj (aj t3 (aj (u2 (u2 s2)) (aj (u2 (aj (ak (show Int.NonNeg (32 : Int) from (by first | decide | exact Int.NonNeg.mk _))) s2)) (aj (u2 (u2 s2)) (aj (u2 (aj (ak (show Int.NonNeg (32 : Int) from (by first | decide | exact Int.NonNeg.mk _))) s2)) (aj (u2 (u2 (aj t3 s2))) (aj (u2 (u2 (aj t3 (u2 (aj (ak (show Int.NonNeg (32 : Int) from (by first | decide | exact Int.NonNeg.mk _))) (aj t3 s2)))))) (aj (u2 (u2 s2)) (aj (u2 (aj (ak (show Int.NonNeg (32 : Int) from (by first | decide | exact Int.NonNeg.mk _))) s2)) (aj (u2 (u2 (u2 (aj t3 (aj t3 s2))))) (aj (u2 (u2 (aj t3 (u2 (aj t3 (u2 (aj (ak (show Int.NonNeg (32 : Int) from (by first | decide | exact Int.NonNeg.mk _))) (aj t3 s2)))))))) (al (u2 (u2 (aj t3 s2))))))))))))))) (al t3))
theorem mlb2_ct (r : Ret) (h : MReach (mlb2Step) (mlb2En) r) : CT Try.prog 158 ([]) ([.int .u64 1, .int .u64 2]) r.1 r.2 :=
  CT.mach (fn := Try.f158) (c := bodyOf Try.f158) (S := mlb2St) (hd := mlb2Hd) Try.func158 (by kernel_rfl) (Nat.le_of_ble_eq_true rfl)
    (fun s o ho => match s, ho with
      | x, _ => x.elim)
    (fun o ho => mlb2En_ok o ho) h
noncomputable def mlb3St : Empty → St
  | x => x.elim
def mlb3Hd : Empty → Nat
  | x => x.elim
noncomputable def mlb3En : Option (Empty ⊕ Ret) :=
  some (.inr ([], AV.tup [AV.int IntKind.u64 0, AV.int IntKind.u64 3]))
noncomputable def mlb3Step : Empty → Option (Empty ⊕ Ret)
  | x => x.elim
theorem mlb3En_ok (o : Empty ⊕ Ret) (h : mlb3En = some o) : Arr Try.prog Try.f158 0 (mlb3St) mlb3Hd (bodyOf Try.f158) [] { n := Try.f158.ntmps, fr := enumF 0 ([.int .u64 1, .int .u64 3]), hp := ([]) } o := by
 unfold mlb3En at h
 cases h
 exact Arr.rt [] [] [] [] [] [] mix (by kernel_rfl) (aj (aj t3 (aj (u2 (u2 s2)) (aj (u2 (aj (ak (show Int.NonNeg (32 : Int) from (by first | decide | exact Int.NonNeg.mk _))) s2)) (aj (u2 (u2 s2)) (aj (u2 (aj (ak (show Int.NonNeg (32 : Int) from (by first | decide | exact Int.NonNeg.mk _))) s2)) (aj (u2 (u2 (aj t3 s2))) (aj (u2 (u2 (aj t3 (u2 (aj (ak (show Int.NonNeg (32 : Int) from (by first | decide | exact Int.NonNeg.mk _))) (aj t3 s2)))))) (aj (u2 (u2 s2)) (aj (u2 (aj (ak (show Int.NonNeg (32 : Int) from (by first | decide | exact Int.NonNeg.mk _))) s2)) (aj (u2 (u2 (u2 (aj t3 (aj t3 s2))))) (aj (u2 (u2 (aj t3 (u2 (aj t3 (u2 (aj (ak (show Int.NonNeg (32 : Int) from (by first | decide | exact Int.NonNeg.mk _))) (aj t3 s2)))))))) (al (u2 (u2 (aj t3 s2))))))))))))))) (al t3))
theorem mlb3_ct (r : Ret) (h : MReach (mlb3Step) (mlb3En) r) : CT Try.prog 158 ([]) ([.int .u64 1, .int .u64 3]) r.1 r.2 :=
  CT.mach (fn := Try.f158) (c := bodyOf Try.f158) (S := mlb3St) (hd := mlb3Hd) Try.func158 (by kernel_rfl) (Nat.le_of_ble_eq_true rfl)
    (fun s o ho => match s, ho with
      | x, _ => x.elim)
    (fun o ho => mlb3En_ok o ho) h
noncomputable def mlb4St : Empty → St
  | x => x.elim
def mlb4Hd : Empty → Nat
  | x => x.elim
noncomputable def mlb4En : Option (Empty ⊕ Ret) :=
  some (.inr ([], AV.tup [AV.int IntKind.u64 0, AV.int IntKind.u64 4]))
noncomputable def mlb4Step : Empty → Option (Empty ⊕ Ret)
  | x => x.elim
theorem mlb4En_ok (o : Empty ⊕ Ret) (h : mlb4En = some o) : Arr Try.prog Try.f158 0 (mlb4St) mlb4Hd (bodyOf Try.f158) [] { n := Try.f158.ntmps, fr := enumF 0 ([.int .u64 1, .int .u64 4]), hp := ([]) } o := by
 unfold mlb4En at h
 cases h
 exact Arr.rt [] [] [] [] [] [] mix (by kernel_rfl) (aj (aj t3 (aj (u2 (u2 s2)) (aj (u2 (aj (ak (show Int.NonNeg (32 : Int) from (by first | decide | exact Int.NonNeg.mk _))) s2)) (aj (u2 (u2 s2)) (aj (u2 (aj (ak (show Int.NonNeg (32 : Int) from (by first | decide | exact Int.NonNeg.mk _))) s2)) (aj (u2 (u2 (aj t3 s2))) (aj (u2 (u2 (aj t3 (u2 (aj (ak (show Int.NonNeg (32 : Int) from (by first | decide | exact Int.NonNeg.mk _))) (aj t3 s2)))))) (aj (u2 (u2 s2)) (aj (u2 (aj (ak (show Int.NonNeg (32 : Int) from (by first | decide | exact Int.NonNeg.mk _))) s2)) (aj (u2 (u2 (u2 (aj t3 (aj t3 s2))))) (aj (u2 (u2 (aj t3 (u2 (aj t3 (u2 (aj (ak (show Int.NonNeg (32 : Int) from (by first | decide | exact Int.NonNeg.mk _))) (aj t3 s2)))))))) (al (u2 (u2 (aj t3 s2))))))))))))))) (al t3))
theorem mlb4_ct (r : Ret) (h : MReach (mlb4Step) (mlb4En) r) : CT Try.prog 158 ([]) ([.int .u64 1, .int .u64 4]) r.1 r.2 :=
  CT.mach (fn := Try.f158) (c := bodyOf Try.f158) (S := mlb4St) (hd := mlb4Hd) Try.func158 (by kernel_rfl) (Nat.le_of_ble_eq_true rfl)
    (fun s o ho => match s, ho with
      | x, _ => x.elim)
    (fun o ho => mlb4En_ok o ho) h
noncomputable def mlb5St : Empty → St
  | x => x.elim
def mlb5Hd : Empty → Nat
  | x => x.elim
noncomputable def mlb5En : Option (Empty ⊕ Ret) :=
  some (.inr ([], AV.tup [AV.int IntKind.u64 0, AV.int IntKind.u64 5]))
noncomputable def mlb5Step : Empty → Option (Empty ⊕ Ret)
  | x => x.elim
theorem mlb5En_ok (o : Empty ⊕ Ret) (h : mlb5En = some o) : Arr Try.prog Try.f158 0 (mlb5St) mlb5Hd (bodyOf Try.f158) [] { n := Try.f158.ntmps, fr := enumF 0 ([.int .u64 1, .int .u64 5]), hp := ([]) } o := by
 unfold mlb5En at h
 cases h
 exact Arr.rt [] [] [] [] [] [] mix (by kernel_rfl) (aj (aj t3 (aj (u2 (u2 s2)) (aj (u2 (aj (ak (show Int.NonNeg (32 : Int) from (by first | decide | exact Int.NonNeg.mk _))) s2)) (aj (u2 (u2 s2)) (aj (u2 (aj (ak (show Int.NonNeg (32 : Int) from (by first | decide | exact Int.NonNeg.mk _))) s2)) (aj (u2 (u2 (aj t3 s2))) (aj (u2 (u2 (aj t3 (u2 (aj (ak (show Int.NonNeg (32 : Int) from (by first | decide | exact Int.NonNeg.mk _))) (aj t3 s2)))))) (aj (u2 (u2 s2)) (aj (u2 (aj (ak (show Int.NonNeg (32 : Int) from (by first | decide | exact Int.NonNeg.mk _))) s2)) (aj (u2 (u2 (u2 (aj t3 (aj t3 s2))))) (aj (u2 (u2 (aj t3 (u2 (aj t3 (u2 (aj (ak (show Int.NonNeg (32 : Int) from (by first | decide | exact Int.NonNeg.mk _))) (aj t3 s2)))))))) (al (u2 (u2 (aj t3 s2))))))))))))))) (al t3))
theorem mlb5_ct (r : Ret) (h : MReach (mlb5Step) (mlb5En) r) : CT Try.prog 158 ([]) ([.int .u64 1, .int .u64 5]) r.1 r.2 :=
  CT.mach (fn := Try.f158) (c := bodyOf Try.f158) (S := mlb5St) (hd := mlb5Hd) Try.func158 (by kernel_rfl) (Nat.le_of_ble_eq_true rfl)
    (fun s o ho => match s, ho with
      | x, _ => x.elim)
    (fun o ho => mlb5En_ok o ho) h
noncomputable def mlb6St : Empty → St
  | x => x.elim
def mlb6Hd : Empty → Nat
  | x => x.elim
noncomputable def mlb6En : Option (Empty ⊕ Ret) :=
  some (.inr ([], AV.tup [AV.int IntKind.u64 0, AV.int IntKind.u64 6]))
noncomputable def mlb6Step : Empty → Option (Empty ⊕ Ret)
  | x => x.elim
theorem mlb6En_ok (o : Empty ⊕ Ret) (h : mlb6En = some o) : Arr Try.prog Try.f158 0 (mlb6St) mlb6Hd (bodyOf Try.f158) [] { n := Try.f158.ntmps, fr := enumF 0 ([.int .u64 1, .int .u64 6]), hp := ([]) } o := by
 unfold mlb6En at h
 cases h
 exact Arr.rt [] [] [] [] [] [] mix (by kernel_rfl) (aj (aj t3 (aj (u2 (u2 s2)) (aj (u2 (aj (ak (show Int.NonNeg (32 : Int) from (by first | decide | exact Int.NonNeg.mk _))) s2)) (aj (u2 (u2 s2)) (aj (u2 (aj (ak (show Int.NonNeg (32 : Int) from (by first | decide | exact Int.NonNeg.mk _))) s2)) (aj (u2 (u2 (aj t3 s2))) (aj (u2 (u2 (aj t3 (u2 (aj (ak (show Int.NonNeg (32 : Int) from (by first | decide | exact Int.NonNeg.mk _))) (aj t3 s2)))))) (aj (u2 (u2 s2)) (aj (u2 (aj (ak (show Int.NonNeg (32 : Int) from (by first | decide | exact Int.NonNeg.mk _))) s2)) (aj (u2 (u2 (u2 (aj t3 (aj t3 s2))))) (aj (u2 (u2 (aj t3 (u2 (aj t3 (u2 (aj (ak (show Int.NonNeg (32 : Int) from (by first | decide | exact Int.NonNeg.mk _))) (aj t3 s2)))))))) (al (u2 (u2 (aj t3 s2))))))))))))))) (al t3))
theorem mlb6_ct (r : Ret) (h : MReach (mlb6Step) (mlb6En) r) : CT Try.prog 158 ([]) ([.int .u64 1, .int .u64 6]) r.1 r.2 :=
  CT.mach (fn := Try.f158) (c := bodyOf Try.f158) (S := mlb6St) (hd := mlb6Hd) Try.func158 (by kernel_rfl) (Nat.le_of_ble_eq_true rfl)
    (fun s o ho => match s, ho with
      | x, _ => x.elim)
    (fun o ho => mlb6En_ok o ho) h
noncomputable def mlb7St : Empty → St
  | x => x.elim
def mlb7Hd : Empty → Nat
  | x => x.elim
noncomputable def mlb7En : Option (Empty ⊕ Ret) :=
  some (.inr ([], AV.tup [AV.int IntKind.u64 0, AV.int IntKind.u64 7]))
noncomputable def mlb7Step : Empty → Option (Empty ⊕ Ret)
  | x => x.elim
theorem mlb7En_ok (o : Empty ⊕ Ret) (h : mlb7En = some o) : Arr Try.prog Try.f158 0 (mlb7St) mlb7Hd (bodyOf Try.f158) [] { n := Try.f158.ntmps, fr := enumF 0 ([.int .u64 1, .int .u64 7]), hp := ([]) } o := by
 unfold mlb7En at h
 cases h
 exact Arr.rt [] [] [] [] [] [] mix (by kernel_rfl) (aj (aj t3 (aj (u2 (u2 s2)) (aj (u2 (aj (ak (show Int.NonNeg (32 : Int) from (by first | decide | exact Int.NonNeg.mk _))) s2)) (aj (u2 (u2 s2)) (aj (u2 (aj (ak (show Int.NonNeg (32 : Int) from (by first | decide | exact Int.NonNeg.mk _))) s2)) (aj (u2 (u2 (aj t3 s2))) (aj (u2 (u2 (aj t3 (u2 (aj (ak (show Int.NonNeg (32 : Int) from (by first | decide | exact Int.NonNeg.mk _))) (aj t3 s2)))))) (aj (u2 (u2 s2)) (aj (u2 (aj (ak (show Int.NonNeg (32 : Int) from (by first | decide | exact Int.NonNeg.mk _))) s2)) (aj (u2 (u2 (u2 (aj t3 (aj t3 s2))))) (aj (u2 (u2 (aj t3 (u2 (aj t3 (u2 (aj (ak (show Int.NonNeg (32 : Int) from (by first | decide | exact Int.NonNeg.mk _))) (aj t3 s2)))))))) (al (u2 (u2 (aj t3 s2))))))))))))))) (al t3))
theorem mlb7_ct (r : Ret) (h : MReach (mlb7Step) (mlb7En) r) : CT Try.prog 158 ([]) ([.int .u64 1, .int .u64 7]) r.1 r.2 :=
  CT.mach (fn := Try.f158) (c := bodyOf Try.f158) (S := mlb7St) (hd := mlb7Hd) Try.func158 (by kernel_rfl) (Nat.le_of_ble_eq_true rfl)
    (fun s o ho => match s, ho with
      | x, _ => x.elim)
    (fun o ho => mlb7En_ok o ho) h
noncomputable def mlb8St : Empty → St
  | x => x.elim
def mlb8Hd : Empty → Nat
  | x => x.elim
noncomputable def mlb8En : Option (Empty ⊕ Ret) :=
  some (.inr ([], AV.tup [AV.int IntKind.u64 0, AV.int IntKind.u64 8]))
noncomputable def mlb8Step : Empty → Option (Empty ⊕ Ret)
  | x => x.elim
theorem mlb8En_ok (o : Empty ⊕ Ret) (h : mlb8En = some o) : Arr Try.prog Try.f158 0 (mlb8St) mlb8Hd (bodyOf Try.f158) [] { n := Try.f158.ntmps, fr := enumF 0 ([.int .u64 1, .int .u64 8]), hp := ([]) } o := by
 unfold mlb8En at h
 cases h
 exact Arr.rt [] [] [] [] [] [] mix (by kernel_rfl) (aj (aj t3 (aj (u2 (u2 s2)) (aj (u2 (aj (ak (show Int.NonNeg (32 : Int) from (by first | decide | exact Int.NonNeg.mk _))) s2)) (aj (u2 (u2 s2)) (aj (u2 (aj (ak (show Int.NonNeg (32 : Int) from (by first | decide | exact Int.NonNeg.mk _))) s2)) (aj (u2 (u2 (aj t3 s2))) (aj (u2 (u2 (aj t3 (u2 (aj (ak (show Int.NonNeg (32 : Int) from (by first | decide | exact Int.NonNeg.mk _))) (aj t3 s2)))))) (aj (u2 (u2 s2)) (aj (u2 (aj (ak (show Int.NonNeg (32 : Int) from (by first | decide | exact Int.NonNeg.mk _))) s2)) (aj (u2 (u2 (u2 (aj t3 (aj t3 s2))))) (aj (u2 (u2 (aj t3 (u2 (aj t3 (u2 (aj (ak (show Int.NonNeg (32 : Int) from (by first | decide | exact Int.NonNeg.mk _))) (aj t3 s2)))))))) (al (u2 (u2 (aj t3 s2))))))))))))))) (al t3))
theorem mlb8_ct (r : Ret) (h : MReach (mlb8Step) (mlb8En) r) : CT Try.prog 158 ([]) ([.int .u64 1, .int .u64 8]) r.1 r.2 :=
  CT.mach (fn := Try.f158) (c := bodyOf Try.f158) (S := mlb8St) (hd := mlb8Hd) Try.func158 (by kernel_rfl) (Nat.le_of_ble_eq_true rfl)
    (fun s o ho => match s, ho with
      | x, _ => x.elim)
    (fun o ho => mlb8En_ok o ho) h
theorem shu_ex (L : List Int) (kk c : Nat) (hc : c ≤ 1000) (hk : kk ≤ 50000) : ∃ p : List Bool × Nat, p.1.length = c ∧ p.2 ≤ kk + 10 ∧ CT Try.prog 58 [some (tapeB L kk)] [.ptr 0 0 0, .int .i64 (c : Int)] [some (tapeB L p.2)] (.lst (boL p.1)) := by
  have r := nextZ_rng L kk 3 (by omega) (by omega)
  have loop : ∀ (m : Nat) (s : List Bool) (k : Nat), s.length = c → k + 10 * m ≤ 60000 → ∃ (s' : List Bool) (k' : Nat), s'.length = c ∧ k' ≤ k + m ∧ MReach (shuStep L kk (c : Int)) (some (.inl (.l0 s (m : Int) k))) (([some (tapeB L k')], .lst (boL s')) : Ret) := by
    intro m
    induction m with
    | zero =>
      intro s k hs _
      refine ⟨s, k, hs, by omega, .to ?_ (.ret _)⟩
      show shuS0 L kk c s 0 k = _
      unfold shuS0
      rw [br_f (by simp)]; rfl
    | succ m ih =>
      intro s k hs hkm
      by_cases h0 : (0 : Int) < c
      · have r2 := nextZ_rng L k (c : Int) (by omega) (by omega)
        obtain ⟨s', k', g1, g2, g3⟩ := ih (s.set (0 + (nextZ L k (c : Int)).toNat) true) (k + 1) (by simpa using hs) (by omega)
        refine ⟨s', k', g1, by omega, .to ?_ g3⟩
        show shuS0 L kk c s ((m + 1 : Nat) : Int) k = _
        unfold shuS0
        rw [br_t (dec_t (by omega)), br_t (dec_t h0), gu_t (by omega), gu_t r2.1, gu_t (by simp only [iN]; omega), gu_t (by rw [List.length_map, hs]; show 0 + _ + 1 ≤ _; omega), wrapS (((m + 1 : Nat) : Int) - 1) (by omega) (by omega), show ((m + 1 : Nat) : Int) - 1 = (m : Int) by omega]
      · refine ⟨s, k, hs, by omega, .to ?_ (.ret _)⟩
        show shuS0 L kk c s ((m + 1 : Nat) : Int) k = _
        unfold shuS0
        rw [br_t (dec_t (by omega)), br_f (dec_f h0)]; rfl
  obtain ⟨q, hq⟩ : ∃ q : Nat, nextZ L kk 3 = q := ⟨(nextZ L kk 3).toNat, by omega⟩
  obtain ⟨s', k', g1, g2, g3⟩ := loop q (List.replicate c false) (kk + 1) (by simp) (by omega)
  refine ⟨(s', k'), g1, by show k' ≤ _; omega, shu_ct L kk c ([some (tapeB L k')], .lst (boL s')) ?_⟩
  unfold shuEn
  rw [gu_t (by omega), gu_t (by omega), gu_t (by omega), gu_t (by omega), hq, Int.toNat_natCast]
  exact g3
theorem shu_exP (L : List Int) (kk c : Nat) : ∃ p : List Bool × Nat, c ≤ 1000 → kk ≤ 50000 → p.1.length = c ∧ p.2 ≤ kk + 10 ∧ CT Try.prog 58 [some (tapeB L kk)] [.ptr 0 0 0, .int .i64 (c : Int)] [some (tapeB L p.2)] (.lst (boL p.1)) := by
  by_cases h : c ≤ 1000 ∧ kk ≤ 50000
  · obtain ⟨p, a⟩ := shu_ex L kk c h.1 h.2
    exact ⟨p, fun _ _ => a⟩
  · exact ⟨([], 0), fun a b => absurd ⟨a, b⟩ h⟩
@[irreducible] noncomputable def shuL (L : List Int) (kk c : Nat) : List Bool := (Classical.choose (shu_exP L kk c)).1
@[irreducible] noncomputable def shuK (L : List Int) (kk c : Nat) : Nat := (Classical.choose (shu_exP L kk c)).2
theorem shu_spec {L : List Int} {kk c : Nat} (h : c ≤ 1000) (hk : kk ≤ 50000) : (shuL L kk c).length = c ∧ shuK L kk c ≤ kk + 10 ∧ CT Try.prog 58 [some (tapeB L kk)] [.ptr 0 0 0, .int .i64 (c : Int)] [some (tapeB L (shuK L kk c))] (.lst (boL (shuL L kk c))) := by unfold shuL shuK; exact Classical.choose_spec (shu_exP L kk c) h hk
theorem shut_ct (L : List Int) (kk c : Nat) (h : c ≤ 1000) (hk : kk ≤ 50000) : CT Try.prog 58 [some (tapeB L kk)] [.ptr 0 0 0, .int .i64 (iN c)] [some (tapeB L (shuK L kk c))] (.lst (boL (shuL L kk c))) := (shu_spec h hk).2.2
def isD (n : NetD) (i : Nat) : Bool := match n.ss[i]? with | some s => s.dep | none => false
def depI (n : NetD) (i : Nat) : List Int := ((List.range i).filter (isD n)).map fun (j : Nat) => (j : Int)
def depL (n : NetD) : List Int := depI n n.ss.length
theorem depI_succ (n : NetD) (i : Nat) : depI n (i + 1) = if isD n i = true then depI n i ++ [(i : Int)] else depI n i := by
  unfold depI
  rw [List.range_succ, List.filter_append, List.map_append]
  cases h : isD n i <;> simp [List.filter, h]
theorem depI_len (n : NetD) (i : Nat) : (depI n i).length ≤ i := by
  unfold depI
  rw [List.length_map]
  exact Nat.le_trans (List.length_filter_le _ _) (by simp)
theorem depots_ct (n : NetD) (h : n.ss.length ≤ 6) : CT Try.prog 107 [] [netA n] [] (lI (depL n)) := by
  refine dep_ct n ([], lI (depL n)) ?_
  unfold depEn
  refine loop_up (fun i => depPc.l0 (depI n i) (i : Int)) n.ss.length (fun i hi hr => .to ?_ hr) (.to ?_ (.ret _))
  · obtain ⟨s, hs⟩ : ∃ s, n.ss[i]? = some s := ⟨_, List.getElem?_eq_getElem hi⟩
    have hl := depI_len n i
    show depS0 n _ i = _
    unfold depS0
    rw [rngS hs, depI_succ, wrap_nat i (by omega)]
    have : isD n i = s.dep := by unfold isD; rw [hs]
    rw [this]
    cases s.dep with
    | false => rfl
    | true => rw [br_t rfl, gu_t (by simp; omega), gu_t (by simp; omega)]; rfl
  · show depS0 n _ n.ss.length = _
    unfold depS0
    rw [rngE]; rfl
inductive hmdPc where
  | l0 (v0 : List Int) (v1 : Int)
  | l1 (v0 : List Int) (v1 : List Int) (v2 : List Int) (v3 : Int) (v4 : Nat)
noncomputable def hmdSt (n : NetD) (L : List Int) (kk : Nat) : hmdPc → St
  | .l0 v0 v1 => St.mk 89 [(0, AV.ptr 0 0 0), (3, AV.ptr 1 0 0), (6, AV.lst (List.map (iv) (depL n))), (7, AV.nils), (8, AV.nils), (9, AV.sl 2 0 v0.length), (10, iv v1)] [some (tapeB L kk), some (Blk.mk [netA n] 8 true true none), some (Blk.mk (List.map (iv) v0) 1 true true none)]
  | .l1 v0 v1 v2 v3 v4 => St.mk 89 [(0, AV.ptr 0 0 0), (6, AV.lst (List.map (iv) (depL n))), (7, AV.sl 1 0 v0.length), (8, AV.sl 2 0 v1.length), (9, AV.sl 3 0 v2.length), (11, iv v3)] [some (tapeB L v4), some (Blk.mk (List.map (iv) v0) 1 true true none), some (Blk.mk (List.map (iv) v1) 1 true true none), some (Blk.mk (List.map (iv) v2) 1 true true none)]
def hmdHd : hmdPc → Nat
  | .l0 _ _ => 0
  | .l1 _ _ _ _ _ => 1
noncomputable def hmdEn (n : NetD) (L : List Int) (kk : Nat) : Option (hmdPc ⊕ Ret) :=
  gu (n.ss.length ≤ 6) <|
  gu (8 * iN (List.map sA n.ss).length ≤ 281474976710656) <|
  gu (iN (List.map sA n.ss).length ≤ 9223372036854775807) <|
  some (.inl (.l0 (List.replicate (List.map sA n.ss).length 0) ((0 : Int))))
noncomputable def hmdS0 (n : NetD) (L : List Int) (kk : Nat) (v0 : List Int) (v1 : Int) : Option (hmdPc ⊕ Ret) :=
  br (decide (v1 < iN (List.map sA n.ss).length))
  (gu (0 ≤ v1) <|
   el (n.ss) (v1.toNat) fun (x33 : SpuD) =>
   gu (v1 < iN v0.length) <|
   gu ((0 + v1.toNat).succ.le (List.map (AV.int IntKind.i64) v0).length) <|
   some (.inl (.l0 (v0.set (0 + v1.toNat) x33.k) (IntKind.i64.wrap (v1 + 1)))))
  (gu (kk < 9223372036854775807) <|
   some (.inl (.l1 ([]) ([]) (v0) (nextZ L kk 9) (kk + 1))))
noncomputable def hmdS1 (n : NetD) (L : List Int) (kk : Nat) (v0 : List Int) (v1 : List Int) (v2 : List Int) (v3 : Int) (v4 : Nat) : Option (hmdPc ⊕ Ret) :=
  br (decide (0 < v3))
  (gu (v4 < 9223372036854775807) <|
   br (decide (0 ≤ IntKind.i64.wrap (nextZ L v4 (IntKind.i64.wrap (iN (List.map (AV.int IntKind.i64) (depL n)).length + 2)) - 2)))
   (gu (0 ≤ IntKind.i64.wrap (nextZ L v4 (IntKind.i64.wrap (iN (List.map (AV.int IntKind.i64) (depL n)).length + 2)) - 2)) <|
    el (depL n) ((IntKind.i64.wrap (nextZ L v4 (IntKind.i64.wrap (iN (List.map (AV.int IntKind.i64) (depL n)).length + 2)) - 2)).toNat) fun (x53 : Int) =>
    gu ((List.map (AV.int IntKind.i64) v0).length + [AV.int IntKind.i64 x53].length ≤ 9223372036854775807) <|
    gu (((List.map (AV.int IntKind.i64) v0).length + [AV.int IntKind.i64 x53].length) * 8 ≤ 140737488355328) <|
    gu (v4 + 1 < 9223372036854775807) <|
    gu (0 ≤ nextZ L (v4 + 1) (iN (List.map (AV.int IntKind.i64) (depL n)).length)) <|
    el (depL n) ((nextZ L (v4 + 1) (iN (List.map (AV.int IntKind.i64) (depL n)).length)).toNat) fun (x64 : Int) =>
    gu (v4 + 1 + 1 < 9223372036854775807) <|
    br (nextZ L (v4 + 1 + 1) 2 == 0)
    (gu (0 ≤ x64) <|
     gu (x64 < iN v2.length) <|
     el (v2) (0 + x64.toNat) fun (x73 : Int) =>
     br (decide (0 < x73))
     (el (v2) (0 + x64.toNat) fun (x79 : Int) =>
      gu ((0 + x64.toNat).succ.le (List.map (AV.int IntKind.i64) v2).length) <|
      gu ((List.map (AV.int IntKind.i64) v1).length + [AV.int IntKind.i64 x64].length ≤ 9223372036854775807) <|
      gu (((List.map (AV.int IntKind.i64) v1).length + [AV.int IntKind.i64 x64].length) * 8 ≤ 140737488355328) <|
      some (.inl (.l1 (v0 ++ [x53]) (v1 ++ [x64]) (v2.set (0 + x64.toNat) (IntKind.i64.wrap (x79 - 1))) (IntKind.i64.wrap (v3 - 1)) (v4 + 1 + 1 + 1))))
     (gu ((List.map (AV.int IntKind.i64) v1).length + 1 ≤ 9223372036854775807) <|
      gu (((List.map (AV.int IntKind.i64) v1).length + 1) * 8 ≤ 140737488355328) <|
      some (.inl (.l1 (v0 ++ [x53]) (v1 ++ [-1]) (v2) (IntKind.i64.wrap (v3 - 1)) (v4 + 1 + 1 + 1)))))
    (gu ((List.map (AV.int IntKind.i64) v1).length + 1 ≤ 9223372036854775807) <|
     gu (((List.map (AV.int IntKind.i64) v1).length + 1) * 8 ≤ 140737488355328) <|
     some (.inl (.l1 (v0 ++ [x53]) (v1 ++ [-1]) (v2) (IntKind.i64.wrap (v3 - 1)) (v4 + 1 + 1 + 1)))))
   (gu ((List.map (AV.int IntKind.i64) v0).length + [AV.int IntKind.i64 (IntKind.i64.wrap (nextZ L v4 (IntKind.i64.wrap (iN (List.map (AV.int IntKind.i64) (depL n)).length + 2)) - 2))].length ≤ 9223372036854775807) <|
    gu (((List.map (AV.int IntKind.i64) v0).length + [AV.int IntKind.i64 (IntKind.i64.wrap (nextZ L v4 (IntKind.i64.wrap (iN (List.map (AV.int IntKind.i64) (depL n)).length + 2)) - 2))].length) * 8 ≤ 140737488355328) <|
    gu (v4 + 1 < 9223372036854775807) <|
    gu (0 ≤ nextZ L (v4 + 1) (iN (List.map (AV.int IntKind.i64) (depL n)).length)) <|
    el (depL n) ((nextZ L (v4 + 1) (iN (List.map (AV.int IntKind.i64) (depL n)).length)).toNat) fun (x64 : Int) =>
    gu (v4 + 1 + 1 < 9223372036854775807) <|
    br (nextZ L (v4 + 1 + 1) 2 == 0)
    (gu (0 ≤ x64) <|
     gu (x64 < iN v2.length) <|
     el (v2) (0 + x64.toNat) fun (x73 : Int) =>
     br (decide (0 < x73))
     (el (v2) (0 + x64.toNat) fun (x79 : Int) =>
      gu ((0 + x64.toNat).succ.le (List.map (AV.int IntKind.i64) v2).length) <|
      gu ((List.map (AV.int IntKind.i64) v1).length + [AV.int IntKind.i64 x64].length ≤ 9223372036854775807) <|
      gu (((List.map (AV.int IntKind.i64) v1).length + [AV.int IntKind.i64 x64].length) * 8 ≤ 140737488355328) <|
      some (.inl (.l1 (v0 ++ [IntKind.i64.wrap (nextZ L v4 (IntKind.i64.wrap (iN (List.map (AV.int IntKind.i64) (depL n)).length + 2)) - 2)]) (v1 ++ [x64]) (v2.set (0 + x64.toNat) (IntKind.i64.wrap (x79 - 1))) (IntKind.i64.wrap (v3 - 1)) (v4 + 1 + 1 + 1))))
     (gu ((List.map (AV.int IntKind.i64) v1).length + 1 ≤ 9223372036854775807) <|
      gu (((List.map (AV.int IntKind.i64) v1).length + 1) * 8 ≤ 140737488355328) <|
      some (.inl (.l1 (v0 ++ [IntKind.i64.wrap (nextZ L v4 (IntKind.i64.wrap (iN (List.map (AV.int IntKind.i64) (depL n)).length + 2)) - 2)]) (v1 ++ [-1]) (v2) (IntKind.i64.wrap (v3 - 1)) (v4 + 1 + 1 + 1)))))
    (gu ((List.map (AV.int IntKind.i64) v1).length + 1 ≤ 9223372036854775807) <|
     gu (((List.map (AV.int IntKind.i64) v1).length + 1) * 8 ≤ 140737488355328) <|
     some (.inl (.l1 (v0 ++ [IntKind.i64.wrap (nextZ L v4 (IntKind.i64.wrap (iN (List.map (AV.int IntKind.i64) (depL n)).length + 2)) - 2)]) (v1 ++ [-1]) (v2) (IntKind.i64.wrap (v3 - 1)) (v4 + 1 + 1 + 1))))))
  (some (.inr ([some (Blk.mk [AV.agg [AV.lst (List.map (AV.int IntKind.i64) L), AV.int IntKind.i64 (iN v4)]] 2 true true none)], AV.tup [AV.lst (List.map (AV.int IntKind.i64) v0), AV.lst (List.map (AV.int IntKind.i64) v1)])))
noncomputable def hmdStep (n : NetD) (L : List Int) (kk : Nat) : hmdPc → Option (hmdPc ⊕ Ret)
  | .l0 v0 v1 => hmdS0 n L kk v0 v1
  | .l1 v0 v1 v2 v3 v4 => hmdS1 n L kk v0 v1 v2 v3 v4
theorem hmdEn_ok (n : NetD) (L : List Int) (kk : Nat) (o : hmdPc ⊕ Ret) (h : hmdEn n L kk = some o) : Arr Try.prog Try.f59 1 (hmdSt n L kk) hmdHd (bodyOf Try.f59) [] { n := Try.f59.ntmps, fr := enumF 0 ([.ptr 0 0 0, netA n]), hp := ([some (tapeB L kk)]) } o := by
 unfold hmdEn at h
 obtain ⟨a0, h⟩ := gu_inv h
 obtain ⟨a1, h⟩ := gu_inv h
 obtain ⟨a2, h⟩ := gu_inv h
 cases h
 exact Arr.loopE (H := hT (ds []) [] [(16, hc (lI (depL n)))]) (F := []) (n := 4000) (s' := St.mk 89 [(0, AV.ptr 0 0 0), (3, AV.ptr 1 0 0), (6, AV.lst (List.map (AV.int IntKind.i64) (depL n))), (7, AV.nils), (8, AV.nils), (9, AV.sl 2 0 (List.map sA n.ss).length), (10, AV.int IntKind.i64 0)] [some (Blk.mk [AV.agg [AV.lst (List.map (AV.int IntKind.i64) L), AV.int IntKind.i64 (iN kk)]] 2 true true none), some (Blk.mk [AV.agg [AV.lst (List.map bA n.bs), AV.lst (gL n.nx), AV.lst (List.map sA n.ss), AV.lst (List.map (AV.int IntKind.i64) n.rs), AV.int IntKind.i64 n.q, AV.int IntKind.i64 n.a, AV.int IntKind.i64 n.d, AV.int IntKind.i64 n.p]] 8 true true none), some (Blk.mk (List.replicate (List.map sA n.ss).length (AV.int IntKind.i64 0)) 1 true true none)]) [] [0, 1, 2] [] [0, 3, 6, 7, 8, 9, 10] mix (by kernel_rfl) (aj (aj (u2 t3) (aj (u2 (aj (ak (aj t9 (al (depots_ct (n) a0)))) s2)) (aj t3 (aj (u2 (u2 (u2 (aj (k2 (aj (show 0 ≤ iN (List.map sA n.ss).length from (Int.natCast_nonneg _)) (aj (show iN (List.map sA n.ss).length ≤ iN (List.map sA n.ss).length by omega) (aj a1 a2)))) s2)))) s2)))) (k2 t9)) (by simp [iv, netA, tapeB, lstI, hmdSt, gL, boL, lI, sA, bA])
theorem hmdS0_ok (n : NetD) (L : List Int) (kk : Nat) (v0 : List Int) (v1 : Int) (o : hmdPc ⊕ Ret) (h : hmdS0 n L kk v0 v1 = some o) : Arr Try.prog Try.f59 1 (hmdSt n L kk) hmdHd (headC Try.f59 0) (.rnd (headC Try.f59 0) :: headK Try.f59 0) (hmdSt n L kk (.l0 v0 v1)) o := by
 unfold hmdS0 at h
 rcases br_inv h with ⟨a0, h⟩ | ⟨a0, h⟩
 ·
  obtain ⟨a1, h⟩ := gu_inv h
  obtain ⟨x33, a2, h⟩ := el_inv h
  obtain ⟨a3, h⟩ := gu_inv h
  obtain ⟨a4, h⟩ := gu_inv h
  cases h
  exact Arr.loopE (H := hT (ds [51]) [(33, sA x33)] []) (F := []) (n := 4000) (s' := St.mk 89 [(0, AV.ptr 0 0 0), (3, AV.ptr 1 0 0), (6, AV.lst (List.map (AV.int IntKind.i64) (depL n))), (7, AV.nils), (8, AV.nils), (9, AV.sl 2 0 v0.length), (10, AV.int IntKind.i64 (IntKind.i64.wrap (v1 + 1)))] [some (Blk.mk [AV.agg [AV.lst (List.map (AV.int IntKind.i64) L), AV.int IntKind.i64 (iN kk)]] 2 true true none), some (Blk.mk [AV.agg [AV.lst (List.map bA n.bs), AV.lst (gL n.nx), AV.lst (List.map sA n.ss), AV.lst (List.map (AV.int IntKind.i64) n.rs), AV.int IntKind.i64 n.q, AV.int IntKind.i64 n.a, AV.int IntKind.i64 n.d, AV.int IntKind.i64 n.p]] 8 true true none), some (Blk.mk ((List.map (AV.int IntKind.i64) v0).set (0 + v1.toNat) (AV.int IntKind.i64 x33.k)) 1 true true none)]) [] [0, 1, 2] [] [0, 3, 6, 7, 8, 9, 10] mix (by kernel_rfl) (aj (aj (u2 (u2 (u2 (u2 (al t3))))) (aj a0 (aj (u2 (u2 (u2 (u2 (u2 (aj (k2 (aj a1 (getMap (f := sA) a2))) (u2 (u2 (aj (k2 (aj a1 a3)) (al (k2 a4))))))))))) (al (u2 (u2 s2)))))) (k2 t9)) (by simp [iv, netA, tapeB, lstI, hmdSt, gL, boL, lI, sA, bA])
 ·
  obtain ⟨a1, h⟩ := gu_inv h
  cases h
  exact Arr.lp [50] [] [(38, Hint.call [0] [] [tapeB L (kk + 1)] (iv (nextZ L kk 9)))] [] [(8, 1), (7, 1)] [0, 4, 3, 2] [0, 6, 7, 8, 9, 11] mix (by kernel_rfl) (aj (aj (u2 (u2 (u2 (u2 (al t3))))) (aj a0 (al (u2 (aj (ak (k3 (al (next_ct (L) (kk) (9) a1)))) s2))))) (k2 t9))
theorem hmdS1_ok (n : NetD) (L : List Int) (kk : Nat) (v0 : List Int) (v1 : List Int) (v2 : List Int) (v3 : Int) (v4 : Nat) (o : hmdPc ⊕ Ret) (h : hmdS1 n L kk v0 v1 v2 v3 v4 = some o) : Arr Try.prog Try.f59 1 (hmdSt n L kk) hmdHd (headC Try.f59 1) (.rnd (headC Try.f59 1) :: headK Try.f59 1) (hmdSt n L kk (.l1 v0 v1 v2 v3 v4)) o := by
 unfold hmdS1 at h
 rcases br_inv h with ⟨a0, h⟩ | ⟨a0, h⟩
 ·
  obtain ⟨a1, h⟩ := gu_inv h
  rcases br_inv h with ⟨a2, h⟩ | ⟨a2, h⟩
  ·
   obtain ⟨a3, h⟩ := gu_inv h
   obtain ⟨x53, a4, h⟩ := el_inv h
   obtain ⟨a5, h⟩ := gu_inv h
   obtain ⟨a6, h⟩ := gu_inv h
   obtain ⟨a7, h⟩ := gu_inv h
   obtain ⟨a8, h⟩ := gu_inv h
   obtain ⟨x64, a9, h⟩ := el_inv h
   obtain ⟨a10, h⟩ := gu_inv h
   rcases br_inv h with ⟨a11, h⟩ | ⟨a11, h⟩
   ·
    obtain ⟨a12, h⟩ := gu_inv h
    obtain ⟨a13, h⟩ := gu_inv h
    obtain ⟨x73, a14, h⟩ := el_inv h
    rcases br_inv h with ⟨a15, h⟩ | ⟨a15, h⟩
    ·
     obtain ⟨x79, a16, h⟩ := el_inv h
     obtain ⟨a17, h⟩ := gu_inv h
     obtain ⟨a18, h⟩ := gu_inv h
     obtain ⟨a19, h⟩ := gu_inv h
     cases h
     exact Arr.loopE (H := hT (ds [81, 101, 139, 151]) [(53, AV.int IntKind.i64 x53), (64, AV.int IntKind.i64 x64), (73, AV.int IntKind.i64 x73), (79, AV.int IntKind.i64 x79)] [(47, Hint.call [0] [] [tapeB L (v4 + 1)] (AV.int IntKind.i64 (nextZ L v4 (IntKind.i64.wrap (iN (List.map (AV.int IntKind.i64) (depL n)).length + 2))))), (63, Hint.call [0] [] [tapeB L (v4 + 1 + 1)] (AV.int IntKind.i64 (nextZ L (v4 + 1) (iN (List.map (AV.int IntKind.i64) (depL n)).length)))), (67, Hint.call [0] [] [tapeB L (v4 + 1 + 1 + 1)] (AV.int IntKind.i64 (nextZ L (v4 + 1 + 1) 2)))]) (F := []) (n := 4000) (s' := St.mk 89 [(0, AV.ptr 0 0 0), (6, AV.lst (List.map (AV.int IntKind.i64) (depL n))), (7, AV.sl 1 0 ((List.map (AV.int IntKind.i64) v0).length + [AV.int IntKind.i64 x53].length)), (8, AV.sl 2 0 ((List.map (AV.int IntKind.i64) v1).length + [AV.int IntKind.i64 x64].length)), (9, AV.sl 3 0 v2.length), (11, AV.int IntKind.i64 (IntKind.i64.wrap (v3 - 1)))] [some (Blk.mk [AV.agg [AV.lst (List.map (AV.int IntKind.i64) L), AV.int IntKind.i64 (iN (v4 + 1 + 1 + 1))]] 2 true true none), some (Blk.mk (List.map (AV.int IntKind.i64) v0 ++ [AV.int IntKind.i64 x53]) 1 true true none), some (Blk.mk (List.map (AV.int IntKind.i64) v1 ++ [AV.int IntKind.i64 x64]) 1 true true none), some (Blk.mk ((List.map (AV.int IntKind.i64) v2).set (0 + x64.toNat) (AV.int IntKind.i64 (IntKind.i64.wrap (x79 - 1)))) 1 true true none)]) [] [0, 5, 7, 3] [] [0, 6, 7, 8, 9, 11] mix (by kernel_rfl) (aj (aj (u2 s2) (aj a0 (aj (u2 (u2 (u2 (u2 (aj (k5 (al (next_ct (L) (v4) (IntKind.i64.wrap (iN (List.map (AV.int IntKind.i64) (depL n)).length + 2)) a1))) (u2 s2)))))) (aj (u2 s2) (aj a2 (aj (u2 (u2 (aj (k2 (aj a3 (getMap (f := AV.int IntKind.i64) a4))) (u2 s2)))) (aj (u2 (u2 (u2 (aj (k2 (aj (show (List.map (AV.int IntKind.i64) v0).length = v0.length by simp) (aj (aj (show nat_lit 1 = nat_lit 1 from rfl) (show 1 ≤ [AV.int IntKind.i64 x53].length by simp)) (aj a5 a6)))) s2)))) (u2 (aj (u2 (u2 (u2 (u2 (aj (k5 (al (next_ct (L) (v4 + 1) (iN (List.map (AV.int IntKind.i64) (depL n)).length) a7))) (aj (k2 (aj a8 (getMap (f := AV.int IntKind.i64) a9))) (u2 s2))))))) (aj (u2 (aj (ak (k3 (al (next_ct (L) (v4 + 1 + 1) (2) a10)))) (u2 (u2 (ag a11 (ag a11 (aj (aj a11 (k2 (aj a12 a13))) (aj (aj a11 (ak (getMap (f := AV.int IntKind.i64) a14))) (ag a11 (al (aj a11 t2))))))))))) (aj a15 (aj (u2 (u2 (aj (k2 (aj a12 a13)) (aj (ak (getMap (f := AV.int IntKind.i64) a16)) (u2 (aj (k2 (aj a12 a13)) (al (k2 a17)))))))) (aj (u2 s2) (aj (u2 (u2 (u2 (aj (k2 (aj (show (List.map (AV.int IntKind.i64) v1).length = v1.length by simp) (aj (aj (show nat_lit 1 = nat_lit 1 from rfl) (show 1 ≤ [AV.int IntKind.i64 x64].length by simp)) (aj a18 a19)))) s2)))) (al (u2 (u2 s2))))))))))))))))) (k2 t9)) (by simp [iv, netA, tapeB, lstI, hmdSt, gL, boL, lI, sA, bA])
    ·
     obtain ⟨a16, h⟩ := gu_inv h
     obtain ⟨a17, h⟩ := gu_inv h
     cases h
     exact Arr.loopE (H := hT (ds [81, 101, 139, 150]) [(53, AV.int IntKind.i64 x53), (64, AV.int IntKind.i64 x64), (73, AV.int IntKind.i64 x73)] [(47, Hint.call [0] [] [tapeB L (v4 + 1)] (AV.int IntKind.i64 (nextZ L v4 (IntKind.i64.wrap (iN (List.map (AV.int IntKind.i64) (depL n)).length + 2))))), (63, Hint.call [0] [] [tapeB L (v4 + 1 + 1)] (AV.int IntKind.i64 (nextZ L (v4 + 1) (iN (List.map (AV.int IntKind.i64) (depL n)).length)))), (67, Hint.call [0] [] [tapeB L (v4 + 1 + 1 + 1)] (AV.int IntKind.i64 (nextZ L (v4 + 1 + 1) 2)))]) (F := []) (n := 4000) (s' := St.mk 89 [(0, AV.ptr 0 0 0), (6, AV.lst (List.map (AV.int IntKind.i64) (depL n))), (7, AV.sl 1 0 ((List.map (AV.int IntKind.i64) v0).length + [AV.int IntKind.i64 x53].length)), (8, AV.sl 2 0 ((List.map (AV.int IntKind.i64) v1).length + 1)), (9, AV.sl 3 0 v2.length), (11, AV.int IntKind.i64 (IntKind.i64.wrap (v3 - 1)))] [some (Blk.mk [AV.agg [AV.lst (List.map (AV.int IntKind.i64) L), AV.int IntKind.i64 (iN (v4 + 1 + 1 + 1))]] 2 true true none), some (Blk.mk (List.map (AV.int IntKind.i64) v0 ++ [AV.int IntKind.i64 x53]) 1 true true none), some (Blk.mk (List.map (AV.int IntKind.i64) v1 ++ [AV.int IntKind.i64 (-1)]) 1 true true none), some (Blk.mk (List.map (AV.int IntKind.i64) v2) 1 true true none)]) [] [0, 5, 7, 3] [] [0, 6, 7, 8, 9, 11] mix (by kernel_rfl) (aj (aj (u2 s2) (aj a0 (aj (u2 (u2 (u2 (u2 (aj (k5 (al (next_ct (L) (v4) (IntKind.i64.wrap (iN (List.map (AV.int IntKind.i64) (depL n)).length + 2)) a1))) (u2 s2)))))) (aj (u2 s2) (aj a2 (aj (u2 (u2 (aj (k2 (aj a3 (getMap (f := AV.int IntKind.i64) a4))) (u2 s2)))) (aj (u2 (u2 (u2 (aj (k2 (aj (show (List.map (AV.int IntKind.i64) v0).length = v0.length by simp) (aj (aj (show nat_lit 1 = nat_lit 1 from rfl) (show 1 ≤ [AV.int IntKind.i64 x53].length by simp)) (aj a5 a6)))) s2)))) (u2 (aj (u2 (u2 (u2 (u2 (aj (k5 (al (next_ct (L) (v4 + 1) (iN (List.map (AV.int IntKind.i64) (depL n)).length) a7))) (aj (k2 (aj a8 (getMap (f := AV.int IntKind.i64) a9))) (u2 s2))))))) (aj (u2 (aj (ak (k3 (al (next_ct (L) (v4 + 1 + 1) (2) a10)))) (u2 (u2 (ag a11 (ag a11 (aj (aj a11 (k2 (aj a12 a13))) (aj (aj a11 (ak (getMap (f := AV.int IntKind.i64) a14))) (ag a11 (al (aj a11 t2))))))))))) (aj a15 (aj (u2 (u2 (u2 (aj (k2 (aj (show (List.map (AV.int IntKind.i64) v1).length = v1.length by simp) (aj (aj (show nat_lit 1 = nat_lit 1 from rfl) (show nat_lit 1 ≤ nat_lit 1 from (by first | exact Nat.le_of_ble_eq_true rfl | decide))) (aj a16 a17)))) s2)))) (al (u2 (u2 s2))))))))))))))) (k2 t9)) (by simp [iv, netA, tapeB, lstI, hmdSt, gL, boL, lI, sA, bA])
   ·
    obtain ⟨a12, h⟩ := gu_inv h
    obtain ⟨a13, h⟩ := gu_inv h
    cases h
    exact Arr.loopE (H := hT (ds [81, 101, 138]) [(53, AV.int IntKind.i64 x53), (64, AV.int IntKind.i64 x64)] [(47, Hint.call [0] [] [tapeB L (v4 + 1)] (AV.int IntKind.i64 (nextZ L v4 (IntKind.i64.wrap (iN (List.map (AV.int IntKind.i64) (depL n)).length + 2))))), (63, Hint.call [0] [] [tapeB L (v4 + 1 + 1)] (AV.int IntKind.i64 (nextZ L (v4 + 1) (iN (List.map (AV.int IntKind.i64) (depL n)).length)))), (67, Hint.call [0] [] [tapeB L (v4 + 1 + 1 + 1)] (AV.int IntKind.i64 (nextZ L (v4 + 1 + 1) 2)))]) (F := []) (n := 4000) (s' := St.mk 89 [(0, AV.ptr 0 0 0), (6, AV.lst (List.map (AV.int IntKind.i64) (depL n))), (7, AV.sl 1 0 ((List.map (AV.int IntKind.i64) v0).length + [AV.int IntKind.i64 x53].length)), (8, AV.sl 2 0 ((List.map (AV.int IntKind.i64) v1).length + 1)), (9, AV.sl 3 0 v2.length), (11, AV.int IntKind.i64 (IntKind.i64.wrap (v3 - 1)))] [some (Blk.mk [AV.agg [AV.lst (List.map (AV.int IntKind.i64) L), AV.int IntKind.i64 (iN (v4 + 1 + 1 + 1))]] 2 true true none), some (Blk.mk (List.map (AV.int IntKind.i64) v0 ++ [AV.int IntKind.i64 x53]) 1 true true none), some (Blk.mk (List.map (AV.int IntKind.i64) v1 ++ [AV.int IntKind.i64 (-1)]) 1 true true none), some (Blk.mk (List.map (AV.int IntKind.i64) v2) 1 true true none)]) [] [0, 5, 7, 3] [] [0, 6, 7, 8, 9, 11] mix (by kernel_rfl) (aj (aj (u2 s2) (aj a0 (aj (u2 (u2 (u2 (u2 (aj (k5 (al (next_ct (L) (v4) (IntKind.i64.wrap (iN (List.map (AV.int IntKind.i64) (depL n)).length + 2)) a1))) (u2 s2)))))) (aj (u2 s2) (aj a2 (aj (u2 (u2 (aj (k2 (aj a3 (getMap (f := AV.int IntKind.i64) a4))) (u2 s2)))) (aj (u2 (u2 (u2 (aj (k2 (aj (show (List.map (AV.int IntKind.i64) v0).length = v0.length by simp) (aj (aj (show nat_lit 1 = nat_lit 1 from rfl) (show 1 ≤ [AV.int IntKind.i64 x53].length by simp)) (aj a5 a6)))) s2)))) (u2 (aj (u2 (u2 (u2 (u2 (aj (k5 (al (next_ct (L) (v4 + 1) (iN (List.map (AV.int IntKind.i64) (depL n)).length) a7))) (aj (k2 (aj a8 (getMap (f := AV.int IntKind.i64) a9))) (u2 s2))))))) (aj (u2 (aj (ak (k3 (al (next_ct (L) (v4 + 1 + 1) (2) a10)))) (u2 (u2 (aj a11 (aj a11 (aj a11 (aj a11 (aj a11 (al (aj a11 t2))))))))))) (ak (aj (u2 (u2 (u2 (aj (k2 (aj (show (List.map (AV.int IntKind.i64) v1).length = v1.length by simp) (aj (aj (show nat_lit 1 = nat_lit 1 from rfl) (show nat_lit 1 ≤ nat_lit 1 from (by first | exact Nat.le_of_ble_eq_true rfl | decide))) (aj a12 a13)))) s2)))) (al (u2 (u2 s2))))))))))))))) (k2 t9)) (by simp [iv, netA, tapeB, lstI, hmdSt, gL, boL, lI, sA, bA])
  ·
   obtain ⟨a3, h⟩ := gu_inv h
   obtain ⟨a4, h⟩ := gu_inv h
   obtain ⟨a5, h⟩ := gu_inv h
   obtain ⟨a6, h⟩ := gu_inv h
   obtain ⟨x64, a7, h⟩ := el_inv h
   obtain ⟨a8, h⟩ := gu_inv h
   rcases br_inv h with ⟨a9, h⟩ | ⟨a9, h⟩
   ·
    obtain ⟨a10, h⟩ := gu_inv h
    obtain ⟨a11, h⟩ := gu_inv h
    obtain ⟨x73, a12, h⟩ := el_inv h
    rcases br_inv h with ⟨a13, h⟩ | ⟨a13, h⟩
    ·
     obtain ⟨x79, a14, h⟩ := el_inv h
     obtain ⟨a15, h⟩ := gu_inv h
     obtain ⟨a16, h⟩ := gu_inv h
     obtain ⟨a17, h⟩ := gu_inv h
     cases h
     exact Arr.loopE (H := hT (ds [81, 100, 139, 151]) [(64, AV.int IntKind.i64 x64), (73, AV.int IntKind.i64 x73), (79, AV.int IntKind.i64 x79)] [(47, Hint.call [0] [] [tapeB L (v4 + 1)] (AV.int IntKind.i64 (nextZ L v4 (IntKind.i64.wrap (iN (List.map (AV.int IntKind.i64) (depL n)).length + 2))))), (63, Hint.call [0] [] [tapeB L (v4 + 1 + 1)] (AV.int IntKind.i64 (nextZ L (v4 + 1) (iN (List.map (AV.int IntKind.i64) (depL n)).length)))), (67, Hint.call [0] [] [tapeB L (v4 + 1 + 1 + 1)] (AV.int IntKind.i64 (nextZ L (v4 + 1 + 1) 2)))]) (F := []) (n := 4000) (s' := St.mk 89 [(0, AV.ptr 0 0 0), (6, AV.lst (List.map (AV.int IntKind.i64) (depL n))), (7, AV.sl 1 0 ((List.map (AV.int IntKind.i64) v0).length + [AV.int IntKind.i64 (IntKind.i64.wrap (nextZ L v4 (IntKind.i64.wrap (iN (List.map (AV.int IntKind.i64) (depL n)).length + 2)) - 2))].length)), (8, AV.sl 2 0 ((List.map (AV.int IntKind.i64) v1).length + [AV.int IntKind.i64 x64].length)), (9, AV.sl 3 0 v2.length), (11, AV.int IntKind.i64 (IntKind.i64.wrap (v3 - 1)))] [some (Blk.mk [AV.agg [AV.lst (List.map (AV.int IntKind.i64) L), AV.int IntKind.i64 (iN (v4 + 1 + 1 + 1))]] 2 true true none), some (Blk.mk (List.map (AV.int IntKind.i64) v0 ++ [AV.int IntKind.i64 (IntKind.i64.wrap (nextZ L v4 (IntKind.i64.wrap (iN (List.map (AV.int IntKind.i64) (depL n)).length + 2)) - 2))]) 1 true true none), some (Blk.mk (List.map (AV.int IntKind.i64) v1 ++ [AV.int IntKind.i64 x64]) 1 true true none), some (Blk.mk ((List.map (AV.int IntKind.i64) v2).set (0 + x64.toNat) (AV.int IntKind.i64 (IntKind.i64.wrap (x79 - 1)))) 1 true true none)]) [] [0, 5, 7, 3] [] [0, 6, 7, 8, 9, 11] mix (by kernel_rfl) (aj (aj (u2 s2) (aj a0 (aj (u2 (u2 (u2 (u2 (aj (k5 (al (next_ct (L) (v4) (IntKind.i64.wrap (iN (List.map (AV.int IntKind.i64) (depL n)).length + 2)) a1))) (u2 s2)))))) (aj (u2 s2) (aj a2 (aj (u2 (u2 (u2 (aj (k2 (aj (show (List.map (AV.int IntKind.i64) v0).length = v0.length by simp) (aj (aj (show nat_lit 1 = nat_lit 1 from rfl) (show 1 ≤ [AV.int IntKind.i64 (IntKind.i64.wrap (nextZ L v4 (IntKind.i64.wrap (iN (List.map (AV.int IntKind.i64) (depL n)).length + 2)) - 2))].length by simp)) (aj a3 a4)))) s2)))) (u2 (aj (u2 (u2 (u2 (u2 (aj (k5 (al (next_ct (L) (v4 + 1) (iN (List.map (AV.int IntKind.i64) (depL n)).length) a5))) (aj (k2 (aj a6 (getMap (f := AV.int IntKind.i64) a7))) (u2 s2))))))) (aj (u2 (aj (ak (k3 (al (next_ct (L) (v4 + 1 + 1) (2) a8)))) (u2 (u2 (ag a9 (ag a9 (aj (aj a9 (k2 (aj a10 a11))) (aj (aj a9 (ak (getMap (f := AV.int IntKind.i64) a12))) (ag a9 (al (aj a9 t2))))))))))) (aj a13 (aj (u2 (u2 (aj (k2 (aj a10 a11)) (aj (ak (getMap (f := AV.int IntKind.i64) a14)) (u2 (aj (k2 (aj a10 a11)) (al (k2 a15)))))))) (aj (u2 s2) (aj (u2 (u2 (u2 (aj (k2 (aj (show (List.map (AV.int IntKind.i64) v1).length = v1.length by simp) (aj (aj (show nat_lit 1 = nat_lit 1 from rfl) (show 1 ≤ [AV.int IntKind.i64 x64].length by simp)) (aj a16 a17)))) s2)))) (al (u2 (u2 s2)))))))))))))))) (k2 t9)) (by simp [iv, netA, tapeB, lstI, hmdSt, gL, boL, lI, sA, bA])
    ·
     obtain ⟨a14, h⟩ := gu_inv h
     obtain ⟨a15, h⟩ := gu_inv h
     cases h
     exact Arr.loopE (H := hT (ds [81, 100, 139, 150]) [(64, AV.int IntKind.i64 x64), (73, AV.int IntKind.i64 x73)] [(47, Hint.call [0] [] [tapeB L (v4 + 1)] (AV.int IntKind.i64 (nextZ L v4 (IntKind.i64.wrap (iN (List.map (AV.int IntKind.i64) (depL n)).length + 2))))), (63, Hint.call [0] [] [tapeB L (v4 + 1 + 1)] (AV.int IntKind.i64 (nextZ L (v4 + 1) (iN (List.map (AV.int IntKind.i64) (depL n)).length)))), (67, Hint.call [0] [] [tapeB L (v4 + 1 + 1 + 1)] (AV.int IntKind.i64 (nextZ L (v4 + 1 + 1) 2)))]) (F := []) (n := 4000) (s' := St.mk 89 [(0, AV.ptr 0 0 0), (6, AV.lst (List.map (AV.int IntKind.i64) (depL n))), (7, AV.sl 1 0 ((List.map (AV.int IntKind.i64) v0).length + [AV.int IntKind.i64 (IntKind.i64.wrap (nextZ L v4 (IntKind.i64.wrap (iN (List.map (AV.int IntKind.i64) (depL n)).length + 2)) - 2))].length)), (8, AV.sl 2 0 ((List.map (AV.int IntKind.i64) v1).length + 1)), (9, AV.sl 3 0 v2.length), (11, AV.int IntKind.i64 (IntKind.i64.wrap (v3 - 1)))] [some (Blk.mk [AV.agg [AV.lst (List.map (AV.int IntKind.i64) L), AV.int IntKind.i64 (iN (v4 + 1 + 1 + 1))]] 2 true true none), some (Blk.mk (List.map (AV.int IntKind.i64) v0 ++ [AV.int IntKind.i64 (IntKind.i64.wrap (nextZ L v4 (IntKind.i64.wrap (iN (List.map (AV.int IntKind.i64) (depL n)).length + 2)) - 2))]) 1 true true none), some (Blk.mk (List.map (AV.int IntKind.i64) v1 ++ [AV.int IntKind.i64 (-1)]) 1 true true none), some (Blk.mk (List.map (AV.int IntKind.i64) v2) 1 true true none)]) [] [0, 5, 7, 3] [] [0, 6, 7, 8, 9, 11] mix (by kernel_rfl) (aj (aj (u2 s2) (aj a0 (aj (u2 (u2 (u2 (u2 (aj (k5 (al (next_ct (L) (v4) (IntKind.i64.wrap (iN (List.map (AV.int IntKind.i64) (depL n)).length + 2)) a1))) (u2 s2)))))) (aj (u2 s2) (aj a2 (aj (u2 (u2 (u2 (aj (k2 (aj (show (List.map (AV.int IntKind.i64) v0).length = v0.length by simp) (aj (aj (show nat_lit 1 = nat_lit 1 from rfl) (show 1 ≤ [AV.int IntKind.i64 (IntKind.i64.wrap (nextZ L v4 (IntKind.i64.wrap (iN (List.map (AV.int IntKind.i64) (depL n)).length + 2)) - 2))].length by simp)) (aj a3 a4)))) s2)))) (u2 (aj (u2 (u2 (u2 (u2 (aj (k5 (al (next_ct (L) (v4 + 1) (iN (List.map (AV.int IntKind.i64) (depL n)).length) a5))) (aj (k2 (aj a6 (getMap (f := AV.int IntKind.i64) a7))) (u2 s2))))))) (aj (u2 (aj (ak (k3 (al (next_ct (L) (v4 + 1 + 1) (2) a8)))) (u2 (u2 (ag a9 (ag a9 (aj (aj a9 (k2 (aj a10 a11))) (aj (aj a9 (ak (getMap (f := AV.int IntKind.i64) a12))) (ag a9 (al (aj a9 t2))))))))))) (aj a13 (aj (u2 (u2 (u2 (aj (k2 (aj (show (List.map (AV.int IntKind.i64) v1).length = v1.length by simp) (aj (aj (show nat_lit 1 = nat_lit 1 from rfl) (show nat_lit 1 ≤ nat_lit 1 from (by first | exact Nat.le_of_ble_eq_true rfl | decide))) (aj a14 a15)))) s2)))) (al (u2 (u2 s2)))))))))))))) (k2 t9)) (by simp [iv, netA, tapeB, lstI, hmdSt, gL, boL, lI, sA, bA])
   ·
    obtain ⟨a10, h⟩ := gu_inv h
    obtain ⟨a11, h⟩ := gu_inv h
    cases h
    exact Arr.loopE (H := hT (ds [81, 100, 138]) [(64, AV.int IntKind.i64 x64)] [(47, Hint.call [0] [] [tapeB L (v4 + 1)] (AV.int IntKind.i64 (nextZ L v4 (IntKind.i64.wrap (iN (List.map (AV.int IntKind.i64) (depL n)).length + 2))))), (63, Hint.call [0] [] [tapeB L (v4 + 1 + 1)] (AV.int IntKind.i64 (nextZ L (v4 + 1) (iN (List.map (AV.int IntKind.i64) (depL n)).length)))), (67, Hint.call [0] [] [tapeB L (v4 + 1 + 1 + 1)] (AV.int IntKind.i64 (nextZ L (v4 + 1 + 1) 2)))]) (F := []) (n := 4000) (s' := St.mk 89 [(0, AV.ptr 0 0 0), (6, AV.lst (List.map (AV.int IntKind.i64) (depL n))), (7, AV.sl 1 0 ((List.map (AV.int IntKind.i64) v0).length + [AV.int IntKind.i64 (IntKind.i64.wrap (nextZ L v4 (IntKind.i64.wrap (iN (List.map (AV.int IntKind.i64) (depL n)).length + 2)) - 2))].length)), (8, AV.sl 2 0 ((List.map (AV.int IntKind.i64) v1).length + 1)), (9, AV.sl 3 0 v2.length), (11, AV.int IntKind.i64 (IntKind.i64.wrap (v3 - 1)))] [some (Blk.mk [AV.agg [AV.lst (List.map (AV.int IntKind.i64) L), AV.int IntKind.i64 (iN (v4 + 1 + 1 + 1))]] 2 true true none), some (Blk.mk (List.map (AV.int IntKind.i64) v0 ++ [AV.int IntKind.i64 (IntKind.i64.wrap (nextZ L v4 (IntKind.i64.wrap (iN (List.map (AV.int IntKind.i64) (depL n)).length + 2)) - 2))]) 1 true true none), some (Blk.mk (List.map (AV.int IntKind.i64) v1 ++ [AV.int IntKind.i64 (-1)]) 1 true true none), some (Blk.mk (List.map (AV.int IntKind.i64) v2) 1 true true none)]) [] [0, 5, 7, 3] [] [0, 6, 7, 8, 9, 11] mix (by kernel_rfl) (aj (aj (u2 s2) (aj a0 (aj (u2 (u2 (u2 (u2 (aj (k5 (al (next_ct (L) (v4) (IntKind.i64.wrap (iN (List.map (AV.int IntKind.i64) (depL n)).length + 2)) a1))) (u2 s2)))))) (aj (u2 s2) (aj a2 (aj (u2 (u2 (u2 (aj (k2 (aj (show (List.map (AV.int IntKind.i64) v0).length = v0.length by simp) (aj (aj (show nat_lit 1 = nat_lit 1 from rfl) (show 1 ≤ [AV.int IntKind.i64 (IntKind.i64.wrap (nextZ L v4 (IntKind.i64.wrap (iN (List.map (AV.int IntKind.i64) (depL n)).length + 2)) - 2))].length by simp)) (aj a3 a4)))) s2)))) (u2 (aj (u2 (u2 (u2 (u2 (aj (k5 (al (next_ct (L) (v4 + 1) (iN (List.map (AV.int IntKind.i64) (depL n)).length) a5))) (aj (k2 (aj a6 (getMap (f := AV.int IntKind.i64) a7))) (u2 s2))))))) (aj (u2 (aj (ak (k3 (al (next_ct (L) (v4 + 1 + 1) (2) a8)))) (u2 (u2 (aj a9 (aj a9 (aj a9 (aj a9 (aj a9 (al (aj a9 t2))))))))))) (ak (aj (u2 (u2 (u2 (aj (k2 (aj (show (List.map (AV.int IntKind.i64) v1).length = v1.length by simp) (aj (aj (show nat_lit 1 = nat_lit 1 from rfl) (show nat_lit 1 ≤ nat_lit 1 from (by first | exact Nat.le_of_ble_eq_true rfl | decide))) (aj a10 a11)))) s2)))) (al (u2 (u2 s2)))))))))))))) (k2 t9)) (by simp [iv, netA, tapeB, lstI, hmdSt, gL, boL, lI, sA, bA])
 ·
  cases h
  exact Arr.rt [80] [] [] [] [0] [1, 2] mix (by kernel_rfl) (aj (aj (u2 s2) (aj a0 (al (u2 (u2 (u2 s2)))))) (aj (aj (show v0.length = (List.map (iv) v0).length by simp) (al (show v1.length = (List.map (iv) v1).length by simp))) t2))
theorem hmd_ct (n : NetD) (L : List Int) (kk : Nat) (r : Ret) (h : MReach (hmdStep n L kk) (hmdEn n L kk) r) : CT Try.prog 59 ([some (tapeB L kk)]) ([.ptr 0 0 0, netA n]) r.1 r.2 :=
  CT.mach (fn := Try.f59) (c := bodyOf Try.f59) (S := hmdSt n L kk) (hd := hmdHd) Try.func59 (by kernel_rfl) (Nat.le_of_ble_eq_true rfl)
    (fun s o ho => match s, ho with
      | .l0 v0 v1, ho => hmdS0_ok n L kk v0 v1 o ho
      | .l1 v0 v1 v2 v3 v4, ho => hmdS1_ok n L kk v0 v1 v2 v3 v4 o ho
    )
    (fun o ho => hmdEn_ok n L kk o ho) h
noncomputable def twSt : Empty → St
  | x => x.elim
def twHd : Empty → Nat
  | x => x.elim
noncomputable def twEn : Option (Empty ⊕ Ret) :=
  some (.inr ([], AV.agg [AV.lst [AV.agg [AV.str (ByteArray.mk #[97]), AV.int IntKind.i64 0, AV.int IntKind.i64 0], AV.agg [AV.str (ByteArray.mk #[98]), AV.int IntKind.i64 0, AV.int IntKind.i64 0]], AV.lst [AV.lst [AV.int IntKind.i64 1], AV.lst [AV.int IntKind.i64 0]], AV.lst [AV.agg [AV.str (ByteArray.mk #[100]), AV.bool true, AV.int IntKind.i64 0, AV.int IntKind.i64 0, AV.int IntKind.i64 2, AV.int IntKind.i64 2], AV.agg [AV.str (ByteArray.mk #[101]), AV.bool true, AV.int IntKind.i64 1, AV.int IntKind.i64 1, AV.int IntKind.i64 2, AV.int IntKind.i64 4]], AV.nils, AV.int IntKind.i64 1, AV.int IntKind.i64 0, AV.int IntKind.i64 0, AV.int IntKind.i64 1]))
noncomputable def twStep : Empty → Option (Empty ⊕ Ret)
  | x => x.elim
theorem twEn_ok (o : Empty ⊕ Ret) (h : twEn = some o) : Arr Try.prog Try.f106 0 (twSt) twHd (bodyOf Try.f106) [] { n := Try.f106.ntmps, fr := enumF 0 ([]), hp := ([]) } o := by
 unfold twEn at h
 cases h
 exact Arr.rt [] [(4, AV.lst []), (5, AV.lst [])] [] [] [] [1, 2, 3] mix (by kernel_rfl) (aj (u2 (al (k2 (aj t3 (k2 (aj t3 (k2 (aj t3 (ak (aj t5 (al (k2 n11)))))))))))) (al (aj (show nat_lit 2 = nat_lit 2 from rfl) (aj (show nat_lit 2 = nat_lit 2 from rfl) (aj (show nat_lit 2 = nat_lit 2 from rfl) t6)))))
theorem tw_ct (r : Ret) (h : MReach (twStep) (twEn) r) : CT Try.prog 106 ([]) ([]) r.1 r.2 :=
  CT.mach (fn := Try.f106) (c := bodyOf Try.f106) (S := twSt) (hd := twHd) Try.func106 (by kernel_rfl) (Nat.le_of_ble_eq_true rfl)
    (fun s o ho => match s, ho with
      | x, _ => x.elim)
    (fun o ho => twEn_ok o ho) h
noncomputable def csE (n : NetD) (sp : Int) : Int := if valB n = true then (if sp < 0 ∨ (n.ss.length : Int) ≤ sp then 19 else 0) else 20
theorem checkSpur_ct {n : NetD} (hrw : Rows n.nx) (sp : Int) : CT Try.prog 117 [] [netA n, .int .i64 sp] [] (.int .i64 (csE n sp)) := by
  refine ckS_ct n sp ([], _) (.val ?_)
  unfold ckSEn csE
  rw [gu_t hrw]
  cases hv : valB n with
  | false => rfl
  | true =>
    rw [br_f (by rfl), if_pos rfl]
    by_cases h0 : sp < 0
    · rw [br_t (dec_t h0), if_pos (.inl h0)]
    by_cases h1 : (n.ss.length : Int) ≤ sp
    · rw [br_f (dec_f h0), br_t (dec_t (by simpa [iN] using h1)), if_pos (.inr h1)]
    · rw [br_f (dec_f h0), br_f (dec_f (by simpa [iN] using h1)), if_neg (by omega)]
def dpB (n : NetD) (x : Int) : Bool := decide (0 ≤ x) && match n.ss[x.toNat]? with | some s => s.dep | none => false
def hmB (n : NetD) (x : Int) : Bool := x == -1 || x == -2 || dpB n x
noncomputable def hkE (n : NetD) (sh : List Bool) (hm : List Int) : Int := if valB n = true ∧ hm.length ≤ 8 ∧ hm.all (hmB n) = true then (if sh.length = celN n then 0 else 19) else 20
theorem dpB_in {n : NetD} {x : Int} (h0 : ¬ x < 0) (h1 : ¬ ((n.ss.length : Int) ≤ x)) : ∃ s, n.ss[x.toNat]? = some s ∧ dpB n x = s.dep := by
  have hl : x.toNat < n.ss.length := by omega
  refine ⟨_, List.getElem?_eq_getElem hl, ?_⟩
  unfold dpB
  rw [List.getElem?_eq_getElem hl, dec_t (by omega), Bool.true_and]
theorem dpB_out {n : NetD} {x : Int} (h : x < 0 ∨ (n.ss.length : Int) ≤ x) : dpB n x = false := by
  unfold dpB
  rcases h with h | h
  · rw [dec_f (by omega)]; rfl
  · by_cases h0 : 0 ≤ x
    · rw [List.getElem?_eq_none (by omega)]; simp
    · rw [dec_f h0]; rfl
theorem lsA (n : NetD) : iN (List.map sA n.ss).length = n.ss.length := by simp [iN]
theorem hck_step {n : NetD} {sh : List Bool} {hm : List Int} {i : Nat} {x : Int} (hx : hm[i]? = some x) : hckS0 n sh hm i = br (hmB n x) (some (.inl (.l0 (IntKind.i64.wrap ((i : Int) + 1))))) (some (.inr ([], .int .i64 20))) := by
  unfold hckS0 hmB
  rw [rngS hx, lsA]
  by_cases a1 : x = -1
  · rw [br_f (by simp [a1])]; simp [a1, br]
  rw [br_t (by simpa using a1)]
  by_cases a2 : x = -2
  · rw [br_f (by simp [a2])]; simp [a2, br]
  rw [br_t (by simpa using a2), show (x == -1) = false by simpa using a1, show (x == -2) = false by simpa using a2, Bool.false_or, Bool.false_or]
  by_cases b1 : x < 0
  · rw [br_t (dec_t b1), dpB_out (.inl b1)]; rfl
  rw [br_f (dec_f b1)]
  by_cases b2 : (n.ss.length : Int) ≤ x
  · rw [br_t (dec_t b2), dpB_out (.inr b2)]; rfl
  rw [br_f (dec_f b2)]
  obtain ⟨s, hs, e⟩ := dpB_in b1 b2
  rw [gu_t (by omega), el_t hs, e]
  cases s.dep <;> rfl
theorem hcheck_ct {n : NetD} (hrw : Rows n.nx) (sh : List Bool) (hm : List Int) : CT Try.prog 108 [] [netA n, .lst (boL sh), lI hm] [] (.int .i64 (hkE n sh hm)) := by
  refine hck_ct n sh hm ([], _) ?_
  unfold hckEn hkE
  rw [gu_t hrw]
  cases hv : valB n with
  | false => rw [br_t (by simp [errV, hv])]; exact .ret _
  | true =>
    rw [br_f (by simp [errV, hv])]
    by_cases h1 : hm.length ≤ 8
    · rw [br_f (dec_f (by simp [iN]; omega))]
      refine (loop_all (L := fun i => hckPc.l0 (i : Int)) (l := hm) (p := hmB n) (r := ([], .int .i64 (if sh.length = celN n then 0 else 19))) (rF := ([], .int .i64 20)) (fun i x hx hp => ?_) (fun i x r hx hp hr => ?_) (fun _ => ?_)).res (by cases he : hm.all (hmB n) <;> simp [h1])
      · exact .to ((hck_step hx).trans (br_f hp)) (.ret _)
      · refine .to ((hck_step hx).trans ?_) hr
        have hl := (List.getElem?_eq_some_iff.1 hx).1
        rw [br_t hp, wrap_nat i (by omega)]
      · refine .to (show hckS0 n sh hm hm.length = some (.inr ([], .int .i64 (if sh.length = celN n then 0 else 19))) from ?_) (.ret _)
        unfold hckS0
        rw [rngE]
        by_cases hs : sh.length = celN n
        · rw [br_f (by simp [iN, celV, hv, boL, hs]), if_pos hs]
        · rw [br_t (by simp [iN, celV, hv, boL]; omega), if_neg hs]
    · rw [br_t (dec_t (by simp [iN]; omega)), if_neg (fun h => h1 h.2.1)]; exact .ret _
theorem rhk_step {n : NetD} {sh : List Bool} {hm : List Int} {i : Nat} {x : Int} (hx : hm[i]? = some x) : rhkS0 n sh hm i = br (hmB n x) (some (.inl (.l0 (IntKind.i64.wrap ((i : Int) + 1))))) (some (.inr ([], .int .i64 20))) := by
  unfold rhkS0 hmB
  have ei : (i : Int).toNat = i := Int.toNat_natCast i
  rw [rngS hx, lsA]
  simp only [ei, el_t hx]
  by_cases a1 : x = -1
  · subst a1; rw [br_f (by rfl), br_f (dec_f (by omega)), br_f (by rfl)]; rfl
  by_cases a2 : x = -2
  · subst a2; rw [br_f (by rfl), br_f (dec_f (by omega)), br_f (by rfl)]; rfl
  rw [show (x == -1) = false by simpa using a1, show (x == -2) = false by simpa using a2, Bool.false_or, Bool.false_or]
  by_cases b1 : x < 0
  · rw [br_t (dec_t (by omega)), dpB_out (.inl b1)]; rfl
  rw [br_f (dec_f (by omega))]
  by_cases b2 : (n.ss.length : Int) ≤ x
  · rw [br_t (dec_t b2), dpB_out (.inr b2)]; rfl
  rw [br_f (dec_f b2), br_t (dec_t (by omega))]
  obtain ⟨s, hs, e⟩ := dpB_in b1 b2
  rw [gu_t (by omega), el_t hs, e]
  cases s.dep <;> rfl
theorem rhcheck_ct {n : NetD} (hrw : Rows n.nx) (sh : List Bool) (hm : List Int) : CT Try.prog 110 [] [netA n, .lst (boL sh), lI hm] [] (.int .i64 (hkE n sh hm)) := by
  refine rhk_ct n sh hm ([], _) ?_
  unfold rhkEn hkE
  rw [gu_t hrw]
  cases hv : valB n with
  | false => exact .ret _
  | true =>
    rw [br_f (by rfl)]
    by_cases h1 : hm.length ≤ 8
    · rw [br_f (dec_f (by simp [iN]; omega))]
      refine (loop_all (L := fun i => rhkPc.l0 (i : Int)) (l := hm) (p := hmB n) (r := ([], .int .i64 (if sh.length = celN n then 0 else 19))) (rF := ([], .int .i64 20)) (fun i x hx hp => ?_) (fun i x r hx hp hr => ?_) (fun _ => ?_)).res (by cases he : hm.all (hmB n) <;> simp [h1])
      · exact .to ((rhk_step hx).trans (br_f hp)) (.ret _)
      · refine .to ((rhk_step hx).trans ?_) hr
        have hl := (List.getElem?_eq_some_iff.1 hx).1
        rw [br_t hp, wrap_nat i (by omega)]
      · refine .to (show rhkS0 n sh hm hm.length = some (.inr ([], .int .i64 (if sh.length = celN n then 0 else 19))) from ?_) (.ret _)
        unfold rhkS0
        rw [rngE, gu_t (valB_iff.1 hv)]
        by_cases hs : sh.length = celN n
        · rw [br_f (by simp [iN, boL, hs]), if_pos hs]
        · rw [br_t (by simp [iN, boL]; omega), if_neg hs]
    · rw [br_t (dec_t (by simp [iN]; omega)), if_neg (fun h => h1 h.2.1)]; exact .ret _
def inB (n : NetD) (x : Int) : Bool := x == -1 || dpB n x
def isB (n : NetD) (hm gs : List Int) : Bool := gs.length == hm.length && gs.all (inB n)
theorem hci_step {n : NetD} {hm gs : List Int} {i : Nat} {x : Int} (hx : gs[i]? = some x) : hciS0 n hm gs i = br (inB n x) (some (.inl (.l0 (IntKind.i64.wrap ((i : Int) + 1))))) (some (.inr ([], .bool false))) := by
  unfold hciS0 inB
  rw [rngS hx, lsA]
  by_cases a1 : x = -1
  · rw [br_f (by simp [a1])]; simp [a1, br]
  rw [br_t (by simpa using a1), show (x == -1) = false by simpa using a1, Bool.false_or]
  by_cases b1 : x < 0
  · rw [br_t (dec_t b1), dpB_out (.inl b1)]; rfl
  rw [br_f (dec_f b1)]
  by_cases b2 : (n.ss.length : Int) ≤ x
  · rw [br_t (dec_t b2), dpB_out (.inr b2)]; rfl
  rw [br_f (dec_f b2)]
  obtain ⟨s, hs, e⟩ := dpB_in b1 b2
  rw [gu_t (by omega), el_t hs, e]
  cases s.dep <;> rfl
theorem inside_ct (n : NetD) (hm gs : List Int) (h8 : hm.length ≤ 1000) : CT Try.prog 112 [] [netA n, lI hm, lI gs] [] (.bool (isB n hm gs)) := by
  refine hci_ct n hm gs ([], _) ?_
  unfold hciEn isB
  by_cases h1 : gs.length = hm.length
  · rw [br_f (by simp [iN, h1]), show (gs.length == hm.length) = true by simpa using h1, Bool.true_and]
    refine (loop_all (L := fun i => hciPc.l0 (i : Int)) (l := gs) (p := inB n) (r := ([], .bool true)) (rF := ([], .bool false)) (fun i x hx hp => ?_) (fun i x r hx hp hr => ?_) (fun _ => ?_)).res (by cases he : gs.all (inB n) <;> rfl)
    · exact .to ((hci_step (hm := hm) hx).trans (br_f hp)) (.ret _)
    · refine .to ((hci_step (hm := hm) hx).trans ?_) hr
      have hl := (List.getElem?_eq_some_iff.1 hx).1
      rw [br_t hp, wrap_nat i (by omega)]
    · refine .to (show hciS0 n hm gs gs.length = some (.inr ([], .bool true)) from ?_) (.ret _)
      unfold hciS0
      rw [rngE]
  · rw [br_t (by simp [iN]; omega), show (gs.length == hm.length) = false by simpa using h1]; exact .ret _
def opB (n : NetD) (sh : List Bool) (sp : Int) : Bool := match n.ss[sp.toNat]? with | some s => openB sh s | none => false
theorem ropen_ct (n : NetD) (sh : List Bool) (sp : Int) (hv : ValidN n) (hsh : sh.length = celN n) (hi : 0 ≤ sp ∧ sp < n.ss.length) : CT Try.prog 140 [] [netA n, .lst (boL sh), .int .i64 sp] [] (.bool (opB n sh sp)) := by
  obtain ⟨j, rfl⟩ : ∃ j : Nat, sp = j := ⟨sp.toNat, by omega⟩
  have hl : j < n.ss.length := by omega
  have h := open_ct hv hsh (List.getElem?_eq_getElem hl)
  unfold opB
  rw [Int.toNat_natCast, List.getElem?_eq_getElem hl]
  exact h
inductive cOpPc where
  | l0 (v0 : Bool) (v1 : SpuD) (v2 : Int)
noncomputable def cOpSt (n : NetD) (sh : List Bool) (sp : Int) : cOpPc → St
  | .l0 v0 v1 v2 => St.mk 62 [(1, AV.lst (boL sh)), (9, AV.ptr 0 0 0), (10, AV.bool v0), (45, iv v1.k), (46, iv v2)] [some (Blk.mk [sA v1] 6 true true none)]
def cOpHd : cOpPc → Nat
  | .l0 _ _ _ => 0
noncomputable def cOpEn (n : NetD) (sh : List Bool) (sp : Int) : Option (cOpPc ⊕ Ret) :=
  gu (Rows n.nx) <|
  br (csE n sp != 0)
  (some (.inr ([], AV.tup [AV.bool false, AV.int IntKind.i64 (csE n sp)])))
  (gu (ValidN n) <|
   br (iN (boL sh).length != iN (celN n))
   (some (.inr ([], AV.tup [AV.bool false, AV.int IntKind.i64 19])))
   (gu (0 ≤ sp) <|
    el (n.ss) (sp.toNat) fun (x28 : SpuD) =>
    gu (0 ≤ x28.i) <|
    el (sh) (x28.i.toNat) fun (x33 : Bool) =>
    br (!x33)
    (gu (0 ≤ x28.o) <|
     el (sh) (x28.o.toNat) fun (x40 : Bool) =>
     some (.inl (.l0 (!x40) (x28) ((0 : Int)))))
    (some (.inl (.l0 (false) (x28) ((0 : Int)))))))
noncomputable def cOpS0 (n : NetD) (sh : List Bool) (sp : Int) (v0 : Bool) (v1 : SpuD) (v2 : Int) : Option (cOpPc ⊕ Ret) :=
  br (decide (v2 < v1.k))
  (br (v0)
   (gu (0 ≤ IntKind.i64.wrap (v1.b + v2)) <|
    el (sh) ((IntKind.i64.wrap (v1.b + v2)).toNat) fun (x56 : Bool) =>
    some (.inl (.l0 (!x56) (v1) (IntKind.i64.wrap (v2 + 1)))))
   (some (.inl (.l0 (false) (v1) (IntKind.i64.wrap (v2 + 1))))))
  (some (.inr ([], AV.tup [AV.bool v0, AV.int IntKind.i64 0])))
noncomputable def cOpStep (n : NetD) (sh : List Bool) (sp : Int) : cOpPc → Option (cOpPc ⊕ Ret)
  | .l0 v0 v1 v2 => cOpS0 n sh sp v0 v1 v2
theorem cOpEn_ok (n : NetD) (sh : List Bool) (sp : Int) (o : cOpPc ⊕ Ret) (h : cOpEn n sh sp = some o) : Arr Try.prog Try.f65 0 (cOpSt n sh sp) cOpHd (bodyOf Try.f65) [] { n := Try.f65.ntmps, fr := enumF 0 ([netA n, .lst (boL sh), .int .i64 sp]), hp := ([]) } o := by
 unfold cOpEn at h
 obtain ⟨a0, h⟩ := gu_inv h
 rcases br_inv h with ⟨a1, h⟩ | ⟨a1, h⟩
 ·
  cases h
  exact Arr.rt [31] [] [(14, hc (iv (csE n sp)))] [] [] [] mix (by kernel_rfl) (aj (aj (u2 t3) (aj (u2 (u2 (aj (k2 (aj t9 (ak (al (checkSpur_ct a0 (sp)))))) s2))) (aj (u2 (u2 s2)) (aj a1 (al (u2 (ak s2))))))) (al t3))
 ·
  obtain ⟨a2, h⟩ := gu_inv h
  rcases br_inv h with ⟨a3, h⟩ | ⟨a3, h⟩
  ·
   cases h
   exact Arr.rt [30, 39] [] [(14, hc (iv (csE n sp))), (23, hc (iv (iN (celN n))))] [] [] [] mix (by kernel_rfl) (aj (aj (u2 t3) (aj (u2 (u2 (aj (k2 (aj t9 (ak (al (checkSpur_ct a0 (sp)))))) s2))) (aj (u2 (u2 s2)) (aj a1 (aj (u2 (u2 (u2 (aj (ak (aj t9 (al (ccount_ct a2)))) (aj t3 s2))))) (aj a3 (al t3))))))) (al t3))
  ·
   obtain ⟨a4, h⟩ := gu_inv h
   obtain ⟨x28, a5, h⟩ := el_inv h
   obtain ⟨a6, h⟩ := gu_inv h
   obtain ⟨x33, a7, h⟩ := el_inv h
   rcases br_inv h with ⟨a8, h⟩ | ⟨a8, h⟩
   ·
    obtain ⟨a9, h⟩ := gu_inv h
    obtain ⟨x40, a10, h⟩ := el_inv h
    cases h
    exact Arr.lp [30, 38, 73] [(28, sA x28), (33, AV.bool x33), (40, AV.bool x40)] [(14, hc (iv (csE n sp))), (23, hc (iv (iN (celN n))))] [] [] [1] [1, 9, 10, 45, 46] mix (by kernel_rfl) (aj (aj (u2 t3) (aj (u2 (u2 (aj (k2 (aj t9 (ak (al (checkSpur_ct a0 (sp)))))) s2))) (aj (u2 (u2 s2)) (aj a1 (aj (u2 (u2 (u2 (aj (ak (aj t9 (al (ccount_ct a2)))) (aj t3 s2))))) (aj a3 (aj (u2 (u2 (u2 (aj (k2 (aj a4 (getMap (f := sA) a5))) (u2 (ak (al (k2 n11)))))))) (aj (u2 (u2 (u2 (aj (k2 (aj a6 (getMap (f := AV.bool) a7))) (u2 (u2 (u2 (ag a8 (ag a8 (ag a8 (aj (aj a8 (k2 (aj a9 (getMap (f := AV.bool) a10)))) (ag a8 (ag a8 (ag a8 s2)))))))))))))) (al (u2 (u2 t2))))))))))) t7)
   ·
    cases h
    exact Arr.lp [30, 38, 72] [(28, sA x28), (33, AV.bool x33)] [(14, hc (iv (csE n sp))), (23, hc (iv (iN (celN n))))] [] [] [1] [1, 9, 10, 45, 46] mix (by kernel_rfl) (aj (aj (u2 t3) (aj (u2 (u2 (aj (k2 (aj t9 (ak (al (checkSpur_ct a0 (sp)))))) s2))) (aj (u2 (u2 s2)) (aj a1 (aj (u2 (u2 (u2 (aj (ak (aj t9 (al (ccount_ct a2)))) (aj t3 s2))))) (aj a3 (aj (u2 (u2 (u2 (aj (k2 (aj a4 (getMap (f := sA) a5))) (u2 (ak (al (k2 n11)))))))) (aj (u2 (u2 (u2 (aj (k2 (aj a6 (getMap (f := AV.bool) a7))) (u2 (u2 (u2 (aj a8 (aj a8 (aj a8 (aj a8 (aj a8 (aj a8 (ag a8 s2)))))))))))))) (al (u2 (u2 t2))))))))))) t7)
theorem cOpS0_ok (n : NetD) (sh : List Bool) (sp : Int) (v0 : Bool) (v1 : SpuD) (v2 : Int) (o : cOpPc ⊕ Ret) (h : cOpS0 n sh sp v0 v1 v2 = some o) : Arr Try.prog Try.f65 0 (cOpSt n sh sp) cOpHd (headC Try.f65 0) (.rnd (headC Try.f65 0) :: headK Try.f65 0) (cOpSt n sh sp (.l0 v0 v1 v2)) o := by
 unfold cOpS0 at h
 rcases br_inv h with ⟨a0, h⟩ | ⟨a0, h⟩
 ·
  rcases br_inv h with ⟨a1, h⟩ | ⟨a1, h⟩
  ·
   obtain ⟨a2, h⟩ := gu_inv h
   obtain ⟨x56, a3, h⟩ := el_inv h
   cases h
   exact Arr.lp [95, 101] [(56, AV.bool x56)] [] [] [] [0] [1, 9, 10, 45, 46] mix (by kernel_rfl) (aj (aj (al t3) (aj a0 (aj (u2 s2) (aj (u2 (u2 (ag a1 (ag a1 (ag a1 (ag a1 (aj (aj a1 t3) (aj (aj a1 (k2 (aj a2 (getMap (f := AV.bool) a3)))) (ag a1 (ag a1 (ag a1 s2))))))))))) (al (u2 s2)))))) t7)
  ·
   cases h
   exact Arr.lp [95, 100] [] [] [] [] [0] [1, 9, 10, 45, 46] mix (by kernel_rfl) (aj (aj (al t3) (aj a0 (aj (u2 s2) (aj (u2 (u2 (aj a1 (aj a1 (aj a1 (aj a1 (aj a1 (aj a1 (aj a1 (aj a1 (ag a1 s2))))))))))) (al (u2 s2)))))) t7)
 ·
  cases h
  exact Arr.rt [94] [] [] [] [] [] mix (by kernel_rfl) (aj (aj (al t3) (aj a0 (al (u2 (u2 t2))))) (al t3))
theorem cOp_ct (n : NetD) (sh : List Bool) (sp : Int) (r : Ret) (h : MReach (cOpStep n sh sp) (cOpEn n sh sp) r) : CT Try.prog 65 ([]) ([netA n, .lst (boL sh), .int .i64 sp]) r.1 r.2 :=
  CT.mach (fn := Try.f65) (c := bodyOf Try.f65) (S := cOpSt n sh sp) (hd := cOpHd) Try.func65 (by kernel_rfl) (Nat.le_of_ble_eq_true rfl)
    (fun s o ho => match s, ho with
      | .l0 v0 v1 v2, ho => cOpS0_ok n sh sp v0 v1 v2 o ho
    )
    (fun o ho => cOpEn_ok n sh sp o ho) h
noncomputable def cOB (n : NetD) (sh : List Bool) (sp : Int) : Bool := valB n && decide (0 ≤ sp) && decide (sp < n.ss.length) && decide (sh.length = celN n) && opB n sh sp
noncomputable def cOE (n : NetD) (sh : List Bool) (sp : Int) : Int := if csE n sp = 0 then (if sh.length = celN n then 0 else 19) else csE n sp
def shB (sh : List Bool) (s : SpuD) (j : Nat) : Bool := sh.getD (s.b + (j : Int)).toNat false
theorem fnd_or {p : Nat → Bool} : ∀ (k i : Nat), (fnd p i (k + 1)).isSome = ((fnd p i k).isSome || p (i + k)) := by
  intro k
  induction k with
  | zero => intro i; simp only [fnd, Nat.add_zero]; cases p i <;> rfl
  | succ k ih =>
    intro i
    have h := ih (i + 1)
    rw [show i + (k + 1) = i + 1 + k by omega]
    show (fnd p i ((k + 1) + 1)).isSome = ((fnd p i (k + 1)).isSome || p (i + 1 + k))
    unfold fnd
    cases p i with
    | true => rfl
    | false => exact h
def opJ (sh : List Bool) (s : SpuD) (j : Nat) : Bool := !(sh.getD s.i.toNat false) && !(sh.getD s.o.toNat false) && !(fnd (shB sh s) 0 j).isSome
theorem opJ_succ (sh : List Bool) (s : SpuD) (j : Nat) : opJ sh s (j + 1) = (opJ sh s j && !shB sh s j) := by
  unfold opJ
  rw [fnd_or, Nat.zero_add]
  cases sh.getD s.i.toNat false <;> cases sh.getD s.o.toNat false <;> cases (fnd (shB sh s) 0 j).isSome <;> cases shB sh s j <;> rfl
theorem opJ_end (sh : List Bool) (s : SpuD) : opJ sh s s.k.toNat = openB sh s := rfl
theorem get_sh {sh : List Bool} {c : Int} (h0 : 0 ≤ c) (h1 : c < sh.length) : sh[c.toNat]? = some (sh.getD c.toNat false) := by
  have hl : c.toNat < sh.length := by omega
  rw [List.getD_eq_getElem?_getD, List.getElem?_eq_getElem hl]; rfl
theorem ValidN.ends {n : NetD} (hv : ValidN n) {i : Nat} {s : SpuD} (hs : n.ss[i]? = some s) : 0 ≤ s.i ∧ s.i < celN n ∧ 0 ≤ s.o ∧ s.o < celN n ∧ s.b + s.k ≤ celN n := by
  have g := hv.goodT i s hs
  have hc := hv.cel
  have hi := g.hi
  have ho := g.ho
  have hil := (List.getElem?_eq_some_iff.1 hs).1
  have hm := baseN_mono hv (i := i + 1) (j := n.ss.length) (by omega) (Nat.le_refl _)
  rw [baseN_succ hs, ← g.hb] at hm
  exact ⟨by omega, by omega, by omega, by omega, by omega⟩
theorem csE_zero {n : NetD} {sp : Int} (h : csE n sp = 0) : ValidN n ∧ 0 ≤ sp ∧ sp < n.ss.length := by
  unfold csE at h
  split at h
  · rename_i hv
    split at h
    · omega
    · exact ⟨valB_iff.1 hv, by omega, by omega⟩
  · omega
theorem cOpen_ct {n : NetD} (hrw : Rows n.nx) (sh : List Bool) (sp : Int) : CT Try.prog 65 [] [netA n, .lst (boL sh), .int .i64 sp] [] (.tup [.bool (cOB n sh sp), .int .i64 (cOE n sh sp)]) := by
  refine cOp_ct n sh sp ([], _) ?_
  unfold cOpEn cOB cOE
  rw [gu_t hrw]
  by_cases h : csE n sp = 0
  · obtain ⟨hv, h0, h1⟩ := csE_zero h
    obtain ⟨i, rfl⟩ : ∃ i : Nat, sp = i := ⟨sp.toNat, by omega⟩
    obtain ⟨s, hs⟩ : ∃ s, n.ss[i]? = some s := ⟨_, List.getElem?_eq_getElem (by omega)⟩
    have e := hv.ends hs
    have sb := hv.sb hs
    rw [br_f (by simp [h]), gu_t hv, if_pos h, valB_iff.2 hv, dec_t h0, dec_t h1]
    by_cases hl : sh.length = celN n
    · rw [br_f (by simp [iN, boL, hl]), gu_t h0, Int.toNat_natCast, el_t hs, gu_t e.1, el_t (get_sh e.1 (by omega)), dec_t hl, if_pos hl]
      have ho : opB n sh (i : Int) = openB sh s := by unfold opB; rw [Int.toNat_natCast, hs]
      rw [ho, ← opJ_end]
      simp only [Bool.true_and]
      have loop : MReach (cOpStep n sh (i : Int)) (some (.inl (.l0 (opJ sh s 0) s 0))) (([], .tup [.bool (opJ sh s s.k.toNat), .int .i64 0]) : Ret) := by
        refine loop_up (fun j => cOpPc.l0 (opJ sh s j) s (j : Int)) s.k.toNat (fun j hj hr => .to ?_ hr) (.to ?_ (.ret _))
        · show cOpS0 n sh i _ s j = _
          unfold cOpS0
          rw [br_t (dec_t (by omega)), opJ_succ, wrapS (s.b + (j : Int)) (by omega) (by omega), wrap_nat j (by omega)]
          cases opJ sh s j with
          | false => rfl
          | true =>
            rw [br_t rfl, gu_t (by omega), el_t (get_sh (by omega) (by omega))]; rfl
        · show cOpS0 n sh i _ s _ = _
          unfold cOpS0
          rw [br_f (dec_f (by omega))]
      have z : opJ sh s 0 = (!(sh.getD s.i.toNat false) && !(sh.getD s.o.toNat false)) := by unfold opJ; simp [fnd]
      rw [z] at loop
      cases h3 : sh.getD s.i.toNat false with
      | true => rw [h3] at loop; exact loop
      | false =>
        rw [h3] at loop
        rw [br_t (by rfl), gu_t (by omega), el_t (get_sh e.2.2.1 (by omega))]
        exact loop
    · rw [br_t (by simp [iN, boL]; omega), dec_f hl, if_neg hl]; simp; exact .ret _
  · rw [br_t (by simpa using h), if_neg h]
    have : (valB n && decide (0 ≤ sp) && decide (sp < n.ss.length)) = false := by
      cases hv : valB n with
      | false => rfl
      | true =>
        unfold csE at h
        rw [if_pos hv] at h
        by_cases a : 0 ≤ sp
        · by_cases b : sp < n.ss.length
          · rw [if_neg (by omega)] at h; exact absurd rfl h
          · simp [b]
        · simp [a]
    rw [this]; exact .ret _
theorem cOB_ok {n : NetD} (hv : ValidN n) {sh : List Bool} (hl : sh.length = celN n) {sp : Int} (h : 0 ≤ sp ∧ sp < n.ss.length) : cOB n sh sp = opB n sh sp := by
  unfold cOB; rw [valB_iff.2 hv, dec_t h.1, dec_t h.2, dec_t hl]; rfl
noncomputable def hOpSt (n : NetD) (sh : List Bool) (sp : Int) : Empty → St
  | x => x.elim
def hOpHd : Empty → Nat
  | x => x.elim
noncomputable def hOpEn (n : NetD) (sh : List Bool) (sp : Int) : Option (Empty ⊕ Ret) :=
  gu (Rows n.nx) <|
  br (cOB n sh sp)
  (gu (0 ≤ sp) <|
   el (n.ss) (sp.toNat) fun (x21 : SpuD) =>
   some (.inr ([], AV.bool x21.dep)))
  (some (.inr ([], AV.bool false)))
noncomputable def hOpStep (n : NetD) (sh : List Bool) (sp : Int) : Empty → Option (Empty ⊕ Ret)
  | x => x.elim
theorem hOpEn_ok (n : NetD) (sh : List Bool) (sp : Int) (o : Empty ⊕ Ret) (h : hOpEn n sh sp = some o) : Arr Try.prog Try.f114 0 (hOpSt n sh sp) hOpHd (bodyOf Try.f114) [] { n := Try.f114.ntmps, fr := enumF 0 ([netA n, .lst (boL sh), .int .i64 sp]), hp := ([]) } o := by
 unfold hOpEn at h
 obtain ⟨a0, h⟩ := gu_inv h
 rcases br_inv h with ⟨a1, h⟩ | ⟨a1, h⟩
 ·
  obtain ⟨a2, h⟩ := gu_inv h
  obtain ⟨x21, a3, h⟩ := el_inv h
  cases h
  exact Arr.rt [35] [(21, sA x21)] [(13, hc (AV.tup [AV.bool (cOB n sh sp), iv (cOE n sh sp)]))] [] [] [] mix (by kernel_rfl) (aj (ag t2 (aj (u2 (u2 (u2 (aj (k3 (aj t9 (k2 (al (cOpen_ct a0 (sh) (sp)))))) (u2 (u2 (u2 (u2 s2)))))))) (al (u2 (u2 (ag a1 (ag a1 (ag a1 (aj (aj a1 (k2 (aj a2 (getMap (f := sA) a3)))) (ag a1 (ag a1 (ag a1 s2)))))))))))) t2)
 ·
  cases h
  exact Arr.rt [34] [] [(13, hc (AV.tup [AV.bool (cOB n sh sp), iv (cOE n sh sp)]))] [] [] [] mix (by kernel_rfl) (aj (ag t2 (aj (u2 (u2 (u2 (aj (k3 (aj t9 (k2 (al (cOpen_ct a0 (sh) (sp)))))) (u2 (u2 (u2 (u2 s2)))))))) (al (u2 (u2 (aj a1 (aj a1 (aj a1 (aj a1 (aj a1 (aj a1 (ag a1 s2)))))))))))) t2)
theorem hOp_ct (n : NetD) (sh : List Bool) (sp : Int) (r : Ret) (h : MReach (hOpStep n sh sp) (hOpEn n sh sp) r) : CT Try.prog 114 ([]) ([netA n, .lst (boL sh), .int .i64 sp]) r.1 r.2 :=
  CT.mach (fn := Try.f114) (c := bodyOf Try.f114) (S := hOpSt n sh sp) (hd := hOpHd) Try.func114 (by kernel_rfl) (Nat.le_of_ble_eq_true rfl)
    (fun s o ho => match s, ho with
      | x, _ => x.elim)
    (fun o ho => hOpEn_ok n sh sp o ho) h
inductive rPlPc where
  | l0 (v0 : Int) (v1 : Int)
noncomputable def rPlSt (n : NetD) (sh : List Bool) (hm : List Int) (sp : Int) : rPlPc → St
  | .l0 v0 v1 => St.mk 47 [(2, AV.lst (List.map (iv) hm)), (3, iv sp), (9, iv v0), (10, iv v1)] []
def rPlHd : rPlPc → Nat
  | .l0 _ _ => 0
noncomputable def rPlEn (n : NetD) (sh : List Bool) (hm : List Int) (sp : Int) : Option (rPlPc ⊕ Ret) :=
  gu (0 ≤ sp) <|
  el (n.ss) (sp.toNat) fun (x14 : SpuD) =>
  br (!x14.dep)
  (some (.inr ([], AV.int IntKind.i64 0)))
  (gu (ValidN n) <|
   gu (sh.length = celN n) <|
   gu (0 ≤ sp ∧ sp < iN n.ss.length) <|
   br (!opB n sh sp)
   (some (.inr ([], AV.int IntKind.i64 0)))
   (el (n.ss) (sp.toNat) fun (x28 : SpuD) =>
    some (.inl (.l0 (x28.k) ((0 : Int))))))
noncomputable def rPlS0 (n : NetD) (sh : List Bool) (hm : List Int) (sp : Int) (v0 : Int) (v1 : Int) : Option (rPlPc ⊕ Ret) :=
  br (decide (v1 < iN (List.map (AV.int IntKind.i64) hm).length))
  (gu (0 ≤ v1) <|
   el (hm) (v1.toNat) fun (x39 : Int) =>
   br (x39 == sp)
   (some (.inl (.l0 (IntKind.i64.wrap (v0 - 1)) (IntKind.i64.wrap (v1 + 1)))))
   (some (.inl (.l0 (v0) (IntKind.i64.wrap (v1 + 1))))))
  (some (.inr ([], AV.int IntKind.i64 (if v0 < 0 then 0 else v0))))
noncomputable def rPlStep (n : NetD) (sh : List Bool) (hm : List Int) (sp : Int) : rPlPc → Option (rPlPc ⊕ Ret)
  | .l0 v0 v1 => rPlS0 n sh hm sp v0 v1
theorem rPlEn_ok (n : NetD) (sh : List Bool) (hm : List Int) (sp : Int) (o : rPlPc ⊕ Ret) (h : rPlEn n sh hm sp = some o) : Arr Try.prog Try.f111 0 (rPlSt n sh hm sp) rPlHd (bodyOf Try.f111) [] { n := Try.f111.ntmps, fr := enumF 0 ([netA n, .lst (boL sh), lI hm, .int .i64 sp]), hp := ([]) } o := by
 unfold rPlEn at h
 obtain ⟨a0, h⟩ := gu_inv h
 obtain ⟨x14, a1, h⟩ := el_inv h
 rcases br_inv h with ⟨a2, h⟩ | ⟨a2, h⟩
 ·
  cases h
  exact Arr.rt [37] [(14, sA x14)] [] [] [] [] mix (by kernel_rfl) (aj (ag t2 (aj (u2 (u2 (u2 (aj (k2 (aj a0 (getMap (f := sA) a1))) (u2 (u2 (u2 (u2 (aj a2 (aj a2 (aj a2 (aj a2 (aj a2 (al (aj a2 t2))))))))))))))) (ak s2))) t2)
 ·
  obtain ⟨a3, h⟩ := gu_inv h
  obtain ⟨a4, h⟩ := gu_inv h
  obtain ⟨a5, h⟩ := gu_inv h
  rcases br_inv h with ⟨a6, h⟩ | ⟨a6, h⟩
  ·
   cases h
   exact Arr.rt [36, 49] [(14, sA x14)] [(22, hc (AV.bool (opB n sh sp)))] [] [] [] mix (by kernel_rfl) (aj (ag t2 (aj (u2 (u2 (u2 (aj (k2 (aj a0 (getMap (f := sA) a1))) (u2 (u2 (u2 (u2 (ag a2 (ag a2 (ag a2 (aj (aj a2 (k3 (aj t9 (k2 (al (ropen_ct (n) (sh) (sp) a3 a4 a5)))))) (ag a2 (al (aj a2 t2))))))))))))))) (aj a6 s2))) t2)
  ·
   obtain ⟨x28, a7, h⟩ := el_inv h
   cases h
   exact Arr.lp [36, 48] [(14, sA x14), (28, sA x28)] [(22, hc (AV.bool (opB n sh sp)))] [] [] [] [2, 3, 9, 10] mix (by kernel_rfl) (aj (ag t2 (aj (u2 (u2 (u2 (aj (k2 (aj a0 (getMap (f := sA) a1))) (u2 (u2 (u2 (u2 (ag a2 (ag a2 (ag a2 (aj (aj a2 (k3 (aj t9 (k2 (al (ropen_ct (n) (sh) (sp) a3 a4 a5)))))) (ag a2 (al (aj a2 t2))))))))))))))) (aj a6 (aj (u2 (u2 (u2 (aj (k2 (aj a0 (getMap (f := sA) a7))) (u2 (u2 s2)))))) s2)))) t5)
theorem rPlS0_ok (n : NetD) (sh : List Bool) (hm : List Int) (sp : Int) (v0 : Int) (v1 : Int) (o : rPlPc ⊕ Ret) (h : rPlS0 n sh hm sp v0 v1 = some o) : Arr Try.prog Try.f111 0 (rPlSt n sh hm sp) rPlHd (headC Try.f111 0) (.rnd (headC Try.f111 0) :: headK Try.f111 0) (rPlSt n sh hm sp (.l0 v0 v1)) o := by
 unfold rPlS0 at h
 rcases br_inv h with ⟨a0, h⟩ | ⟨a0, h⟩
 ·
  obtain ⟨a1, h⟩ := gu_inv h
  obtain ⟨x39, a2, h⟩ := el_inv h
  rcases br_inv h with ⟨a3, h⟩ | ⟨a3, h⟩
  ·
   cases h
   exact Arr.lp [69, 85] [(39, iv x39)] [] [] [] [] [2, 3, 9, 10] mix (by kernel_rfl) (aj (aj (u2 (u2 (u2 (al t3)))) (aj a0 (aj (u2 (u2 (aj (k2 (aj a1 (getMap (f := iv) a2))) (u2 (u2 (al t3)))))) (aj a3 (aj (u2 (u2 s2)) (al (u2 (u2 s2)))))))) t5)
  ·
   cases h
   exact Arr.lp [69, 84] [(39, iv x39)] [] [] [] [] [2, 3, 9, 10] mix (by kernel_rfl) (aj (aj (u2 (u2 (u2 (al t3)))) (aj a0 (aj (u2 (u2 (aj (k2 (aj a1 (getMap (f := iv) a2))) (u2 (u2 (al t3)))))) (aj a3 (al (u2 (u2 s2))))))) t5)
 ·
  cases h
  exact Arr.rt [68] [] [] [] [] [] mix (by kernel_rfl) (aj (aj (u2 (u2 (u2 (al t3)))) (aj a0 (al (u2 (u2 s2))))) t2)
theorem rPl_ct (n : NetD) (sh : List Bool) (hm : List Int) (sp : Int) (r : Ret) (h : MReach (rPlStep n sh hm sp) (rPlEn n sh hm sp) r) : CT Try.prog 111 ([]) ([netA n, .lst (boL sh), lI hm, .int .i64 sp]) r.1 r.2 :=
  CT.mach (fn := Try.f111) (c := bodyOf Try.f111) (S := rPlSt n sh hm sp) (hd := rPlHd) Try.func111 (by kernel_rfl) (Nat.le_of_ble_eq_true rfl)
    (fun s o ho => match s, ho with
      | .l0 v0 v1, ho => rPlS0_ok n sh hm sp v0 v1 o ho
    )
    (fun o ho => rPlEn_ok n sh hm sp o ho) h
def odB (n : NetD) (sh : List Bool) (sp : Int) : Bool := opB n sh sp && dpB n sp
theorem hopen_ct (n : NetD) (sh : List Bool) (sp : Int) (hrw : Rows n.nx) (hv : ValidN n) (hl : sh.length = celN n) (h : 0 ≤ sp ∧ sp < n.ss.length) : CT Try.prog 114 [] [netA n, .lst (boL sh), .int .i64 sp] [] (.bool (odB n sh sp)) := by
  refine hOp_ct n sh sp ([], _) (.val ?_)
  unfold hOpEn odB dpB
  obtain ⟨s, hs⟩ : ∃ s, n.ss[sp.toNat]? = some s := ⟨_, List.getElem?_eq_getElem (by omega)⟩
  rw [gu_t hrw, cOB_ok hv hl h, hs, gu_t h.1, el_t hs, dec_t h.1]
  cases opB n sh sp <;> simp [br]
def cntZ (hm : List Int) (sp : Int) (i : Nat) : Int := ((hm.take i).filter (fun x => x == sp)).length
theorem cntZ_succ {hm : List Int} {sp : Int} {i : Nat} {x : Int} (hx : hm[i]? = some x) : cntZ hm sp (i + 1) = cntZ hm sp i + if x == sp then 1 else 0 := by
  unfold cntZ
  rw [List.take_add_one, hx, Option.toList_some, List.filter_append, List.length_append]
  cases h : x == sp <;> simp [List.filter, h]
theorem cntZ_bd (hm : List Int) (sp : Int) (i : Nat) : 0 ≤ cntZ hm sp i ∧ cntZ hm sp i ≤ hm.length := by
  unfold cntZ
  have h := List.length_filter_le (fun x => x == sp) (hm.take i)
  rw [List.length_take] at h
  omega
def plV (k : Int) (hm : List Int) (sp : Int) : Int := if k - cntZ hm sp hm.length < 0 then 0 else k - cntZ hm sp hm.length
def slk (n : NetD) (sp : Int) : Int := match n.ss[sp.toNat]? with | some s => s.k | none => 0
def plZ (n : NetD) (sh : List Bool) (hm : List Int) (sp : Int) : Int := if odB n sh sp = true then plV (slk n sp) hm sp else 0
theorem rplaces_ct (n : NetD) (sh : List Bool) (hm : List Int) (sp : Int) (hv : ValidN n) (hl : sh.length = celN n) (h : 0 ≤ sp ∧ sp < n.ss.length) (h8 : hm.length ≤ 1000) : CT Try.prog 111 [] [netA n, .lst (boL sh), lI hm, .int .i64 sp] [] (.int .i64 (plZ n sh hm sp)) := by
  refine rPl_ct n sh hm sp ([], _) ?_
  obtain ⟨s, hs⟩ : ∃ s, n.ss[sp.toNat]? = some s := ⟨_, List.getElem?_eq_getElem (by omega)⟩
  have hs' : n.ss[sp.toNat]? = some s := hs
  have sb := hv.sb hs
  unfold rPlEn plZ odB dpB slk
  rw [gu_t h.1, el_t hs, hs, dec_t h.1]
  show MReach _ _ (([], .int .i64 (if (opB n sh sp && (true && s.dep)) = true then plV s.k hm sp else 0)) : Ret)
  cases hd : s.dep with
  | false => rw [br_t (by rfl), Bool.and_false, Bool.and_false]; exact .ret _
  | true =>
    rw [br_f (by rfl), gu_t hv, gu_t hl, gu_t h]
    cases ho : opB n sh sp with
    | false => exact .ret _
    | true =>
      rw [br_f (by rfl), el_t hs, if_pos (by rfl)]
      unfold plV
      have e0 : s.k = s.k - cntZ hm sp 0 := by unfold cntZ; simp
      suffices hh : MReach (rPlStep n sh hm sp) (some (.inl (.l0 (s.k - cntZ hm sp 0) ((0 : Nat) : Int)))) (([], .int .i64 (if s.k - cntZ hm sp hm.length < 0 then 0 else s.k - cntZ hm sp hm.length)) : Ret) by
        rw [← e0] at hh; exact hh
      refine loop_up (fun i => rPlPc.l0 (s.k - cntZ hm sp i) (i : Int)) hm.length (fun i hi hr => .to ?_ hr) (.to ?_ (.ret _))
      · obtain ⟨x, hx⟩ : ∃ x, hm[i]? = some x := ⟨_, List.getElem?_eq_getElem hi⟩
        have b := cntZ_bd hm sp i
        show rPlS0 n sh hm sp _ i = _
        unfold rPlS0
        rw [rngS hx, cntZ_succ hx, wrap_nat i (by omega), wrapS (s.k - cntZ hm sp i - 1) (by omega) (by omega)]
        cases x == sp with
        | false => simp [br]
        | true => simp only [br, if_true]; rw [show s.k - cntZ hm sp i - 1 = s.k - (cntZ hm sp i + 1) by omega]
      · show rPlS0 n sh hm sp _ hm.length = _
        unfold rPlS0
        rw [rngE]
inductive hFrPc where
  | l0 (v0 : Int) (v1 : Int)
noncomputable def hFrSt (n : NetD) (sh : List Bool) (hm : List Int) (sp : Int) : hFrPc → St
  | .l0 v0 v1 => St.mk 38 [(2, AV.lst (List.map (iv) hm)), (3, iv sp), (9, iv v0), (23, iv (iN (List.map (iv) hm).length)), (24, iv v1)] []
def hFrHd : hFrPc → Nat
  | .l0 _ _ => 0
noncomputable def hFrEn (n : NetD) (sh : List Bool) (hm : List Int) (sp : Int) : Option (hFrPc ⊕ Ret) :=
  gu (Rows n.nx) <|
  gu (ValidN n) <|
  gu (sh.length = celN n) <|
  gu (0 ≤ sp ∧ sp < iN n.ss.length) <|
  br (!odB n sh sp)
  (some (.inr ([], AV.int IntKind.i64 0)))
  (gu (0 ≤ sp) <|
   el (n.ss) (sp.toNat) fun (x19 : SpuD) =>
   some (.inl (.l0 (x19.k) ((0 : Int)))))
noncomputable def hFrS0 (n : NetD) (sh : List Bool) (hm : List Int) (sp : Int) (v0 : Int) (v1 : Int) : Option (hFrPc ⊕ Ret) :=
  br (decide (v1 < iN (List.map (AV.int IntKind.i64) hm).length))
  (gu (0 ≤ v1) <|
   el (hm) (v1.toNat) fun (x29 : Int) =>
   br (x29 == sp)
   (some (.inl (.l0 (IntKind.i64.wrap (v0 - 1)) (IntKind.i64.wrap (v1 + 1)))))
   (some (.inl (.l0 (v0) (IntKind.i64.wrap (v1 + 1))))))
  (some (.inr ([], AV.int IntKind.i64 (if v0 < 0 then 0 else v0))))
noncomputable def hFrStep (n : NetD) (sh : List Bool) (hm : List Int) (sp : Int) : hFrPc → Option (hFrPc ⊕ Ret)
  | .l0 v0 v1 => hFrS0 n sh hm sp v0 v1
theorem hFrEn_ok (n : NetD) (sh : List Bool) (hm : List Int) (sp : Int) (o : hFrPc ⊕ Ret) (h : hFrEn n sh hm sp = some o) : Arr Try.prog Try.f109 0 (hFrSt n sh hm sp) hFrHd (bodyOf Try.f109) [] { n := Try.f109.ntmps, fr := enumF 0 ([netA n, .lst (boL sh), lI hm, .int .i64 sp]), hp := ([]) } o := by
 unfold hFrEn at h
 obtain ⟨a0, h⟩ := gu_inv h
 obtain ⟨a1, h⟩ := gu_inv h
 obtain ⟨a2, h⟩ := gu_inv h
 obtain ⟨a3, h⟩ := gu_inv h
 rcases br_inv h with ⟨a4, h⟩ | ⟨a4, h⟩
 ·
  cases h
  exact Arr.rt [31] [] [(14, hc (AV.bool (odB n sh sp)))] [] [] [] mix (by kernel_rfl) (aj (ag t2 (aj (u2 (u2 (u2 (aj (k3 (aj t9 (k2 (al (hopen_ct (n) (sh) (sp) a0 a1 a2 a3))))) s2)))) (aj a4 s2))) t2)
 ·
  obtain ⟨a5, h⟩ := gu_inv h
  obtain ⟨x19, a6, h⟩ := el_inv h
  cases h
  exact Arr.lp [30] [(19, sA x19)] [(14, hc (AV.bool (odB n sh sp)))] [] [] [] [2, 3, 9, 23, 24] mix (by kernel_rfl) (aj (ag t2 (aj (u2 (u2 (u2 (aj (k3 (aj t9 (k2 (al (hopen_ct (n) (sh) (sp) a0 a1 a2 a3))))) s2)))) (aj a4 (aj (u2 (u2 (u2 (aj (k2 (aj a5 (getMap (f := sA) a6))) (u2 (u2 s2)))))) (al (u2 (u2 t2))))))) t6)
theorem hFrS0_ok (n : NetD) (sh : List Bool) (hm : List Int) (sp : Int) (v0 : Int) (v1 : Int) (o : hFrPc ⊕ Ret) (h : hFrS0 n sh hm sp v0 v1 = some o) : Arr Try.prog Try.f109 0 (hFrSt n sh hm sp) hFrHd (headC Try.f109 0) (.rnd (headC Try.f109 0) :: headK Try.f109 0) (hFrSt n sh hm sp (.l0 v0 v1)) o := by
 unfold hFrS0 at h
 rcases br_inv h with ⟨a0, h⟩ | ⟨a0, h⟩
 ·
  obtain ⟨a1, h⟩ := gu_inv h
  obtain ⟨x29, a2, h⟩ := el_inv h
  rcases br_inv h with ⟨a3, h⟩ | ⟨a3, h⟩
  ·
   cases h
   exact Arr.lp [51, 65] [(29, iv x29)] [] [] [] [] [2, 3, 9, 23, 24] mix (by kernel_rfl) (aj (aj (al t3) (aj a0 (aj (u2 s2) (aj (u2 (u2 (aj (k2 (aj a1 (getMap (f := iv) a2))) (u2 (u2 (al t3)))))) (aj a3 (aj (u2 (u2 s2)) (al (u2 s2)))))))) t6)
  ·
   cases h
   exact Arr.lp [51, 64] [(29, iv x29)] [] [] [] [] [2, 3, 9, 23, 24] mix (by kernel_rfl) (aj (aj (al t3) (aj a0 (aj (u2 s2) (aj (u2 (u2 (aj (k2 (aj a1 (getMap (f := iv) a2))) (u2 (u2 (al t3)))))) (aj a3 (al (u2 s2))))))) t6)
 ·
  cases h
  exact Arr.rt [50] [] [] [] [] [] mix (by kernel_rfl) (aj (aj (al t3) (aj a0 (al (u2 (u2 s2))))) t2)
theorem hFr_ct (n : NetD) (sh : List Bool) (hm : List Int) (sp : Int) (r : Ret) (h : MReach (hFrStep n sh hm sp) (hFrEn n sh hm sp) r) : CT Try.prog 109 ([]) ([netA n, .lst (boL sh), lI hm, .int .i64 sp]) r.1 r.2 :=
  CT.mach (fn := Try.f109) (c := bodyOf Try.f109) (S := hFrSt n sh hm sp) (hd := hFrHd) Try.func109 (by kernel_rfl) (Nat.le_of_ble_eq_true rfl)
    (fun s o ho => match s, ho with
      | .l0 v0 v1, ho => hFrS0_ok n sh hm sp v0 v1 o ho
    )
    (fun o ho => hFrEn_ok n sh hm sp o ho) h
inductive rSdPc where
  | l0 (v0 : List Int) (v1 : Int)
  | l1 (v0 : List Int) (v1 : Int)
  | l2 (v0 : List Int) (v1 : Int)
  | l3 (v0 : List Int) (v1 : Int) (v2 : Int)
noncomputable def rSdSt (n : NetD) (sh : List Bool) (hm gs : List Int) : rSdPc → St
  | .l0 v0 v1 => St.mk 122 [(1, AV.lst (boL sh)), (2, AV.lst (List.map (iv) hm)), (3, AV.lst (List.map (iv) gs)), (4, AV.ptr 0 0 0), (9, AV.sl 1 0 v0.length), (10, iv v1)] [some (Blk.mk [netA n] 8 true true none), some (Blk.mk (List.map (iv) v0) 1 true true none)]
  | .l1 v0 v1 => St.mk 122 [(1, AV.lst (boL sh)), (2, AV.lst (List.map (iv) hm)), (4, AV.ptr 0 0 0), (9, AV.sl 1 0 v0.length), (11, iv v1)] [some (Blk.mk [netA n] 8 true true none), some (Blk.mk (List.map (iv) v0) 1 true true none)]
  | .l2 v0 v1 => St.mk 122 [(1, AV.lst (boL sh)), (4, AV.ptr 0 0 0), (9, AV.sl 1 0 v0.length), (12, iv v1)] [some (Blk.mk [netA n] 8 true true none), some (Blk.mk (List.map (iv) v0) 1 true true none)]
  | .l3 v0 v1 v2 => St.mk 122 [(1, AV.lst (boL sh)), (4, AV.ptr 0 0 0), (9, AV.sl 1 0 v0.length), (12, iv v1), (13, iv v2)] [some (Blk.mk [netA n] 8 true true none), some (Blk.mk (List.map (iv) v0) 1 true true none)]
def rSdHd : rSdPc → Nat
  | .l0 _ _ => 0
  | .l1 _ _ => 1
  | .l2 _ _ => 2
  | .l3 _ _ _ => 3
noncomputable def rSdEn (n : NetD) (sh : List Bool) (hm gs : List Int) : Option (rSdPc ⊕ Ret) :=
  gu (8 * iN (List.map (AV.int IntKind.i64) hm).length ≤ 281474976710656) <|
  gu (iN (List.map (AV.int IntKind.i64) hm).length ≤ 9223372036854775807) <|
  some (.inl (.l0 (List.replicate (List.map (AV.int IntKind.i64) hm).length 0) ((0 : Int))))
noncomputable def rSdS0 (n : NetD) (sh : List Bool) (hm gs : List Int) (v0 : List Int) (v1 : Int) : Option (rSdPc ⊕ Ret) :=
  br (decide (v1 < iN v0.length))
  (gu (0 ≤ v1) <|
   gu (v1 < iN v0.length) <|
   gu ((0 + v1.toNat).succ.le (List.map (AV.int IntKind.i64) v0).length) <|
   el (hm) (v1.toNat) fun (x28 : Int) =>
   br (x28 == -2)
   (gu ((0 + v1.toNat).succ.le ((List.map (AV.int IntKind.i64) v0).set (0 + v1.toNat) (AV.int IntKind.i64 (-1))).length) <|
    some (.inl (.l0 ((v0.set (0 + v1.toNat) (-1)).set (0 + v1.toNat) (-2)) (IntKind.i64.wrap (v1 + 1)))))
   (el (gs) (v1.toNat) fun (x36 : Int) =>
    br (decide (0 ≤ x36))
    (el (gs) (v1.toNat) fun (x44 : Int) =>
     gu (ValidN n) <|
     gu (sh.length = celN n) <|
     gu (0 ≤ x44 ∧ x44 < iN n.ss.length) <|
     br (opB n sh x44)
     (el (gs) (v1.toNat) fun (x52 : Int) =>
      gu ((0 + v1.toNat).succ.le ((List.map (AV.int IntKind.i64) v0).set (0 + v1.toNat) (AV.int IntKind.i64 (-1))).length) <|
      some (.inl (.l0 ((v0.set (0 + v1.toNat) (-1)).set (0 + v1.toNat) x52) (IntKind.i64.wrap (v1 + 1)))))
     (some (.inl (.l0 (v0.set (0 + v1.toNat) (-1)) (IntKind.i64.wrap (v1 + 1))))))
    (some (.inl (.l0 (v0.set (0 + v1.toNat) (-1)) (IntKind.i64.wrap (v1 + 1)))))))
  (some (.inl (.l1 (v0) ((0 : Int)))))
noncomputable def rSdS1 (n : NetD) (sh : List Bool) (hm gs : List Int) (v0 : List Int) (v1 : Int) : Option (rSdPc ⊕ Ret) :=
  br (decide (v1 < iN v0.length))
  (gu (0 ≤ v1) <|
   gu (v1 < iN v0.length) <|
   el (v0) (0 + v1.toNat) fun (x64 : Int) =>
   br (x64 == -1)
   (el (hm) (v1.toNat) fun (x69 : Int) =>
    br (decide (0 ≤ x69))
    (el (hm) (v1.toNat) fun (x79 : Int) =>
     gu (ValidN n) <|
     gu (sh.length = celN n) <|
     gu (0 ≤ x79 ∧ x79 < iN n.ss.length) <|
     gu (v0.length ≤ 1000) <|
     br (decide (0 < plZ n sh v0 x79))
     (el (hm) (v1.toNat) fun (x88 : Int) =>
      gu ((0 + v1.toNat).succ.le (List.map (AV.int IntKind.i64) v0).length) <|
      some (.inl (.l1 (v0.set (0 + v1.toNat) x88) (IntKind.i64.wrap (v1 + 1)))))
     (some (.inl (.l1 (v0) (IntKind.i64.wrap (v1 + 1))))))
    (some (.inl (.l1 (v0) (IntKind.i64.wrap (v1 + 1))))))
   (some (.inl (.l1 (v0) (IntKind.i64.wrap (v1 + 1))))))
  (some (.inl (.l2 (v0) ((0 : Int)))))
noncomputable def rSdS2 (n : NetD) (sh : List Bool) (hm gs : List Int) (v0 : List Int) (v1 : Int) : Option (rSdPc ⊕ Ret) :=
  br (decide (v1 < iN v0.length))
  (some (.inl (.l3 (v0) (v1) ((0 : Int)))))
  (some (.inr ([], AV.lst (List.map (AV.int IntKind.i64) v0))))
noncomputable def rSdS3 (n : NetD) (sh : List Bool) (hm gs : List Int) (v0 : List Int) (v1 : Int) (v2 : Int) : Option (rSdPc ⊕ Ret) :=
  br (decide (v2 < iN (List.map sA n.ss).length))
  (gu (0 ≤ v1) <|
   gu (v1 < iN v0.length) <|
   el (v0) (0 + v1.toNat) fun (x106 : Int) =>
   br (x106 == -1)
   (gu (ValidN n) <|
    gu (sh.length = celN n) <|
    gu (0 ≤ v2 ∧ v2 < iN n.ss.length) <|
    gu (v0.length ≤ 1000) <|
    br (decide (0 < plZ n sh v0 v2))
    (gu ((0 + v1.toNat).succ.le (List.map (AV.int IntKind.i64) v0).length) <|
     some (.inl (.l3 (v0.set (0 + v1.toNat) v2) (v1) (IntKind.i64.wrap (v2 + 1)))))
    (some (.inl (.l3 (v0) (v1) (IntKind.i64.wrap (v2 + 1))))))
   (some (.inl (.l2 (v0) (IntKind.i64.wrap (v1 + 1))))))
  (some (.inl (.l2 (v0) (IntKind.i64.wrap (v1 + 1)))))
noncomputable def rSdStep (n : NetD) (sh : List Bool) (hm gs : List Int) : rSdPc → Option (rSdPc ⊕ Ret)
  | .l0 v0 v1 => rSdS0 n sh hm gs v0 v1
  | .l1 v0 v1 => rSdS1 n sh hm gs v0 v1
  | .l2 v0 v1 => rSdS2 n sh hm gs v0 v1
  | .l3 v0 v1 v2 => rSdS3 n sh hm gs v0 v1 v2
theorem rSdEn_ok (n : NetD) (sh : List Bool) (hm gs : List Int) (o : rSdPc ⊕ Ret) (h : rSdEn n sh hm gs = some o) : Arr Try.prog Try.f115 0 (rSdSt n sh hm gs) rSdHd (bodyOf Try.f115) [] { n := Try.f115.ntmps, fr := enumF 0 ([netA n, .lst (boL sh), lI hm, lI gs]), hp := ([]) } o := by
 unfold rSdEn at h
 obtain ⟨a0, h⟩ := gu_inv h
 obtain ⟨a1, h⟩ := gu_inv h
 cases h
 exact Arr.loopE (H := hT (ds []) [] []) (F := []) (n := 4000) (s' := St.mk 122 [(1, AV.lst (boL sh)), (2, AV.lst (List.map (AV.int IntKind.i64) hm)), (3, AV.lst (List.map (AV.int IntKind.i64) gs)), (4, AV.ptr 0 0 0), (9, AV.sl 1 0 (List.map (AV.int IntKind.i64) hm).length), (10, AV.int IntKind.i64 0)] [some (Blk.mk [AV.agg [AV.lst (List.map bA n.bs), AV.lst (gL n.nx), AV.lst (List.map sA n.ss), AV.lst (List.map (AV.int IntKind.i64) n.rs), AV.int IntKind.i64 n.q, AV.int IntKind.i64 n.a, AV.int IntKind.i64 n.d, AV.int IntKind.i64 n.p]] 8 true true none), some (Blk.mk (List.replicate (List.map (AV.int IntKind.i64) hm).length (AV.int IntKind.i64 0)) 1 true true none)]) [] [0, 1] [] [1, 2, 3, 4, 9, 10] mix (by kernel_rfl) (aj (ag t2 (aj (u2 (u2 (aj (k2 (aj (show 0 ≤ iN (List.map (AV.int IntKind.i64) hm).length from (Int.natCast_nonneg _)) (aj (show iN (List.map (AV.int IntKind.i64) hm).length ≤ iN (List.map (AV.int IntKind.i64) hm).length by omega) (aj a0 a1)))) s2))) s2)) t9) (by simp [iv, netA, tapeB, lstI, rSdSt, gL, boL, lI, sA, bA])
theorem rSdS0_ok (n : NetD) (sh : List Bool) (hm gs : List Int) (v0 : List Int) (v1 : Int) (o : rSdPc ⊕ Ret) (h : rSdS0 n sh hm gs v0 v1 = some o) : Arr Try.prog Try.f115 0 (rSdSt n sh hm gs) rSdHd (headC Try.f115 0) (.rnd (headC Try.f115 0) :: headK Try.f115 0) (rSdSt n sh hm gs (.l0 v0 v1)) o := by
 unfold rSdS0 at h
 rcases br_inv h with ⟨a0, h⟩ | ⟨a0, h⟩
 ·
  obtain ⟨a1, h⟩ := gu_inv h
  obtain ⟨a2, h⟩ := gu_inv h
  obtain ⟨a3, h⟩ := gu_inv h
  obtain ⟨x28, a4, h⟩ := el_inv h
  rcases br_inv h with ⟨a5, h⟩ | ⟨a5, h⟩
  ·
   obtain ⟨a6, h⟩ := gu_inv h
   cases h
   exact Arr.loopE (H := hT (ds [41, 61]) [(28, AV.int IntKind.i64 x28)] []) (F := []) (n := 4000) (s' := St.mk 122 [(1, AV.lst (boL sh)), (2, AV.lst (List.map (AV.int IntKind.i64) hm)), (3, AV.lst (List.map (AV.int IntKind.i64) gs)), (4, AV.ptr 0 0 0), (9, AV.sl 1 0 v0.length), (10, AV.int IntKind.i64 (IntKind.i64.wrap (v1 + 1)))] [some (Blk.mk [AV.agg [AV.lst (List.map bA n.bs), AV.lst (gL n.nx), AV.lst (List.map sA n.ss), AV.lst (List.map (AV.int IntKind.i64) n.rs), AV.int IntKind.i64 n.q, AV.int IntKind.i64 n.a, AV.int IntKind.i64 n.d, AV.int IntKind.i64 n.p]] 8 true true none), some (Blk.mk (((List.map (AV.int IntKind.i64) v0).set (0 + v1.toNat) (AV.int IntKind.i64 (-1))).set (0 + v1.toNat) (AV.int IntKind.i64 (-2))) 1 true true none)]) [] [0, 1] [] [1, 2, 3, 4, 9, 10] mix (by kernel_rfl) (aj (aj (u2 (u2 (u2 (al t3)))) (aj a0 (aj (u2 (u2 (aj (k2 (aj a1 a2)) (al (ak a3))))) (aj (u2 (u2 (aj (k2 (aj a1 (getMap (f := AV.int IntKind.i64) a4))) (u2 s2)))) (aj a5 (aj (u2 (u2 (aj (k2 (aj a1 a2)) (al (ak a6))))) (al (u2 (u2 s2))))))))) t9) (by simp [iv, netA, tapeB, lstI, rSdSt, gL, boL, lI, sA, bA])
  ·
   obtain ⟨x36, a6, h⟩ := el_inv h
   rcases br_inv h with ⟨a7, h⟩ | ⟨a7, h⟩
   ·
    obtain ⟨x44, a8, h⟩ := el_inv h
    obtain ⟨a9, h⟩ := gu_inv h
    obtain ⟨a10, h⟩ := gu_inv h
    obtain ⟨a11, h⟩ := gu_inv h
    rcases br_inv h with ⟨a12, h⟩ | ⟨a12, h⟩
    ·
     obtain ⟨x52, a13, h⟩ := el_inv h
     obtain ⟨a14, h⟩ := gu_inv h
     cases h
     exact Arr.loopE (H := hT (ds [41, 60, 79, 95]) [(28, AV.int IntKind.i64 x28), (36, AV.int IntKind.i64 x36), (44, AV.int IntKind.i64 x44), (52, AV.int IntKind.i64 x52)] [(46, hc (AV.bool (opB n sh x44)))]) (F := []) (n := 4000) (s' := St.mk 122 [(1, AV.lst (boL sh)), (2, AV.lst (List.map (AV.int IntKind.i64) hm)), (3, AV.lst (List.map (AV.int IntKind.i64) gs)), (4, AV.ptr 0 0 0), (9, AV.sl 1 0 v0.length), (10, AV.int IntKind.i64 (IntKind.i64.wrap (v1 + 1)))] [some (Blk.mk [AV.agg [AV.lst (List.map bA n.bs), AV.lst (gL n.nx), AV.lst (List.map sA n.ss), AV.lst (List.map (AV.int IntKind.i64) n.rs), AV.int IntKind.i64 n.q, AV.int IntKind.i64 n.a, AV.int IntKind.i64 n.d, AV.int IntKind.i64 n.p]] 8 true true none), some (Blk.mk (((List.map (AV.int IntKind.i64) v0).set (0 + v1.toNat) (AV.int IntKind.i64 (-1))).set (0 + v1.toNat) (AV.int IntKind.i64 x52)) 1 true true none)]) [] [0, 1] [] [1, 2, 3, 4, 9, 10] mix (by kernel_rfl) (aj (aj (u2 (u2 (u2 (al t3)))) (aj a0 (aj (u2 (u2 (aj (k2 (aj a1 a2)) (al (ak a3))))) (aj (u2 (u2 (aj (k2 (aj a1 (getMap (f := AV.int IntKind.i64) a4))) (u2 s2)))) (aj a5 (aj (u2 (u2 (aj (k2 (aj a1 (getMap (f := AV.int IntKind.i64) a6))) (u2 (u2 (u2 (ag a7 (ag a7 (ag a7 (ag a7 (aj (aj a7 (k2 (aj a1 (getMap (f := AV.int IntKind.i64) a8)))) (ag a7 (aj (aj a7 (k3 (aj t9 (k2 (al (ropen_ct (n) (sh) (x44) a9 a10 a11)))))) (al (aj a7 t2))))))))))))))) (aj a12 (aj (u2 (u2 (u2 (u2 (aj (k2 (aj a1 (getMap (f := AV.int IntKind.i64) a13))) (u2 (aj (k2 (aj a1 a2)) (al (k2 a14))))))))) (al (u2 (u2 s2))))))))))) t9) (by simp [iv, netA, tapeB, lstI, rSdSt, gL, boL, lI, sA, bA])
    ·
     cases h
     exact Arr.loopE (H := hT (ds [41, 60, 79, 94]) [(28, AV.int IntKind.i64 x28), (36, AV.int IntKind.i64 x36), (44, AV.int IntKind.i64 x44)] [(46, hc (AV.bool (opB n sh x44)))]) (F := []) (n := 4000) (s' := St.mk 122 [(1, AV.lst (boL sh)), (2, AV.lst (List.map (AV.int IntKind.i64) hm)), (3, AV.lst (List.map (AV.int IntKind.i64) gs)), (4, AV.ptr 0 0 0), (9, AV.sl 1 0 v0.length), (10, AV.int IntKind.i64 (IntKind.i64.wrap (v1 + 1)))] [some (Blk.mk [AV.agg [AV.lst (List.map bA n.bs), AV.lst (gL n.nx), AV.lst (List.map sA n.ss), AV.lst (List.map (AV.int IntKind.i64) n.rs), AV.int IntKind.i64 n.q, AV.int IntKind.i64 n.a, AV.int IntKind.i64 n.d, AV.int IntKind.i64 n.p]] 8 true true none), some (Blk.mk ((List.map (AV.int IntKind.i64) v0).set (0 + v1.toNat) (AV.int IntKind.i64 (-1))) 1 true true none)]) [] [0, 1] [] [1, 2, 3, 4, 9, 10] mix (by kernel_rfl) (aj (aj (u2 (u2 (u2 (al t3)))) (aj a0 (aj (u2 (u2 (aj (k2 (aj a1 a2)) (al (ak a3))))) (aj (u2 (u2 (aj (k2 (aj a1 (getMap (f := AV.int IntKind.i64) a4))) (u2 s2)))) (aj a5 (aj (u2 (u2 (aj (k2 (aj a1 (getMap (f := AV.int IntKind.i64) a6))) (u2 (u2 (u2 (ag a7 (ag a7 (ag a7 (ag a7 (aj (aj a7 (k2 (aj a1 (getMap (f := AV.int IntKind.i64) a8)))) (ag a7 (aj (aj a7 (k3 (aj t9 (k2 (al (ropen_ct (n) (sh) (x44) a9 a10 a11)))))) (al (aj a7 t2))))))))))))))) (aj a12 (al (u2 (u2 s2)))))))))) t9) (by simp [iv, netA, tapeB, lstI, rSdSt, gL, boL, lI, sA, bA])
   ·
    cases h
    exact Arr.loopE (H := hT (ds [41, 60, 78]) [(28, AV.int IntKind.i64 x28), (36, AV.int IntKind.i64 x36)] []) (F := []) (n := 4000) (s' := St.mk 122 [(1, AV.lst (boL sh)), (2, AV.lst (List.map (AV.int IntKind.i64) hm)), (3, AV.lst (List.map (AV.int IntKind.i64) gs)), (4, AV.ptr 0 0 0), (9, AV.sl 1 0 v0.length), (10, AV.int IntKind.i64 (IntKind.i64.wrap (v1 + 1)))] [some (Blk.mk [AV.agg [AV.lst (List.map bA n.bs), AV.lst (gL n.nx), AV.lst (List.map sA n.ss), AV.lst (List.map (AV.int IntKind.i64) n.rs), AV.int IntKind.i64 n.q, AV.int IntKind.i64 n.a, AV.int IntKind.i64 n.d, AV.int IntKind.i64 n.p]] 8 true true none), some (Blk.mk ((List.map (AV.int IntKind.i64) v0).set (0 + v1.toNat) (AV.int IntKind.i64 (-1))) 1 true true none)]) [] [0, 1] [] [1, 2, 3, 4, 9, 10] mix (by kernel_rfl) (aj (aj (u2 (u2 (u2 (al t3)))) (aj a0 (aj (u2 (u2 (aj (k2 (aj a1 a2)) (al (ak a3))))) (aj (u2 (u2 (aj (k2 (aj a1 (getMap (f := AV.int IntKind.i64) a4))) (u2 s2)))) (aj a5 (aj (u2 (u2 (aj (k2 (aj a1 (getMap (f := AV.int IntKind.i64) a6))) (u2 (u2 (u2 (aj a7 (aj a7 (aj a7 (aj a7 (aj a7 (aj a7 (aj a7 (al (aj a7 t2))))))))))))))) (ak (al (u2 (u2 s2)))))))))) t9) (by simp [iv, netA, tapeB, lstI, rSdSt, gL, boL, lI, sA, bA])
 ·
  cases h
  exact Arr.lp [40] [] [] [] [] [0, 1] [1, 2, 4, 9, 11] mix (by kernel_rfl) (aj (aj (u2 (u2 (u2 (al t3)))) (aj a0 s2)) t8)
theorem rSdS1_ok (n : NetD) (sh : List Bool) (hm gs : List Int) (v0 : List Int) (v1 : Int) (o : rSdPc ⊕ Ret) (h : rSdS1 n sh hm gs v0 v1 = some o) : Arr Try.prog Try.f115 0 (rSdSt n sh hm gs) rSdHd (headC Try.f115 1) (.rnd (headC Try.f115 1) :: headK Try.f115 1) (rSdSt n sh hm gs (.l1 v0 v1)) o := by
 unfold rSdS1 at h
 rcases br_inv h with ⟨a0, h⟩ | ⟨a0, h⟩
 ·
  obtain ⟨a1, h⟩ := gu_inv h
  obtain ⟨a2, h⟩ := gu_inv h
  obtain ⟨x64, a3, h⟩ := el_inv h
  rcases br_inv h with ⟨a4, h⟩ | ⟨a4, h⟩
  ·
   obtain ⟨x69, a5, h⟩ := el_inv h
   rcases br_inv h with ⟨a6, h⟩ | ⟨a6, h⟩
   ·
    obtain ⟨x79, a7, h⟩ := el_inv h
    obtain ⟨a8, h⟩ := gu_inv h
    obtain ⟨a9, h⟩ := gu_inv h
    obtain ⟨a10, h⟩ := gu_inv h
    obtain ⟨a11, h⟩ := gu_inv h
    rcases br_inv h with ⟨a12, h⟩ | ⟨a12, h⟩
    ·
     obtain ⟨x88, a13, h⟩ := el_inv h
     obtain ⟨a14, h⟩ := gu_inv h
     cases h
     exact Arr.loopE (H := hT (ds [117, 133, 147, 167]) [(64, AV.int IntKind.i64 x64), (69, AV.int IntKind.i64 x69), (79, AV.int IntKind.i64 x79), (88, AV.int IntKind.i64 x88)] [(81, Hint.call [] [1] [] (AV.int IntKind.i64 (plZ n sh v0 x79)))]) (F := []) (n := 4000) (s' := St.mk 122 [(1, AV.lst (boL sh)), (2, AV.lst (List.map (AV.int IntKind.i64) hm)), (4, AV.ptr 0 0 0), (9, AV.sl 1 0 v0.length), (11, AV.int IntKind.i64 (IntKind.i64.wrap (v1 + 1)))] [some (Blk.mk [AV.agg [AV.lst (List.map bA n.bs), AV.lst (gL n.nx), AV.lst (List.map sA n.ss), AV.lst (List.map (AV.int IntKind.i64) n.rs), AV.int IntKind.i64 n.q, AV.int IntKind.i64 n.a, AV.int IntKind.i64 n.d, AV.int IntKind.i64 n.p]] 8 true true none), some (Blk.mk ((List.map (AV.int IntKind.i64) v0).set (0 + v1.toNat) (AV.int IntKind.i64 x88)) 1 true true none)]) [] [0, 1] [] [1, 2, 4, 9, 11] mix (by kernel_rfl) (aj (aj (u2 (u2 (u2 (al t3)))) (aj a0 (aj (u2 (u2 (aj (k2 (aj a1 a2)) (aj (ak (getMap (f := AV.int IntKind.i64) a3)) (u2 (u2 (ag a4 (ag a4 (aj (aj a4 (k2 (aj a1 (getMap (f := AV.int IntKind.i64) a5)))) (ag a4 (ag a4 (ag a4 (u2 (ag a6 (ag a6 (ag a6 (ag a6 (ag a6 (aj (aj a6 (k2 (aj a1 (getMap (f := AV.int IntKind.i64) a7)))) (ag a6 (aj (aj a6 (ak (k3 (aj t9 (ak (aj (show v0.length = (List.map (AV.int IntKind.i64) v0).length by simp) (ak (aj (rplaces_ct (n) (sh) (v0) (x79) a8 a9 a10 a11) (show ∀ (blk : Blk), blk ∈ [] → ImmB blk from (by intro _ h; cases h)))))))))) (ag a6 (al (aj a6 t2)))))))))))))))))))))))) (aj a12 (aj (u2 (u2 (u2 (u2 (aj (k2 (aj a1 (getMap (f := AV.int IntKind.i64) a13))) (u2 (aj (k2 (aj a1 a2)) (al (k2 a14))))))))) (al (u2 (u2 s2)))))))) t8) (by simp [iv, netA, tapeB, lstI, rSdSt, gL, boL, lI, sA, bA])
    ·
     cases h
     exact Arr.lp [117, 133, 147, 166] [(64, iv x64), (69, iv x69), (79, iv x79)] [(81, Hint.call [] [1] [] (iv (plZ n sh v0 x79)))] [] [] [0, 1] [1, 2, 4, 9, 11] mix (by kernel_rfl) (aj (aj (u2 (u2 (u2 (al t3)))) (aj a0 (aj (u2 (u2 (aj (k2 (aj a1 a2)) (aj (ak (getMap (f := iv) a3)) (u2 (u2 (ag a4 (ag a4 (aj (aj a4 (k2 (aj a1 (getMap (f := iv) a5)))) (ag a4 (ag a4 (ag a4 (u2 (ag a6 (ag a6 (ag a6 (ag a6 (ag a6 (aj (aj a6 (k2 (aj a1 (getMap (f := iv) a7)))) (ag a6 (aj (aj a6 (ak (k3 (aj t9 (ak (aj (show v0.length = (List.map (iv) v0).length by simp) (ak (aj (rplaces_ct (n) (sh) (v0) (x79) a8 a9 a10 a11) (show ∀ (blk : Blk), blk ∈ [] → ImmB blk from (by intro _ h; cases h)))))))))) (ag a6 (al (aj a6 t2)))))))))))))))))))))))) (aj a12 (al (u2 (u2 s2))))))) t8)
   ·
    cases h
    exact Arr.lp [117, 133, 146] [(64, iv x64), (69, iv x69)] [] [] [] [0, 1] [1, 2, 4, 9, 11] mix (by kernel_rfl) (aj (aj (u2 (u2 (u2 (al t3)))) (aj a0 (aj (u2 (u2 (aj (k2 (aj a1 a2)) (aj (ak (getMap (f := iv) a3)) (u2 (u2 (ag a4 (ag a4 (aj (aj a4 (k2 (aj a1 (getMap (f := iv) a5)))) (ag a4 (ag a4 (ag a4 (u2 (aj a6 (aj a6 (aj a6 (aj a6 (aj a6 (aj a6 (aj a6 (aj a6 (aj a6 (al (aj a6 t2)))))))))))))))))))))))) (ak (al (u2 (u2 s2))))))) t8)
  ·
   cases h
   exact Arr.lp [117, 132] [(64, iv x64)] [] [] [] [0, 1] [1, 2, 4, 9, 11] mix (by kernel_rfl) (aj (aj (u2 (u2 (u2 (al t3)))) (aj a0 (aj (u2 (u2 (aj (k2 (aj a1 a2)) (aj (ak (getMap (f := iv) a3)) (u2 (u2 (aj a4 (aj a4 (aj a4 (aj a4 (aj a4 (ag a4 (u2 (ak (k3 (k5 (al t3))))))))))))))))) (ak (al (u2 (u2 s2))))))) t8)
 ·
  cases h
  exact Arr.lp [116] [] [] [] [] [0, 1] [1, 4, 9, 12] mix (by kernel_rfl) (aj (aj (u2 (u2 (u2 (al t3)))) (aj a0 s2)) t7)
theorem rSdS2_ok (n : NetD) (sh : List Bool) (hm gs : List Int) (v0 : List Int) (v1 : Int) (o : rSdPc ⊕ Ret) (h : rSdS2 n sh hm gs v0 v1 = some o) : Arr Try.prog Try.f115 0 (rSdSt n sh hm gs) rSdHd (headC Try.f115 2) (.rnd (headC Try.f115 2) :: headK Try.f115 2) (rSdSt n sh hm gs (.l2 v0 v1)) o := by
 unfold rSdS2 at h
 rcases br_inv h with ⟨a0, h⟩ | ⟨a0, h⟩
 ·
  cases h
  exact Arr.lp [189] [] [] [] [] [0, 1] [1, 4, 9, 12, 13] mix (by kernel_rfl) (aj (aj (u2 (u2 (u2 (al t3)))) (aj a0 s2)) t8)
 ·
  cases h
  exact Arr.rt [188] [] [] [] [] [1] mix (by kernel_rfl) (aj (aj (u2 (u2 (u2 (al t3)))) (aj a0 (al (u2 s2)))) (al (show v0.length = (List.map (iv) v0).length by simp)))
theorem rSdS3_ok (n : NetD) (sh : List Bool) (hm gs : List Int) (v0 : List Int) (v1 : Int) (v2 : Int) (o : rSdPc ⊕ Ret) (h : rSdS3 n sh hm gs v0 v1 v2 = some o) : Arr Try.prog Try.f115 0 (rSdSt n sh hm gs) rSdHd (headC Try.f115 3) (.rnd (headC Try.f115 3) :: headK Try.f115 3) (rSdSt n sh hm gs (.l3 v0 v1 v2)) o := by
 unfold rSdS3 at h
 rcases br_inv h with ⟨a0, h⟩ | ⟨a0, h⟩
 ·
  obtain ⟨a1, h⟩ := gu_inv h
  obtain ⟨a2, h⟩ := gu_inv h
  obtain ⟨x106, a3, h⟩ := el_inv h
  rcases br_inv h with ⟨a4, h⟩ | ⟨a4, h⟩
  ·
   obtain ⟨a5, h⟩ := gu_inv h
   obtain ⟨a6, h⟩ := gu_inv h
   obtain ⟨a7, h⟩ := gu_inv h
   obtain ⟨a8, h⟩ := gu_inv h
   rcases br_inv h with ⟨a9, h⟩ | ⟨a9, h⟩
   ·
    obtain ⟨a10, h⟩ := gu_inv h
    cases h
    exact Arr.loopE (H := hT (ds [205, 217, 233]) [(106, AV.int IntKind.i64 x106)] [(115, Hint.call [] [1] [] (AV.int IntKind.i64 (plZ n sh v0 v2)))]) (F := []) (n := 4000) (s' := St.mk 122 [(1, AV.lst (boL sh)), (4, AV.ptr 0 0 0), (9, AV.sl 1 0 v0.length), (12, AV.int IntKind.i64 v1), (13, AV.int IntKind.i64 (IntKind.i64.wrap (v2 + 1)))] [some (Blk.mk [AV.agg [AV.lst (List.map bA n.bs), AV.lst (gL n.nx), AV.lst (List.map sA n.ss), AV.lst (List.map (AV.int IntKind.i64) n.rs), AV.int IntKind.i64 n.q, AV.int IntKind.i64 n.a, AV.int IntKind.i64 n.d, AV.int IntKind.i64 n.p]] 8 true true none), some (Blk.mk ((List.map (AV.int IntKind.i64) v0).set (0 + v1.toNat) (AV.int IntKind.i64 v2)) 1 true true none)]) [] [0, 1] [] [1, 4, 9, 12, 13] mix (by kernel_rfl) (aj (aj (u2 (u2 (u2 (u2 (aj t3 (u2 (ag a0 (ag a0 (aj (aj a0 (k2 (aj a1 a2))) (aj (aj a0 (ak (getMap (f := AV.int IntKind.i64) a3))) (ag a0 (al (aj a0 t2))))))))))))) (aj a4 (aj (u2 (u2 (u2 (u2 (aj (ak (k3 (aj t9 (ak (aj (show v0.length = (List.map (AV.int IntKind.i64) v0).length by simp) (ak (aj (rplaces_ct (n) (sh) (v0) (v2) a5 a6 a7 a8) (show ∀ (blk : Blk), blk ∈ [] → ImmB blk from (by intro _ h; cases h))))))))) s2))))) (aj a9 (aj (u2 (u2 (u2 (aj (k2 (aj a1 a2)) (al (k2 a10)))))) (al (u2 (u2 s2)))))))) t8) (by simp [iv, netA, tapeB, lstI, rSdSt, gL, boL, lI, sA, bA])
   ·
    cases h
    exact Arr.lp [205, 217, 232] [(106, iv x106)] [(115, Hint.call [] [1] [] (iv (plZ n sh v0 v2)))] [] [] [0, 1] [1, 4, 9, 12, 13] mix (by kernel_rfl) (aj (aj (u2 (u2 (u2 (u2 (aj t3 (u2 (ag a0 (ag a0 (aj (aj a0 (k2 (aj a1 a2))) (aj (aj a0 (ak (getMap (f := iv) a3))) (ag a0 (al (aj a0 t2))))))))))))) (aj a4 (aj (u2 (u2 (u2 (u2 (aj (ak (k3 (aj t9 (ak (aj (show v0.length = (List.map (iv) v0).length by simp) (ak (aj (rplaces_ct (n) (sh) (v0) (v2) a5 a6 a7 a8) (show ∀ (blk : Blk), blk ∈ [] → ImmB blk from (by intro _ h; cases h))))))))) s2))))) (aj a9 (al (u2 (u2 s2))))))) t8)
  ·
   cases h
   exact Arr.lp [205, 216] [(106, iv x106)] [] [] [] [0, 1] [1, 4, 9, 12] mix (by kernel_rfl) (aj (aj (u2 (u2 (u2 (u2 (aj t3 (u2 (ag a0 (ag a0 (aj (aj a0 (k2 (aj a1 a2))) (aj (aj a0 (ak (getMap (f := iv) a3))) (ag a0 (al (aj a0 t2))))))))))))) (aj a4 (al (u2 (u2 s2))))) t7)
 ·
  cases h
  exact Arr.lp [204] [] [] [] [] [0, 1] [1, 4, 9, 12] mix (by kernel_rfl) (aj (aj (u2 (u2 (u2 (u2 (aj t3 (u2 (aj a0 (aj a0 (aj a0 (aj a0 (aj a0 (al (aj a0 t2))))))))))))) (ak (al (u2 (u2 s2))))) t7)
theorem rSd_ct (n : NetD) (sh : List Bool) (hm gs : List Int) (r : Ret) (h : MReach (rSdStep n sh hm gs) (rSdEn n sh hm gs) r) : CT Try.prog 115 ([]) ([netA n, .lst (boL sh), lI hm, lI gs]) r.1 r.2 :=
  CT.mach (fn := Try.f115) (c := bodyOf Try.f115) (S := rSdSt n sh hm gs) (hd := rSdHd) Try.func115 (by kernel_rfl) (Nat.le_of_ble_eq_true rfl)
    (fun s o ho => match s, ho with
      | .l0 v0 v1, ho => rSdS0_ok n sh hm gs v0 v1 o ho
      | .l1 v0 v1, ho => rSdS1_ok n sh hm gs v0 v1 o ho
      | .l2 v0 v1, ho => rSdS2_ok n sh hm gs v0 v1 o ho
      | .l3 v0 v1 v2, ho => rSdS3_ok n sh hm gs v0 v1 v2 o ho
    )
    (fun o ho => rSdEn_ok n sh hm gs o ho) h
theorem hfree_ct (n : NetD) (sh : List Bool) (hm : List Int) (sp : Int) (hrw : Rows n.nx) (hv : ValidN n) (hl : sh.length = celN n) (h : 0 ≤ sp ∧ sp < n.ss.length) (h8 : hm.length ≤ 1000) : CT Try.prog 109 [] [netA n, .lst (boL sh), lI hm, .int .i64 sp] [] (.int .i64 (plZ n sh hm sp)) := by
  refine hFr_ct n sh hm sp ([], _) ?_
  obtain ⟨s, hs⟩ : ∃ s, n.ss[sp.toNat]? = some s := ⟨_, List.getElem?_eq_getElem (by omega)⟩
  have sb := hv.sb hs
  unfold hFrEn plZ slk
  rw [gu_t hrw, gu_t hv, gu_t hl, gu_t h, hs]
  cases ho : odB n sh sp with
  | false => exact .ret _
  | true =>
    rw [br_f (by rfl), gu_t h.1, el_t hs, if_pos rfl]
    unfold plV
    have e0 : s.k = s.k - cntZ hm sp 0 := by unfold cntZ; simp
    suffices hh : MReach (hFrStep n sh hm sp) (some (.inl (.l0 (s.k - cntZ hm sp 0) ((0 : Nat) : Int)))) (([], .int .i64 (if s.k - cntZ hm sp hm.length < 0 then 0 else s.k - cntZ hm sp hm.length)) : Ret) by
      rw [← e0] at hh; exact hh
    refine loop_up (fun i => hFrPc.l0 (s.k - cntZ hm sp i) (i : Int)) hm.length (fun i hi hr => .to ?_ hr) (.to ?_ (.ret _))
    · obtain ⟨x, hx⟩ : ∃ x, hm[i]? = some x := ⟨_, List.getElem?_eq_getElem hi⟩
      have b := cntZ_bd hm sp i
      show hFrS0 n sh hm sp _ i = _
      unfold hFrS0
      rw [rngS hx, cntZ_succ hx, wrap_nat i (by omega), wrapS (s.k - cntZ hm sp i - 1) (by omega) (by omega)]
      cases x == sp with
      | false => simp [br]
      | true => simp only [br, if_true]; rw [show s.k - cntZ hm sp i - 1 = s.k - (cntZ hm sp i + 1) by omega]
    · show hFrS0 n sh hm sp _ hm.length = _
      unfold hFrS0
      rw [rngE]
def p1 (n : NetD) (sh : List Bool) (hm gs : List Int) (i : Nat) : Int := if hm.getD i 0 == -2 then -2 else if decide (0 ≤ gs.getD i 0) && opB n sh (gs.getD i 0) then gs.getD i 0 else -1
def F1 (n : NetD) (sh : List Bool) (hm gs : List Int) (b : Int) (k : Nat) : List Int := (List.range hm.length).map fun j => if j < k then p1 n sh hm gs j else b
def st2 (n : NetD) (sh : List Bool) (hm : List Int) (l : List Int) (i : Nat) : List Int := if (l.getD i 0 == -1 && (decide (0 ≤ hm.getD i 0) && decide (0 < plZ n sh l (hm.getD i 0)))) = true then l.set i (hm.getD i 0) else l
def F2 (n : NetD) (sh : List Bool) (hm gs : List Int) : Nat → List Int
  | 0 => F1 n sh hm gs 0 hm.length
  | k + 1 => st2 n sh hm (F2 n sh hm gs k) k
def st3 (n : NetD) (sh : List Bool) (i : Nat) (l : List Int) (s : Nat) : List Int := if (l.getD i 0 == -1 && decide (0 < plZ n sh l s)) = true then l.set i s else l
def G3 (n : NetD) (sh : List Bool) (i : Nat) (l : List Int) : Nat → List Int
  | 0 => l
  | k + 1 => st3 n sh i (G3 n sh i l k) k
def F3 (n : NetD) (sh : List Bool) (hm gs : List Int) : Nat → List Int
  | 0 => F2 n sh hm gs hm.length
  | k + 1 => G3 n sh k (F3 n sh hm gs k) n.ss.length
def setZ (n : NetD) (sh : List Bool) (hm gs : List Int) : List Int := F3 n sh hm gs hm.length
theorem F1_len {n : NetD} {sh : List Bool} {hm gs : List Int} {b : Int} {k : Nat} : (F1 n sh hm gs b k).length = hm.length := by simp [F1]
theorem st2_len {n : NetD} {sh : List Bool} {hm l : List Int} {i : Nat} : (st2 n sh hm l i).length = l.length := by unfold st2; split <;> simp
theorem F2_len {n : NetD} {sh : List Bool} {hm gs : List Int} : ∀ k, (F2 n sh hm gs k).length = hm.length
  | 0 => F1_len
  | k + 1 => by rw [F2, st2_len, F2_len k]
theorem st3_len {n : NetD} {sh : List Bool} {i : Nat} {l : List Int} {s : Nat} : (st3 n sh i l s).length = l.length := by unfold st3; split <;> simp
theorem G3_len {n : NetD} {sh : List Bool} {i : Nat} {l : List Int} : ∀ k, (G3 n sh i l k).length = l.length
  | 0 => rfl
  | k + 1 => by rw [G3, st3_len, G3_len k]
theorem F3_len {n : NetD} {sh : List Bool} {hm gs : List Int} : ∀ k, (F3 n sh hm gs k).length = hm.length
  | 0 => F2_len _
  | k + 1 => by rw [F3, G3_len, F3_len k]
theorem F1_set {n : NetD} {sh : List Bool} {hm gs : List Int} {b : Int} {k : Nat} (hk : k < hm.length) : (F1 n sh hm gs b k).set k (p1 n sh hm gs k) = F1 n sh hm gs b (k + 1) := by
  apply List.ext_getElem
  · simp [F1]
  · intro j h1 h2
    simp only [F1, List.getElem_set, List.getElem_map, List.getElem_range]
    by_cases h : k = j
    · subst h; simp
    · rw [if_neg h]
      by_cases h3 : j < k
      · rw [if_pos h3, if_pos (by omega)]
      · rw [if_neg h3, if_neg (by omega)]
theorem F1_full {n : NetD} {sh : List Bool} {hm gs : List Int} {b c : Int} : F1 n sh hm gs b hm.length = F1 n sh hm gs c hm.length := by
  unfold F1
  apply List.map_congr_left
  intro j hj
  rw [if_pos (List.mem_range.1 hj), if_pos (List.mem_range.1 hj)]
theorem F1_zero {n : NetD} {sh : List Bool} {hm gs : List Int} {b : Int} : F1 n sh hm gs b 0 = List.replicate hm.length b := by
  apply List.ext_getElem
  · simp [F1]
  · intro j h1 h2; simp [F1]
theorem G3_stop {n : NetD} {sh : List Bool} {i : Nat} {l : List Int} {k : Nat} (h : (G3 n sh i l k).getD i 0 ≠ -1) : ∀ m, G3 n sh i l (k + m) = G3 n sh i l k
  | 0 => rfl
  | m + 1 => by
    rw [← Nat.add_assoc, G3, G3_stop h m]
    unfold st3
    rw [if_neg (by simp; intro e; exact absurd e h)]
theorem getZ {l : List Int} {i : Nat} (h : i < l.length) : l[i]? = some (l.getD i 0) := by rw [List.getD_eq_getElem?_getD, List.getElem?_eq_getElem h]; rfl
theorem rSettled_ct (n : NetD) (sh : List Bool) (hm gs : List Int) (hv : ValidN n) (hl : sh.length = celN n) (h8 : hm.length ≤ 8) (hh : hm.all (hmB n) = true) (hg : isB n hm gs = true) : CT Try.prog 115 [] [netA n, .lst (boL sh), lI hm, lI gs] [] (lI (setZ n sh hm gs)) := by
  have ns := hv.ns
  obtain ⟨hgl, hga⟩ : gs.length = hm.length ∧ ∀ x ∈ gs, inB n x = true := by
    unfold isB at hg; simp only [Bool.and_eq_true, beq_iff_eq, List.all_eq_true] at hg; exact hg
  have hhm : ∀ x ∈ hm, hmB n x = true := by simpa using hh
  have dpr : ∀ x, dpB n x = true → 0 ≤ x ∧ x < n.ss.length := fun x h => by
    by_cases a : x < 0
    · rw [dpB_out (.inl a)] at h; cases h
    · by_cases b : (n.ss.length : Int) ≤ x
      · rw [dpB_out (.inr b)] at h; cases h
      · omega
  refine rSd_ct n sh hm gs ([], _) ?_
  unfold rSdEn
  rw [gu_t (by simp [iN]; omega), gu_t (by simp [iN]; omega), List.length_map, ← F1_zero (n := n) (sh := sh) (hm := hm) (gs := gs)]
  have nw : ∀ i : Nat, i ≤ 1000 → IntKind.i64.wrap ((i : Int) + 1) = ((i + 1 : Nat) : Int) := fun i h => wrap_nat i (by omega)
  refine loop_up (fun i => rSdPc.l0 (F1 n sh hm gs 0 i) (i : Int)) hm.length (fun i hi hr => .to ?_ hr) (.to (show _ = some (.inl (.l1 (F2 n sh hm gs 0) 0)) from ?_) ?_)
  · show rSdS0 n sh hm gs _ i = _
    have hx := getZ hi
    have hy := getZ (show i < gs.length by omega)
    unfold rSdS0
    have e0 : (0 + i).succ.le ((F1 n sh hm gs 0 i).map (AV.int .i64)).length := by rw [List.length_map, F1_len]; show 0 + i + 1 ≤ _; omega
    rw [br_t (dec_t (by simp only [iN, F1_len]; omega)), gu_t (by omega), gu_t (by simp only [iN, F1_len]; omega), Int.toNat_natCast, gu_t e0, el_t hx, nw i (by omega)]
    simp only [Nat.zero_add]
    have fs := F1_set (n := n) (sh := sh) (gs := gs) (b := 0) hi
    by_cases h1 : (hm.getD i 0 == -2) = true
    · rw [br_t h1, gu_t (by simp only [List.length_set, List.length_map, F1_len]; show i + 1 ≤ _; omega), List.set_set]
      have : p1 n sh hm gs i = -2 := by unfold p1; rw [if_pos h1]
      rw [this] at fs; rw [fs]
    · rw [br_f (by simpa using h1)]
      simp only [el_t hy]
      by_cases h2 : 0 ≤ gs.getD i 0
      · have hin := hga _ (List.mem_of_getElem? hy)
        have hd : dpB n (gs.getD i 0) = true := by
          unfold inB at hin
          rw [show (gs.getD i 0 == -1) = false by simp only [beq_eq_false_iff_ne]; omega, Bool.false_or] at hin
          exact hin
        rw [br_t (dec_t h2), gu_t hv, gu_t hl, gu_t (dpr _ hd)]
        cases ho : opB n sh (gs.getD i 0) with
        | true =>
          rw [br_t rfl, gu_t (by simp only [List.length_set, List.length_map, F1_len]; show i + 1 ≤ _; omega), List.set_set]
          have : p1 n sh hm gs i = gs.getD i 0 := by unfold p1; rw [if_neg h1, if_pos (by rw [ho, dec_t h2]; rfl)]
          rw [this] at fs; rw [fs]
        | false =>
          have : p1 n sh hm gs i = -1 := by unfold p1; rw [if_neg h1, if_neg (by rw [ho]; simp)]
          rw [this] at fs; rw [br_f rfl, fs]
      · have : p1 n sh hm gs i = -1 := by unfold p1; rw [if_neg h1, if_neg (by rw [dec_f h2]; simp)]
        rw [this] at fs; rw [br_f (dec_f h2), fs]
  · show rSdS0 n sh hm gs _ hm.length = _
    unfold rSdS0
    rw [br_f (dec_f (by simp only [iN, F1_len]; omega))]; rfl
  refine loop_up (fun i => rSdPc.l1 (F2 n sh hm gs i) (i : Int)) hm.length (fun i hi hr => .to ?_ hr) (.to (show _ = some (.inl (.l2 (F3 n sh hm gs 0) 0)) from ?_) ?_)
  · show rSdS1 n sh hm gs _ i = _
    have hx := getZ hi
    have hy := getZ (l := F2 n sh hm gs i) (i := i) (by rw [F2_len]; exact hi)
    unfold rSdS1
    rw [br_t (dec_t (by simp only [iN, F2_len]; omega)), gu_t (by omega), gu_t (by simp only [iN, F2_len]; omega), Int.toNat_natCast, Nat.zero_add, el_t hy, nw i (by omega)]
    simp only [el_t hx]
    show _ = some (Sum.inl (rSdPc.l1 (st2 n sh hm (F2 n sh hm gs i) i) ((i + 1 : Nat) : Int)))
    unfold st2
    cases h1 : (F2 n sh hm gs i).getD i 0 == -1 with
    | false => rw [br_f rfl]; rfl
    | true =>
      rw [br_t rfl]
      by_cases h2 : 0 ≤ hm.getD i 0
      · have hin := hhm _ (List.mem_of_getElem? hx)
        have hd : dpB n (hm.getD i 0) = true := by
          unfold hmB at hin
          rw [show (hm.getD i 0 == -1) = false by simp only [beq_eq_false_iff_ne]; omega, show (hm.getD i 0 == -2) = false by simp only [beq_eq_false_iff_ne]; omega] at hin
          exact hin
        rw [br_t (dec_t h2), gu_t hv, gu_t hl, gu_t (dpr _ hd), gu_t (by rw [F2_len]; omega), dec_t h2]
        by_cases h3 : 0 < plZ n sh (F2 n sh hm gs i) (hm.getD i 0)
        · rw [br_t (dec_t h3), dec_t h3, gu_t (by rw [List.length_map, F2_len]; show i + 1 ≤ _; omega)]; rfl
        · rw [br_f (dec_f h3), dec_f h3]; rfl
      · rw [br_f (dec_f h2), dec_f h2]; rfl
  · show rSdS1 n sh hm gs _ hm.length = _
    unfold rSdS1
    rw [br_f (dec_f (by simp only [iN, F2_len]; omega))]; rfl
  refine loop_up (fun i => rSdPc.l2 (F3 n sh hm gs i) (i : Int)) hm.length (fun i hi hr => ?_) (.to ?_ (.ret _))
  · refine .to (show rSdS2 n sh hm gs _ i = some (.inl (.l3 (G3 n sh i (F3 n sh hm gs i) 0) (i : Int) ((0 : Nat) : Int))) from ?_) ?_
    · unfold rSdS2
      rw [br_t (dec_t (by simp only [iN, F3_len]; omega))]; rfl
    have inner : ∀ m k, k + m = n.ss.length → MReach (rSdStep n sh hm gs) (some (.inl (.l3 (G3 n sh i (F3 n sh hm gs i) k) (i : Int) (k : Int)))) (([], lI (setZ n sh hm gs)) : Ret) := by
      intro m
      induction m with
      | zero =>
        intro k hk
        have e : k = n.ss.length := by omega
        subst e
        refine .to ?_ hr
        show rSdS3 n sh hm gs _ i _ = _
        unfold rSdS3
        rw [rngE, nw i (by omega)]; rfl
      | succ m ih =>
        intro k hk
        have hy := getZ (l := G3 n sh i (F3 n sh hm gs i) k) (i := i) (by rw [G3_len, F3_len]; exact hi)
        have e3 : rSdS3 n sh hm gs (G3 n sh i (F3 n sh hm gs i) k) i k = br ((G3 n sh i (F3 n sh hm gs i) k).getD i 0 == -1) (some (.inl (.l3 (G3 n sh i (F3 n sh hm gs i) (k + 1)) (i : Int) ((k + 1 : Nat) : Int)))) (some (.inl (.l2 (G3 n sh i (F3 n sh hm gs i) k) ((i + 1 : Nat) : Int)))) := by
          unfold rSdS3
          rw [br_t (rngB (by omega)), gu_t (by omega), gu_t (by simp only [iN, G3_len, F3_len]; omega), Int.toNat_natCast, Nat.zero_add, el_t hy, nw i (by omega), nw k (by omega)]
          cases h1 : (G3 n sh i (F3 n sh hm gs i) k).getD i 0 == -1 with
          | false => rfl
          | true =>
            rw [br_t rfl, br_t rfl, gu_t hv, gu_t hl, gu_t (by simp only [iN]; omega), gu_t (by rw [G3_len, F3_len]; omega)]
            rw [G3]
            unfold st3
            by_cases h3 : 0 < plZ n sh (G3 n sh i (F3 n sh hm gs i) k) (k : Int)
            · rw [br_t (dec_t h3), gu_t (by rw [List.length_map, G3_len, F3_len]; show i + 1 ≤ _; omega), if_pos (by rw [h1, dec_t h3]; rfl)]
            · rw [br_f (dec_f h3), if_neg (by rw [dec_f h3]; simp)]
        cases h1 : (G3 n sh i (F3 n sh hm gs i) k).getD i 0 == -1 with
        | true =>
          rw [h1, br_t rfl] at e3
          exact .to e3 (ih (k + 1) (by omega))
        | false =>
          rw [h1, br_f rfl] at e3
          refine .to e3 ?_
          have hst := G3_stop (n := n) (sh := sh) (i := i) (l := F3 n sh hm gs i) (k := k) (by simpa using h1) (m + 1)
          rw [hk] at hst
          have : G3 n sh i (F3 n sh hm gs i) k = F3 n sh hm gs (i + 1) := by rw [F3, ← hst]
          rw [this]; exact hr
    exact inner n.ss.length 0 (by omega)
  · show rSdS2 n sh hm gs _ hm.length = _
    unfold rSdS2
    rw [br_f (dec_f (by simp only [iN, F3_len]; omega))]; rfl
noncomputable def hFeSt (n : NetD) (sh : List Bool) (hm : List Int) (sp : Int) : Empty → St
  | x => x.elim
def hFeHd : Empty → Nat
  | x => x.elim
noncomputable def hFeEn (n : NetD) (sh : List Bool) (hm : List Int) (sp : Int) : Option (Empty ⊕ Ret) :=
  gu (Rows n.nx) <|
  br (hkE n sh hm != 0)
  (some (.inr ([], AV.tup [AV.int IntKind.i64 0, AV.int IntKind.i64 (hkE n sh hm)])))
  (br (decide (sp < 0))
   (some (.inr ([], AV.tup [AV.int IntKind.i64 0, AV.int IntKind.i64 19])))
   (br (decide (iN (List.map sA n.ss).length ≤ sp))
    (some (.inr ([], AV.tup [AV.int IntKind.i64 0, AV.int IntKind.i64 19])))
    (gu (ValidN n) <|
     gu (sh.length = celN n) <|
     gu (0 ≤ sp ∧ sp < iN n.ss.length) <|
     gu (hm.length ≤ 1000) <|
     some (.inr ([], AV.tup [AV.int IntKind.i64 (plZ n sh hm sp), AV.int IntKind.i64 0])))))
noncomputable def hFeStep (n : NetD) (sh : List Bool) (hm : List Int) (sp : Int) : Empty → Option (Empty ⊕ Ret)
  | x => x.elim
theorem hFeEn_ok (n : NetD) (sh : List Bool) (hm : List Int) (sp : Int) (o : Empty ⊕ Ret) (h : hFeEn n sh hm sp = some o) : Arr Try.prog Try.f60 0 (hFeSt n sh hm sp) hFeHd (bodyOf Try.f60) [] { n := Try.f60.ntmps, fr := enumF 0 ([netA n, .lst (boL sh), lI hm, .int .i64 sp]), hp := ([]) } o := by
 unfold hFeEn at h
 obtain ⟨a0, h⟩ := gu_inv h
 rcases br_inv h with ⟨a1, h⟩ | ⟨a1, h⟩
 ·
  cases h
  exact Arr.rt [31] [] [(14, hc (iv (hkE n sh hm)))] [] [] [] mix (by kernel_rfl) (aj (aj (u2 t3) (aj (u2 (u2 (u2 (aj (k3 (aj t9 (k2 (al (hcheck_ct a0 (sh) (hm)))))) s2)))) (aj (u2 (u2 s2)) (aj a1 (al (u2 (ak s2))))))) (al t3))
 ·
  rcases br_inv h with ⟨a2, h⟩ | ⟨a2, h⟩
  ·
   cases h
   exact Arr.rt [30, 45] [] [(14, hc (iv (hkE n sh hm)))] [] [] [] mix (by kernel_rfl) (aj (aj (u2 t3) (aj (u2 (u2 (u2 (aj (k3 (aj t9 (k2 (al (hcheck_ct a0 (sh) (hm)))))) s2)))) (aj (u2 (u2 s2)) (aj a1 (aj (u2 (u2 (u2 (aj a2 (aj a2 (aj a2 (aj a2 (aj a2 (ag a2 s2))))))))) (ak (al t3))))))) (al t3))
  ·
   rcases br_inv h with ⟨a3, h⟩ | ⟨a3, h⟩
   ·
    cases h
    exact Arr.rt [30, 44, 39] [] [(14, hc (iv (hkE n sh hm)))] [] [] [] mix (by kernel_rfl) (aj (aj (u2 t3) (aj (u2 (u2 (u2 (aj (k3 (aj t9 (k2 (al (hcheck_ct a0 (sh) (hm)))))) s2)))) (aj (u2 (u2 s2)) (aj a1 (aj (u2 (u2 (u2 (ag a2 (ag a2 (ag a2 (ag a2 (aj (aj a2 t3) (ag a2 s2))))))))) (aj a3 (al t3))))))) (al t3))
   ·
    obtain ⟨a4, h⟩ := gu_inv h
    obtain ⟨a5, h⟩ := gu_inv h
    obtain ⟨a6, h⟩ := gu_inv h
    obtain ⟨a7, h⟩ := gu_inv h
    cases h
    exact Arr.rt [30, 44, 38] [] [(14, hc (iv (hkE n sh hm))), (33, hc (iv (plZ n sh hm sp)))] [] [] [] mix (by kernel_rfl) (aj (aj (u2 t3) (aj (u2 (u2 (u2 (aj (k3 (aj t9 (k2 (al (hcheck_ct a0 (sh) (hm)))))) s2)))) (aj (u2 (u2 s2)) (aj a1 (aj (u2 (u2 (u2 (ag a2 (ag a2 (ag a2 (ag a2 (aj (aj a2 t3) (ag a2 s2))))))))) (aj a3 (al (u2 (u2 (u2 (u2 (aj (ak (k3 (aj t9 (k3 (al (hfree_ct (n) (sh) (hm) (sp) a0 a4 a5 a6 a7)))))) (u2 t2))))))))))))) (al t3))
theorem hFe_ct (n : NetD) (sh : List Bool) (hm : List Int) (sp : Int) (r : Ret) (h : MReach (hFeStep n sh hm sp) (hFeEn n sh hm sp) r) : CT Try.prog 60 ([]) ([netA n, .lst (boL sh), lI hm, .int .i64 sp]) r.1 r.2 :=
  CT.mach (fn := Try.f60) (c := bodyOf Try.f60) (S := hFeSt n sh hm sp) (hd := hFeHd) Try.func60 (by kernel_rfl) (Nat.le_of_ble_eq_true rfl)
    (fun s o ho => match s, ho with
      | x, _ => x.elim)
    (fun o ho => hFeEn_ok n sh hm sp o ho) h
noncomputable def rFeSt (n : NetD) (sh : List Bool) (hm : List Int) (sp : Int) : Empty → St
  | x => x.elim
def rFeHd : Empty → Nat
  | x => x.elim
noncomputable def rFeEn (n : NetD) (sh : List Bool) (hm : List Int) (sp : Int) : Option (Empty ⊕ Ret) :=
  gu (Rows n.nx) <|
  br (hkE n sh hm != 0)
  (some (.inr ([], AV.tup [AV.int IntKind.i64 0, AV.int IntKind.i64 (hkE n sh hm)])))
  (br (decide (sp < 0))
   (some (.inr ([], AV.tup [AV.int IntKind.i64 0, AV.int IntKind.i64 19])))
   (br (decide (iN (List.map sA n.ss).length ≤ sp))
    (some (.inr ([], AV.tup [AV.int IntKind.i64 0, AV.int IntKind.i64 19])))
    (gu (ValidN n) <|
     gu (sh.length = celN n) <|
     gu (0 ≤ sp ∧ sp < iN n.ss.length) <|
     gu (hm.length ≤ 1000) <|
     some (.inr ([], AV.tup [AV.int IntKind.i64 (plZ n sh hm sp), AV.int IntKind.i64 0])))))
noncomputable def rFeStep (n : NetD) (sh : List Bool) (hm : List Int) (sp : Int) : Empty → Option (Empty ⊕ Ret)
  | x => x.elim
theorem rFeEn_ok (n : NetD) (sh : List Bool) (hm : List Int) (sp : Int) (o : Empty ⊕ Ret) (h : rFeEn n sh hm sp = some o) : Arr Try.prog Try.f61 0 (rFeSt n sh hm sp) rFeHd (bodyOf Try.f61) [] { n := Try.f61.ntmps, fr := enumF 0 ([netA n, .lst (boL sh), lI hm, .int .i64 sp]), hp := ([]) } o := by
 unfold rFeEn at h
 obtain ⟨a0, h⟩ := gu_inv h
 rcases br_inv h with ⟨a1, h⟩ | ⟨a1, h⟩
 ·
  cases h
  exact Arr.rt [33] [] [(14, hc (iv (hkE n sh hm)))] [] [] [] mix (by kernel_rfl) (aj (aj (u2 t3) (aj (u2 (u2 (u2 (aj (k3 (aj t9 (k2 (al (rhcheck_ct a0 (sh) (hm)))))) s2)))) (aj (u2 s2) (aj a1 (al (u2 (ak s2))))))) (al t3))
 ·
  rcases br_inv h with ⟨a2, h⟩ | ⟨a2, h⟩
  ·
   cases h
   exact Arr.rt [32, 41] [] [(14, hc (iv (hkE n sh hm)))] [] [] [] mix (by kernel_rfl) (aj (aj (u2 t3) (aj (u2 (u2 (u2 (aj (k3 (aj t9 (k2 (al (rhcheck_ct a0 (sh) (hm)))))) s2)))) (aj (u2 s2) (aj a1 (aj (u2 (u2 (u2 (aj a2 (aj a2 (aj a2 (aj a2 (aj a2 (al (aj a2 t2)))))))))) (ak (al t3))))))) (al t3))
  ·
   rcases br_inv h with ⟨a3, h⟩ | ⟨a3, h⟩
   ·
    cases h
    exact Arr.rt [32, 40, 53] [] [(14, hc (iv (hkE n sh hm)))] [] [] [] mix (by kernel_rfl) (aj (aj (u2 t3) (aj (u2 (u2 (u2 (aj (k3 (aj t9 (k2 (al (rhcheck_ct a0 (sh) (hm)))))) s2)))) (aj (u2 s2) (aj a1 (aj (u2 (u2 (u2 (ag a2 (ag a2 (ag a2 (ag a2 (aj (aj a2 t3) (al (aj a2 t2)))))))))) (aj a3 (al t3))))))) (al t3))
   ·
    obtain ⟨a4, h⟩ := gu_inv h
    obtain ⟨a5, h⟩ := gu_inv h
    obtain ⟨a6, h⟩ := gu_inv h
    obtain ⟨a7, h⟩ := gu_inv h
    cases h
    exact Arr.rt [32, 40, 52] [] [(14, hc (iv (hkE n sh hm))), (31, hc (iv (plZ n sh hm sp)))] [] [] [] mix (by kernel_rfl) (aj (aj (u2 t3) (aj (u2 (u2 (u2 (aj (k3 (aj t9 (k2 (al (rhcheck_ct a0 (sh) (hm)))))) s2)))) (aj (u2 s2) (aj a1 (aj (u2 (u2 (u2 (ag a2 (ag a2 (ag a2 (ag a2 (aj (aj a2 t3) (al (aj a2 t2)))))))))) (aj a3 (al (u2 (u2 (u2 (u2 (aj (ak (k3 (aj t9 (k3 (al (rplaces_ct (n) (sh) (hm) (sp) a4 a5 a6 a7)))))) (u2 t2))))))))))))) (al t3))
theorem rFe_ct (n : NetD) (sh : List Bool) (hm : List Int) (sp : Int) (r : Ret) (h : MReach (rFeStep n sh hm sp) (rFeEn n sh hm sp) r) : CT Try.prog 61 ([]) ([netA n, .lst (boL sh), lI hm, .int .i64 sp]) r.1 r.2 :=
  CT.mach (fn := Try.f61) (c := bodyOf Try.f61) (S := rFeSt n sh hm sp) (hd := rFeHd) Try.func61 (by kernel_rfl) (Nat.le_of_ble_eq_true rfl)
    (fun s o ho => match s, ho with
      | x, _ => x.elim)
    (fun o ho => rFeEn_ok n sh hm sp o ho) h
inductive rSePc where
  | l0 (v0 : Int)
noncomputable def rSeSt (n : NetD) (sh : List Bool) (hm gs : List Int) : rSePc → St
  | .l0 v0 => St.mk 69 [(1, AV.lst (boL sh)), (2, AV.lst (List.map (iv) hm)), (3, AV.lst (List.map (iv) gs)), (4, AV.ptr 0 0 0), (11, iv v0)] [some (Blk.mk [netA n] 8 true true none)]
def rSeHd : rSePc → Nat
  | .l0 _ => 0
noncomputable def rSeEn (n : NetD) (sh : List Bool) (hm gs : List Int) : Option (rSePc ⊕ Ret) :=
  gu (Rows n.nx) <|
  br (hkE n sh hm != 0)
  (some (.inr ([], AV.tup [AV.nils, AV.int IntKind.i64 (hkE n sh hm)])))
  (br (iN (List.map (AV.int IntKind.i64) gs).length != iN (List.map (AV.int IntKind.i64) hm).length)
   (some (.inr ([], AV.tup [AV.nils, AV.int IntKind.i64 19])))
   (some (.inl (.l0 ((0 : Int))))))
noncomputable def rSeS0 (n : NetD) (sh : List Bool) (hm gs : List Int) (v0 : Int) : Option (rSePc ⊕ Ret) :=
  br (decide (v0 < iN (List.map (AV.int IntKind.i64) gs).length))
  (gu (0 ≤ v0) <|
   el (gs) (v0.toNat) fun (x32 : Int) =>
   br (decide (x32 < -1))
   (some (.inr ([], AV.tup [AV.nils, AV.int IntKind.i64 19])))
   (el (gs) (v0.toNat) fun (x38 : Int) =>
    br (decide (iN (List.map sA n.ss).length ≤ x38))
    (some (.inr ([], AV.tup [AV.nils, AV.int IntKind.i64 19])))
    (el (gs) (v0.toNat) fun (x48 : Int) =>
     br (decide (0 ≤ x48))
     (el (gs) (v0.toNat) fun (x56 : Int) =>
      gu (0 ≤ x56) <|
      el (n.ss) (x56.toNat) fun (x58 : SpuD) =>
      br (!x58.dep)
      (some (.inr ([], AV.tup [AV.nils, AV.int IntKind.i64 19])))
      (some (.inl (.l0 (IntKind.i64.wrap (v0 + 1))))))
     (some (.inl (.l0 (IntKind.i64.wrap (v0 + 1))))))))
  (gu (ValidN n) <|
   gu (sh.length = celN n) <|
   gu (hm.length ≤ 8) <|
   br (hm.all (hmB n))
   (br (isB n hm gs)
    (some (.inr ([], AV.tup [AV.lst (List.map (AV.int IntKind.i64) (setZ n sh hm gs)), AV.int IntKind.i64 0])))
    (none))
   (none))
noncomputable def rSeStep (n : NetD) (sh : List Bool) (hm gs : List Int) : rSePc → Option (rSePc ⊕ Ret)
  | .l0 v0 => rSeS0 n sh hm gs v0
theorem rSeEn_ok (n : NetD) (sh : List Bool) (hm gs : List Int) (o : rSePc ⊕ Ret) (h : rSeEn n sh hm gs = some o) : Arr Try.prog Try.f63 0 (rSeSt n sh hm gs) rSeHd (bodyOf Try.f63) [] { n := Try.f63.ntmps, fr := enumF 0 ([netA n, .lst (boL sh), lI hm, lI gs]), hp := ([]) } o := by
 unfold rSeEn at h
 obtain ⟨a0, h⟩ := gu_inv h
 rcases br_inv h with ⟨a1, h⟩ | ⟨a1, h⟩
 ·
  cases h
  exact Arr.rt [35] [] [(15, hc (iv (hkE n sh hm)))] [] [] [] mix (by kernel_rfl) (aj (aj (u2 t3) (aj (u2 (u2 (u2 (aj (k3 (aj t9 (k2 (al (rhcheck_ct a0 (sh) (hm)))))) s2)))) (aj (u2 s2) (aj a1 (al (u2 (ak s2))))))) (al t3))
 ·
  rcases br_inv h with ⟨a2, h⟩ | ⟨a2, h⟩
  ·
   cases h
   exact Arr.rt [34, 47] [] [(15, hc (iv (hkE n sh hm)))] [] [] [] mix (by kernel_rfl) (aj (aj (u2 t3) (aj (u2 (u2 (u2 (aj (k3 (aj t9 (k2 (al (rhcheck_ct a0 (sh) (hm)))))) s2)))) (aj (u2 s2) (aj a1 (aj (u2 (u2 (u2 (u2 (al t3))))) (aj a2 (al t3))))))) (al t3))
  ·
   cases h
   exact Arr.lp [34, 46] [] [(15, hc (iv (hkE n sh hm)))] [] [] [0] [1, 2, 3, 4, 11] mix (by kernel_rfl) (aj (aj (u2 t3) (aj (u2 (u2 (u2 (aj (k3 (aj t9 (k2 (al (rhcheck_ct a0 (sh) (hm)))))) s2)))) (aj (u2 s2) (aj a1 (aj (u2 (u2 (u2 (u2 (al t3))))) (aj a2 s2)))))) t7)
theorem rSeS0_ok (n : NetD) (sh : List Bool) (hm gs : List Int) (v0 : Int) (o : rSePc ⊕ Ret) (h : rSeS0 n sh hm gs v0 = some o) : Arr Try.prog Try.f63 0 (rSeSt n sh hm gs) rSeHd (headC Try.f63 0) (.rnd (headC Try.f63 0) :: headK Try.f63 0) (rSeSt n sh hm gs (.l0 v0)) o := by
 unfold rSeS0 at h
 rcases br_inv h with ⟨a0, h⟩ | ⟨a0, h⟩
 ·
  obtain ⟨a1, h⟩ := gu_inv h
  obtain ⟨x32, a2, h⟩ := el_inv h
  rcases br_inv h with ⟨a3, h⟩ | ⟨a3, h⟩
  ·
   cases h
   exact Arr.rt [55, 71] [(32, iv x32)] [] [] [] [] mix (by kernel_rfl) (aj (aj (u2 (u2 (u2 (al t3)))) (aj a0 (aj (u2 (u2 (aj (k2 (aj a1 (getMap (f := iv) a2))) (u2 (u2 (u2 (aj a3 (aj a3 (aj a3 (aj a3 (aj a3 (aj a3 (aj a3 (aj a3 (ag a3 (u2 (k2 (k5 (k5 (k5 (al t3))))))))))))))))))))) (ak (al t3))))) (al t3))
  ·
   obtain ⟨x38, a4, h⟩ := el_inv h
   rcases br_inv h with ⟨a5, h⟩ | ⟨a5, h⟩
   ·
    cases h
    exact Arr.rt [55, 70, 91] [(32, iv x32), (38, iv x38)] [] [] [] [] mix (by kernel_rfl) (aj (aj (u2 (u2 (u2 (al t3)))) (aj a0 (aj (u2 (u2 (aj (k2 (aj a1 (getMap (f := iv) a2))) (u2 (u2 (u2 (ag a3 (ag a3 (aj (aj a3 (k2 (aj a1 (getMap (f := iv) a4)))) (ag a3 (ag a3 (ag a3 (ag a3 (aj (aj a3 t3) (ag a3 (u2 (aj a5 (aj a5 (aj a5 (aj a5 (aj a5 (aj a5 (k5 (k5 (aj a5 (al (aj a5 t2))))))))))))))))))))))))))) (ak (al t3))))) (al t3))
   ·
    obtain ⟨x48, a6, h⟩ := el_inv h
    rcases br_inv h with ⟨a7, h⟩ | ⟨a7, h⟩
    ·
     obtain ⟨x56, a8, h⟩ := el_inv h
     obtain ⟨a9, h⟩ := gu_inv h
     obtain ⟨x58, a10, h⟩ := el_inv h
     rcases br_inv h with ⟨a11, h⟩ | ⟨a11, h⟩
     ·
      cases h
      exact Arr.rt [55, 70, 90, 103, 127] [(32, iv x32), (38, iv x38), (48, iv x48), (56, iv x56), (58, sA x58)] [] [] [] [] mix (by kernel_rfl) (aj (aj (u2 (u2 (u2 (al t3)))) (aj a0 (aj (u2 (u2 (aj (k2 (aj a1 (getMap (f := iv) a2))) (u2 (u2 (u2 (ag a3 (ag a3 (aj (aj a3 (k2 (aj a1 (getMap (f := iv) a4)))) (ag a3 (ag a3 (ag a3 (ag a3 (aj (aj a3 t3) (ag a3 (u2 (ag a5 (ag a5 (aj (aj a5 (k2 (aj a1 (getMap (f := iv) a6)))) (ag a5 (ag a5 (ag a5 (ag a7 (ag a7 (ag a7 (ag a7 (aj (aj a7 (k2 (aj a1 (getMap (f := iv) a8)))) (ag a7 (aj (aj a7 (k2 (aj a9 (getMap (f := sA) a10)))) (ag a7 (ag a7 (ag a7 (aj (aj a5 (aj a7 t2)) (al (aj a5 t2))))))))))))))))))))))))))))))))))) (aj a11 (al t3))))) (al t3))
     ·
      cases h
      exact Arr.lp [55, 70, 90, 103, 126] [(32, iv x32), (38, iv x38), (48, iv x48), (56, iv x56), (58, sA x58)] [] [] [] [0] [1, 2, 3, 4, 11] mix (by kernel_rfl) (aj (aj (u2 (u2 (u2 (al t3)))) (aj a0 (aj (u2 (u2 (aj (k2 (aj a1 (getMap (f := iv) a2))) (u2 (u2 (u2 (ag a3 (ag a3 (aj (aj a3 (k2 (aj a1 (getMap (f := iv) a4)))) (ag a3 (ag a3 (ag a3 (ag a3 (aj (aj a3 t3) (ag a3 (u2 (ag a5 (ag a5 (aj (aj a5 (k2 (aj a1 (getMap (f := iv) a6)))) (ag a5 (ag a5 (ag a5 (ag a7 (ag a7 (ag a7 (ag a7 (aj (aj a7 (k2 (aj a1 (getMap (f := iv) a8)))) (ag a7 (aj (aj a7 (k2 (aj a9 (getMap (f := sA) a10)))) (ag a7 (ag a7 (ag a7 (aj (aj a5 (aj a7 t2)) (al (aj a5 t2))))))))))))))))))))))))))))))))))) (aj a11 (al (u2 (u2 s2))))))) t7)
    ·
     cases h
     exact Arr.lp [55, 70, 90, 102] [(32, iv x32), (38, iv x38), (48, iv x48)] [] [] [] [0] [1, 2, 3, 4, 11] mix (by kernel_rfl) (aj (aj (u2 (u2 (u2 (al t3)))) (aj a0 (aj (u2 (u2 (aj (k2 (aj a1 (getMap (f := iv) a2))) (u2 (u2 (u2 (ag a3 (ag a3 (aj (aj a3 (k2 (aj a1 (getMap (f := iv) a4)))) (ag a3 (ag a3 (ag a3 (ag a3 (aj (aj a3 t3) (ag a3 (u2 (ag a5 (ag a5 (aj (aj a5 (k2 (aj a1 (getMap (f := iv) a6)))) (ag a5 (ag a5 (ag a5 (aj a7 (aj a7 (aj a7 (aj a7 (aj a7 (aj a7 (aj a7 (aj a7 (aj a7 (aj a7 (aj (aj a5 (aj a7 t2)) (al (aj a5 t2))))))))))))))))))))))))))))))))))) (ak (al (u2 (u2 s2))))))) t7)
 ·
  obtain ⟨a1, h⟩ := gu_inv h
  obtain ⟨a2, h⟩ := gu_inv h
  obtain ⟨a3, h⟩ := gu_inv h
  rcases br_inv h with ⟨a4, h⟩ | ⟨a4, h⟩
  ·
   rcases br_inv h with ⟨a5, h⟩ | ⟨a5, h⟩
   ·
    cases h
    exact Arr.rt [54] [] [(68, hc (lI (setZ n sh hm gs)))] [] [] [] mix (by kernel_rfl) (aj (aj (u2 (u2 (u2 (al t3)))) (aj a0 (al (u2 (u2 (u2 (u2 (aj (ak (k3 (aj t9 (k3 (al (rSettled_ct (n) (sh) (hm) (gs) a1 a2 a3 a4 a5)))))) (u2 t2))))))))) (al t3))
   ·
    cases h
  ·
   cases h
theorem rSe_ct (n : NetD) (sh : List Bool) (hm gs : List Int) (r : Ret) (h : MReach (rSeStep n sh hm gs) (rSeEn n sh hm gs) r) : CT Try.prog 63 ([]) ([netA n, .lst (boL sh), lI hm, lI gs]) r.1 r.2 :=
  CT.mach (fn := Try.f63) (c := bodyOf Try.f63) (S := rSeSt n sh hm gs) (hd := rSeHd) Try.func63 (by kernel_rfl) (Nat.le_of_ble_eq_true rfl)
    (fun s o ho => match s, ho with
      | .l0 v0, ho => rSeS0_ok n sh hm gs v0 o ho
    )
    (fun o ho => rSeEn_ok n sh hm gs o ho) h
theorem hkE_zero {n : NetD} {sh : List Bool} {hm : List Int} (h : hkE n sh hm = 0) : ValidN n ∧ hm.length ≤ 8 ∧ hm.all (hmB n) = true ∧ sh.length = celN n := by
  unfold hkE at h
  split at h
  · rename_i a
    split at h
    · rename_i b; exact ⟨valB_iff.1 a.1, a.2.1, a.2.2, b⟩
    · omega
  · omega
noncomputable def freE (n : NetD) (sh : List Bool) (hm : List Int) (sp : Int) : Int := if hkE n sh hm = 0 then (if sp < 0 ∨ (n.ss.length : Int) ≤ sp then 19 else 0) else hkE n sh hm
noncomputable def freZ (n : NetD) (sh : List Bool) (hm : List Int) (sp : Int) : Int := if freE n sh hm sp = 0 then plZ n sh hm sp else 0
theorem hFree_ct {n : NetD} (hrw : Rows n.nx) (sh : List Bool) (hm : List Int) (sp : Int) : CT Try.prog 60 [] [netA n, .lst (boL sh), lI hm, .int .i64 sp] [] (.tup [.int .i64 (freZ n sh hm sp), .int .i64 (freE n sh hm sp)]) := by
  refine hFe_ct n sh hm sp ([], _) (.val ?_)
  unfold hFeEn freZ freE
  rw [gu_t hrw, lsA]
  by_cases h : hkE n sh hm = 0
  · obtain ⟨a, b, c, d⟩ := hkE_zero h
    rw [br_f (by simp [h]), if_pos h]
    by_cases h0 : sp < 0
    · have ei : (if sp < 0 ∨ (n.ss.length : Int) ≤ sp then (19 : Int) else 0) = 19 := if_pos (.inl h0)
      rw [br_t (dec_t h0), ei]; rfl
    by_cases h1 : (n.ss.length : Int) ≤ sp
    · have ei : (if sp < 0 ∨ (n.ss.length : Int) ≤ sp then (19 : Int) else 0) = 19 := if_pos (.inr h1)
      rw [br_f (dec_f h0), br_t (dec_t h1), ei]; rfl
    · have ei : (if sp < 0 ∨ (n.ss.length : Int) ≤ sp then (19 : Int) else 0) = 0 := if_neg (by omega)
      rw [br_f (dec_f h0), br_f (dec_f h1), ei, gu_t a, gu_t d, gu_t (by simp only [iN]; omega), gu_t (by omega), if_pos rfl]
  · rw [br_t (by simpa using h), if_neg h, if_neg h]
theorem rFree_ct {n : NetD} (hrw : Rows n.nx) (sh : List Bool) (hm : List Int) (sp : Int) : CT Try.prog 61 [] [netA n, .lst (boL sh), lI hm, .int .i64 sp] [] (.tup [.int .i64 (freZ n sh hm sp), .int .i64 (freE n sh hm sp)]) := by
  refine rFe_ct n sh hm sp ([], _) (.val ?_)
  unfold rFeEn freZ freE
  rw [gu_t hrw, lsA]
  by_cases h : hkE n sh hm = 0
  · obtain ⟨a, b, c, d⟩ := hkE_zero h
    rw [br_f (by simp [h]), if_pos h]
    by_cases h0 : sp < 0
    · have ei : (if sp < 0 ∨ (n.ss.length : Int) ≤ sp then (19 : Int) else 0) = 19 := if_pos (.inl h0)
      rw [br_t (dec_t h0), ei]; rfl
    by_cases h1 : (n.ss.length : Int) ≤ sp
    · have ei : (if sp < 0 ∨ (n.ss.length : Int) ≤ sp then (19 : Int) else 0) = 19 := if_pos (.inr h1)
      rw [br_f (dec_f h0), br_t (dec_t h1), ei]; rfl
    · have ei : (if sp < 0 ∨ (n.ss.length : Int) ≤ sp then (19 : Int) else 0) = 0 := if_neg (by omega)
      rw [br_f (dec_f h0), br_f (dec_f h1), ei, gu_t a, gu_t d, gu_t (by simp only [iN]; omega), gu_t (by omega), if_pos rfl]
  · rw [br_t (by simpa using h), if_neg h, if_neg h]
noncomputable def setE (n : NetD) (sh : List Bool) (hm gs : List Int) : Int := if hkE n sh hm = 0 then (if isB n hm gs = true then 0 else 19) else hkE n sh hm
noncomputable def setL (n : NetD) (sh : List Bool) (hm gs : List Int) : List Int := if setE n sh hm gs = 0 then setZ n sh hm gs else []
theorem rSe_step {n : NetD} {sh : List Bool} {hm gs : List Int} {i : Nat} {x : Int} (hx : gs[i]? = some x) : rSeS0 n sh hm gs i = br (inB n x) (some (.inl (.l0 (IntKind.i64.wrap ((i : Int) + 1))))) (some (.inr ([], .tup [.nils, .int .i64 19]))) := by
  unfold rSeS0 inB
  have ei : (i : Int).toNat = i := Int.toNat_natCast i
  rw [rngS hx, lsA]
  simp only [ei, el_t hx]
  by_cases a1 : x = -1
  · subst a1; rw [br_f (by rfl), br_f (dec_f (by omega)), br_f (by rfl)]; rfl
  rw [show (x == -1) = false by simpa using a1, Bool.false_or]
  by_cases b1 : x < 0
  · rw [br_t (dec_t (by omega)), dpB_out (.inl b1)]; rfl
  rw [br_f (dec_f (by omega))]
  by_cases b2 : (n.ss.length : Int) ≤ x
  · rw [br_t (dec_t b2), dpB_out (.inr b2)]; rfl
  rw [br_f (dec_f b2), br_t (dec_t (by omega))]
  obtain ⟨s, hs, e⟩ := dpB_in b1 b2
  rw [gu_t (by omega), el_t hs, e]
  cases s.dep <;> rfl
theorem rSettle_ct {n : NetD} (hrw : Rows n.nx) (sh : List Bool) (hm gs : List Int) : CT Try.prog 63 [] [netA n, .lst (boL sh), lI hm, lI gs] [] (.tup [lI (setL n sh hm gs), .int .i64 (setE n sh hm gs)]) := by
  have key : ∀ r : Ret, MReach (rSeStep n sh hm gs) (rSeEn n sh hm gs) r → CT Try.prog 63 [] [netA n, .lst (boL sh), lI hm, lI gs] r.1 (wkV r.2) := fun r h => (rSe_ct n sh hm gs r h).wk
  by_cases h : hkE n sh hm = 0
  · obtain ⟨a, b, c, d⟩ := hkE_zero h
    have hcc : isB n hm gs = (gs.length == hm.length && gs.all (inB n)) := rfl
    by_cases h1 : gs.length = hm.length
    · have hloop : ∀ r : Ret, (gs.all (inB n) = true → r = ([], .tup [lI (setZ n sh hm gs), .int .i64 0])) → (gs.all (inB n) = false → r = ([], .tup [.nils, .int .i64 19])) → MReach (rSeStep n sh hm gs) (rSeEn n sh hm gs) r := by
        intro r e1 e2
        unfold rSeEn
        rw [gu_t hrw, br_f (by simp [h]), br_f (by simp [iN, h1])]
        refine (loop_all (L := fun i => rSePc.l0 (i : Int)) (l := gs) (p := inB n) (r := ([], .tup [lI (setZ n sh hm gs), .int .i64 0])) (rF := ([], .tup [.nils, .int .i64 19])) (fun i x hx hp => ?_) (fun i x r hx hp hr => ?_) (fun ha => ?_)).res (by cases he : gs.all (inB n) with | true => rw [e1 he] | false => rw [e2 he])
        · exact .to ((rSe_step hx).trans (br_f hp)) (.ret _)
        · refine .to ((rSe_step hx).trans ?_) hr
          have hl := (List.getElem?_eq_some_iff.1 hx).1
          rw [br_t hp, wrap_nat i (by omega)]
        · refine .to (show rSeS0 n sh hm gs gs.length = some (.inr ([], .tup [lI (setZ n sh hm gs), .int .i64 0])) from ?_) (.ret _)
          unfold rSeS0
          rw [rngE, gu_t a, gu_t d, gu_t b, br_t c, br_t (by rw [hcc, ha]; simpa using h1)]; rfl
      cases he : gs.all (inB n) with
      | true =>
        have hE : setE n sh hm gs = 0 := by unfold setE; rw [if_pos h, hcc, he, if_pos (by simpa using h1)]
        unfold setL
        rw [hE, if_pos rfl]
        exact key ([], .tup [lI (setZ n sh hm gs), .int .i64 0]) (hloop _ (fun _ => rfl) (fun e => by rw [he] at e; cases e))
      | false =>
        have hE : setE n sh hm gs = 19 := by unfold setE; rw [if_pos h, hcc, he, if_neg (by simp)]
        unfold setL
        rw [hE, if_neg (by omega)]
        exact key ([], .tup [.nils, .int .i64 19]) (hloop _ (fun e => by rw [he] at e; cases e) (fun _ => rfl))
    · have : isB n hm gs = false := by rw [hcc, show (gs.length == hm.length) = false by simpa using h1]; rfl
      have hE : setE n sh hm gs = 19 := by unfold setE; rw [if_pos h, this, if_neg (by simp)]
      unfold setL
      rw [hE, if_neg (by omega)]
      refine key ([], .tup [.nils, .int .i64 19]) (.val ?_)
      unfold rSeEn
      rw [gu_t hrw, br_f (by simp [h]), br_t (by simp [iN]; omega)]
  · have hE : setE n sh hm gs = hkE n sh hm := by unfold setE; rw [if_neg h]
    unfold setL
    rw [hE, if_neg h]
    refine key ([], .tup [.nils, .int .i64 (hkE n sh hm)]) (.val ?_)
    unfold rSeEn
    rw [gu_t hrw, br_t (by simpa using h)]
theorem mul64_ct (c : Int) (h : 0 ≤ c ∧ c ≤ 8) : CT Try.prog 158 [] [.int .u64 1, .int .u64 c] [] (.tup [.int .u64 0, .int .u64 c]) := by
  have : c = 0 ∨ c = 1 ∨ c = 2 ∨ c = 3 ∨ c = 4 ∨ c = 5 ∨ c = 6 ∨ c = 7 ∨ c = 8 := by omega
  rcases this with rfl | rfl | rfl | rfl | rfl | rfl | rfl | rfl | rfl
  · exact mlb0_ct _ (.val rfl)
  · exact mlb1_ct _ (.val rfl)
  · exact mlb2_ct _ (.val rfl)
  · exact mlb3_ct _ (.val rfl)
  · exact mlb4_ct _ (.val rfl)
  · exact mlb5_ct _ (.val rfl)
  · exact mlb6_ct _ (.val rfl)
  · exact mlb7_ct _ (.val rfl)
  · exact mlb8_ct _ (.val rfl)
noncomputable def mulSt (c : Int) : Empty → St
  | x => x.elim
def mulHd : Empty → Nat
  | x => x.elim
noncomputable def mulEn (c : Int) : Option (Empty ⊕ Ret) :=
  gu (0 ≤ c ∧ c ≤ 8) <|
  some (.inr ([], AV.tup [AV.int IntKind.u64 0, AV.int IntKind.u64 c]))
noncomputable def mulStep (c : Int) : Empty → Option (Empty ⊕ Ret)
  | x => x.elim
theorem mulEn_ok (c : Int) (o : Empty ⊕ Ret) (h : mulEn c = some o) : Arr Try.prog Try.f141 0 (mulSt c) mulHd (bodyOf Try.f141) [] { n := Try.f141.ntmps, fr := enumF 0 ([.int .u64 1, .int .u64 c]), hp := ([]) } o := by
 unfold mulEn at h
 obtain ⟨a0, h⟩ := gu_inv h
 cases h
 exact Arr.rt [] [] [(25, hc (AV.tup [AV.int IntKind.u64 0, AV.int IntKind.u64 c]))] [] [] [] mix (by kernel_rfl) (aj (aj t3 (ak (aj (u2 (u2 (aj (ak (k3 (al (mul64_ct (c) a0)))) (u2 (u2 (u2 (u2 s2))))))) (al (u2 (u2 (u2 s2))))))) (al t3))
theorem mul_ct (c : Int) (r : Ret) (h : MReach (mulStep c) (mulEn c) r) : CT Try.prog 141 ([]) ([.int .u64 1, .int .u64 c]) r.1 r.2 :=
  CT.mach (fn := Try.f141) (c := bodyOf Try.f141) (S := mulSt c) (hd := mulHd) Try.func141 (by kernel_rfl) (Nat.le_of_ble_eq_true rfl)
    (fun s o ho => match s, ho with
      | x, _ => x.elim)
    (fun o ho => mulEn_ok c o ho) h
end Go.Proofs.Ytepomnooippjpaa

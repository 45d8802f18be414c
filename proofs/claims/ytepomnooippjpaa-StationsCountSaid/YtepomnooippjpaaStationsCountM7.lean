/- Parts of the proof: St7m, StG, St8m, StH, StR. -/
import Derived.Test.YtepomnooippjpaaProg
import Derived.KernelRfl
import Derived.Test.YtepomnooippjpaaStationsCountM6
open Go Go.AX Go.Proofs
set_option maxRecDepth 100000
set_option maxHeartbeats 4000000
set_option linter.unusedVariables false
set_option linter.unusedSimpArgs false
namespace Go.Proofs.Ytepomnooippjpaa
noncomputable def knSt : Empty → St
  | x => x.elim
def knHd : Empty → Nat
  | x => x.elim
noncomputable def knEn : Option (Empty ⊕ Ret) :=
  br (decide (iN (List.map sA (netM [2] 0 4).ss).length < 3))
  (some (.inr ([], AV.bool false)))
  (br (iN (List.map (AV.int IntKind.i64) (netM [2] 0 4).rs).length == 0)
   (some (.inr ([], AV.bool false)))
   (gu (Rows (netM [(2 : Int)] (nat_lit 0) (4 : Int)).nx) <|
    br (consB (netM [2] 0 4) [UnD.mk 1 false 0 0 (-1) 0 false false 0 1 [] 0 0] [TkD.mk 1 2 1 0 0])
    (gu (∀ (blk : Blk), blk ∈ [dB (cntL (netM [(2 : Int)] (nat_lit 0) (4 : Int)) [UnD.mk (1 : Int) false (0 : Int) (0 : Int) (-1 : Int) (0 : Int) false false (0 : Int) (1 : Int) [] (0 : Int) (0 : Int)] [TkD.mk (1 : Int) (2 : Int) (1 : Int) (0 : Int) (0 : Int)])] → ImmB blk) <|
     br (consB (netM [2] 0 4) [UnD.mk 1 false 0 0 (-1) 0 false false 0 2 [] 0 0] [TkD.mk 1 2 1 0 0])
     (gu (∀ (blk : Blk), blk ∈ [dB (cntL (netM [(2 : Int)] (nat_lit 0) (4 : Int)) [UnD.mk (1 : Int) false (0 : Int) (0 : Int) (-1 : Int) (0 : Int) false false (0 : Int) (2 : Int) [] (0 : Int) (0 : Int)] [TkD.mk (1 : Int) (2 : Int) (1 : Int) (0 : Int) (0 : Int)])] → ImmB blk) <|
      br (nedE (netM [2] 0 4) [TkD.mk 1 2 1 0 0] 0 1 == 0)
      (br (nedB (netM [2] 0 4) [TkD.mk 1 2 1 0 0] 0 1)
       (br (iN (cntL (netM [2] 0 4) [UnD.mk 1 false 0 0 (-1) 0 false false 0 1 [] 0 0] [TkD.mk 1 2 1 0 0]).length == iN (List.map sA (netM [2] 0 4).ss).length)
        (br (iN (cntL (netM [2] 0 4) [UnD.mk 1 false 0 0 (-1) 0 false false 0 2 [] 0 0] [TkD.mk 1 2 1 0 0]).length == iN (cntL (netM [2] 0 4) [UnD.mk 1 false 0 0 (-1) 0 false false 0 1 [] 0 0] [TkD.mk 1 2 1 0 0]).length)
         (gu ((1 : Int) < iN (cntL (netM [(2 : Int)] (nat_lit 0) (4 : Int)) [UnD.mk (1 : Int) false (0 : Int) (0 : Int) (-1 : Int) (0 : Int) false false (0 : Int) (1 : Int) [] (0 : Int) (0 : Int)] [TkD.mk (1 : Int) (2 : Int) (1 : Int) (0 : Int) (0 : Int)]).length) <|
          el (cntL (netM [2] 0 4) [UnD.mk 1 false 0 0 (-1) 0 false false 0 1 [] 0 0] [TkD.mk 1 2 1 0 0]) (1) fun (x82 : Int) =>
          br (x82 == 1)
          (gu ((2 : Int) < iN (cntL (netM [(2 : Int)] (nat_lit 0) (4 : Int)) [UnD.mk (1 : Int) false (0 : Int) (0 : Int) (-1 : Int) (0 : Int) false false (0 : Int) (1 : Int) [] (0 : Int) (0 : Int)] [TkD.mk (1 : Int) (2 : Int) (1 : Int) (0 : Int) (0 : Int)]).length) <|
           el (cntL (netM [2] 0 4) [UnD.mk 1 false 0 0 (-1) 0 false false 0 1 [] 0 0] [TkD.mk 1 2 1 0 0]) (2) fun (x88 : Int) =>
           br (x88 == 1)
           (gu ((1 : Int) < iN (cntL (netM [(2 : Int)] (nat_lit 0) (4 : Int)) [UnD.mk (1 : Int) false (0 : Int) (0 : Int) (-1 : Int) (0 : Int) false false (0 : Int) (2 : Int) [] (0 : Int) (0 : Int)] [TkD.mk (1 : Int) (2 : Int) (1 : Int) (0 : Int) (0 : Int)]).length) <|
            el (cntL (netM [2] 0 4) [UnD.mk 1 false 0 0 (-1) 0 false false 0 2 [] 0 0] [TkD.mk 1 2 1 0 0]) (1) fun (x94 : Int) =>
            br (x94 == 0)
            (gu ((2 : Int) < iN (cntL (netM [(2 : Int)] (nat_lit 0) (4 : Int)) [UnD.mk (1 : Int) false (0 : Int) (0 : Int) (-1 : Int) (0 : Int) false false (0 : Int) (2 : Int) [] (0 : Int) (0 : Int)] [TkD.mk (1 : Int) (2 : Int) (1 : Int) (0 : Int) (0 : Int)]).length) <|
             el (cntL (netM [2] 0 4) [UnD.mk 1 false 0 0 (-1) 0 false false 0 2 [] 0 0] [TkD.mk 1 2 1 0 0]) (2) fun (x100 : Int) =>
             some (.inr ([], AV.bool (x100 == 1))))
            (some (.inr ([], AV.bool false))))
           (some (.inr ([], AV.bool false))))
          (some (.inr ([], AV.bool false))))
         (some (.inr ([], AV.bool false))))
        (some (.inr ([], AV.bool false))))
       (some (.inr ([], AV.bool false))))
      (some (.inr ([], AV.bool false))))
     (none))
    (none)))
noncomputable def knStep : Empty → Option (Empty ⊕ Ret)
  | x => x.elim
theorem knEn_ok (o : Empty ⊕ Ret) (h : knEn = some o) : Arr Try.prog Try.f15 0 (knSt) knHd (bodyOf Try.f15) [] { n := Try.f15.ntmps, fr := enumF 0 ([]), hp := ([]) } o := by
 unfold knEn at h
 rcases br_inv h with ⟨a0, h⟩ | ⟨a0, h⟩
 ·
  cases h
  exact Arr.rt [37] [(10, AV.lst [])] [(13, Hint.call [0] [] [tapeB [2] (netK [2] 0 4)] (netA (netM [2] 0 4)))] [] [] [] mix (by kernel_rfl) (aj (u2 (aj (ak (u2 (u2 (aj (ak (k3 (al (net_ct ([2]) (0) (4) (show nat_lit 0 ≤ (5000 : Nat) from (by first | exact Nat.le_of_ble_eq_true rfl | decide)) (show (1 : Int) ≤ (4 : Int) ∧ (4 : Int) ≤ (20 : Int) from ⟨(by first | exact Nat.le_of_ble_eq_true rfl | decide), (by first | exact Nat.le_of_ble_eq_true rfl | decide)⟩))))) (ak (al (k2 n11))))))) (aj (u2 (u2 (u2 (u2 (u2 (aj a0 (aj a0 (aj a0 (aj a0 (al (aj a0 t2))))))))))) (ak s2)))) t2)
 ·
  rcases br_inv h with ⟨a1, h⟩ | ⟨a1, h⟩
  ·
   cases h
   exact Arr.rt [36, 47] [(10, AV.lst [])] [(13, Hint.call [0] [] [tapeB [2] (netK [2] 0 4)] (netA (netM [2] 0 4)))] [] [] [] mix (by kernel_rfl) (aj (u2 (aj (ak (u2 (u2 (aj (ak (k3 (al (net_ct ([2]) (0) (4) (show nat_lit 0 ≤ (5000 : Nat) from (by first | exact Nat.le_of_ble_eq_true rfl | decide)) (show (1 : Int) ≤ (4 : Int) ∧ (4 : Int) ≤ (20 : Int) from ⟨(by first | exact Nat.le_of_ble_eq_true rfl | decide), (by first | exact Nat.le_of_ble_eq_true rfl | decide)⟩))))) (ak (al (k2 n11))))))) (aj (u2 (u2 (u2 (u2 (u2 (ag a0 (ag a0 (ag a0 (ag a0 (al (aj a0 t2))))))))))) (aj a1 s2)))) t2)
  ·
   obtain ⟨a2, h⟩ := gu_inv h
   rcases br_inv h with ⟨a3, h⟩ | ⟨a3, h⟩
   ·
    obtain ⟨a4, h⟩ := gu_inv h
    rcases br_inv h with ⟨a5, h⟩ | ⟨a5, h⟩
    ·
     obtain ⟨a6, h⟩ := gu_inv h
     rcases br_inv h with ⟨a7, h⟩ | ⟨a7, h⟩
     ·
      rcases br_inv h with ⟨a8, h⟩ | ⟨a8, h⟩
      ·
       rcases br_inv h with ⟨a9, h⟩ | ⟨a9, h⟩
       ·
        rcases br_inv h with ⟨a10, h⟩ | ⟨a10, h⟩
        ·
         obtain ⟨a11, h⟩ := gu_inv h
         obtain ⟨x82, a12, h⟩ := el_inv h
         rcases br_inv h with ⟨a13, h⟩ | ⟨a13, h⟩
         ·
          obtain ⟨a14, h⟩ := gu_inv h
          obtain ⟨x88, a15, h⟩ := el_inv h
          rcases br_inv h with ⟨a16, h⟩ | ⟨a16, h⟩
          ·
           obtain ⟨a17, h⟩ := gu_inv h
           obtain ⟨x94, a18, h⟩ := el_inv h
           rcases br_inv h with ⟨a19, h⟩ | ⟨a19, h⟩
           ·
            obtain ⟨a20, h⟩ := gu_inv h
            obtain ⟨x100, a21, h⟩ := el_inv h
            cases h
            exact Arr.rt [36, 46, 123, 129, 145, 159, 171, 183, 195] [(10, AV.lst []), (27, AV.tup []), (82, iv x82), (88, iv x88), (94, iv x94), (100, iv x100)] [(13, Hint.call [0] [] [tapeB [2] (netK [2] 0 4)] (netA (netM [2] 0 4))), (32, Hint.call [] [3, 2] [dB (cntL (netM [2] 0 4) [UnD.mk 1 false 0 0 (-1) 0 false false 0 1 [] 0 0] [TkD.mk 1 2 1 0 0])] (AV.tup [AV.sl 0 0 (cntL (netM [2] 0 4) [UnD.mk 1 false 0 0 (-1) 0 false false 0 1 [] 0 0] [TkD.mk 1 2 1 0 0]).length, iv 0])), (42, Hint.call [] [3, 2] [dB (cntL (netM [2] 0 4) [UnD.mk 1 false 0 0 (-1) 0 false false 0 2 [] 0 0] [TkD.mk 1 2 1 0 0])] (AV.tup [AV.sl 0 0 (cntL (netM [2] 0 4) [UnD.mk 1 false 0 0 (-1) 0 false false 0 2 [] 0 0] [TkD.mk 1 2 1 0 0]).length, iv 0])), (48, Hint.call [] [2] [] (AV.tup [AV.bool (nedB (netM [2] 0 4) [TkD.mk 1 2 1 0 0] 0 1), iv (nedE (netM [2] 0 4) [TkD.mk 1 2 1 0 0] 0 1)]))] [] [] [] mix (by kernel_rfl) (aj (u2 (aj (ak (u2 (u2 (aj (ak (k3 (al (net_ct ([2]) (0) (4) (show nat_lit 0 ≤ (5000 : Nat) from (by first | exact Nat.le_of_ble_eq_true rfl | decide)) (show (1 : Int) ≤ (4 : Int) ∧ (4 : Int) ≤ (20 : Int) from ⟨(by first | exact Nat.le_of_ble_eq_true rfl | decide), (by first | exact Nat.le_of_ble_eq_true rfl | decide)⟩))))) (ak (al (k2 n11))))))) (aj (u2 (u2 (u2 (u2 (u2 (ag a0 (ag a0 (ag a0 (ag a0 (al (aj a0 t2))))))))))) (aj a1 (aj (ak (u2 s2)) (aj (ak (u2 s2)) (aj (u2 (u2 (u2 (aj (k3 (aj t9 (aj (show nat_lit 1 = nat_lit 1 from rfl) (aj (show nat_lit 1 = nat_lit 1 from rfl) (aj (sTakenF_ct (netM [2] 0 4) ([UnD.mk 1 false 0 0 (-1) 0 false false 0 1 [] 0 0]) ([TkD.mk 1 2 1 0 0]) a2 a3) a4))))) (u2 (u2 (u2 (u2 s2)))))))) (aj (u2 (aj (ak (aj (show (0 : Int) ≤ (0 : Int) from (by first | exact Nat.le_of_ble_eq_true rfl | decide)) (show (0 : Int) < (1 : Int) from (by first | exact Nat.le_of_ble_eq_true rfl | decide)))) (u2 s2))) (aj (u2 (u2 (u2 (aj (k3 (aj t9 (aj (show nat_lit 1 = nat_lit 1 from rfl) (aj (show nat_lit 1 = nat_lit 1 from rfl) (aj (sTakenF_ct (netM [2] 0 4) ([UnD.mk 1 false 0 0 (-1) 0 false false 0 2 [] 0 0]) ([TkD.mk 1 2 1 0 0]) a2 a5) a6))))) (u2 (u2 (u2 (u2 s2)))))))) (aj (u2 (u2 (aj (k2 (aj t9 (aj (show nat_lit 1 = nat_lit 1 from rfl) (k2 (aj (sNeeds_ct a2 ([TkD.mk 1 2 1 0 0]) (0) (1)) (show ∀ (blk : Blk), blk ∈ [] → ImmB blk from (by intro _ h; cases h))))))) (u2 (u2 (u2 (u2 s2))))))) (al (u2 (u2 (u2 (aj t3 (aj t3 (aj t3 (u2 (aj t3 (aj t3 (aj t3 (u2 (ag a7 (ag a7 (u2 (ag a8 (ag a8 (ag a8 (ag a8 (ag a8 (aj (aj a8 t3) (ag a8 (u2 (ag a9 (ag a9 (ag a9 (ag a9 (aj (aj a9 t3) (ag a9 (u2 (ag a10 (aj (aj a10 (ak (aj (show (0 : Int) ≤ (1 : Int) from (by first | exact Nat.le_of_ble_eq_true rfl | decide)) a11))) (aj (aj a10 (ak (getMap (f := iv) a12))) (ag a10 (ag a10 (u2 (ag a13 (aj (aj a13 (ak (aj (show (0 : Int) ≤ (2 : Int) from (by first | exact Nat.le_of_ble_eq_true rfl | decide)) a14))) (aj (aj a13 (ak (getMap (f := iv) a15))) (ag a13 (ag a13 (u2 (ag a16 (aj (aj a16 (ak (aj (show (0 : Int) ≤ (1 : Int) from (by first | exact Nat.le_of_ble_eq_true rfl | decide)) a17))) (aj (aj a16 (ak (getMap (f := iv) a18))) (ag a16 (ag a16 (u2 (ag a19 (aj (aj a19 (ak (aj (show (0 : Int) ≤ (2 : Int) from (by first | exact Nat.le_of_ble_eq_true rfl | decide)) a20))) (aj (aj a19 (ak (getMap (f := iv) a21))) (ag a19 (ag a19 s2))))))))))))))))))))))))))))))))))))))))))))))))))))))))))))))) t2)
           ·
            cases h
            exact Arr.rt [36, 46, 123, 129, 145, 159, 171, 183, 194] [(10, AV.lst []), (27, AV.tup []), (82, iv x82), (88, iv x88), (94, iv x94)] [(13, Hint.call [0] [] [tapeB [2] (netK [2] 0 4)] (netA (netM [2] 0 4))), (32, Hint.call [] [3, 2] [dB (cntL (netM [2] 0 4) [UnD.mk 1 false 0 0 (-1) 0 false false 0 1 [] 0 0] [TkD.mk 1 2 1 0 0])] (AV.tup [AV.sl 0 0 (cntL (netM [2] 0 4) [UnD.mk 1 false 0 0 (-1) 0 false false 0 1 [] 0 0] [TkD.mk 1 2 1 0 0]).length, iv 0])), (42, Hint.call [] [3, 2] [dB (cntL (netM [2] 0 4) [UnD.mk 1 false 0 0 (-1) 0 false false 0 2 [] 0 0] [TkD.mk 1 2 1 0 0])] (AV.tup [AV.sl 0 0 (cntL (netM [2] 0 4) [UnD.mk 1 false 0 0 (-1) 0 false false 0 2 [] 0 0] [TkD.mk 1 2 1 0 0]).length, iv 0])), (48, Hint.call [] [2] [] (AV.tup [AV.bool (nedB (netM [2] 0 4) [TkD.mk 1 2 1 0 0] 0 1), iv (nedE (netM [2] 0 4) [TkD.mk 1 2 1 0 0] 0 1)]))] [] [] [] mix (by kernel_rfl) (aj (u2 (aj (ak (u2 (u2 (aj (ak (k3 (al (net_ct ([2]) (0) (4) (show nat_lit 0 ≤ (5000 : Nat) from (by first | exact Nat.le_of_ble_eq_true rfl | decide)) (show (1 : Int) ≤ (4 : Int) ∧ (4 : Int) ≤ (20 : Int) from ⟨(by first | exact Nat.le_of_ble_eq_true rfl | decide), (by first | exact Nat.le_of_ble_eq_true rfl | decide)⟩))))) (ak (al (k2 n11))))))) (aj (u2 (u2 (u2 (u2 (u2 (ag a0 (ag a0 (ag a0 (ag a0 (al (aj a0 t2))))))))))) (aj a1 (aj (ak (u2 s2)) (aj (ak (u2 s2)) (aj (u2 (u2 (u2 (aj (k3 (aj t9 (aj (show nat_lit 1 = nat_lit 1 from rfl) (aj (show nat_lit 1 = nat_lit 1 from rfl) (aj (sTakenF_ct (netM [2] 0 4) ([UnD.mk 1 false 0 0 (-1) 0 false false 0 1 [] 0 0]) ([TkD.mk 1 2 1 0 0]) a2 a3) a4))))) (u2 (u2 (u2 (u2 s2)))))))) (aj (u2 (aj (ak (aj (show (0 : Int) ≤ (0 : Int) from (by first | exact Nat.le_of_ble_eq_true rfl | decide)) (show (0 : Int) < (1 : Int) from (by first | exact Nat.le_of_ble_eq_true rfl | decide)))) (u2 s2))) (aj (u2 (u2 (u2 (aj (k3 (aj t9 (aj (show nat_lit 1 = nat_lit 1 from rfl) (aj (show nat_lit 1 = nat_lit 1 from rfl) (aj (sTakenF_ct (netM [2] 0 4) ([UnD.mk 1 false 0 0 (-1) 0 false false 0 2 [] 0 0]) ([TkD.mk 1 2 1 0 0]) a2 a5) a6))))) (u2 (u2 (u2 (u2 s2)))))))) (aj (u2 (u2 (aj (k2 (aj t9 (aj (show nat_lit 1 = nat_lit 1 from rfl) (k2 (aj (sNeeds_ct a2 ([TkD.mk 1 2 1 0 0]) (0) (1)) (show ∀ (blk : Blk), blk ∈ [] → ImmB blk from (by intro _ h; cases h))))))) (u2 (u2 (u2 (u2 s2))))))) (al (u2 (u2 (u2 (aj t3 (aj t3 (aj t3 (u2 (aj t3 (aj t3 (aj t3 (u2 (ag a7 (ag a7 (u2 (ag a8 (ag a8 (ag a8 (ag a8 (ag a8 (aj (aj a8 t3) (ag a8 (u2 (ag a9 (ag a9 (ag a9 (ag a9 (aj (aj a9 t3) (ag a9 (u2 (ag a10 (aj (aj a10 (ak (aj (show (0 : Int) ≤ (1 : Int) from (by first | exact Nat.le_of_ble_eq_true rfl | decide)) a11))) (aj (aj a10 (ak (getMap (f := iv) a12))) (ag a10 (ag a10 (u2 (ag a13 (aj (aj a13 (ak (aj (show (0 : Int) ≤ (2 : Int) from (by first | exact Nat.le_of_ble_eq_true rfl | decide)) a14))) (aj (aj a13 (ak (getMap (f := iv) a15))) (ag a13 (ag a13 (u2 (ag a16 (aj (aj a16 (ak (aj (show (0 : Int) ≤ (1 : Int) from (by first | exact Nat.le_of_ble_eq_true rfl | decide)) a17))) (aj (aj a16 (ak (getMap (f := iv) a18))) (ag a16 (ag a16 (u2 (aj a19 (aj a19 (aj a19 (aj a19 (ag a19 s2))))))))))))))))))))))))))))))))))))))))))))))))))))))))))))))) t2)
          ·
           cases h
           exact Arr.rt [36, 46, 123, 129, 145, 159, 171, 182] [(10, AV.lst []), (27, AV.tup []), (82, iv x82), (88, iv x88)] [(13, Hint.call [0] [] [tapeB [2] (netK [2] 0 4)] (netA (netM [2] 0 4))), (32, Hint.call [] [3, 2] [dB (cntL (netM [2] 0 4) [UnD.mk 1 false 0 0 (-1) 0 false false 0 1 [] 0 0] [TkD.mk 1 2 1 0 0])] (AV.tup [AV.sl 0 0 (cntL (netM [2] 0 4) [UnD.mk 1 false 0 0 (-1) 0 false false 0 1 [] 0 0] [TkD.mk 1 2 1 0 0]).length, iv 0])), (42, Hint.call [] [3, 2] [dB (cntL (netM [2] 0 4) [UnD.mk 1 false 0 0 (-1) 0 false false 0 2 [] 0 0] [TkD.mk 1 2 1 0 0])] (AV.tup [AV.sl 0 0 (cntL (netM [2] 0 4) [UnD.mk 1 false 0 0 (-1) 0 false false 0 2 [] 0 0] [TkD.mk 1 2 1 0 0]).length, iv 0])), (48, Hint.call [] [2] [] (AV.tup [AV.bool (nedB (netM [2] 0 4) [TkD.mk 1 2 1 0 0] 0 1), iv (nedE (netM [2] 0 4) [TkD.mk 1 2 1 0 0] 0 1)]))] [] [] [] mix (by kernel_rfl) (aj (u2 (aj (ak (u2 (u2 (aj (ak (k3 (al (net_ct ([2]) (0) (4) (show nat_lit 0 ≤ (5000 : Nat) from (by first | exact Nat.le_of_ble_eq_true rfl | decide)) (show (1 : Int) ≤ (4 : Int) ∧ (4 : Int) ≤ (20 : Int) from ⟨(by first | exact Nat.le_of_ble_eq_true rfl | decide), (by first | exact Nat.le_of_ble_eq_true rfl | decide)⟩))))) (ak (al (k2 n11))))))) (aj (u2 (u2 (u2 (u2 (u2 (ag a0 (ag a0 (ag a0 (ag a0 (al (aj a0 t2))))))))))) (aj a1 (aj (ak (u2 s2)) (aj (ak (u2 s2)) (aj (u2 (u2 (u2 (aj (k3 (aj t9 (aj (show nat_lit 1 = nat_lit 1 from rfl) (aj (show nat_lit 1 = nat_lit 1 from rfl) (aj (sTakenF_ct (netM [2] 0 4) ([UnD.mk 1 false 0 0 (-1) 0 false false 0 1 [] 0 0]) ([TkD.mk 1 2 1 0 0]) a2 a3) a4))))) (u2 (u2 (u2 (u2 s2)))))))) (aj (u2 (aj (ak (aj (show (0 : Int) ≤ (0 : Int) from (by first | exact Nat.le_of_ble_eq_true rfl | decide)) (show (0 : Int) < (1 : Int) from (by first | exact Nat.le_of_ble_eq_true rfl | decide)))) (u2 s2))) (aj (u2 (u2 (u2 (aj (k3 (aj t9 (aj (show nat_lit 1 = nat_lit 1 from rfl) (aj (show nat_lit 1 = nat_lit 1 from rfl) (aj (sTakenF_ct (netM [2] 0 4) ([UnD.mk 1 false 0 0 (-1) 0 false false 0 2 [] 0 0]) ([TkD.mk 1 2 1 0 0]) a2 a5) a6))))) (u2 (u2 (u2 (u2 s2)))))))) (aj (u2 (u2 (aj (k2 (aj t9 (aj (show nat_lit 1 = nat_lit 1 from rfl) (k2 (aj (sNeeds_ct a2 ([TkD.mk 1 2 1 0 0]) (0) (1)) (show ∀ (blk : Blk), blk ∈ [] → ImmB blk from (by intro _ h; cases h))))))) (u2 (u2 (u2 (u2 s2))))))) (al (u2 (u2 (u2 (aj t3 (aj t3 (aj t3 (u2 (aj t3 (aj t3 (aj t3 (u2 (ag a7 (ag a7 (u2 (ag a8 (ag a8 (ag a8 (ag a8 (ag a8 (aj (aj a8 t3) (ag a8 (u2 (ag a9 (ag a9 (ag a9 (ag a9 (aj (aj a9 t3) (ag a9 (u2 (ag a10 (aj (aj a10 (ak (aj (show (0 : Int) ≤ (1 : Int) from (by first | exact Nat.le_of_ble_eq_true rfl | decide)) a11))) (aj (aj a10 (ak (getMap (f := iv) a12))) (ag a10 (ag a10 (u2 (ag a13 (aj (aj a13 (ak (aj (show (0 : Int) ≤ (2 : Int) from (by first | exact Nat.le_of_ble_eq_true rfl | decide)) a14))) (aj (aj a13 (ak (getMap (f := iv) a15))) (ag a13 (ag a13 (u2 (aj a16 (aj a16 (aj a16 (aj a16 (ag a16 (u2 (ak (k3 (aj t3 s2))))))))))))))))))))))))))))))))))))))))))))))))))))))))))))) t2)
         ·
          cases h
          exact Arr.rt [36, 46, 123, 129, 145, 159, 170] [(10, AV.lst []), (27, AV.tup []), (82, iv x82)] [(13, Hint.call [0] [] [tapeB [2] (netK [2] 0 4)] (netA (netM [2] 0 4))), (32, Hint.call [] [3, 2] [dB (cntL (netM [2] 0 4) [UnD.mk 1 false 0 0 (-1) 0 false false 0 1 [] 0 0] [TkD.mk 1 2 1 0 0])] (AV.tup [AV.sl 0 0 (cntL (netM [2] 0 4) [UnD.mk 1 false 0 0 (-1) 0 false false 0 1 [] 0 0] [TkD.mk 1 2 1 0 0]).length, iv 0])), (42, Hint.call [] [3, 2] [dB (cntL (netM [2] 0 4) [UnD.mk 1 false 0 0 (-1) 0 false false 0 2 [] 0 0] [TkD.mk 1 2 1 0 0])] (AV.tup [AV.sl 0 0 (cntL (netM [2] 0 4) [UnD.mk 1 false 0 0 (-1) 0 false false 0 2 [] 0 0] [TkD.mk 1 2 1 0 0]).length, iv 0])), (48, Hint.call [] [2] [] (AV.tup [AV.bool (nedB (netM [2] 0 4) [TkD.mk 1 2 1 0 0] 0 1), iv (nedE (netM [2] 0 4) [TkD.mk 1 2 1 0 0] 0 1)]))] [] [] [] mix (by kernel_rfl) (aj (u2 (aj (ak (u2 (u2 (aj (ak (k3 (al (net_ct ([2]) (0) (4) (show nat_lit 0 ≤ (5000 : Nat) from (by first | exact Nat.le_of_ble_eq_true rfl | decide)) (show (1 : Int) ≤ (4 : Int) ∧ (4 : Int) ≤ (20 : Int) from ⟨(by first | exact Nat.le_of_ble_eq_true rfl | decide), (by first | exact Nat.le_of_ble_eq_true rfl | decide)⟩))))) (ak (al (k2 n11))))))) (aj (u2 (u2 (u2 (u2 (u2 (ag a0 (ag a0 (ag a0 (ag a0 (al (aj a0 t2))))))))))) (aj a1 (aj (ak (u2 s2)) (aj (ak (u2 s2)) (aj (u2 (u2 (u2 (aj (k3 (aj t9 (aj (show nat_lit 1 = nat_lit 1 from rfl) (aj (show nat_lit 1 = nat_lit 1 from rfl) (aj (sTakenF_ct (netM [2] 0 4) ([UnD.mk 1 false 0 0 (-1) 0 false false 0 1 [] 0 0]) ([TkD.mk 1 2 1 0 0]) a2 a3) a4))))) (u2 (u2 (u2 (u2 s2)))))))) (aj (u2 (aj (ak (aj (show (0 : Int) ≤ (0 : Int) from (by first | exact Nat.le_of_ble_eq_true rfl | decide)) (show (0 : Int) < (1 : Int) from (by first | exact Nat.le_of_ble_eq_true rfl | decide)))) (u2 s2))) (aj (u2 (u2 (u2 (aj (k3 (aj t9 (aj (show nat_lit 1 = nat_lit 1 from rfl) (aj (show nat_lit 1 = nat_lit 1 from rfl) (aj (sTakenF_ct (netM [2] 0 4) ([UnD.mk 1 false 0 0 (-1) 0 false false 0 2 [] 0 0]) ([TkD.mk 1 2 1 0 0]) a2 a5) a6))))) (u2 (u2 (u2 (u2 s2)))))))) (aj (u2 (u2 (aj (k2 (aj t9 (aj (show nat_lit 1 = nat_lit 1 from rfl) (k2 (aj (sNeeds_ct a2 ([TkD.mk 1 2 1 0 0]) (0) (1)) (show ∀ (blk : Blk), blk ∈ [] → ImmB blk from (by intro _ h; cases h))))))) (u2 (u2 (u2 (u2 s2))))))) (al (u2 (u2 (u2 (aj t3 (aj t3 (aj t3 (u2 (aj t3 (aj t3 (aj t3 (u2 (ag a7 (ag a7 (u2 (ag a8 (ag a8 (ag a8 (ag a8 (ag a8 (aj (aj a8 t3) (ag a8 (u2 (ag a9 (ag a9 (ag a9 (ag a9 (aj (aj a9 t3) (ag a9 (u2 (ag a10 (aj (aj a10 (ak (aj (show (0 : Int) ≤ (1 : Int) from (by first | exact Nat.le_of_ble_eq_true rfl | decide)) a11))) (aj (aj a10 (ak (getMap (f := iv) a12))) (ag a10 (ag a10 (u2 (aj a13 (aj a13 (aj a13 (aj a13 (ag a13 (u2 (ak (k3 (aj t3 (u2 (ak (k3 (aj t3 s2))))))))))))))))))))))))))))))))))))))))))))))))))))))))))) t2)
        ·
         cases h
         exact Arr.rt [36, 46, 123, 129, 145, 158] [(10, AV.lst []), (27, AV.tup [])] [(13, Hint.call [0] [] [tapeB [2] (netK [2] 0 4)] (netA (netM [2] 0 4))), (32, Hint.call [] [3, 2] [dB (cntL (netM [2] 0 4) [UnD.mk 1 false 0 0 (-1) 0 false false 0 1 [] 0 0] [TkD.mk 1 2 1 0 0])] (AV.tup [AV.sl 0 0 (cntL (netM [2] 0 4) [UnD.mk 1 false 0 0 (-1) 0 false false 0 1 [] 0 0] [TkD.mk 1 2 1 0 0]).length, iv 0])), (42, Hint.call [] [3, 2] [dB (cntL (netM [2] 0 4) [UnD.mk 1 false 0 0 (-1) 0 false false 0 2 [] 0 0] [TkD.mk 1 2 1 0 0])] (AV.tup [AV.sl 0 0 (cntL (netM [2] 0 4) [UnD.mk 1 false 0 0 (-1) 0 false false 0 2 [] 0 0] [TkD.mk 1 2 1 0 0]).length, iv 0])), (48, Hint.call [] [2] [] (AV.tup [AV.bool (nedB (netM [2] 0 4) [TkD.mk 1 2 1 0 0] 0 1), iv (nedE (netM [2] 0 4) [TkD.mk 1 2 1 0 0] 0 1)]))] [] [] [] mix (by kernel_rfl) (aj (u2 (aj (ak (u2 (u2 (aj (ak (k3 (al (net_ct ([2]) (0) (4) (show nat_lit 0 ≤ (5000 : Nat) from (by first | exact Nat.le_of_ble_eq_true rfl | decide)) (show (1 : Int) ≤ (4 : Int) ∧ (4 : Int) ≤ (20 : Int) from ⟨(by first | exact Nat.le_of_ble_eq_true rfl | decide), (by first | exact Nat.le_of_ble_eq_true rfl | decide)⟩))))) (ak (al (k2 n11))))))) (aj (u2 (u2 (u2 (u2 (u2 (ag a0 (ag a0 (ag a0 (ag a0 (al (aj a0 t2))))))))))) (aj a1 (aj (ak (u2 s2)) (aj (ak (u2 s2)) (aj (u2 (u2 (u2 (aj (k3 (aj t9 (aj (show nat_lit 1 = nat_lit 1 from rfl) (aj (show nat_lit 1 = nat_lit 1 from rfl) (aj (sTakenF_ct (netM [2] 0 4) ([UnD.mk 1 false 0 0 (-1) 0 false false 0 1 [] 0 0]) ([TkD.mk 1 2 1 0 0]) a2 a3) a4))))) (u2 (u2 (u2 (u2 s2)))))))) (aj (u2 (aj (ak (aj (show (0 : Int) ≤ (0 : Int) from (by first | exact Nat.le_of_ble_eq_true rfl | decide)) (show (0 : Int) < (1 : Int) from (by first | exact Nat.le_of_ble_eq_true rfl | decide)))) (u2 s2))) (aj (u2 (u2 (u2 (aj (k3 (aj t9 (aj (show nat_lit 1 = nat_lit 1 from rfl) (aj (show nat_lit 1 = nat_lit 1 from rfl) (aj (sTakenF_ct (netM [2] 0 4) ([UnD.mk 1 false 0 0 (-1) 0 false false 0 2 [] 0 0]) ([TkD.mk 1 2 1 0 0]) a2 a5) a6))))) (u2 (u2 (u2 (u2 s2)))))))) (aj (u2 (u2 (aj (k2 (aj t9 (aj (show nat_lit 1 = nat_lit 1 from rfl) (k2 (aj (sNeeds_ct a2 ([TkD.mk 1 2 1 0 0]) (0) (1)) (show ∀ (blk : Blk), blk ∈ [] → ImmB blk from (by intro _ h; cases h))))))) (u2 (u2 (u2 (u2 s2))))))) (al (u2 (u2 (u2 (aj t3 (aj t3 (aj t3 (u2 (aj t3 (aj t3 (aj t3 (u2 (ag a7 (ag a7 (u2 (ag a8 (ag a8 (ag a8 (ag a8 (ag a8 (aj (aj a8 t3) (ag a8 (u2 (ag a9 (ag a9 (ag a9 (ag a9 (aj (aj a9 t3) (ag a9 (u2 (aj a10 (aj a10 (aj a10 (aj a10 (ag a10 (u2 (ak (k3 (aj t3 (u2 (ak (k3 (aj t3 (u2 (ak (k3 (aj t3 s2))))))))))))))))))))))))))))))))))))))))))))))))))))))))) t2)
       ·
        cases h
        exact Arr.rt [36, 46, 123, 129, 144] [(10, AV.lst []), (27, AV.tup [])] [(13, Hint.call [0] [] [tapeB [2] (netK [2] 0 4)] (netA (netM [2] 0 4))), (32, Hint.call [] [3, 2] [dB (cntL (netM [2] 0 4) [UnD.mk 1 false 0 0 (-1) 0 false false 0 1 [] 0 0] [TkD.mk 1 2 1 0 0])] (AV.tup [AV.sl 0 0 (cntL (netM [2] 0 4) [UnD.mk 1 false 0 0 (-1) 0 false false 0 1 [] 0 0] [TkD.mk 1 2 1 0 0]).length, iv 0])), (42, Hint.call [] [3, 2] [dB (cntL (netM [2] 0 4) [UnD.mk 1 false 0 0 (-1) 0 false false 0 2 [] 0 0] [TkD.mk 1 2 1 0 0])] (AV.tup [AV.sl 0 0 (cntL (netM [2] 0 4) [UnD.mk 1 false 0 0 (-1) 0 false false 0 2 [] 0 0] [TkD.mk 1 2 1 0 0]).length, iv 0])), (48, Hint.call [] [2] [] (AV.tup [AV.bool (nedB (netM [2] 0 4) [TkD.mk 1 2 1 0 0] 0 1), iv (nedE (netM [2] 0 4) [TkD.mk 1 2 1 0 0] 0 1)]))] [] [] [] mix (by kernel_rfl) (aj (u2 (aj (ak (u2 (u2 (aj (ak (k3 (al (net_ct ([2]) (0) (4) (show nat_lit 0 ≤ (5000 : Nat) from (by first | exact Nat.le_of_ble_eq_true rfl | decide)) (show (1 : Int) ≤ (4 : Int) ∧ (4 : Int) ≤ (20 : Int) from ⟨(by first | exact Nat.le_of_ble_eq_true rfl | decide), (by first | exact Nat.le_of_ble_eq_true rfl | decide)⟩))))) (ak (al (k2 n11))))))) (aj (u2 (u2 (u2 (u2 (u2 (ag a0 (ag a0 (ag a0 (ag a0 (al (aj a0 t2))))))))))) (aj a1 (aj (ak (u2 s2)) (aj (ak (u2 s2)) (aj (u2 (u2 (u2 (aj (k3 (aj t9 (aj (show nat_lit 1 = nat_lit 1 from rfl) (aj (show nat_lit 1 = nat_lit 1 from rfl) (aj (sTakenF_ct (netM [2] 0 4) ([UnD.mk 1 false 0 0 (-1) 0 false false 0 1 [] 0 0]) ([TkD.mk 1 2 1 0 0]) a2 a3) a4))))) (u2 (u2 (u2 (u2 s2)))))))) (aj (u2 (aj (ak (aj (show (0 : Int) ≤ (0 : Int) from (by first | exact Nat.le_of_ble_eq_true rfl | decide)) (show (0 : Int) < (1 : Int) from (by first | exact Nat.le_of_ble_eq_true rfl | decide)))) (u2 s2))) (aj (u2 (u2 (u2 (aj (k3 (aj t9 (aj (show nat_lit 1 = nat_lit 1 from rfl) (aj (show nat_lit 1 = nat_lit 1 from rfl) (aj (sTakenF_ct (netM [2] 0 4) ([UnD.mk 1 false 0 0 (-1) 0 false false 0 2 [] 0 0]) ([TkD.mk 1 2 1 0 0]) a2 a5) a6))))) (u2 (u2 (u2 (u2 s2)))))))) (aj (u2 (u2 (aj (k2 (aj t9 (aj (show nat_lit 1 = nat_lit 1 from rfl) (k2 (aj (sNeeds_ct a2 ([TkD.mk 1 2 1 0 0]) (0) (1)) (show ∀ (blk : Blk), blk ∈ [] → ImmB blk from (by intro _ h; cases h))))))) (u2 (u2 (u2 (u2 s2))))))) (al (u2 (u2 (u2 (aj t3 (aj t3 (aj t3 (u2 (aj t3 (aj t3 (aj t3 (u2 (ag a7 (ag a7 (u2 (ag a8 (ag a8 (ag a8 (ag a8 (ag a8 (aj (aj a8 t3) (ag a8 (u2 (aj a9 (aj a9 (aj a9 (aj a9 (aj a9 (ag a9 (u2 (ak (k3 (aj t3 (u2 (ak (k3 (aj t3 (u2 (ak (k3 (aj t3 (u2 (ak (k3 (aj t3 s2))))))))))))))))))))))))))))))))))))))))))))))))))))))) t2)
      ·
       cases h
       exact Arr.rt [36, 46, 123, 128] [(10, AV.lst []), (27, AV.tup [])] [(13, Hint.call [0] [] [tapeB [2] (netK [2] 0 4)] (netA (netM [2] 0 4))), (32, Hint.call [] [3, 2] [dB (cntL (netM [2] 0 4) [UnD.mk 1 false 0 0 (-1) 0 false false 0 1 [] 0 0] [TkD.mk 1 2 1 0 0])] (AV.tup [AV.sl 0 0 (cntL (netM [2] 0 4) [UnD.mk 1 false 0 0 (-1) 0 false false 0 1 [] 0 0] [TkD.mk 1 2 1 0 0]).length, iv 0])), (42, Hint.call [] [3, 2] [dB (cntL (netM [2] 0 4) [UnD.mk 1 false 0 0 (-1) 0 false false 0 2 [] 0 0] [TkD.mk 1 2 1 0 0])] (AV.tup [AV.sl 0 0 (cntL (netM [2] 0 4) [UnD.mk 1 false 0 0 (-1) 0 false false 0 2 [] 0 0] [TkD.mk 1 2 1 0 0]).length, iv 0])), (48, Hint.call [] [2] [] (AV.tup [AV.bool (nedB (netM [2] 0 4) [TkD.mk 1 2 1 0 0] 0 1), iv (nedE (netM [2] 0 4) [TkD.mk 1 2 1 0 0] 0 1)]))] [] [] [] mix (by kernel_rfl) (aj (u2 (aj (ak (u2 (u2 (aj (ak (k3 (al (net_ct ([2]) (0) (4) (show nat_lit 0 ≤ (5000 : Nat) from (by first | exact Nat.le_of_ble_eq_true rfl | decide)) (show (1 : Int) ≤ (4 : Int) ∧ (4 : Int) ≤ (20 : Int) from ⟨(by first | exact Nat.le_of_ble_eq_true rfl | decide), (by first | exact Nat.le_of_ble_eq_true rfl | decide)⟩))))) (ak (al (k2 n11))))))) (aj (u2 (u2 (u2 (u2 (u2 (ag a0 (ag a0 (ag a0 (ag a0 (al (aj a0 t2))))))))))) (aj a1 (aj (ak (u2 s2)) (aj (ak (u2 s2)) (aj (u2 (u2 (u2 (aj (k3 (aj t9 (aj (show nat_lit 1 = nat_lit 1 from rfl) (aj (show nat_lit 1 = nat_lit 1 from rfl) (aj (sTakenF_ct (netM [2] 0 4) ([UnD.mk 1 false 0 0 (-1) 0 false false 0 1 [] 0 0]) ([TkD.mk 1 2 1 0 0]) a2 a3) a4))))) (u2 (u2 (u2 (u2 s2)))))))) (aj (u2 (aj (ak (aj (show (0 : Int) ≤ (0 : Int) from (by first | exact Nat.le_of_ble_eq_true rfl | decide)) (show (0 : Int) < (1 : Int) from (by first | exact Nat.le_of_ble_eq_true rfl | decide)))) (u2 s2))) (aj (u2 (u2 (u2 (aj (k3 (aj t9 (aj (show nat_lit 1 = nat_lit 1 from rfl) (aj (show nat_lit 1 = nat_lit 1 from rfl) (aj (sTakenF_ct (netM [2] 0 4) ([UnD.mk 1 false 0 0 (-1) 0 false false 0 2 [] 0 0]) ([TkD.mk 1 2 1 0 0]) a2 a5) a6))))) (u2 (u2 (u2 (u2 s2)))))))) (aj (u2 (u2 (aj (k2 (aj t9 (aj (show nat_lit 1 = nat_lit 1 from rfl) (k2 (aj (sNeeds_ct a2 ([TkD.mk 1 2 1 0 0]) (0) (1)) (show ∀ (blk : Blk), blk ∈ [] → ImmB blk from (by intro _ h; cases h))))))) (u2 (u2 (u2 (u2 s2))))))) (al (u2 (u2 (u2 (aj t3 (aj t3 (aj t3 (u2 (aj t3 (aj t3 (aj t3 (u2 (ag a7 (ag a7 (u2 (aj a8 (aj a8 (aj a8 (aj a8 (aj a8 (aj a8 (ag a8 (u2 (k5 (aj t3 (u2 (ak (k3 (aj t3 (u2 (ak (k3 (aj t3 (u2 (ak (k3 (aj t3 (u2 (ak (k3 (aj t3 s2))))))))))))))))))))))))))))))))))))))))))))))))))) t2)
     ·
      cases h
      exact Arr.rt [36, 46, 122] [(10, AV.lst []), (27, AV.tup [])] [(13, Hint.call [0] [] [tapeB [2] (netK [2] 0 4)] (netA (netM [2] 0 4))), (32, Hint.call [] [3, 2] [dB (cntL (netM [2] 0 4) [UnD.mk 1 false 0 0 (-1) 0 false false 0 1 [] 0 0] [TkD.mk 1 2 1 0 0])] (AV.tup [AV.sl 0 0 (cntL (netM [2] 0 4) [UnD.mk 1 false 0 0 (-1) 0 false false 0 1 [] 0 0] [TkD.mk 1 2 1 0 0]).length, iv 0])), (42, Hint.call [] [3, 2] [dB (cntL (netM [2] 0 4) [UnD.mk 1 false 0 0 (-1) 0 false false 0 2 [] 0 0] [TkD.mk 1 2 1 0 0])] (AV.tup [AV.sl 0 0 (cntL (netM [2] 0 4) [UnD.mk 1 false 0 0 (-1) 0 false false 0 2 [] 0 0] [TkD.mk 1 2 1 0 0]).length, iv 0])), (48, Hint.call [] [2] [] (AV.tup [AV.bool (nedB (netM [2] 0 4) [TkD.mk 1 2 1 0 0] 0 1), iv (nedE (netM [2] 0 4) [TkD.mk 1 2 1 0 0] 0 1)]))] [] [] [] mix (by kernel_rfl) (aj (u2 (aj (ak (u2 (u2 (aj (ak (k3 (al (net_ct ([2]) (0) (4) (show nat_lit 0 ≤ (5000 : Nat) from (by first | exact Nat.le_of_ble_eq_true rfl | decide)) (show (1 : Int) ≤ (4 : Int) ∧ (4 : Int) ≤ (20 : Int) from ⟨(by first | exact Nat.le_of_ble_eq_true rfl | decide), (by first | exact Nat.le_of_ble_eq_true rfl | decide)⟩))))) (ak (al (k2 n11))))))) (aj (u2 (u2 (u2 (u2 (u2 (ag a0 (ag a0 (ag a0 (ag a0 (al (aj a0 t2))))))))))) (aj a1 (aj (ak (u2 s2)) (aj (ak (u2 s2)) (aj (u2 (u2 (u2 (aj (k3 (aj t9 (aj (show nat_lit 1 = nat_lit 1 from rfl) (aj (show nat_lit 1 = nat_lit 1 from rfl) (aj (sTakenF_ct (netM [2] 0 4) ([UnD.mk 1 false 0 0 (-1) 0 false false 0 1 [] 0 0]) ([TkD.mk 1 2 1 0 0]) a2 a3) a4))))) (u2 (u2 (u2 (u2 s2)))))))) (aj (u2 (aj (ak (aj (show (0 : Int) ≤ (0 : Int) from (by first | exact Nat.le_of_ble_eq_true rfl | decide)) (show (0 : Int) < (1 : Int) from (by first | exact Nat.le_of_ble_eq_true rfl | decide)))) (u2 s2))) (aj (u2 (u2 (u2 (aj (k3 (aj t9 (aj (show nat_lit 1 = nat_lit 1 from rfl) (aj (show nat_lit 1 = nat_lit 1 from rfl) (aj (sTakenF_ct (netM [2] 0 4) ([UnD.mk 1 false 0 0 (-1) 0 false false 0 2 [] 0 0]) ([TkD.mk 1 2 1 0 0]) a2 a5) a6))))) (u2 (u2 (u2 (u2 s2)))))))) (aj (u2 (u2 (aj (k2 (aj t9 (aj (show nat_lit 1 = nat_lit 1 from rfl) (k2 (aj (sNeeds_ct a2 ([TkD.mk 1 2 1 0 0]) (0) (1)) (show ∀ (blk : Blk), blk ∈ [] → ImmB blk from (by intro _ h; cases h))))))) (u2 (u2 (u2 (u2 s2))))))) (al (u2 (u2 (u2 (aj t3 (aj t3 (aj t3 (u2 (aj t3 (aj t3 (aj t3 (u2 (aj a7 (ag a7 (u2 (ak (k5 (aj t3 (u2 (k5 (aj t3 (u2 (ak (k3 (aj t3 (u2 (ak (k3 (aj t3 (u2 (ak (k3 (aj t3 (u2 (ak (k3 (aj t3 s2))))))))))))))))))))))))))))))))))))))))))))))) t2)
    ·
     cases h
   ·
    cases h
theorem kn_ct (r : Ret) (h : MReach (knStep) (knEn) r) : CT Try.prog 15 ([]) ([]) r.1 r.2 :=
  CT.mach (fn := Try.f15) (c := bodyOf Try.f15) (S := knSt) (hd := knHd) Try.func15 (by kernel_rfl) (Nat.le_of_ble_eq_true rfl)
    (fun s o ho => match s, ho with
      | x, _ => x.elim)
    (fun o ho => knEn_ok o ho) h
noncomputable def rStSt (n : NetD) (u : List UnD) (t : List TkD) (k : Int) : Empty → St
  | x => x.elim
def rStHd : Empty → Nat
  | x => x.elim
noncomputable def rStEn (n : NetD) (u : List UnD) (t : List TkD) (k : Int) : Option (Empty ⊕ Ret) :=
  gu (Rows n.nx) <|
  br (!consB n u t)
  (some (.inr ([], AV.tup [AV.bool false, AV.int IntKind.i64 20])))
  (br (decide (k < 0))
   (some (.inr ([], AV.tup [AV.bool false, AV.int IntKind.i64 19])))
   (br (decide (iN (List.map tkA t).length ≤ k))
    (some (.inr ([], AV.tup [AV.bool false, AV.int IntKind.i64 19])))
    (gu (ConsP n u t) <|
     gu (0 ≤ k ∧ k < iN t.length) <|
     some (.inr ([], AV.tup
  [AV.bool
      (match t[k.toNat]? with
      | some x => canB n u t x
      | none => false),
    AV.int IntKind.i64 0])))))
noncomputable def rStStep (n : NetD) (u : List UnD) (t : List TkD) (k : Int) : Empty → Option (Empty ⊕ Ret)
  | x => x.elim
theorem rStEn_ok (n : NetD) (u : List UnD) (t : List TkD) (k : Int) (o : Empty ⊕ Ret) (h : rStEn n u t k = some o) : Arr Try.prog Try.f22 0 (rStSt n u t k) rStHd (bodyOf Try.f22) [] { n := Try.f22.ntmps, fr := enumF 0 ([netA n, .lst (u.map unA), .lst (t.map tkA), .int .i64 k]), hp := ([]) } o := by
 unfold rStEn at h
 obtain ⟨a0, h⟩ := gu_inv h
 rcases br_inv h with ⟨a1, h⟩ | ⟨a1, h⟩
 ·
  cases h
  exact Arr.rt [29] [] [(13, hc (AV.bool (consB n u t)))] [] [] [] mix (by kernel_rfl) (aj (aj (u2 t3) (aj (u2 (u2 (u2 (aj (k3 (aj t9 (k2 (al (rcons_ct a0 (u) (t)))))) s2)))) (aj a1 (al t3)))) (al t3))
 ·
  rcases br_inv h with ⟨a2, h⟩ | ⟨a2, h⟩
  ·
   cases h
   exact Arr.rt [28, 35] [] [(13, hc (AV.bool (consB n u t)))] [] [] [] mix (by kernel_rfl) (aj (aj (u2 t3) (aj (u2 (u2 (u2 (aj (k3 (aj t9 (k2 (al (rcons_ct a0 (u) (t)))))) s2)))) (aj a1 (aj (u2 (u2 (u2 (aj a2 (aj a2 (aj a2 (aj a2 (al (aj a2 t2))))))))) (ak (al t3)))))) (al t3))
  ·
   rcases br_inv h with ⟨a3, h⟩ | ⟨a3, h⟩
   ·
    cases h
    exact Arr.rt [28, 34, 45] [] [(13, hc (AV.bool (consB n u t)))] [] [] [] mix (by kernel_rfl) (aj (aj (u2 t3) (aj (u2 (u2 (u2 (aj (k3 (aj t9 (k2 (al (rcons_ct a0 (u) (t)))))) s2)))) (aj a1 (aj (u2 (u2 (u2 (ag a2 (ag a2 (ag a2 (aj (aj a2 t3) (al (aj a2 t2))))))))) (aj a3 (al t3)))))) (al t3))
   ·
    obtain ⟨a4, h⟩ := gu_inv h
    obtain ⟨a5, h⟩ := gu_inv h
    cases h
    exact Arr.ret (H := hT [(14, false), (17, false), (22, false)] [] [(13, Hint.call [] [] [] (AV.bool (consB n u t))), (27,
 Hint.call [] [] []
  (AV.bool
   (match t[k.toNat]? with
   | some x => canB n u t x
   | none => false)))]) (F := []) (n := 4000) [] [] mix (by kernel_rfl) (aj (aj (aj t2 t3) (aj (aj t2 (aj t2 (aj t2 (aj (ak (ak (ak (aj t9 (ak (ak (al (rcons_ct a0 (u) (t))))))))) s2)))) (aj a1 (aj (aj t2 (aj t2 (aj t2 (aj (aj a2 t2) (aj (aj a2 t2) (aj (aj a2 t2) (aj (aj a2 t3) (al (aj a2 t2))))))))) (aj a3 (al (aj t2 (aj t2 (aj t2 (aj t2 (aj (ak (ak (ak (ak (aj t9 (ak (ak (ak (al (rCan_ct (n) (u) (t) (k) a4 a5)))))))))) (aj t2 t2)))))))))))) (al t3))
theorem rSt_ct (n : NetD) (u : List UnD) (t : List TkD) (k : Int) (r : Ret) (h : MReach (rStStep n u t k) (rStEn n u t k) r) : CT Try.prog 22 ([]) ([netA n, .lst (u.map unA), .lst (t.map tkA), .int .i64 k]) r.1 r.2 :=
  CT.mach (fn := Try.f22) (c := bodyOf Try.f22) (S := rStSt n u t k) (hd := rStHd) Try.func22 (by kernel_rfl) (Nat.le_of_ble_eq_true rfl)
    (fun s o ho => match s, ho with
      | x, _ => x.elim)
    (fun o ho => rStEn_ok n u t k o ho) h
end Go.Proofs.Ytepomnooippjpaa
namespace Go.Proofs.Ytepomnooippjpaa
theorem dB_imm (l : List Int) : ImmB (dB l) := by
  intro e he c hc
  obtain ⟨x, _, rfl⟩ := List.mem_map.1 he
  rw [List.mem_singleton.1 hc]; rfl
theorem dB_imms (l : List Int) : ∀ blk ∈ [dB l], ImmB blk := fun b hb => by rw [List.mem_singleton.1 hb]; exact dB_imm l
theorem rStart_ct {n : NetD} (hrw : Rows n.nx) (u : List UnD) (t : List TkD) (k : Int) : CT Try.prog 22 [] [netA n, .lst (u.map unA), .lst (t.map tkA), .int .i64 k] [] (.tup [.bool (staB n u t k), .int .i64 (staE n u t k)]) := by
  refine rSt_ct n u t k ([], _) (.val ?_)
  unfold rStEn staB staE
  rw [gu_t hrw]
  cases hc : consB n u t with
  | false => rfl
  | true =>
    have c := consB_iff hc
    rw [br_f (by rfl), if_pos rfl]
    by_cases h0 : k < 0
    · rw [br_t (dec_t h0), if_pos (.inl h0), dec_f (by omega)]; rfl
    by_cases h1 : (t.length : Int) ≤ k
    · rw [br_f (dec_f h0), br_t (dec_t (by simpa [iN] using h1)), if_pos (.inr h1), List.getElem?_eq_none (by omega)]; simp
    rw [br_f (dec_f h0), br_f (dec_f (by simpa [iN] using h1)), if_neg (by omega), gu_t c, gu_t ⟨by omega, by show k < (t.length : Int); omega⟩, dec_t (show 0 ≤ k by omega)]
    rfl
theorem consB_of {n : NetD} {u : List UnD} {t : List TkD} (c : ConsP n u t) : consB n u t = true := by
  unfold consB
  simp only [Bool.and_eq_true, decide_eq_true_eq, List.all_eq_true]
  exact ⟨⟨⟨⟨valB_iff.2 c.v, c.u8⟩, c.t32⟩, fun x hx => by unfold consT; rw [(c.t x hx).1, (c.t x hx).2]; rfl⟩, c.u⟩
theorem tcn_at {n : NetD} {u : List UnD} {t : List TkD} {i : Nat} {s : SpuD} (hs : n.ss[i]? = some s) : tcn n u t i = if s.dep = true then 0 else (u.filter (tcx n t i)).length := by
  have hst : stB n i = !s.dep := by unfold stB; rw [dec_t (by omega), Int.toNat_natCast, hs, Bool.true_and]
  unfold tcn tcj
  rw [hst, List.take_length]
  cases s.dep <;> rfl
theorem tkP_at {n : NetD} {x : UnD} {t : List TkD} {i : Nat} {s : SpuD} (hs : n.ss[i]? = some s) : tkP n x t i = tkB x t s i := by
  unfold tkP; rw [Int.toNat_natCast, hs]
theorem inP_lo {n : NetD} (hv : ValidN n) {i : Nat} {s : SpuD} (hs : n.ss[i]? = some s) {c : Int} (hc : c ≤ 0) : inP c s = false := by
  have := hv.sb hs; unfold inP; simp; omega
theorem known_ct : CT Try.prog 15 [] [] [] (.bool true) := by
  refine kn_ct ([], _) (.val ?_)
  have hs := net_spec (L := [2]) (kk := 0) (most := 4) (by omega) (by omega)
  have hn := hs.1
  have hl := hn.loose
  generalize he : netM [2] 0 4 = n at hn hl
  have hv := hn.v
  have hce := hv.cel
  have nb := hv.nb24
  have hln := hn.ln
  have hcons : ∀ ph, consB n [UnD.mk 1 false 0 0 (-1) 0 false false 0 ph [] 0 0] [TkD.mk 1 2 1 0 0] = true := fun ph => consB_of ⟨hv, by simp, by simp, (fun x hx => by rw [List.mem_singleton.1 hx]; simp [consU]; omega), fun x hx => by rw [List.mem_singleton.1 hx]; exact ⟨hl.st1, hl.st2⟩⟩
  have hcons0 : consB n [] [TkD.mk 1 2 1 0 0] = true := consB_of ⟨hv, Nat.zero_le _, by simp, (fun x hx => by cases hx), fun x hx => by rw [List.mem_singleton.1 hx]; exact ⟨hl.st1, hl.st2⟩⟩
  obtain ⟨s1, hs1⟩ : ∃ s, n.ss[1]? = some s := ⟨_, List.getElem?_eq_getElem (by omega)⟩
  obtain ⟨s2, hs2⟩ : ∃ s, n.ss[2]? = some s := ⟨_, List.getElem?_eq_getElem (by omega)⟩
  have d1 := hn.d1 _ hs1
  have d2 := hn.d2 _ hs2
  have at1 : ∀ ph, tcn n [UnD.mk 1 false 0 0 (-1) 0 false false 0 ph [] 0 0] [TkD.mk 1 2 1 0 0] 1 = if ph = 1 then 1 else 0 := fun ph => by
    rw [tcn_at hs1, d1, if_neg (by simp)]
    have e : tcx n [TkD.mk 1 2 1 0 0] 1 (UnD.mk 1 false 0 0 (-1) 0 false false 0 ph [] 0 0) = decide (ph = 1) := by
      unfold tcx
      rw [tkP_at hs1]
      unfold tkB
      simp only
      rw [inP_lo hv hs1 (by omega), inP_lo hv hs1 (by omega)]
      unfold tkPh
      simp
      rfl
    by_cases h : ph = 1
    · subst h; simp [List.filter, e]
    · simp [List.filter, e, h]
  have at2 : ∀ ph, (ph = 1 ∨ ph = 2) → tcn n [UnD.mk 1 false 0 0 (-1) 0 false false 0 ph [] 0 0] [TkD.mk 1 2 1 0 0] 2 = 1 := fun ph h => by
    rw [tcn_at hs2, d2, if_neg (by simp)]
    have e : tcx n [TkD.mk 1 2 1 0 0] 2 (UnD.mk 1 false 0 0 (-1) 0 false false 0 ph [] 0 0) = true := by
      unfold tcx
      rw [tkP_at hs2]
      unfold tkB
      simp only
      rw [inP_lo hv hs2 (by omega), inP_lo hv hs2 (by omega)]
      unfold tkPh
      rcases h with rfl | rfl <;> simp
    simp [List.filter, e]
  have len : ∀ (u : List UnD) (t : List TkD), (cntL n u t).length = n.ss.length := fun u t => by simp [cntL]
  have hrs : n.rs.length ≠ 0 := fun e => hn.rb (List.length_eq_zero_iff.1 e)
  have e1 : nedE n [TkD.mk 1 2 1 0 0] 0 1 = 0 := by unfold nedE; rw [if_pos hcons0, if_neg (by simp; omega)]
  have e2 : nedB n [TkD.mk 1 2 1 0 0] 0 1 = true := by
    unfold nedB; rw [hcons0]; simp [needB]; omega
  have a1 : (cntL n [UnD.mk 1 false 0 0 (-1) 0 false false 0 1 [] 0 0] [TkD.mk 1 2 1 0 0])[1]? = some 1 := by rw [cntL_at (by omega), at1]; rfl
  have a2 : (cntL n [UnD.mk 1 false 0 0 (-1) 0 false false 0 1 [] 0 0] [TkD.mk 1 2 1 0 0])[2]? = some 1 := by rw [cntL_at (by omega), at2 1 (.inl rfl)]; rfl
  have b1 : (cntL n [UnD.mk 1 false 0 0 (-1) 0 false false 0 2 [] 0 0] [TkD.mk 1 2 1 0 0])[1]? = some 0 := by rw [cntL_at (by omega), at1]; rfl
  have b2 : (cntL n [UnD.mk 1 false 0 0 (-1) 0 false false 0 2 [] 0 0] [TkD.mk 1 2 1 0 0])[2]? = some 1 := by rw [cntL_at (by omega), at2 2 (.inr rfl)]; rfl
  have l1 : iN (cntL n [UnD.mk 1 false 0 0 (-1) 0 false false 0 1 [] 0 0] [TkD.mk 1 2 1 0 0]).length = n.ss.length := by simp [iN, len]
  have l2 : iN (cntL n [UnD.mk 1 false 0 0 (-1) 0 false false 0 2 [] 0 0] [TkD.mk 1 2 1 0 0]).length = n.ss.length := by simp [iN, len]
  have l3 : iN (List.map sA n.ss).length = n.ss.length := by simp [iN]
  unfold knEn
  simp only [he]
  rw [br_f (dec_f (by rw [l3]; omega)), br_f (by simpa [iN] using hrs), gu_t hn.rows, br_t (hcons 1), gu_t (dB_imms _), br_t (hcons 2), gu_t (dB_imms _), e1, e2, br_t (by rfl), br_t rfl, l1, l2, l3, br_t (by simp), br_t (by simp), gu_t (by omega)]
  rw [el_t a1, br_t (by rfl), gu_t (by omega), el_t a2, br_t (by rfl), gu_t (by omega), el_t b1, br_t (by rfl), gu_t (by omega), el_t b2]
  rfl
inductive stCPc where
  | l0 (v0 : List UnD) (v1 : List TkD) (v2 : Int) (v3 : NetD) (v4 : Int) (v5 : Int) (v6 : Nat)
noncomputable def stCSt (n : NetD) (u : List UnD) (t : List TkD) (a b : Int) (l : List Int) : stCPc → St
  | .l0 v0 v1 v2 v3 v4 v5 v6 => St.mk 139 [(1, AV.lst (List.map unA v0)), (2, AV.lst (List.map tkA v1)), (5, AV.ptr 0 0 0), (8, AV.ptr 1 0 0), (11, AV.ptr 2 0 0), (12, iv v2)] [some (Blk.mk [AV.agg [AV.lst (List.map bA v3.bs), AV.lst (List.map lI v3.nx), AV.lst (List.map sA v3.ss), AV.lst (List.map (iv) v3.rs), iv v3.q, iv v3.a, iv v3.d, iv v3.p]] 8 true true none), some (Blk.mk [AV.agg [iv v4, iv v5]] 2 true true none), some (tapeB l v6)]
def stCHd : stCPc → Nat
  | .l0 _ _ _ _ _ _ _ => 0
noncomputable def stCEn (n : NetD) (u : List UnD) (t : List TkD) (a b : Int) (l : List Int) : Option (stCPc ⊕ Ret) :=
  some (.inl (.l0 (u) (t) ((0 : Int)) (n) (a) (b) (nat_lit 0)))
noncomputable def stCS0 (n : NetD) (u : List UnD) (t : List TkD) (a b : Int) (l : List Int) (v0 : List UnD) (v1 : List TkD) (v2 : Int) (v3 : NetD) (v4 : Int) (v5 : Int) (v6 : Nat) : Option (stCPc ⊕ Ret) :=
  br (decide (v2 < 2))
  (br (v2 == 1)
   (gu (v6 ≤ 5000) <|
    gu (LooseOk (looM l v6 6)) <|
    gu (looK l v6 6 ≤ 10000) <|
    gu (mdK l v6 < 9223372036854775807) <|
    gu (mdK l v6 + 1 < 9223372036854775807) <|
    gu (Rows (looM l v6 6).nx) <|
    br (tkE (looM l v6 6) (mdU l v6) (mdT l v6) != tkE (looM l v6 6) (mdU l v6) (mdT l v6))
    (some (.inr ([], AV.bool false)))
    (br (staE (looM l v6 6) (mdU l v6) (mdT l v6) (IntKind.i64.wrap (nextZ l (mdK l v6) (IntKind.i64.wrap (iN (List.map tkA (mdT l v6)).length + 2)) - 1)) != staE (looM l v6 6) (mdU l v6) (mdT l v6) (IntKind.i64.wrap (nextZ l (mdK l v6) (IntKind.i64.wrap (iN (List.map tkA (mdT l v6)).length + 2)) - 1)))
     (some (.inr ([], AV.bool false)))
     (br (nedE (looM l v6 6) (mdT l v6) (IntKind.i64.wrap (nextZ l (mdK l v6) (IntKind.i64.wrap (iN (List.map tkA (mdT l v6)).length + 2)) - 1)) (IntKind.i64.wrap (nextZ l (mdK l v6 + 1) (IntKind.i64.wrap (iN (List.map sA (looM l v6 6).ss).length + 2)) - 1)) != nedE (looM l v6 6) (mdT l v6) (IntKind.i64.wrap (nextZ l (mdK l v6) (IntKind.i64.wrap (iN (List.map tkA (mdT l v6)).length + 2)) - 1)) (IntKind.i64.wrap (nextZ l (mdK l v6 + 1) (IntKind.i64.wrap (iN (List.map sA (looM l v6 6).ss).length + 2)) - 1)))
      (some (.inr ([], AV.bool false)))
      (br (!staB (looM l v6 6) (mdU l v6) (mdT l v6) (IntKind.i64.wrap (nextZ l (mdK l v6) (IntKind.i64.wrap (iN (List.map tkA (mdT l v6)).length + 2)) - 1)) == staB (looM l v6 6) (mdU l v6) (mdT l v6) (IntKind.i64.wrap (nextZ l (mdK l v6) (IntKind.i64.wrap (iN (List.map tkA (mdT l v6)).length + 2)) - 1)))
       (some (.inr ([], AV.bool false)))
       (br (!nedB (looM l v6 6) (mdT l v6) (IntKind.i64.wrap (nextZ l (mdK l v6) (IntKind.i64.wrap (iN (List.map tkA (mdT l v6)).length + 2)) - 1)) (IntKind.i64.wrap (nextZ l (mdK l v6 + 1) (IntKind.i64.wrap (iN (List.map sA (looM l v6 6).ss).length + 2)) - 1)) == nedB (looM l v6 6) (mdT l v6) (IntKind.i64.wrap (nextZ l (mdK l v6) (IntKind.i64.wrap (iN (List.map tkA (mdT l v6)).length + 2)) - 1)) (IntKind.i64.wrap (nextZ l (mdK l v6 + 1) (IntKind.i64.wrap (iN (List.map sA (looM l v6 6).ss).length + 2)) - 1)))
        (some (.inr ([], AV.bool false)))
        (gu ((tkL (looM l v6 6) (mdU l v6) (mdT l v6)).length ≤ 1000000) <|
         some (.inl (.l0 (mdU l v6) (mdT l v6) (IntKind.i64.wrap (v2 + 1)) (looM l v6 6) (IntKind.i64.wrap (nextZ l (mdK l v6) (IntKind.i64.wrap (iN (List.map tkA (mdT l v6)).length + 2)) - 1)) (IntKind.i64.wrap (nextZ l (mdK l v6 + 1) (IntKind.i64.wrap (iN (List.map sA (looM l v6 6).ss).length + 2)) - 1)) (mdK l v6 + 1 + 1)))))))))
   (gu (Rows v3.nx) <|
    br (tkE v3 v0 v1 != tkE v3 v0 v1)
    (some (.inr ([], AV.bool false)))
    (br (staE v3 v0 v1 v4 != staE v3 v0 v1 v4)
     (some (.inr ([], AV.bool false)))
     (br (nedE v3 v1 v4 v5 != nedE v3 v1 v4 v5)
      (some (.inr ([], AV.bool false)))
      (br (!staB v3 v0 v1 v4 == staB v3 v0 v1 v4)
       (some (.inr ([], AV.bool false)))
       (br (!nedB v3 v1 v4 v5 == nedB v3 v1 v4 v5)
        (some (.inr ([], AV.bool false)))
        (gu ((tkL v3 v0 v1).length ≤ 1000000) <|
         some (.inl (.l0 (v0) (v1) (IntKind.i64.wrap (v2 + 1)) (v3) (v4) (v5) (v6))))))))))
  (some (.inr ([], AV.bool true)))
noncomputable def stCStep (n : NetD) (u : List UnD) (t : List TkD) (a b : Int) (l : List Int) : stCPc → Option (stCPc ⊕ Ret)
  | .l0 v0 v1 v2 v3 v4 v5 v6 => stCS0 n u t a b l v0 v1 v2 v3 v4 v5 v6
theorem stCEn_ok (n : NetD) (u : List UnD) (t : List TkD) (a b : Int) (l : List Int) (o : stCPc ⊕ Ret) (h : stCEn n u t a b l = some o) : Arr Try.prog Try.f3 0 (stCSt n u t a b l) stCHd (bodyOf Try.f3) [] { n := Try.f3.ntmps, fr := enumF 0 ([netA n, .lst (u.map unA), .lst (t.map tkA), .agg [.int .i64 a, .int .i64 b], lI l]), hp := ([]) } o := by
 unfold stCEn at h
 cases h
 exact Arr.lp [] [] [(25, hc (AV.bool true))] [] [] [0, 1, 2] [1, 2, 5, 8, 11, 12] mix (by kernel_rfl) (aj (aj (u2 (u2 t2)) (aj (aj (al (known_ct)) s2) (ak (aj (u2 (u2 (u2 s2))) s2)))) (ak t9))
theorem stCS0_ok (n : NetD) (u : List UnD) (t : List TkD) (a b : Int) (l : List Int) (v0 : List UnD) (v1 : List TkD) (v2 : Int) (v3 : NetD) (v4 : Int) (v5 : Int) (v6 : Nat) (o : stCPc ⊕ Ret) (h : stCS0 n u t a b l v0 v1 v2 v3 v4 v5 v6 = some o) : Arr Try.prog Try.f3 0 (stCSt n u t a b l) stCHd (headC Try.f3 0) (.rnd (headC Try.f3 0) :: headK Try.f3 0) (stCSt n u t a b l (.l0 v0 v1 v2 v3 v4 v5 v6)) o := by
 unfold stCS0 at h
 rcases br_inv h with ⟨a0, h⟩ | ⟨a0, h⟩
 ·
  rcases br_inv h with ⟨a1, h⟩ | ⟨a1, h⟩
  ·
   obtain ⟨a2, h⟩ := gu_inv h
   obtain ⟨a3, h⟩ := gu_inv h
   obtain ⟨a4, h⟩ := gu_inv h
   obtain ⟨a5, h⟩ := gu_inv h
   obtain ⟨a6, h⟩ := gu_inv h
   obtain ⟨a7, h⟩ := gu_inv h
   rcases br_inv h with ⟨a8, h⟩ | ⟨a8, h⟩
   ·
    cases h
    exact Arr.rt [63, 71, 227] [] [(37, Hint.call [2] [] [tapeB l (looK l v6 6)] (netA (looM l v6 6))), (41, Hint.call [2] [] [tapeB l (mdK l v6)] (AV.tup [AV.lst (List.map unA (mdU l v6)), AV.lst (List.map tkA (mdT l v6))])), (48, Hint.call [2] [] [tapeB l (mdK l v6 + 1)] (iv (nextZ l (mdK l v6) (IntKind.i64.wrap (iN (List.map tkA (mdT l v6)).length + 2))))), (55, Hint.call [2] [] [tapeB l (mdK l v6 + 1 + 1)] (iv (nextZ l (mdK l v6 + 1) (IntKind.i64.wrap (iN (List.map sA (looM l v6 6).ss).length + 2))))), (62, hc (AV.tup [lI (tkL (looM l v6 6) (mdU l v6) (mdT l v6)), iv (tkE (looM l v6 6) (mdU l v6) (mdT l v6))])), (69, hc (AV.tup [lI (tkL (looM l v6 6) (mdU l v6) (mdT l v6)), iv (tkE (looM l v6 6) (mdU l v6) (mdT l v6))])), (78, hc (AV.tup [AV.bool (staB (looM l v6 6) (mdU l v6) (mdT l v6) (IntKind.i64.wrap (nextZ l (mdK l v6) (IntKind.i64.wrap (iN (List.map tkA (mdT l v6)).length + 2)) - 1))), iv (staE (looM l v6 6) (mdU l v6) (mdT l v6) (IntKind.i64.wrap (nextZ l (mdK l v6) (IntKind.i64.wrap (iN (List.map tkA (mdT l v6)).length + 2)) - 1)))])), (87, hc (AV.tup [AV.bool (staB (looM l v6 6) (mdU l v6) (mdT l v6) (IntKind.i64.wrap (nextZ l (mdK l v6) (IntKind.i64.wrap (iN (List.map tkA (mdT l v6)).length + 2)) - 1))), iv (staE (looM l v6 6) (mdU l v6) (mdT l v6) (IntKind.i64.wrap (nextZ l (mdK l v6) (IntKind.i64.wrap (iN (List.map tkA (mdT l v6)).length + 2)) - 1)))])), (97, hc (AV.tup [AV.bool (nedB (looM l v6 6) (mdT l v6) (IntKind.i64.wrap (nextZ l (mdK l v6) (IntKind.i64.wrap (iN (List.map tkA (mdT l v6)).length + 2)) - 1)) (IntKind.i64.wrap (nextZ l (mdK l v6 + 1) (IntKind.i64.wrap (iN (List.map sA (looM l v6 6).ss).length + 2)) - 1))), iv (nedE (looM l v6 6) (mdT l v6) (IntKind.i64.wrap (nextZ l (mdK l v6) (IntKind.i64.wrap (iN (List.map tkA (mdT l v6)).length + 2)) - 1)) (IntKind.i64.wrap (nextZ l (mdK l v6 + 1) (IntKind.i64.wrap (iN (List.map sA (looM l v6 6).ss).length + 2)) - 1)))])), (107, hc (AV.tup [AV.bool (nedB (looM l v6 6) (mdT l v6) (IntKind.i64.wrap (nextZ l (mdK l v6) (IntKind.i64.wrap (iN (List.map tkA (mdT l v6)).length + 2)) - 1)) (IntKind.i64.wrap (nextZ l (mdK l v6 + 1) (IntKind.i64.wrap (iN (List.map sA (looM l v6 6).ss).length + 2)) - 1))), iv (nedE (looM l v6 6) (mdT l v6) (IntKind.i64.wrap (nextZ l (mdK l v6) (IntKind.i64.wrap (iN (List.map tkA (mdT l v6)).length + 2)) - 1)) (IntKind.i64.wrap (nextZ l (mdK l v6 + 1) (IntKind.i64.wrap (iN (List.map sA (looM l v6 6).ss).length + 2)) - 1)))]))] [] [] [] mix (by kernel_rfl) (aj (aj (u2 s2) (aj a0 (aj (u2 s2) (aj a1 (aj (u2 (aj (ak (k3 (al (loose_ct (l) (v6) (6) a2 (show (1 : Int) ≤ (6 : Int) ∧ (6 : Int) ≤ (20 : Int) from ⟨(by first | exact Nat.le_of_ble_eq_true rfl | decide), (by first | exact Nat.le_of_ble_eq_true rfl | decide)⟩))))) (al (k2 (show Nat.le 1 [AV.agg [AV.lst (List.map bA v3.bs), AV.lst (List.map lI v3.nx), AV.lst (List.map sA v3.ss), AV.lst (List.map (iv) v3.rs), iv v3.q, iv v3.a, iv v3.d, iv v3.p]].length from (Nat.le_of_ble_eq_true rfl)))))) (aj (u2 (u2 (aj (k3 (aj t9 (ak (al (made6_ct (l) (v6) a3 a4))))) (u2 (u2 (u2 (u2 s2))))))) (aj (u2 (u2 (u2 (u2 (aj (k5 (al (next_ct (l) (mdK l v6) (IntKind.i64.wrap (iN (List.map tkA (mdT l v6)).length + 2)) a5))) (u2 (u2 (u2 (u2 (u2 (u2 (aj (k5 (al (next_ct (l) (mdK l v6 + 1) (IntKind.i64.wrap (iN (List.map sA (looM l v6 6).ss).length + 2)) a6))) (u2 (aj t3 (al (k2 (show Nat.le 1 [AV.agg [iv v4, iv v5]].length from (Nat.le_of_ble_eq_true rfl)))))))))))))))))) (aj (u2 (u2 (u2 (aj (k3 (aj t9 (k2 (al (sTaken_ct a7 (mdU l v6) (mdT l v6)))))) (u2 (u2 (u2 (u2 s2)))))))) (aj (u2 (u2 (u2 (aj (k3 (aj t9 (k2 (al (rTaken_ct a7 (mdU l v6) (mdT l v6)))))) (u2 (u2 (u2 (u2 s2)))))))) (aj (u2 (u2 (u2 (aj (ak (aj (show (0 : Int) ≤ (0 : Int) from (by first | exact Nat.le_of_ble_eq_true rfl | decide)) (show (0 : Int) < (2 : Int) from (by first | exact Nat.le_of_ble_eq_true rfl | decide)))) (u2 (aj (ak (k3 (aj t9 (k3 (al (sStart_ct a7 (mdU l v6) (mdT l v6) (IntKind.i64.wrap (nextZ l (mdK l v6) (IntKind.i64.wrap (iN (List.map tkA (mdT l v6)).length + 2)) - 1)))))))) (u2 (u2 (u2 (u2 s2)))))))))) (aj (u2 (u2 (u2 (aj (ak (aj (show (0 : Int) ≤ (0 : Int) from (by first | exact Nat.le_of_ble_eq_true rfl | decide)) (show (0 : Int) < (2 : Int) from (by first | exact Nat.le_of_ble_eq_true rfl | decide)))) (u2 (aj (ak (k3 (aj t9 (k3 (al (rStart_ct a7 (mdU l v6) (mdT l v6) (IntKind.i64.wrap (nextZ l (mdK l v6) (IntKind.i64.wrap (iN (List.map tkA (mdT l v6)).length + 2)) - 1)))))))) (u2 (u2 (u2 (u2 s2)))))))))) (aj (u2 (u2 (aj (ak (aj (show (0 : Int) ≤ (0 : Int) from (by first | exact Nat.le_of_ble_eq_true rfl | decide)) (show (0 : Int) < (2 : Int) from (by first | exact Nat.le_of_ble_eq_true rfl | decide)))) (u2 (aj (ak (aj (show (0 : Int) ≤ (1 : Int) from (by first | exact Nat.le_of_ble_eq_true rfl | decide)) (show (1 : Int) < (2 : Int) from (by first | exact Nat.le_of_ble_eq_true rfl | decide)))) (u2 (aj (ak (k3 (aj t9 (k3 (al (sNeeds_ct a7 (mdT l v6) (IntKind.i64.wrap (nextZ l (mdK l v6) (IntKind.i64.wrap (iN (List.map tkA (mdT l v6)).length + 2)) - 1)) (IntKind.i64.wrap (nextZ l (mdK l v6 + 1) (IntKind.i64.wrap (iN (List.map sA (looM l v6 6).ss).length + 2)) - 1)))))))) (u2 (u2 (u2 (u2 s2))))))))))) (aj (u2 (u2 (aj (ak (aj (show (0 : Int) ≤ (0 : Int) from (by first | exact Nat.le_of_ble_eq_true rfl | decide)) (show (0 : Int) < (2 : Int) from (by first | exact Nat.le_of_ble_eq_true rfl | decide)))) (u2 (aj (ak (aj (show (0 : Int) ≤ (1 : Int) from (by first | exact Nat.le_of_ble_eq_true rfl | decide)) (show (1 : Int) < (2 : Int) from (by first | exact Nat.le_of_ble_eq_true rfl | decide)))) (u2 (aj (ak (k3 (aj t9 (k3 (al (rNeeds_ct a7 (mdT l v6) (IntKind.i64.wrap (nextZ l (mdK l v6) (IntKind.i64.wrap (iN (List.map tkA (mdT l v6)).length + 2)) - 1)) (IntKind.i64.wrap (nextZ l (mdK l v6 + 1) (IntKind.i64.wrap (iN (List.map sA (looM l v6 6).ss).length + 2)) - 1)))))))) (u2 (u2 (u2 (u2 s2))))))))))) (aj (u2 (u2 (aj t3 (u2 (aj a8 (aj a8 (aj a8 (ag a8 (u2 (k3 (aj t3 (u2 (k3 (aj t3 (u2 (k3 (aj t3 (u2 (ak (k3 (al t3))))))))))))))))))))) (ak s2))))))))))))))) t2)
   ·
    rcases br_inv h with ⟨a9, h⟩ | ⟨a9, h⟩
    ·
     cases h
     exact Arr.rt [63, 71, 226, 237] [] [(37, Hint.call [2] [] [tapeB l (looK l v6 6)] (netA (looM l v6 6))), (41, Hint.call [2] [] [tapeB l (mdK l v6)] (AV.tup [AV.lst (List.map unA (mdU l v6)), AV.lst (List.map tkA (mdT l v6))])), (48, Hint.call [2] [] [tapeB l (mdK l v6 + 1)] (iv (nextZ l (mdK l v6) (IntKind.i64.wrap (iN (List.map tkA (mdT l v6)).length + 2))))), (55, Hint.call [2] [] [tapeB l (mdK l v6 + 1 + 1)] (iv (nextZ l (mdK l v6 + 1) (IntKind.i64.wrap (iN (List.map sA (looM l v6 6).ss).length + 2))))), (62, hc (AV.tup [lI (tkL (looM l v6 6) (mdU l v6) (mdT l v6)), iv (tkE (looM l v6 6) (mdU l v6) (mdT l v6))])), (69, hc (AV.tup [lI (tkL (looM l v6 6) (mdU l v6) (mdT l v6)), iv (tkE (looM l v6 6) (mdU l v6) (mdT l v6))])), (78, hc (AV.tup [AV.bool (staB (looM l v6 6) (mdU l v6) (mdT l v6) (IntKind.i64.wrap (nextZ l (mdK l v6) (IntKind.i64.wrap (iN (List.map tkA (mdT l v6)).length + 2)) - 1))), iv (staE (looM l v6 6) (mdU l v6) (mdT l v6) (IntKind.i64.wrap (nextZ l (mdK l v6) (IntKind.i64.wrap (iN (List.map tkA (mdT l v6)).length + 2)) - 1)))])), (87, hc (AV.tup [AV.bool (staB (looM l v6 6) (mdU l v6) (mdT l v6) (IntKind.i64.wrap (nextZ l (mdK l v6) (IntKind.i64.wrap (iN (List.map tkA (mdT l v6)).length + 2)) - 1))), iv (staE (looM l v6 6) (mdU l v6) (mdT l v6) (IntKind.i64.wrap (nextZ l (mdK l v6) (IntKind.i64.wrap (iN (List.map tkA (mdT l v6)).length + 2)) - 1)))])), (97, hc (AV.tup [AV.bool (nedB (looM l v6 6) (mdT l v6) (IntKind.i64.wrap (nextZ l (mdK l v6) (IntKind.i64.wrap (iN (List.map tkA (mdT l v6)).length + 2)) - 1)) (IntKind.i64.wrap (nextZ l (mdK l v6 + 1) (IntKind.i64.wrap (iN (List.map sA (looM l v6 6).ss).length + 2)) - 1))), iv (nedE (looM l v6 6) (mdT l v6) (IntKind.i64.wrap (nextZ l (mdK l v6) (IntKind.i64.wrap (iN (List.map tkA (mdT l v6)).length + 2)) - 1)) (IntKind.i64.wrap (nextZ l (mdK l v6 + 1) (IntKind.i64.wrap (iN (List.map sA (looM l v6 6).ss).length + 2)) - 1)))])), (107, hc (AV.tup [AV.bool (nedB (looM l v6 6) (mdT l v6) (IntKind.i64.wrap (nextZ l (mdK l v6) (IntKind.i64.wrap (iN (List.map tkA (mdT l v6)).length + 2)) - 1)) (IntKind.i64.wrap (nextZ l (mdK l v6 + 1) (IntKind.i64.wrap (iN (List.map sA (looM l v6 6).ss).length + 2)) - 1))), iv (nedE (looM l v6 6) (mdT l v6) (IntKind.i64.wrap (nextZ l (mdK l v6) (IntKind.i64.wrap (iN (List.map tkA (mdT l v6)).length + 2)) - 1)) (IntKind.i64.wrap (nextZ l (mdK l v6 + 1) (IntKind.i64.wrap (iN (List.map sA (looM l v6 6).ss).length + 2)) - 1)))]))] [] [] [] mix (by kernel_rfl) (aj (aj (u2 s2) (aj a0 (aj (u2 s2) (aj a1 (aj (u2 (aj (ak (k3 (al (loose_ct (l) (v6) (6) a2 (show (1 : Int) ≤ (6 : Int) ∧ (6 : Int) ≤ (20 : Int) from ⟨(by first | exact Nat.le_of_ble_eq_true rfl | decide), (by first | exact Nat.le_of_ble_eq_true rfl | decide)⟩))))) (al (k2 (show Nat.le 1 [AV.agg [AV.lst (List.map bA v3.bs), AV.lst (List.map lI v3.nx), AV.lst (List.map sA v3.ss), AV.lst (List.map (iv) v3.rs), iv v3.q, iv v3.a, iv v3.d, iv v3.p]].length from (Nat.le_of_ble_eq_true rfl)))))) (aj (u2 (u2 (aj (k3 (aj t9 (ak (al (made6_ct (l) (v6) a3 a4))))) (u2 (u2 (u2 (u2 s2))))))) (aj (u2 (u2 (u2 (u2 (aj (k5 (al (next_ct (l) (mdK l v6) (IntKind.i64.wrap (iN (List.map tkA (mdT l v6)).length + 2)) a5))) (u2 (u2 (u2 (u2 (u2 (u2 (aj (k5 (al (next_ct (l) (mdK l v6 + 1) (IntKind.i64.wrap (iN (List.map sA (looM l v6 6).ss).length + 2)) a6))) (u2 (aj t3 (al (k2 (show Nat.le 1 [AV.agg [iv v4, iv v5]].length from (Nat.le_of_ble_eq_true rfl)))))))))))))))))) (aj (u2 (u2 (u2 (aj (k3 (aj t9 (k2 (al (sTaken_ct a7 (mdU l v6) (mdT l v6)))))) (u2 (u2 (u2 (u2 s2)))))))) (aj (u2 (u2 (u2 (aj (k3 (aj t9 (k2 (al (rTaken_ct a7 (mdU l v6) (mdT l v6)))))) (u2 (u2 (u2 (u2 s2)))))))) (aj (u2 (u2 (u2 (aj (ak (aj (show (0 : Int) ≤ (0 : Int) from (by first | exact Nat.le_of_ble_eq_true rfl | decide)) (show (0 : Int) < (2 : Int) from (by first | exact Nat.le_of_ble_eq_true rfl | decide)))) (u2 (aj (ak (k3 (aj t9 (k3 (al (sStart_ct a7 (mdU l v6) (mdT l v6) (IntKind.i64.wrap (nextZ l (mdK l v6) (IntKind.i64.wrap (iN (List.map tkA (mdT l v6)).length + 2)) - 1)))))))) (u2 (u2 (u2 (u2 s2)))))))))) (aj (u2 (u2 (u2 (aj (ak (aj (show (0 : Int) ≤ (0 : Int) from (by first | exact Nat.le_of_ble_eq_true rfl | decide)) (show (0 : Int) < (2 : Int) from (by first | exact Nat.le_of_ble_eq_true rfl | decide)))) (u2 (aj (ak (k3 (aj t9 (k3 (al (rStart_ct a7 (mdU l v6) (mdT l v6) (IntKind.i64.wrap (nextZ l (mdK l v6) (IntKind.i64.wrap (iN (List.map tkA (mdT l v6)).length + 2)) - 1)))))))) (u2 (u2 (u2 (u2 s2)))))))))) (aj (u2 (u2 (aj (ak (aj (show (0 : Int) ≤ (0 : Int) from (by first | exact Nat.le_of_ble_eq_true rfl | decide)) (show (0 : Int) < (2 : Int) from (by first | exact Nat.le_of_ble_eq_true rfl | decide)))) (u2 (aj (ak (aj (show (0 : Int) ≤ (1 : Int) from (by first | exact Nat.le_of_ble_eq_true rfl | decide)) (show (1 : Int) < (2 : Int) from (by first | exact Nat.le_of_ble_eq_true rfl | decide)))) (u2 (aj (ak (k3 (aj t9 (k3 (al (sNeeds_ct a7 (mdT l v6) (IntKind.i64.wrap (nextZ l (mdK l v6) (IntKind.i64.wrap (iN (List.map tkA (mdT l v6)).length + 2)) - 1)) (IntKind.i64.wrap (nextZ l (mdK l v6 + 1) (IntKind.i64.wrap (iN (List.map sA (looM l v6 6).ss).length + 2)) - 1)))))))) (u2 (u2 (u2 (u2 s2))))))))))) (aj (u2 (u2 (aj (ak (aj (show (0 : Int) ≤ (0 : Int) from (by first | exact Nat.le_of_ble_eq_true rfl | decide)) (show (0 : Int) < (2 : Int) from (by first | exact Nat.le_of_ble_eq_true rfl | decide)))) (u2 (aj (ak (aj (show (0 : Int) ≤ (1 : Int) from (by first | exact Nat.le_of_ble_eq_true rfl | decide)) (show (1 : Int) < (2 : Int) from (by first | exact Nat.le_of_ble_eq_true rfl | decide)))) (u2 (aj (ak (k3 (aj t9 (k3 (al (rNeeds_ct a7 (mdT l v6) (IntKind.i64.wrap (nextZ l (mdK l v6) (IntKind.i64.wrap (iN (List.map tkA (mdT l v6)).length + 2)) - 1)) (IntKind.i64.wrap (nextZ l (mdK l v6 + 1) (IntKind.i64.wrap (iN (List.map sA (looM l v6 6).ss).length + 2)) - 1)))))))) (u2 (u2 (u2 (u2 s2))))))))))) (aj (u2 (u2 (aj t3 (u2 (ag a8 (ag a8 (aj (aj a8 t3) (ag a8 (u2 (aj a9 (aj a9 (aj a9 (ag a9 (u2 (k3 (aj t3 (u2 (k3 (aj t3 (u2 (ak (k3 (al t3))))))))))))))))))))))) (ak s2))))))))))))))) t2)
    ·
     rcases br_inv h with ⟨a10, h⟩ | ⟨a10, h⟩
     ·
      cases h
      exact Arr.rt [63, 71, 226, 236, 247] [] [(37, Hint.call [2] [] [tapeB l (looK l v6 6)] (netA (looM l v6 6))), (41, Hint.call [2] [] [tapeB l (mdK l v6)] (AV.tup [AV.lst (List.map unA (mdU l v6)), AV.lst (List.map tkA (mdT l v6))])), (48, Hint.call [2] [] [tapeB l (mdK l v6 + 1)] (iv (nextZ l (mdK l v6) (IntKind.i64.wrap (iN (List.map tkA (mdT l v6)).length + 2))))), (55, Hint.call [2] [] [tapeB l (mdK l v6 + 1 + 1)] (iv (nextZ l (mdK l v6 + 1) (IntKind.i64.wrap (iN (List.map sA (looM l v6 6).ss).length + 2))))), (62, hc (AV.tup [lI (tkL (looM l v6 6) (mdU l v6) (mdT l v6)), iv (tkE (looM l v6 6) (mdU l v6) (mdT l v6))])), (69, hc (AV.tup [lI (tkL (looM l v6 6) (mdU l v6) (mdT l v6)), iv (tkE (looM l v6 6) (mdU l v6) (mdT l v6))])), (78, hc (AV.tup [AV.bool (staB (looM l v6 6) (mdU l v6) (mdT l v6) (IntKind.i64.wrap (nextZ l (mdK l v6) (IntKind.i64.wrap (iN (List.map tkA (mdT l v6)).length + 2)) - 1))), iv (staE (looM l v6 6) (mdU l v6) (mdT l v6) (IntKind.i64.wrap (nextZ l (mdK l v6) (IntKind.i64.wrap (iN (List.map tkA (mdT l v6)).length + 2)) - 1)))])), (87, hc (AV.tup [AV.bool (staB (looM l v6 6) (mdU l v6) (mdT l v6) (IntKind.i64.wrap (nextZ l (mdK l v6) (IntKind.i64.wrap (iN (List.map tkA (mdT l v6)).length + 2)) - 1))), iv (staE (looM l v6 6) (mdU l v6) (mdT l v6) (IntKind.i64.wrap (nextZ l (mdK l v6) (IntKind.i64.wrap (iN (List.map tkA (mdT l v6)).length + 2)) - 1)))])), (97, hc (AV.tup [AV.bool (nedB (looM l v6 6) (mdT l v6) (IntKind.i64.wrap (nextZ l (mdK l v6) (IntKind.i64.wrap (iN (List.map tkA (mdT l v6)).length + 2)) - 1)) (IntKind.i64.wrap (nextZ l (mdK l v6 + 1) (IntKind.i64.wrap (iN (List.map sA (looM l v6 6).ss).length + 2)) - 1))), iv (nedE (looM l v6 6) (mdT l v6) (IntKind.i64.wrap (nextZ l (mdK l v6) (IntKind.i64.wrap (iN (List.map tkA (mdT l v6)).length + 2)) - 1)) (IntKind.i64.wrap (nextZ l (mdK l v6 + 1) (IntKind.i64.wrap (iN (List.map sA (looM l v6 6).ss).length + 2)) - 1)))])), (107, hc (AV.tup [AV.bool (nedB (looM l v6 6) (mdT l v6) (IntKind.i64.wrap (nextZ l (mdK l v6) (IntKind.i64.wrap (iN (List.map tkA (mdT l v6)).length + 2)) - 1)) (IntKind.i64.wrap (nextZ l (mdK l v6 + 1) (IntKind.i64.wrap (iN (List.map sA (looM l v6 6).ss).length + 2)) - 1))), iv (nedE (looM l v6 6) (mdT l v6) (IntKind.i64.wrap (nextZ l (mdK l v6) (IntKind.i64.wrap (iN (List.map tkA (mdT l v6)).length + 2)) - 1)) (IntKind.i64.wrap (nextZ l (mdK l v6 + 1) (IntKind.i64.wrap (iN (List.map sA (looM l v6 6).ss).length + 2)) - 1)))]))] [] [] [] mix (by kernel_rfl) (aj (aj (u2 s2) (aj a0 (aj (u2 s2) (aj a1 (aj (u2 (aj (ak (k3 (al (loose_ct (l) (v6) (6) a2 (show (1 : Int) ≤ (6 : Int) ∧ (6 : Int) ≤ (20 : Int) from ⟨(by first | exact Nat.le_of_ble_eq_true rfl | decide), (by first | exact Nat.le_of_ble_eq_true rfl | decide)⟩))))) (al (k2 (show Nat.le 1 [AV.agg [AV.lst (List.map bA v3.bs), AV.lst (List.map lI v3.nx), AV.lst (List.map sA v3.ss), AV.lst (List.map (iv) v3.rs), iv v3.q, iv v3.a, iv v3.d, iv v3.p]].length from (Nat.le_of_ble_eq_true rfl)))))) (aj (u2 (u2 (aj (k3 (aj t9 (ak (al (made6_ct (l) (v6) a3 a4))))) (u2 (u2 (u2 (u2 s2))))))) (aj (u2 (u2 (u2 (u2 (aj (k5 (al (next_ct (l) (mdK l v6) (IntKind.i64.wrap (iN (List.map tkA (mdT l v6)).length + 2)) a5))) (u2 (u2 (u2 (u2 (u2 (u2 (aj (k5 (al (next_ct (l) (mdK l v6 + 1) (IntKind.i64.wrap (iN (List.map sA (looM l v6 6).ss).length + 2)) a6))) (u2 (aj t3 (al (k2 (show Nat.le 1 [AV.agg [iv v4, iv v5]].length from (Nat.le_of_ble_eq_true rfl)))))))))))))))))) (aj (u2 (u2 (u2 (aj (k3 (aj t9 (k2 (al (sTaken_ct a7 (mdU l v6) (mdT l v6)))))) (u2 (u2 (u2 (u2 s2)))))))) (aj (u2 (u2 (u2 (aj (k3 (aj t9 (k2 (al (rTaken_ct a7 (mdU l v6) (mdT l v6)))))) (u2 (u2 (u2 (u2 s2)))))))) (aj (u2 (u2 (u2 (aj (ak (aj (show (0 : Int) ≤ (0 : Int) from (by first | exact Nat.le_of_ble_eq_true rfl | decide)) (show (0 : Int) < (2 : Int) from (by first | exact Nat.le_of_ble_eq_true rfl | decide)))) (u2 (aj (ak (k3 (aj t9 (k3 (al (sStart_ct a7 (mdU l v6) (mdT l v6) (IntKind.i64.wrap (nextZ l (mdK l v6) (IntKind.i64.wrap (iN (List.map tkA (mdT l v6)).length + 2)) - 1)))))))) (u2 (u2 (u2 (u2 s2)))))))))) (aj (u2 (u2 (u2 (aj (ak (aj (show (0 : Int) ≤ (0 : Int) from (by first | exact Nat.le_of_ble_eq_true rfl | decide)) (show (0 : Int) < (2 : Int) from (by first | exact Nat.le_of_ble_eq_true rfl | decide)))) (u2 (aj (ak (k3 (aj t9 (k3 (al (rStart_ct a7 (mdU l v6) (mdT l v6) (IntKind.i64.wrap (nextZ l (mdK l v6) (IntKind.i64.wrap (iN (List.map tkA (mdT l v6)).length + 2)) - 1)))))))) (u2 (u2 (u2 (u2 s2)))))))))) (aj (u2 (u2 (aj (ak (aj (show (0 : Int) ≤ (0 : Int) from (by first | exact Nat.le_of_ble_eq_true rfl | decide)) (show (0 : Int) < (2 : Int) from (by first | exact Nat.le_of_ble_eq_true rfl | decide)))) (u2 (aj (ak (aj (show (0 : Int) ≤ (1 : Int) from (by first | exact Nat.le_of_ble_eq_true rfl | decide)) (show (1 : Int) < (2 : Int) from (by first | exact Nat.le_of_ble_eq_true rfl | decide)))) (u2 (aj (ak (k3 (aj t9 (k3 (al (sNeeds_ct a7 (mdT l v6) (IntKind.i64.wrap (nextZ l (mdK l v6) (IntKind.i64.wrap (iN (List.map tkA (mdT l v6)).length + 2)) - 1)) (IntKind.i64.wrap (nextZ l (mdK l v6 + 1) (IntKind.i64.wrap (iN (List.map sA (looM l v6 6).ss).length + 2)) - 1)))))))) (u2 (u2 (u2 (u2 s2))))))))))) (aj (u2 (u2 (aj (ak (aj (show (0 : Int) ≤ (0 : Int) from (by first | exact Nat.le_of_ble_eq_true rfl | decide)) (show (0 : Int) < (2 : Int) from (by first | exact Nat.le_of_ble_eq_true rfl | decide)))) (u2 (aj (ak (aj (show (0 : Int) ≤ (1 : Int) from (by first | exact Nat.le_of_ble_eq_true rfl | decide)) (show (1 : Int) < (2 : Int) from (by first | exact Nat.le_of_ble_eq_true rfl | decide)))) (u2 (aj (ak (k3 (aj t9 (k3 (al (rNeeds_ct a7 (mdT l v6) (IntKind.i64.wrap (nextZ l (mdK l v6) (IntKind.i64.wrap (iN (List.map tkA (mdT l v6)).length + 2)) - 1)) (IntKind.i64.wrap (nextZ l (mdK l v6 + 1) (IntKind.i64.wrap (iN (List.map sA (looM l v6 6).ss).length + 2)) - 1)))))))) (u2 (u2 (u2 (u2 s2))))))))))) (aj (u2 (u2 (aj t3 (u2 (ag a8 (ag a8 (aj (aj a8 t3) (ag a8 (u2 (ag a9 (ag a9 (aj (aj a9 t3) (ag a9 (u2 (aj a10 (aj a10 (aj a10 (ag a10 (u2 (k3 (aj t3 (u2 (ak (k3 (al t3))))))))))))))))))))))))) (ak s2))))))))))))))) t2)
     ·
      rcases br_inv h with ⟨a11, h⟩ | ⟨a11, h⟩
      ·
       cases h
       exact Arr.rt [63, 71, 226, 236, 246, 257] [] [(37, Hint.call [2] [] [tapeB l (looK l v6 6)] (netA (looM l v6 6))), (41, Hint.call [2] [] [tapeB l (mdK l v6)] (AV.tup [AV.lst (List.map unA (mdU l v6)), AV.lst (List.map tkA (mdT l v6))])), (48, Hint.call [2] [] [tapeB l (mdK l v6 + 1)] (iv (nextZ l (mdK l v6) (IntKind.i64.wrap (iN (List.map tkA (mdT l v6)).length + 2))))), (55, Hint.call [2] [] [tapeB l (mdK l v6 + 1 + 1)] (iv (nextZ l (mdK l v6 + 1) (IntKind.i64.wrap (iN (List.map sA (looM l v6 6).ss).length + 2))))), (62, hc (AV.tup [lI (tkL (looM l v6 6) (mdU l v6) (mdT l v6)), iv (tkE (looM l v6 6) (mdU l v6) (mdT l v6))])), (69, hc (AV.tup [lI (tkL (looM l v6 6) (mdU l v6) (mdT l v6)), iv (tkE (looM l v6 6) (mdU l v6) (mdT l v6))])), (78, hc (AV.tup [AV.bool (staB (looM l v6 6) (mdU l v6) (mdT l v6) (IntKind.i64.wrap (nextZ l (mdK l v6) (IntKind.i64.wrap (iN (List.map tkA (mdT l v6)).length + 2)) - 1))), iv (staE (looM l v6 6) (mdU l v6) (mdT l v6) (IntKind.i64.wrap (nextZ l (mdK l v6) (IntKind.i64.wrap (iN (List.map tkA (mdT l v6)).length + 2)) - 1)))])), (87, hc (AV.tup [AV.bool (staB (looM l v6 6) (mdU l v6) (mdT l v6) (IntKind.i64.wrap (nextZ l (mdK l v6) (IntKind.i64.wrap (iN (List.map tkA (mdT l v6)).length + 2)) - 1))), iv (staE (looM l v6 6) (mdU l v6) (mdT l v6) (IntKind.i64.wrap (nextZ l (mdK l v6) (IntKind.i64.wrap (iN (List.map tkA (mdT l v6)).length + 2)) - 1)))])), (97, hc (AV.tup [AV.bool (nedB (looM l v6 6) (mdT l v6) (IntKind.i64.wrap (nextZ l (mdK l v6) (IntKind.i64.wrap (iN (List.map tkA (mdT l v6)).length + 2)) - 1)) (IntKind.i64.wrap (nextZ l (mdK l v6 + 1) (IntKind.i64.wrap (iN (List.map sA (looM l v6 6).ss).length + 2)) - 1))), iv (nedE (looM l v6 6) (mdT l v6) (IntKind.i64.wrap (nextZ l (mdK l v6) (IntKind.i64.wrap (iN (List.map tkA (mdT l v6)).length + 2)) - 1)) (IntKind.i64.wrap (nextZ l (mdK l v6 + 1) (IntKind.i64.wrap (iN (List.map sA (looM l v6 6).ss).length + 2)) - 1)))])), (107, hc (AV.tup [AV.bool (nedB (looM l v6 6) (mdT l v6) (IntKind.i64.wrap (nextZ l (mdK l v6) (IntKind.i64.wrap (iN (List.map tkA (mdT l v6)).length + 2)) - 1)) (IntKind.i64.wrap (nextZ l (mdK l v6 + 1) (IntKind.i64.wrap (iN (List.map sA (looM l v6 6).ss).length + 2)) - 1))), iv (nedE (looM l v6 6) (mdT l v6) (IntKind.i64.wrap (nextZ l (mdK l v6) (IntKind.i64.wrap (iN (List.map tkA (mdT l v6)).length + 2)) - 1)) (IntKind.i64.wrap (nextZ l (mdK l v6 + 1) (IntKind.i64.wrap (iN (List.map sA (looM l v6 6).ss).length + 2)) - 1)))]))] [] [] [] mix (by kernel_rfl) (aj (aj (u2 s2) (aj a0 (aj (u2 s2) (aj a1 (aj (u2 (aj (ak (k3 (al (loose_ct (l) (v6) (6) a2 (show (1 : Int) ≤ (6 : Int) ∧ (6 : Int) ≤ (20 : Int) from ⟨(by first | exact Nat.le_of_ble_eq_true rfl | decide), (by first | exact Nat.le_of_ble_eq_true rfl | decide)⟩))))) (al (k2 (show Nat.le 1 [AV.agg [AV.lst (List.map bA v3.bs), AV.lst (List.map lI v3.nx), AV.lst (List.map sA v3.ss), AV.lst (List.map (iv) v3.rs), iv v3.q, iv v3.a, iv v3.d, iv v3.p]].length from (Nat.le_of_ble_eq_true rfl)))))) (aj (u2 (u2 (aj (k3 (aj t9 (ak (al (made6_ct (l) (v6) a3 a4))))) (u2 (u2 (u2 (u2 s2))))))) (aj (u2 (u2 (u2 (u2 (aj (k5 (al (next_ct (l) (mdK l v6) (IntKind.i64.wrap (iN (List.map tkA (mdT l v6)).length + 2)) a5))) (u2 (u2 (u2 (u2 (u2 (u2 (aj (k5 (al (next_ct (l) (mdK l v6 + 1) (IntKind.i64.wrap (iN (List.map sA (looM l v6 6).ss).length + 2)) a6))) (u2 (aj t3 (al (k2 (show Nat.le 1 [AV.agg [iv v4, iv v5]].length from (Nat.le_of_ble_eq_true rfl)))))))))))))))))) (aj (u2 (u2 (u2 (aj (k3 (aj t9 (k2 (al (sTaken_ct a7 (mdU l v6) (mdT l v6)))))) (u2 (u2 (u2 (u2 s2)))))))) (aj (u2 (u2 (u2 (aj (k3 (aj t9 (k2 (al (rTaken_ct a7 (mdU l v6) (mdT l v6)))))) (u2 (u2 (u2 (u2 s2)))))))) (aj (u2 (u2 (u2 (aj (ak (aj (show (0 : Int) ≤ (0 : Int) from (by first | exact Nat.le_of_ble_eq_true rfl | decide)) (show (0 : Int) < (2 : Int) from (by first | exact Nat.le_of_ble_eq_true rfl | decide)))) (u2 (aj (ak (k3 (aj t9 (k3 (al (sStart_ct a7 (mdU l v6) (mdT l v6) (IntKind.i64.wrap (nextZ l (mdK l v6) (IntKind.i64.wrap (iN (List.map tkA (mdT l v6)).length + 2)) - 1)))))))) (u2 (u2 (u2 (u2 s2)))))))))) (aj (u2 (u2 (u2 (aj (ak (aj (show (0 : Int) ≤ (0 : Int) from (by first | exact Nat.le_of_ble_eq_true rfl | decide)) (show (0 : Int) < (2 : Int) from (by first | exact Nat.le_of_ble_eq_true rfl | decide)))) (u2 (aj (ak (k3 (aj t9 (k3 (al (rStart_ct a7 (mdU l v6) (mdT l v6) (IntKind.i64.wrap (nextZ l (mdK l v6) (IntKind.i64.wrap (iN (List.map tkA (mdT l v6)).length + 2)) - 1)))))))) (u2 (u2 (u2 (u2 s2)))))))))) (aj (u2 (u2 (aj (ak (aj (show (0 : Int) ≤ (0 : Int) from (by first | exact Nat.le_of_ble_eq_true rfl | decide)) (show (0 : Int) < (2 : Int) from (by first | exact Nat.le_of_ble_eq_true rfl | decide)))) (u2 (aj (ak (aj (show (0 : Int) ≤ (1 : Int) from (by first | exact Nat.le_of_ble_eq_true rfl | decide)) (show (1 : Int) < (2 : Int) from (by first | exact Nat.le_of_ble_eq_true rfl | decide)))) (u2 (aj (ak (k3 (aj t9 (k3 (al (sNeeds_ct a7 (mdT l v6) (IntKind.i64.wrap (nextZ l (mdK l v6) (IntKind.i64.wrap (iN (List.map tkA (mdT l v6)).length + 2)) - 1)) (IntKind.i64.wrap (nextZ l (mdK l v6 + 1) (IntKind.i64.wrap (iN (List.map sA (looM l v6 6).ss).length + 2)) - 1)))))))) (u2 (u2 (u2 (u2 s2))))))))))) (aj (u2 (u2 (aj (ak (aj (show (0 : Int) ≤ (0 : Int) from (by first | exact Nat.le_of_ble_eq_true rfl | decide)) (show (0 : Int) < (2 : Int) from (by first | exact Nat.le_of_ble_eq_true rfl | decide)))) (u2 (aj (ak (aj (show (0 : Int) ≤ (1 : Int) from (by first | exact Nat.le_of_ble_eq_true rfl | decide)) (show (1 : Int) < (2 : Int) from (by first | exact Nat.le_of_ble_eq_true rfl | decide)))) (u2 (aj (ak (k3 (aj t9 (k3 (al (rNeeds_ct a7 (mdT l v6) (IntKind.i64.wrap (nextZ l (mdK l v6) (IntKind.i64.wrap (iN (List.map tkA (mdT l v6)).length + 2)) - 1)) (IntKind.i64.wrap (nextZ l (mdK l v6 + 1) (IntKind.i64.wrap (iN (List.map sA (looM l v6 6).ss).length + 2)) - 1)))))))) (u2 (u2 (u2 (u2 s2))))))))))) (aj (u2 (u2 (aj t3 (u2 (ag a8 (ag a8 (aj (aj a8 t3) (ag a8 (u2 (ag a9 (ag a9 (aj (aj a9 t3) (ag a9 (u2 (ag a10 (ag a10 (aj (aj a10 t3) (ag a10 (u2 (aj a11 (aj a11 (aj a11 (ag a11 (u2 (ak (k3 (al t3))))))))))))))))))))))))))) (ak s2))))))))))))))) t2)
      ·
       rcases br_inv h with ⟨a12, h⟩ | ⟨a12, h⟩
       ·
        cases h
        exact Arr.rt [63, 71, 226, 236, 246, 256, 267] [] [(37, Hint.call [2] [] [tapeB l (looK l v6 6)] (netA (looM l v6 6))), (41, Hint.call [2] [] [tapeB l (mdK l v6)] (AV.tup [AV.lst (List.map unA (mdU l v6)), AV.lst (List.map tkA (mdT l v6))])), (48, Hint.call [2] [] [tapeB l (mdK l v6 + 1)] (iv (nextZ l (mdK l v6) (IntKind.i64.wrap (iN (List.map tkA (mdT l v6)).length + 2))))), (55, Hint.call [2] [] [tapeB l (mdK l v6 + 1 + 1)] (iv (nextZ l (mdK l v6 + 1) (IntKind.i64.wrap (iN (List.map sA (looM l v6 6).ss).length + 2))))), (62, hc (AV.tup [lI (tkL (looM l v6 6) (mdU l v6) (mdT l v6)), iv (tkE (looM l v6 6) (mdU l v6) (mdT l v6))])), (69, hc (AV.tup [lI (tkL (looM l v6 6) (mdU l v6) (mdT l v6)), iv (tkE (looM l v6 6) (mdU l v6) (mdT l v6))])), (78, hc (AV.tup [AV.bool (staB (looM l v6 6) (mdU l v6) (mdT l v6) (IntKind.i64.wrap (nextZ l (mdK l v6) (IntKind.i64.wrap (iN (List.map tkA (mdT l v6)).length + 2)) - 1))), iv (staE (looM l v6 6) (mdU l v6) (mdT l v6) (IntKind.i64.wrap (nextZ l (mdK l v6) (IntKind.i64.wrap (iN (List.map tkA (mdT l v6)).length + 2)) - 1)))])), (87, hc (AV.tup [AV.bool (staB (looM l v6 6) (mdU l v6) (mdT l v6) (IntKind.i64.wrap (nextZ l (mdK l v6) (IntKind.i64.wrap (iN (List.map tkA (mdT l v6)).length + 2)) - 1))), iv (staE (looM l v6 6) (mdU l v6) (mdT l v6) (IntKind.i64.wrap (nextZ l (mdK l v6) (IntKind.i64.wrap (iN (List.map tkA (mdT l v6)).length + 2)) - 1)))])), (97, hc (AV.tup [AV.bool (nedB (looM l v6 6) (mdT l v6) (IntKind.i64.wrap (nextZ l (mdK l v6) (IntKind.i64.wrap (iN (List.map tkA (mdT l v6)).length + 2)) - 1)) (IntKind.i64.wrap (nextZ l (mdK l v6 + 1) (IntKind.i64.wrap (iN (List.map sA (looM l v6 6).ss).length + 2)) - 1))), iv (nedE (looM l v6 6) (mdT l v6) (IntKind.i64.wrap (nextZ l (mdK l v6) (IntKind.i64.wrap (iN (List.map tkA (mdT l v6)).length + 2)) - 1)) (IntKind.i64.wrap (nextZ l (mdK l v6 + 1) (IntKind.i64.wrap (iN (List.map sA (looM l v6 6).ss).length + 2)) - 1)))])), (107, hc (AV.tup [AV.bool (nedB (looM l v6 6) (mdT l v6) (IntKind.i64.wrap (nextZ l (mdK l v6) (IntKind.i64.wrap (iN (List.map tkA (mdT l v6)).length + 2)) - 1)) (IntKind.i64.wrap (nextZ l (mdK l v6 + 1) (IntKind.i64.wrap (iN (List.map sA (looM l v6 6).ss).length + 2)) - 1))), iv (nedE (looM l v6 6) (mdT l v6) (IntKind.i64.wrap (nextZ l (mdK l v6) (IntKind.i64.wrap (iN (List.map tkA (mdT l v6)).length + 2)) - 1)) (IntKind.i64.wrap (nextZ l (mdK l v6 + 1) (IntKind.i64.wrap (iN (List.map sA (looM l v6 6).ss).length + 2)) - 1)))]))] [] [] [] mix (by kernel_rfl) (aj (aj (u2 s2) (aj a0 (aj (u2 s2) (aj a1 (aj (u2 (aj (ak (k3 (al (loose_ct (l) (v6) (6) a2 (show (1 : Int) ≤ (6 : Int) ∧ (6 : Int) ≤ (20 : Int) from ⟨(by first | exact Nat.le_of_ble_eq_true rfl | decide), (by first | exact Nat.le_of_ble_eq_true rfl | decide)⟩))))) (al (k2 (show Nat.le 1 [AV.agg [AV.lst (List.map bA v3.bs), AV.lst (List.map lI v3.nx), AV.lst (List.map sA v3.ss), AV.lst (List.map (iv) v3.rs), iv v3.q, iv v3.a, iv v3.d, iv v3.p]].length from (Nat.le_of_ble_eq_true rfl)))))) (aj (u2 (u2 (aj (k3 (aj t9 (ak (al (made6_ct (l) (v6) a3 a4))))) (u2 (u2 (u2 (u2 s2))))))) (aj (u2 (u2 (u2 (u2 (aj (k5 (al (next_ct (l) (mdK l v6) (IntKind.i64.wrap (iN (List.map tkA (mdT l v6)).length + 2)) a5))) (u2 (u2 (u2 (u2 (u2 (u2 (aj (k5 (al (next_ct (l) (mdK l v6 + 1) (IntKind.i64.wrap (iN (List.map sA (looM l v6 6).ss).length + 2)) a6))) (u2 (aj t3 (al (k2 (show Nat.le 1 [AV.agg [iv v4, iv v5]].length from (Nat.le_of_ble_eq_true rfl)))))))))))))))))) (aj (u2 (u2 (u2 (aj (k3 (aj t9 (k2 (al (sTaken_ct a7 (mdU l v6) (mdT l v6)))))) (u2 (u2 (u2 (u2 s2)))))))) (aj (u2 (u2 (u2 (aj (k3 (aj t9 (k2 (al (rTaken_ct a7 (mdU l v6) (mdT l v6)))))) (u2 (u2 (u2 (u2 s2)))))))) (aj (u2 (u2 (u2 (aj (ak (aj (show (0 : Int) ≤ (0 : Int) from (by first | exact Nat.le_of_ble_eq_true rfl | decide)) (show (0 : Int) < (2 : Int) from (by first | exact Nat.le_of_ble_eq_true rfl | decide)))) (u2 (aj (ak (k3 (aj t9 (k3 (al (sStart_ct a7 (mdU l v6) (mdT l v6) (IntKind.i64.wrap (nextZ l (mdK l v6) (IntKind.i64.wrap (iN (List.map tkA (mdT l v6)).length + 2)) - 1)))))))) (u2 (u2 (u2 (u2 s2)))))))))) (aj (u2 (u2 (u2 (aj (ak (aj (show (0 : Int) ≤ (0 : Int) from (by first | exact Nat.le_of_ble_eq_true rfl | decide)) (show (0 : Int) < (2 : Int) from (by first | exact Nat.le_of_ble_eq_true rfl | decide)))) (u2 (aj (ak (k3 (aj t9 (k3 (al (rStart_ct a7 (mdU l v6) (mdT l v6) (IntKind.i64.wrap (nextZ l (mdK l v6) (IntKind.i64.wrap (iN (List.map tkA (mdT l v6)).length + 2)) - 1)))))))) (u2 (u2 (u2 (u2 s2)))))))))) (aj (u2 (u2 (aj (ak (aj (show (0 : Int) ≤ (0 : Int) from (by first | exact Nat.le_of_ble_eq_true rfl | decide)) (show (0 : Int) < (2 : Int) from (by first | exact Nat.le_of_ble_eq_true rfl | decide)))) (u2 (aj (ak (aj (show (0 : Int) ≤ (1 : Int) from (by first | exact Nat.le_of_ble_eq_true rfl | decide)) (show (1 : Int) < (2 : Int) from (by first | exact Nat.le_of_ble_eq_true rfl | decide)))) (u2 (aj (ak (k3 (aj t9 (k3 (al (sNeeds_ct a7 (mdT l v6) (IntKind.i64.wrap (nextZ l (mdK l v6) (IntKind.i64.wrap (iN (List.map tkA (mdT l v6)).length + 2)) - 1)) (IntKind.i64.wrap (nextZ l (mdK l v6 + 1) (IntKind.i64.wrap (iN (List.map sA (looM l v6 6).ss).length + 2)) - 1)))))))) (u2 (u2 (u2 (u2 s2))))))))))) (aj (u2 (u2 (aj (ak (aj (show (0 : Int) ≤ (0 : Int) from (by first | exact Nat.le_of_ble_eq_true rfl | decide)) (show (0 : Int) < (2 : Int) from (by first | exact Nat.le_of_ble_eq_true rfl | decide)))) (u2 (aj (ak (aj (show (0 : Int) ≤ (1 : Int) from (by first | exact Nat.le_of_ble_eq_true rfl | decide)) (show (1 : Int) < (2 : Int) from (by first | exact Nat.le_of_ble_eq_true rfl | decide)))) (u2 (aj (ak (k3 (aj t9 (k3 (al (rNeeds_ct a7 (mdT l v6) (IntKind.i64.wrap (nextZ l (mdK l v6) (IntKind.i64.wrap (iN (List.map tkA (mdT l v6)).length + 2)) - 1)) (IntKind.i64.wrap (nextZ l (mdK l v6 + 1) (IntKind.i64.wrap (iN (List.map sA (looM l v6 6).ss).length + 2)) - 1)))))))) (u2 (u2 (u2 (u2 s2))))))))))) (aj (u2 (u2 (aj t3 (u2 (ag a8 (ag a8 (aj (aj a8 t3) (ag a8 (u2 (ag a9 (ag a9 (aj (aj a9 t3) (ag a9 (u2 (ag a10 (ag a10 (aj (aj a10 t3) (ag a10 (u2 (ag a11 (ag a11 (aj (aj a11 t3) (ag a11 (u2 (aj a12 (aj a12 (aj a12 (aj a12 (al (aj a12 t2)))))))))))))))))))))))))))))) (ak s2))))))))))))))) t2)
       ·
        obtain ⟨a13, h⟩ := gu_inv h
        cases h
        exact Arr.lp [63, 71, 226, 236, 246, 256, 266] [] [(37, Hint.call [2] [] [tapeB l (looK l v6 6)] (netA (looM l v6 6))), (41, Hint.call [2] [] [tapeB l (mdK l v6)] (AV.tup [AV.lst (List.map unA (mdU l v6)), AV.lst (List.map tkA (mdT l v6))])), (48, Hint.call [2] [] [tapeB l (mdK l v6 + 1)] (iv (nextZ l (mdK l v6) (IntKind.i64.wrap (iN (List.map tkA (mdT l v6)).length + 2))))), (55, Hint.call [2] [] [tapeB l (mdK l v6 + 1 + 1)] (iv (nextZ l (mdK l v6 + 1) (IntKind.i64.wrap (iN (List.map sA (looM l v6 6).ss).length + 2))))), (62, hc (AV.tup [lI (tkL (looM l v6 6) (mdU l v6) (mdT l v6)), iv (tkE (looM l v6 6) (mdU l v6) (mdT l v6))])), (69, hc (AV.tup [lI (tkL (looM l v6 6) (mdU l v6) (mdT l v6)), iv (tkE (looM l v6 6) (mdU l v6) (mdT l v6))])), (78, hc (AV.tup [AV.bool (staB (looM l v6 6) (mdU l v6) (mdT l v6) (IntKind.i64.wrap (nextZ l (mdK l v6) (IntKind.i64.wrap (iN (List.map tkA (mdT l v6)).length + 2)) - 1))), iv (staE (looM l v6 6) (mdU l v6) (mdT l v6) (IntKind.i64.wrap (nextZ l (mdK l v6) (IntKind.i64.wrap (iN (List.map tkA (mdT l v6)).length + 2)) - 1)))])), (87, hc (AV.tup [AV.bool (staB (looM l v6 6) (mdU l v6) (mdT l v6) (IntKind.i64.wrap (nextZ l (mdK l v6) (IntKind.i64.wrap (iN (List.map tkA (mdT l v6)).length + 2)) - 1))), iv (staE (looM l v6 6) (mdU l v6) (mdT l v6) (IntKind.i64.wrap (nextZ l (mdK l v6) (IntKind.i64.wrap (iN (List.map tkA (mdT l v6)).length + 2)) - 1)))])), (97, hc (AV.tup [AV.bool (nedB (looM l v6 6) (mdT l v6) (IntKind.i64.wrap (nextZ l (mdK l v6) (IntKind.i64.wrap (iN (List.map tkA (mdT l v6)).length + 2)) - 1)) (IntKind.i64.wrap (nextZ l (mdK l v6 + 1) (IntKind.i64.wrap (iN (List.map sA (looM l v6 6).ss).length + 2)) - 1))), iv (nedE (looM l v6 6) (mdT l v6) (IntKind.i64.wrap (nextZ l (mdK l v6) (IntKind.i64.wrap (iN (List.map tkA (mdT l v6)).length + 2)) - 1)) (IntKind.i64.wrap (nextZ l (mdK l v6 + 1) (IntKind.i64.wrap (iN (List.map sA (looM l v6 6).ss).length + 2)) - 1)))])), (107, hc (AV.tup [AV.bool (nedB (looM l v6 6) (mdT l v6) (IntKind.i64.wrap (nextZ l (mdK l v6) (IntKind.i64.wrap (iN (List.map tkA (mdT l v6)).length + 2)) - 1)) (IntKind.i64.wrap (nextZ l (mdK l v6 + 1) (IntKind.i64.wrap (iN (List.map sA (looM l v6 6).ss).length + 2)) - 1))), iv (nedE (looM l v6 6) (mdT l v6) (IntKind.i64.wrap (nextZ l (mdK l v6) (IntKind.i64.wrap (iN (List.map tkA (mdT l v6)).length + 2)) - 1)) (IntKind.i64.wrap (nextZ l (mdK l v6 + 1) (IntKind.i64.wrap (iN (List.map sA (looM l v6 6).ss).length + 2)) - 1)))])), (136, hc (AV.bool true))] [] [] [0, 1, 2] [1, 2, 5, 8, 11, 12] mix (by kernel_rfl) (aj (aj (u2 s2) (aj a0 (aj (u2 s2) (aj a1 (aj (u2 (aj (ak (k3 (al (loose_ct (l) (v6) (6) a2 (show (1 : Int) ≤ (6 : Int) ∧ (6 : Int) ≤ (20 : Int) from ⟨(by first | exact Nat.le_of_ble_eq_true rfl | decide), (by first | exact Nat.le_of_ble_eq_true rfl | decide)⟩))))) (al (k2 (show Nat.le 1 [AV.agg [AV.lst (List.map bA v3.bs), AV.lst (List.map lI v3.nx), AV.lst (List.map sA v3.ss), AV.lst (List.map (iv) v3.rs), iv v3.q, iv v3.a, iv v3.d, iv v3.p]].length from (Nat.le_of_ble_eq_true rfl)))))) (aj (u2 (u2 (aj (k3 (aj t9 (ak (al (made6_ct (l) (v6) a3 a4))))) (u2 (u2 (u2 (u2 s2))))))) (aj (u2 (u2 (u2 (u2 (aj (k5 (al (next_ct (l) (mdK l v6) (IntKind.i64.wrap (iN (List.map tkA (mdT l v6)).length + 2)) a5))) (u2 (u2 (u2 (u2 (u2 (u2 (aj (k5 (al (next_ct (l) (mdK l v6 + 1) (IntKind.i64.wrap (iN (List.map sA (looM l v6 6).ss).length + 2)) a6))) (u2 (aj t3 (al (k2 (show Nat.le 1 [AV.agg [iv v4, iv v5]].length from (Nat.le_of_ble_eq_true rfl)))))))))))))))))) (aj (u2 (u2 (u2 (aj (k3 (aj t9 (k2 (al (sTaken_ct a7 (mdU l v6) (mdT l v6)))))) (u2 (u2 (u2 (u2 s2)))))))) (aj (u2 (u2 (u2 (aj (k3 (aj t9 (k2 (al (rTaken_ct a7 (mdU l v6) (mdT l v6)))))) (u2 (u2 (u2 (u2 s2)))))))) (aj (u2 (u2 (u2 (aj (ak (aj (show (0 : Int) ≤ (0 : Int) from (by first | exact Nat.le_of_ble_eq_true rfl | decide)) (show (0 : Int) < (2 : Int) from (by first | exact Nat.le_of_ble_eq_true rfl | decide)))) (u2 (aj (ak (k3 (aj t9 (k3 (al (sStart_ct a7 (mdU l v6) (mdT l v6) (IntKind.i64.wrap (nextZ l (mdK l v6) (IntKind.i64.wrap (iN (List.map tkA (mdT l v6)).length + 2)) - 1)))))))) (u2 (u2 (u2 (u2 s2)))))))))) (aj (u2 (u2 (u2 (aj (ak (aj (show (0 : Int) ≤ (0 : Int) from (by first | exact Nat.le_of_ble_eq_true rfl | decide)) (show (0 : Int) < (2 : Int) from (by first | exact Nat.le_of_ble_eq_true rfl | decide)))) (u2 (aj (ak (k3 (aj t9 (k3 (al (rStart_ct a7 (mdU l v6) (mdT l v6) (IntKind.i64.wrap (nextZ l (mdK l v6) (IntKind.i64.wrap (iN (List.map tkA (mdT l v6)).length + 2)) - 1)))))))) (u2 (u2 (u2 (u2 s2)))))))))) (aj (u2 (u2 (aj (ak (aj (show (0 : Int) ≤ (0 : Int) from (by first | exact Nat.le_of_ble_eq_true rfl | decide)) (show (0 : Int) < (2 : Int) from (by first | exact Nat.le_of_ble_eq_true rfl | decide)))) (u2 (aj (ak (aj (show (0 : Int) ≤ (1 : Int) from (by first | exact Nat.le_of_ble_eq_true rfl | decide)) (show (1 : Int) < (2 : Int) from (by first | exact Nat.le_of_ble_eq_true rfl | decide)))) (u2 (aj (ak (k3 (aj t9 (k3 (al (sNeeds_ct a7 (mdT l v6) (IntKind.i64.wrap (nextZ l (mdK l v6) (IntKind.i64.wrap (iN (List.map tkA (mdT l v6)).length + 2)) - 1)) (IntKind.i64.wrap (nextZ l (mdK l v6 + 1) (IntKind.i64.wrap (iN (List.map sA (looM l v6 6).ss).length + 2)) - 1)))))))) (u2 (u2 (u2 (u2 s2))))))))))) (aj (u2 (u2 (aj (ak (aj (show (0 : Int) ≤ (0 : Int) from (by first | exact Nat.le_of_ble_eq_true rfl | decide)) (show (0 : Int) < (2 : Int) from (by first | exact Nat.le_of_ble_eq_true rfl | decide)))) (u2 (aj (ak (aj (show (0 : Int) ≤ (1 : Int) from (by first | exact Nat.le_of_ble_eq_true rfl | decide)) (show (1 : Int) < (2 : Int) from (by first | exact Nat.le_of_ble_eq_true rfl | decide)))) (u2 (aj (ak (k3 (aj t9 (k3 (al (rNeeds_ct a7 (mdT l v6) (IntKind.i64.wrap (nextZ l (mdK l v6) (IntKind.i64.wrap (iN (List.map tkA (mdT l v6)).length + 2)) - 1)) (IntKind.i64.wrap (nextZ l (mdK l v6 + 1) (IntKind.i64.wrap (iN (List.map sA (looM l v6 6).ss).length + 2)) - 1)))))))) (u2 (u2 (u2 (u2 s2))))))))))) (aj (u2 (u2 (aj t3 (u2 (ag a8 (ag a8 (aj (aj a8 t3) (ag a8 (u2 (ag a9 (ag a9 (aj (aj a9 t3) (ag a9 (u2 (ag a10 (ag a10 (aj (aj a10 t3) (ag a10 (u2 (ag a11 (ag a11 (aj (aj a11 t3) (ag a11 (u2 (ag a12 (ag a12 (aj (aj a12 (ak (k3 (al (sameInts_ct (tkL (looM l v6 6) (mdU l v6) (mdT l v6)) a13))))) (ag a12 (al (aj a12 t2)))))))))))))))))))))))))))))) (ak (al (u2 (u2 s2)))))))))))))))))) (ak t9))
  ·
   obtain ⟨a2, h⟩ := gu_inv h
   rcases br_inv h with ⟨a3, h⟩ | ⟨a3, h⟩
   ·
    cases h
    exact Arr.rt [63, 70, 227] [] [(62, hc (AV.tup [lI (tkL v3 v0 v1), iv (tkE v3 v0 v1)])), (69, hc (AV.tup [lI (tkL v3 v0 v1), iv (tkE v3 v0 v1)])), (78, hc (AV.tup [AV.bool (staB v3 v0 v1 v4), iv (staE v3 v0 v1 v4)])), (87, hc (AV.tup [AV.bool (staB v3 v0 v1 v4), iv (staE v3 v0 v1 v4)])), (97, hc (AV.tup [AV.bool (nedB v3 v1 v4 v5), iv (nedE v3 v1 v4 v5)])), (107, hc (AV.tup [AV.bool (nedB v3 v1 v4 v5), iv (nedE v3 v1 v4 v5)]))] [] [] [] mix (by kernel_rfl) (aj (aj (u2 s2) (aj a0 (aj (u2 s2) (aj a1 (aj (u2 (u2 (u2 (aj (k3 (aj t9 (k2 (al (sTaken_ct a2 (v0) (v1)))))) (u2 (u2 (u2 (u2 s2)))))))) (aj (u2 (u2 (u2 (aj (k3 (aj t9 (k2 (al (rTaken_ct a2 (v0) (v1)))))) (u2 (u2 (u2 (u2 s2)))))))) (aj (u2 (u2 (u2 (aj (ak (aj (show (0 : Int) ≤ (0 : Int) from (by first | exact Nat.le_of_ble_eq_true rfl | decide)) (show (0 : Int) < (2 : Int) from (by first | exact Nat.le_of_ble_eq_true rfl | decide)))) (u2 (aj (ak (k3 (aj t9 (k3 (al (sStart_ct a2 (v0) (v1) (v4))))))) (u2 (u2 (u2 (u2 s2)))))))))) (aj (u2 (u2 (u2 (aj (ak (aj (show (0 : Int) ≤ (0 : Int) from (by first | exact Nat.le_of_ble_eq_true rfl | decide)) (show (0 : Int) < (2 : Int) from (by first | exact Nat.le_of_ble_eq_true rfl | decide)))) (u2 (aj (ak (k3 (aj t9 (k3 (al (rStart_ct a2 (v0) (v1) (v4))))))) (u2 (u2 (u2 (u2 s2)))))))))) (aj (u2 (u2 (aj (ak (aj (show (0 : Int) ≤ (0 : Int) from (by first | exact Nat.le_of_ble_eq_true rfl | decide)) (show (0 : Int) < (2 : Int) from (by first | exact Nat.le_of_ble_eq_true rfl | decide)))) (u2 (aj (ak (aj (show (0 : Int) ≤ (1 : Int) from (by first | exact Nat.le_of_ble_eq_true rfl | decide)) (show (1 : Int) < (2 : Int) from (by first | exact Nat.le_of_ble_eq_true rfl | decide)))) (u2 (aj (ak (k3 (aj t9 (k3 (al (sNeeds_ct a2 (v1) (v4) (v5))))))) (u2 (u2 (u2 (u2 s2))))))))))) (aj (u2 (u2 (aj (ak (aj (show (0 : Int) ≤ (0 : Int) from (by first | exact Nat.le_of_ble_eq_true rfl | decide)) (show (0 : Int) < (2 : Int) from (by first | exact Nat.le_of_ble_eq_true rfl | decide)))) (u2 (aj (ak (aj (show (0 : Int) ≤ (1 : Int) from (by first | exact Nat.le_of_ble_eq_true rfl | decide)) (show (1 : Int) < (2 : Int) from (by first | exact Nat.le_of_ble_eq_true rfl | decide)))) (u2 (aj (ak (k3 (aj t9 (k3 (al (rNeeds_ct a2 (v1) (v4) (v5))))))) (u2 (u2 (u2 (u2 s2))))))))))) (aj (u2 (u2 (aj t3 (u2 (aj a3 (aj a3 (aj a3 (ag a3 (u2 (k3 (aj t3 (u2 (k3 (aj t3 (u2 (k3 (aj t3 (u2 (ak (k3 (al t3))))))))))))))))))))) (ak s2)))))))))))) t2)
   ·
    rcases br_inv h with ⟨a4, h⟩ | ⟨a4, h⟩
    ·
     cases h
     exact Arr.rt [63, 70, 226, 237] [] [(62, hc (AV.tup [lI (tkL v3 v0 v1), iv (tkE v3 v0 v1)])), (69, hc (AV.tup [lI (tkL v3 v0 v1), iv (tkE v3 v0 v1)])), (78, hc (AV.tup [AV.bool (staB v3 v0 v1 v4), iv (staE v3 v0 v1 v4)])), (87, hc (AV.tup [AV.bool (staB v3 v0 v1 v4), iv (staE v3 v0 v1 v4)])), (97, hc (AV.tup [AV.bool (nedB v3 v1 v4 v5), iv (nedE v3 v1 v4 v5)])), (107, hc (AV.tup [AV.bool (nedB v3 v1 v4 v5), iv (nedE v3 v1 v4 v5)]))] [] [] [] mix (by kernel_rfl) (aj (aj (u2 s2) (aj a0 (aj (u2 s2) (aj a1 (aj (u2 (u2 (u2 (aj (k3 (aj t9 (k2 (al (sTaken_ct a2 (v0) (v1)))))) (u2 (u2 (u2 (u2 s2)))))))) (aj (u2 (u2 (u2 (aj (k3 (aj t9 (k2 (al (rTaken_ct a2 (v0) (v1)))))) (u2 (u2 (u2 (u2 s2)))))))) (aj (u2 (u2 (u2 (aj (ak (aj (show (0 : Int) ≤ (0 : Int) from (by first | exact Nat.le_of_ble_eq_true rfl | decide)) (show (0 : Int) < (2 : Int) from (by first | exact Nat.le_of_ble_eq_true rfl | decide)))) (u2 (aj (ak (k3 (aj t9 (k3 (al (sStart_ct a2 (v0) (v1) (v4))))))) (u2 (u2 (u2 (u2 s2)))))))))) (aj (u2 (u2 (u2 (aj (ak (aj (show (0 : Int) ≤ (0 : Int) from (by first | exact Nat.le_of_ble_eq_true rfl | decide)) (show (0 : Int) < (2 : Int) from (by first | exact Nat.le_of_ble_eq_true rfl | decide)))) (u2 (aj (ak (k3 (aj t9 (k3 (al (rStart_ct a2 (v0) (v1) (v4))))))) (u2 (u2 (u2 (u2 s2)))))))))) (aj (u2 (u2 (aj (ak (aj (show (0 : Int) ≤ (0 : Int) from (by first | exact Nat.le_of_ble_eq_true rfl | decide)) (show (0 : Int) < (2 : Int) from (by first | exact Nat.le_of_ble_eq_true rfl | decide)))) (u2 (aj (ak (aj (show (0 : Int) ≤ (1 : Int) from (by first | exact Nat.le_of_ble_eq_true rfl | decide)) (show (1 : Int) < (2 : Int) from (by first | exact Nat.le_of_ble_eq_true rfl | decide)))) (u2 (aj (ak (k3 (aj t9 (k3 (al (sNeeds_ct a2 (v1) (v4) (v5))))))) (u2 (u2 (u2 (u2 s2))))))))))) (aj (u2 (u2 (aj (ak (aj (show (0 : Int) ≤ (0 : Int) from (by first | exact Nat.le_of_ble_eq_true rfl | decide)) (show (0 : Int) < (2 : Int) from (by first | exact Nat.le_of_ble_eq_true rfl | decide)))) (u2 (aj (ak (aj (show (0 : Int) ≤ (1 : Int) from (by first | exact Nat.le_of_ble_eq_true rfl | decide)) (show (1 : Int) < (2 : Int) from (by first | exact Nat.le_of_ble_eq_true rfl | decide)))) (u2 (aj (ak (k3 (aj t9 (k3 (al (rNeeds_ct a2 (v1) (v4) (v5))))))) (u2 (u2 (u2 (u2 s2))))))))))) (aj (u2 (u2 (aj t3 (u2 (ag a3 (ag a3 (aj (aj a3 t3) (ag a3 (u2 (aj a4 (aj a4 (aj a4 (ag a4 (u2 (k3 (aj t3 (u2 (k3 (aj t3 (u2 (ak (k3 (al t3))))))))))))))))))))))) (ak s2)))))))))))) t2)
    ·
     rcases br_inv h with ⟨a5, h⟩ | ⟨a5, h⟩
     ·
      cases h
      exact Arr.rt [63, 70, 226, 236, 247] [] [(62, hc (AV.tup [lI (tkL v3 v0 v1), iv (tkE v3 v0 v1)])), (69, hc (AV.tup [lI (tkL v3 v0 v1), iv (tkE v3 v0 v1)])), (78, hc (AV.tup [AV.bool (staB v3 v0 v1 v4), iv (staE v3 v0 v1 v4)])), (87, hc (AV.tup [AV.bool (staB v3 v0 v1 v4), iv (staE v3 v0 v1 v4)])), (97, hc (AV.tup [AV.bool (nedB v3 v1 v4 v5), iv (nedE v3 v1 v4 v5)])), (107, hc (AV.tup [AV.bool (nedB v3 v1 v4 v5), iv (nedE v3 v1 v4 v5)]))] [] [] [] mix (by kernel_rfl) (aj (aj (u2 s2) (aj a0 (aj (u2 s2) (aj a1 (aj (u2 (u2 (u2 (aj (k3 (aj t9 (k2 (al (sTaken_ct a2 (v0) (v1)))))) (u2 (u2 (u2 (u2 s2)))))))) (aj (u2 (u2 (u2 (aj (k3 (aj t9 (k2 (al (rTaken_ct a2 (v0) (v1)))))) (u2 (u2 (u2 (u2 s2)))))))) (aj (u2 (u2 (u2 (aj (ak (aj (show (0 : Int) ≤ (0 : Int) from (by first | exact Nat.le_of_ble_eq_true rfl | decide)) (show (0 : Int) < (2 : Int) from (by first | exact Nat.le_of_ble_eq_true rfl | decide)))) (u2 (aj (ak (k3 (aj t9 (k3 (al (sStart_ct a2 (v0) (v1) (v4))))))) (u2 (u2 (u2 (u2 s2)))))))))) (aj (u2 (u2 (u2 (aj (ak (aj (show (0 : Int) ≤ (0 : Int) from (by first | exact Nat.le_of_ble_eq_true rfl | decide)) (show (0 : Int) < (2 : Int) from (by first | exact Nat.le_of_ble_eq_true rfl | decide)))) (u2 (aj (ak (k3 (aj t9 (k3 (al (rStart_ct a2 (v0) (v1) (v4))))))) (u2 (u2 (u2 (u2 s2)))))))))) (aj (u2 (u2 (aj (ak (aj (show (0 : Int) ≤ (0 : Int) from (by first | exact Nat.le_of_ble_eq_true rfl | decide)) (show (0 : Int) < (2 : Int) from (by first | exact Nat.le_of_ble_eq_true rfl | decide)))) (u2 (aj (ak (aj (show (0 : Int) ≤ (1 : Int) from (by first | exact Nat.le_of_ble_eq_true rfl | decide)) (show (1 : Int) < (2 : Int) from (by first | exact Nat.le_of_ble_eq_true rfl | decide)))) (u2 (aj (ak (k3 (aj t9 (k3 (al (sNeeds_ct a2 (v1) (v4) (v5))))))) (u2 (u2 (u2 (u2 s2))))))))))) (aj (u2 (u2 (aj (ak (aj (show (0 : Int) ≤ (0 : Int) from (by first | exact Nat.le_of_ble_eq_true rfl | decide)) (show (0 : Int) < (2 : Int) from (by first | exact Nat.le_of_ble_eq_true rfl | decide)))) (u2 (aj (ak (aj (show (0 : Int) ≤ (1 : Int) from (by first | exact Nat.le_of_ble_eq_true rfl | decide)) (show (1 : Int) < (2 : Int) from (by first | exact Nat.le_of_ble_eq_true rfl | decide)))) (u2 (aj (ak (k3 (aj t9 (k3 (al (rNeeds_ct a2 (v1) (v4) (v5))))))) (u2 (u2 (u2 (u2 s2))))))))))) (aj (u2 (u2 (aj t3 (u2 (ag a3 (ag a3 (aj (aj a3 t3) (ag a3 (u2 (ag a4 (ag a4 (aj (aj a4 t3) (ag a4 (u2 (aj a5 (aj a5 (aj a5 (ag a5 (u2 (k3 (aj t3 (u2 (ak (k3 (al t3))))))))))))))))))))))))) (ak s2)))))))))))) t2)
     ·
      rcases br_inv h with ⟨a6, h⟩ | ⟨a6, h⟩
      ·
       cases h
       exact Arr.rt [63, 70, 226, 236, 246, 257] [] [(62, hc (AV.tup [lI (tkL v3 v0 v1), iv (tkE v3 v0 v1)])), (69, hc (AV.tup [lI (tkL v3 v0 v1), iv (tkE v3 v0 v1)])), (78, hc (AV.tup [AV.bool (staB v3 v0 v1 v4), iv (staE v3 v0 v1 v4)])), (87, hc (AV.tup [AV.bool (staB v3 v0 v1 v4), iv (staE v3 v0 v1 v4)])), (97, hc (AV.tup [AV.bool (nedB v3 v1 v4 v5), iv (nedE v3 v1 v4 v5)])), (107, hc (AV.tup [AV.bool (nedB v3 v1 v4 v5), iv (nedE v3 v1 v4 v5)]))] [] [] [] mix (by kernel_rfl) (aj (aj (u2 s2) (aj a0 (aj (u2 s2) (aj a1 (aj (u2 (u2 (u2 (aj (k3 (aj t9 (k2 (al (sTaken_ct a2 (v0) (v1)))))) (u2 (u2 (u2 (u2 s2)))))))) (aj (u2 (u2 (u2 (aj (k3 (aj t9 (k2 (al (rTaken_ct a2 (v0) (v1)))))) (u2 (u2 (u2 (u2 s2)))))))) (aj (u2 (u2 (u2 (aj (ak (aj (show (0 : Int) ≤ (0 : Int) from (by first | exact Nat.le_of_ble_eq_true rfl | decide)) (show (0 : Int) < (2 : Int) from (by first | exact Nat.le_of_ble_eq_true rfl | decide)))) (u2 (aj (ak (k3 (aj t9 (k3 (al (sStart_ct a2 (v0) (v1) (v4))))))) (u2 (u2 (u2 (u2 s2)))))))))) (aj (u2 (u2 (u2 (aj (ak (aj (show (0 : Int) ≤ (0 : Int) from (by first | exact Nat.le_of_ble_eq_true rfl | decide)) (show (0 : Int) < (2 : Int) from (by first | exact Nat.le_of_ble_eq_true rfl | decide)))) (u2 (aj (ak (k3 (aj t9 (k3 (al (rStart_ct a2 (v0) (v1) (v4))))))) (u2 (u2 (u2 (u2 s2)))))))))) (aj (u2 (u2 (aj (ak (aj (show (0 : Int) ≤ (0 : Int) from (by first | exact Nat.le_of_ble_eq_true rfl | decide)) (show (0 : Int) < (2 : Int) from (by first | exact Nat.le_of_ble_eq_true rfl | decide)))) (u2 (aj (ak (aj (show (0 : Int) ≤ (1 : Int) from (by first | exact Nat.le_of_ble_eq_true rfl | decide)) (show (1 : Int) < (2 : Int) from (by first | exact Nat.le_of_ble_eq_true rfl | decide)))) (u2 (aj (ak (k3 (aj t9 (k3 (al (sNeeds_ct a2 (v1) (v4) (v5))))))) (u2 (u2 (u2 (u2 s2))))))))))) (aj (u2 (u2 (aj (ak (aj (show (0 : Int) ≤ (0 : Int) from (by first | exact Nat.le_of_ble_eq_true rfl | decide)) (show (0 : Int) < (2 : Int) from (by first | exact Nat.le_of_ble_eq_true rfl | decide)))) (u2 (aj (ak (aj (show (0 : Int) ≤ (1 : Int) from (by first | exact Nat.le_of_ble_eq_true rfl | decide)) (show (1 : Int) < (2 : Int) from (by first | exact Nat.le_of_ble_eq_true rfl | decide)))) (u2 (aj (ak (k3 (aj t9 (k3 (al (rNeeds_ct a2 (v1) (v4) (v5))))))) (u2 (u2 (u2 (u2 s2))))))))))) (aj (u2 (u2 (aj t3 (u2 (ag a3 (ag a3 (aj (aj a3 t3) (ag a3 (u2 (ag a4 (ag a4 (aj (aj a4 t3) (ag a4 (u2 (ag a5 (ag a5 (aj (aj a5 t3) (ag a5 (u2 (aj a6 (aj a6 (aj a6 (ag a6 (u2 (ak (k3 (al t3))))))))))))))))))))))))))) (ak s2)))))))))))) t2)
      ·
       rcases br_inv h with ⟨a7, h⟩ | ⟨a7, h⟩
       ·
        cases h
        exact Arr.rt [63, 70, 226, 236, 246, 256, 267] [] [(62, hc (AV.tup [lI (tkL v3 v0 v1), iv (tkE v3 v0 v1)])), (69, hc (AV.tup [lI (tkL v3 v0 v1), iv (tkE v3 v0 v1)])), (78, hc (AV.tup [AV.bool (staB v3 v0 v1 v4), iv (staE v3 v0 v1 v4)])), (87, hc (AV.tup [AV.bool (staB v3 v0 v1 v4), iv (staE v3 v0 v1 v4)])), (97, hc (AV.tup [AV.bool (nedB v3 v1 v4 v5), iv (nedE v3 v1 v4 v5)])), (107, hc (AV.tup [AV.bool (nedB v3 v1 v4 v5), iv (nedE v3 v1 v4 v5)]))] [] [] [] mix (by kernel_rfl) (aj (aj (u2 s2) (aj a0 (aj (u2 s2) (aj a1 (aj (u2 (u2 (u2 (aj (k3 (aj t9 (k2 (al (sTaken_ct a2 (v0) (v1)))))) (u2 (u2 (u2 (u2 s2)))))))) (aj (u2 (u2 (u2 (aj (k3 (aj t9 (k2 (al (rTaken_ct a2 (v0) (v1)))))) (u2 (u2 (u2 (u2 s2)))))))) (aj (u2 (u2 (u2 (aj (ak (aj (show (0 : Int) ≤ (0 : Int) from (by first | exact Nat.le_of_ble_eq_true rfl | decide)) (show (0 : Int) < (2 : Int) from (by first | exact Nat.le_of_ble_eq_true rfl | decide)))) (u2 (aj (ak (k3 (aj t9 (k3 (al (sStart_ct a2 (v0) (v1) (v4))))))) (u2 (u2 (u2 (u2 s2)))))))))) (aj (u2 (u2 (u2 (aj (ak (aj (show (0 : Int) ≤ (0 : Int) from (by first | exact Nat.le_of_ble_eq_true rfl | decide)) (show (0 : Int) < (2 : Int) from (by first | exact Nat.le_of_ble_eq_true rfl | decide)))) (u2 (aj (ak (k3 (aj t9 (k3 (al (rStart_ct a2 (v0) (v1) (v4))))))) (u2 (u2 (u2 (u2 s2)))))))))) (aj (u2 (u2 (aj (ak (aj (show (0 : Int) ≤ (0 : Int) from (by first | exact Nat.le_of_ble_eq_true rfl | decide)) (show (0 : Int) < (2 : Int) from (by first | exact Nat.le_of_ble_eq_true rfl | decide)))) (u2 (aj (ak (aj (show (0 : Int) ≤ (1 : Int) from (by first | exact Nat.le_of_ble_eq_true rfl | decide)) (show (1 : Int) < (2 : Int) from (by first | exact Nat.le_of_ble_eq_true rfl | decide)))) (u2 (aj (ak (k3 (aj t9 (k3 (al (sNeeds_ct a2 (v1) (v4) (v5))))))) (u2 (u2 (u2 (u2 s2))))))))))) (aj (u2 (u2 (aj (ak (aj (show (0 : Int) ≤ (0 : Int) from (by first | exact Nat.le_of_ble_eq_true rfl | decide)) (show (0 : Int) < (2 : Int) from (by first | exact Nat.le_of_ble_eq_true rfl | decide)))) (u2 (aj (ak (aj (show (0 : Int) ≤ (1 : Int) from (by first | exact Nat.le_of_ble_eq_true rfl | decide)) (show (1 : Int) < (2 : Int) from (by first | exact Nat.le_of_ble_eq_true rfl | decide)))) (u2 (aj (ak (k3 (aj t9 (k3 (al (rNeeds_ct a2 (v1) (v4) (v5))))))) (u2 (u2 (u2 (u2 s2))))))))))) (aj (u2 (u2 (aj t3 (u2 (ag a3 (ag a3 (aj (aj a3 t3) (ag a3 (u2 (ag a4 (ag a4 (aj (aj a4 t3) (ag a4 (u2 (ag a5 (ag a5 (aj (aj a5 t3) (ag a5 (u2 (ag a6 (ag a6 (aj (aj a6 t3) (ag a6 (u2 (aj a7 (aj a7 (aj a7 (aj a7 (al (aj a7 t2)))))))))))))))))))))))))))))) (ak s2)))))))))))) t2)
       ·
        obtain ⟨a8, h⟩ := gu_inv h
        cases h
        exact Arr.lp [63, 70, 226, 236, 246, 256, 266] [] [(62, hc (AV.tup [lI (tkL v3 v0 v1), iv (tkE v3 v0 v1)])), (69, hc (AV.tup [lI (tkL v3 v0 v1), iv (tkE v3 v0 v1)])), (78, hc (AV.tup [AV.bool (staB v3 v0 v1 v4), iv (staE v3 v0 v1 v4)])), (87, hc (AV.tup [AV.bool (staB v3 v0 v1 v4), iv (staE v3 v0 v1 v4)])), (97, hc (AV.tup [AV.bool (nedB v3 v1 v4 v5), iv (nedE v3 v1 v4 v5)])), (107, hc (AV.tup [AV.bool (nedB v3 v1 v4 v5), iv (nedE v3 v1 v4 v5)])), (136, hc (AV.bool true))] [] [] [0, 1, 2] [1, 2, 5, 8, 11, 12] mix (by kernel_rfl) (aj (aj (u2 s2) (aj a0 (aj (u2 s2) (aj a1 (aj (u2 (u2 (u2 (aj (k3 (aj t9 (k2 (al (sTaken_ct a2 (v0) (v1)))))) (u2 (u2 (u2 (u2 s2)))))))) (aj (u2 (u2 (u2 (aj (k3 (aj t9 (k2 (al (rTaken_ct a2 (v0) (v1)))))) (u2 (u2 (u2 (u2 s2)))))))) (aj (u2 (u2 (u2 (aj (ak (aj (show (0 : Int) ≤ (0 : Int) from (by first | exact Nat.le_of_ble_eq_true rfl | decide)) (show (0 : Int) < (2 : Int) from (by first | exact Nat.le_of_ble_eq_true rfl | decide)))) (u2 (aj (ak (k3 (aj t9 (k3 (al (sStart_ct a2 (v0) (v1) (v4))))))) (u2 (u2 (u2 (u2 s2)))))))))) (aj (u2 (u2 (u2 (aj (ak (aj (show (0 : Int) ≤ (0 : Int) from (by first | exact Nat.le_of_ble_eq_true rfl | decide)) (show (0 : Int) < (2 : Int) from (by first | exact Nat.le_of_ble_eq_true rfl | decide)))) (u2 (aj (ak (k3 (aj t9 (k3 (al (rStart_ct a2 (v0) (v1) (v4))))))) (u2 (u2 (u2 (u2 s2)))))))))) (aj (u2 (u2 (aj (ak (aj (show (0 : Int) ≤ (0 : Int) from (by first | exact Nat.le_of_ble_eq_true rfl | decide)) (show (0 : Int) < (2 : Int) from (by first | exact Nat.le_of_ble_eq_true rfl | decide)))) (u2 (aj (ak (aj (show (0 : Int) ≤ (1 : Int) from (by first | exact Nat.le_of_ble_eq_true rfl | decide)) (show (1 : Int) < (2 : Int) from (by first | exact Nat.le_of_ble_eq_true rfl | decide)))) (u2 (aj (ak (k3 (aj t9 (k3 (al (sNeeds_ct a2 (v1) (v4) (v5))))))) (u2 (u2 (u2 (u2 s2))))))))))) (aj (u2 (u2 (aj (ak (aj (show (0 : Int) ≤ (0 : Int) from (by first | exact Nat.le_of_ble_eq_true rfl | decide)) (show (0 : Int) < (2 : Int) from (by first | exact Nat.le_of_ble_eq_true rfl | decide)))) (u2 (aj (ak (aj (show (0 : Int) ≤ (1 : Int) from (by first | exact Nat.le_of_ble_eq_true rfl | decide)) (show (1 : Int) < (2 : Int) from (by first | exact Nat.le_of_ble_eq_true rfl | decide)))) (u2 (aj (ak (k3 (aj t9 (k3 (al (rNeeds_ct a2 (v1) (v4) (v5))))))) (u2 (u2 (u2 (u2 s2))))))))))) (aj (u2 (u2 (aj t3 (u2 (ag a3 (ag a3 (aj (aj a3 t3) (ag a3 (u2 (ag a4 (ag a4 (aj (aj a4 t3) (ag a4 (u2 (ag a5 (ag a5 (aj (aj a5 t3) (ag a5 (u2 (ag a6 (ag a6 (aj (aj a6 t3) (ag a6 (u2 (ag a7 (ag a7 (aj (aj a7 (ak (k3 (al (sameInts_ct (tkL v3 v0 v1) a8))))) (ag a7 (al (aj a7 t2)))))))))))))))))))))))))))))) (ak (al (u2 (u2 s2))))))))))))))) (ak t9))
 ·
  cases h
  exact Arr.rt [62] [] [] [] [] [] mix (by kernel_rfl) (aj (aj (u2 s2) (aj a0 s2)) t2)
theorem stC_ct (n : NetD) (u : List UnD) (t : List TkD) (a b : Int) (l : List Int) (r : Ret) (h : MReach (stCStep n u t a b l) (stCEn n u t a b l) r) : CT Try.prog 3 ([]) ([netA n, .lst (u.map unA), .lst (t.map tkA), .agg [.int .i64 a, .int .i64 b], lI l]) r.1 r.2 :=
  CT.mach (fn := Try.f3) (c := bodyOf Try.f3) (S := stCSt n u t a b l) (hd := stCHd) Try.func3 (by kernel_rfl) (Nat.le_of_ble_eq_true rfl)
    (fun s o ho => match s, ho with
      | .l0 v0 v1 v2 v3 v4 v5 v6, ho => stCS0_ok n u t a b l v0 v1 v2 v3 v4 v5 v6 o ho
    )
    (fun o ho => stCEn_ok n u t a b l o ho) h
theorem tkL_len (n : NetD) (u : List UnD) (t : List TkD) (h : valB n = true ∨ True) : (tkL n u t).length ≤ 1000000 := by
  unfold tkL
  split
  · rename_i hc
    have := (consB_iff hc).v.ns
    simp [cntL]; omega
  · simp
theorem stC_run {n : NetD} (hrw : Rows n.nx) (u : List UnD) (t : List TkD) (a b : Int) (l : List Int) : CT Try.prog 3 [] [netA n, .lst (u.map unA), .lst (t.map tkA), .agg [.int .i64 a, .int .i64 b], lI l] [] (.bool true) := by
  refine stC_ct n u t a b l ([], .bool true) ?_
  have e1 : ∀ x : Int, (x != x) = false := fun x => by simp
  have e2 : ∀ x : Bool, (!x == x) = false := fun x => by cases x <;> rfl
  unfold stCEn
  refine .to (show stCS0 n u t a b l u t 0 n a b 0 = some (.inl (.l0 u t 1 n a b 0)) from ?_) ?_
  · unfold stCS0
    rw [br_t (by rfl), br_f (by rfl), gu_t hrw, br_f (e1 _), br_f (e1 _), br_f (e1 _), br_f (e2 _), br_f (e2 _), gu_t (tkL_len _ _ _ (.inr trivial))]; rfl
  have hl := loo_spec (L := l) (kk := 0) (most := 6) (by omega) (by omega)
  have hm := md_spec (L := l) (k := 0) hl.1 (by omega)
  refine .go _ _ ?_
  show MReach _ (stCS0 n u t a b l u t 1 n a b 0) _
  unfold stCS0
  rw [br_t (by rfl), br_t (by rfl), gu_t (by omega), gu_t hl.1, gu_t (by omega), gu_t (by omega), gu_t (by omega), gu_t hl.1.rows, br_f (e1 _), br_f (e1 _), br_f (e1 _), br_f (e2 _), br_f (e2 _), gu_t (tkL_len _ _ _ (.inr trivial))]
  refine .go _ _ (.val ?_)
  show stCS0 n u t a b l _ _ (IntKind.i64.wrap (1 + 1)) _ _ _ _ = _
  unfold stCS0
  rw [br_f (by rfl)]
theorem rdInts {n : Nat} {es : List AV} (h : ∀ x ∈ es, ShV Try.prog n 3 x) : ∃ L : List Int, es = L.map (AV.int .i64) := by
  induction es with
  | nil => exact ⟨[], rfl⟩
  | cons x es ih =>
    obtain ⟨L, rfl⟩ := ih fun y hy => h y (List.mem_cons_of_mem _ hy)
    obtain ⟨i, _, rfl⟩ := (h x (by simp)).intD Try.underlying3
    exact ⟨i :: L, rfl⟩
theorem rdBlkD115 {n : Nat} {a : AV} (h : ShV Try.prog (n + 1) 115 a) : ∃ x : BlkD, a = bA x := by
  obtain ⟨_, hs, rfl⟩ := h.structD Try.underlying115
  obtain ⟨_, _, rfl, g0, hs⟩ := hs.consD
  obtain ⟨_, _, rfl, g1, hs⟩ := hs.consD
  obtain ⟨_, _, rfl, g2, hs⟩ := hs.consD
  obtain rfl := hs.nilD
  obtain ⟨x0, _, rfl⟩ := g0.strD Try.underlying9
  obtain ⟨x1, _, rfl⟩ := g1.intD Try.underlying3
  obtain ⟨x2, _, rfl⟩ := g2.intD Try.underlying3
  exact ⟨⟨x0, x1, x2⟩, rfl⟩
theorem rdBlkDs115 {n : Nat} {es : List AV} (h : ∀ x ∈ es, ShV Try.prog (n + 1) 115 x) : ∃ L : List BlkD, es = L.map bA := by
  induction es with
  | nil => exact ⟨[], rfl⟩
  | cons x es ih =>
    obtain ⟨L, rfl⟩ := ih fun y hy => h y (List.mem_cons_of_mem _ hy)
    obtain ⟨f, rfl⟩ := rdBlkD115 (h x (by simp))
    exact ⟨f :: L, rfl⟩
theorem rdSpuD55 {n : Nat} {a : AV} (h : ShV Try.prog (n + 1) 55 a) : ∃ x : SpuD, a = sA x := by
  obtain ⟨_, hs, rfl⟩ := h.structD Try.underlying55
  obtain ⟨_, _, rfl, g0, hs⟩ := hs.consD
  obtain ⟨_, _, rfl, g1, hs⟩ := hs.consD
  obtain ⟨_, _, rfl, g2, hs⟩ := hs.consD
  obtain ⟨_, _, rfl, g3, hs⟩ := hs.consD
  obtain ⟨_, _, rfl, g4, hs⟩ := hs.consD
  obtain ⟨_, _, rfl, g5, hs⟩ := hs.consD
  obtain rfl := hs.nilD
  obtain ⟨x0, _, rfl⟩ := g0.strD Try.underlying9
  obtain ⟨x1, rfl⟩ := g1.boolD Try.underlying4
  obtain ⟨x2, _, rfl⟩ := g2.intD Try.underlying3
  obtain ⟨x3, _, rfl⟩ := g3.intD Try.underlying3
  obtain ⟨x4, _, rfl⟩ := g4.intD Try.underlying3
  obtain ⟨x5, _, rfl⟩ := g5.intD Try.underlying3
  exact ⟨⟨x0, x1, x2, x3, x4, x5⟩, rfl⟩
theorem rdSpuDs55 {n : Nat} {es : List AV} (h : ∀ x ∈ es, ShV Try.prog (n + 1) 55 x) : ∃ L : List SpuD, es = L.map sA := by
  induction es with
  | nil => exact ⟨[], rfl⟩
  | cons x es ih =>
    obtain ⟨L, rfl⟩ := ih fun y hy => h y (List.mem_cons_of_mem _ hy)
    obtain ⟨f, rfl⟩ := rdSpuD55 (h x (by simp))
    exact ⟨f :: L, rfl⟩
theorem rdTkD53 {n : Nat} {a : AV} (h : ShV Try.prog (n + 1) 53 a) : ∃ x : TkD, a = tkA x := by
  obtain ⟨_, hs, rfl⟩ := h.structD Try.underlying53
  obtain ⟨_, _, rfl, g0, hs⟩ := hs.consD
  obtain ⟨_, _, rfl, g1, hs⟩ := hs.consD
  obtain ⟨_, _, rfl, g2, hs⟩ := hs.consD
  obtain ⟨_, _, rfl, g3, hs⟩ := hs.consD
  obtain ⟨_, _, rfl, g4, hs⟩ := hs.consD
  obtain rfl := hs.nilD
  obtain ⟨x0, _, rfl⟩ := g0.intD Try.underlying3
  obtain ⟨x1, _, rfl⟩ := g1.intD Try.underlying3
  obtain ⟨x2, _, rfl⟩ := g2.intD Try.underlying3
  obtain ⟨x3, _, rfl⟩ := g3.intD Try.underlying3
  obtain ⟨x4, _, rfl⟩ := g4.intD Try.underlying3
  exact ⟨⟨x0, x1, x2, x3, x4⟩, rfl⟩
theorem rdTkDs53 {n : Nat} {es : List AV} (h : ∀ x ∈ es, ShV Try.prog (n + 1) 53 x) : ∃ L : List TkD, es = L.map tkA := by
  induction es with
  | nil => exact ⟨[], rfl⟩
  | cons x es ih =>
    obtain ⟨L, rfl⟩ := ih fun y hy => h y (List.mem_cons_of_mem _ hy)
    obtain ⟨f, rfl⟩ := rdTkD53 (h x (by simp))
    exact ⟨f :: L, rfl⟩
theorem rdUnD51 {n : Nat} {a : AV} (h : ShV Try.prog (n + 2) 51 a) : ∃ x : UnD, a = unA x := by
  obtain ⟨_, hs, rfl⟩ := h.structD Try.underlying51
  obtain ⟨_, _, rfl, g0, hs⟩ := hs.consD
  obtain ⟨_, _, rfl, g1, hs⟩ := hs.consD
  obtain ⟨_, _, rfl, g2, hs⟩ := hs.consD
  obtain ⟨_, _, rfl, g3, hs⟩ := hs.consD
  obtain ⟨_, _, rfl, g4, hs⟩ := hs.consD
  obtain ⟨_, _, rfl, g5, hs⟩ := hs.consD
  obtain ⟨_, _, rfl, g6, hs⟩ := hs.consD
  obtain ⟨_, _, rfl, g7, hs⟩ := hs.consD
  obtain ⟨_, _, rfl, g8, hs⟩ := hs.consD
  obtain ⟨_, _, rfl, g9, hs⟩ := hs.consD
  obtain ⟨_, _, rfl, g10, hs⟩ := hs.consD
  obtain ⟨_, _, rfl, g11, hs⟩ := hs.consD
  obtain ⟨_, _, rfl, g12, hs⟩ := hs.consD
  obtain rfl := hs.nilD
  obtain ⟨x0, _, rfl⟩ := g0.intD Try.underlying3
  obtain ⟨x1, rfl⟩ := g1.boolD Try.underlying4
  obtain ⟨x2, _, rfl⟩ := g2.intD Try.underlying3
  obtain ⟨x3, _, rfl⟩ := g3.intD Try.underlying3
  obtain ⟨x4, _, rfl⟩ := g4.intD Try.underlying3
  obtain ⟨x5, _, rfl⟩ := g5.intD Try.underlying49
  obtain ⟨x6, rfl⟩ := g6.boolD Try.underlying4
  obtain ⟨x7, rfl⟩ := g7.boolD Try.underlying4
  obtain ⟨x8, _, rfl⟩ := g8.intD Try.underlying3
  obtain ⟨x9, _, rfl⟩ := g9.intD Try.underlying3
  obtain ⟨l10, _, hl10, rfl⟩ := g10.sliceD Try.underlying25
  obtain ⟨x10, rfl⟩ := rdInts hl10
  obtain ⟨x11, _, rfl⟩ := g11.intD Try.underlying3
  obtain ⟨x12, _, rfl⟩ := g12.intD Try.underlying3
  exact ⟨⟨x0, x1, x2, x3, x4, x5, x6, x7, x8, x9, x10, x11, x12⟩, rfl⟩
theorem rdUnDs51 {n : Nat} {es : List AV} (h : ∀ x ∈ es, ShV Try.prog (n + 2) 51 x) : ∃ L : List UnD, es = L.map unA := by
  induction es with
  | nil => exact ⟨[], rfl⟩
  | cons x es ih =>
    obtain ⟨L, rfl⟩ := ih fun y hy => h y (List.mem_cons_of_mem _ hy)
    obtain ⟨f, rfl⟩ := rdUnD51 (h x (by simp))
    exact ⟨f :: L, rfl⟩
theorem rdRows23 {n : Nat} {es : List AV} (h : ∀ x ∈ es, ShV Try.prog (n + 1) 25 x) : ∃ g : List (List Int), es = gL g ∧ Rows g := by
  have key : ∃ g : List (List Int), es = gL g ∧ ∀ r ∈ g, r.length ≤ 9223372036854775807 := by
    induction es with
    | nil => exact ⟨[], rfl, fun r hr => by cases hr⟩
    | cons x es ih =>
      obtain ⟨g, rfl, hg⟩ := ih fun y hy => h y (List.mem_cons_of_mem _ hy)
      obtain ⟨ls, hm, hl, rfl⟩ := (h x (by simp)).sliceD Try.underlying25
      obtain ⟨L, rfl⟩ := rdInts hl
      refine ⟨L :: g, rfl, fun r hr => ?_⟩
      rcases List.mem_cons.1 hr with rfl | hr
      · simpa [maxLen] using hm
      · exact hg r hr
  obtain ⟨g, e, hg⟩ := key
  refine ⟨g, e, fun v hv => ?_⟩
  rw [List.getD_eq_getElem?_getD, List.getElem?_eq_getElem hv]
  exact hg _ (List.getElem_mem hv)
theorem rdNet29 {n : Nat} {a : AV} (h : ShV Try.prog (n + 4) 29 a) : ∃ x : NetD, a = netA x ∧ Rows x.nx := by
  obtain ⟨_, hs, rfl⟩ := h.structD Try.underlying29
  obtain ⟨_, _, rfl, g0, hs⟩ := hs.consD
  obtain ⟨_, _, rfl, g1, hs⟩ := hs.consD
  obtain ⟨_, _, rfl, g2, hs⟩ := hs.consD
  obtain ⟨_, _, rfl, g3, hs⟩ := hs.consD
  obtain ⟨_, _, rfl, g4, hs⟩ := hs.consD
  obtain rfl := hs.nilD
  obtain ⟨_, _, h0, rfl⟩ := g0.sliceD Try.underlying22
  obtain ⟨bs, rfl⟩ := rdBlkDs115 h0
  obtain ⟨_, _, h1, rfl⟩ := g1.sliceD Try.underlying23
  obtain ⟨nx, rfl, hnx⟩ := rdRows23 h1
  obtain ⟨_, _, h2, rfl⟩ := g2.sliceD Try.underlying24
  obtain ⟨ss, rfl⟩ := rdSpuDs55 h2
  obtain ⟨_, _, h3, rfl⟩ := g3.sliceD Try.underlying25
  obtain ⟨rs, rfl⟩ := rdInts h3
  obtain ⟨_, h4, rfl⟩ := g4.structD Try.underlying27
  obtain ⟨_, _, rfl, k0, h4⟩ := h4.consD
  obtain ⟨_, _, rfl, k1, h4⟩ := h4.consD
  obtain ⟨_, _, rfl, k2, h4⟩ := h4.consD
  obtain ⟨_, _, rfl, k3, h4⟩ := h4.consD
  obtain rfl := h4.nilD
  obtain ⟨q, _, rfl⟩ := k0.intD Try.underlying3
  obtain ⟨a, _, rfl⟩ := k1.intD Try.underlying3
  obtain ⟨d, _, rfl⟩ := k2.intD Try.underlying3
  obtain ⟨p, _, rfl⟩ := k3.intD Try.underlying3
  exact ⟨⟨bs, nx, ss, rs, q, a, d, p⟩, rfl, hnx⟩
theorem stationsCount_row (avs : List AV) (h : ShVs Try.prog 6 Try.f3.params.toList avs) : CT Try.prog 3 [] avs [] (.bool true) := by
  rw [Try.params3] at h
  obtain ⟨a, _, rfl, ka, h⟩ := h.consD
  obtain ⟨b, _, rfl, kb, h⟩ := h.consD
  obtain ⟨c, _, rfl, kc, h⟩ := h.consD
  obtain ⟨d, _, rfl, kd, h⟩ := h.consD
  obtain ⟨e, _, rfl, ke, h⟩ := h.consD
  obtain rfl := h.nilD
  obtain ⟨n, rfl, hrw⟩ := rdNet29 ka
  obtain ⟨_, _, hb, rfl⟩ := kb.sliceD Try.underlying30
  obtain ⟨u, rfl⟩ := rdUnDs51 hb
  obtain ⟨_, _, hc, rfl⟩ := kc.sliceD Try.underlying31
  obtain ⟨t, rfl⟩ := rdTkDs53 hc
  obtain ⟨_, hd, rfl⟩ := kd.arrayD Try.underlying32
  obtain ⟨_, _, rfl, g1, hd⟩ := hd.consD
  obtain ⟨_, _, rfl, g2, hd⟩ := hd.consD
  obtain rfl := hd.nilD
  obtain ⟨x, _, rfl⟩ := g1.intD Try.underlying3
  obtain ⟨y, _, rfl⟩ := g2.intD Try.underlying3
  obtain ⟨_, _, he, rfl⟩ := ke.sliceD Try.underlying25
  obtain ⟨l, rfl⟩ := rdInts he
  exact stC_run hrw u t x y l
end Go.Proofs.Ytepomnooippjpaa

/- Parts of the proof: Tk7m, TkR, TkN, TkO, TkS, Tk8m, TkT, Tl1m, TlA, Tl2m, TlE. -/
import Derived.Test.YteohjokcoddnjaaProg
import Derived.KernelRfl
import Derived.Test.YteohjokcoddnjaaTokenFillsM5
open Go Go.AX Go.Proofs
set_option maxRecDepth 100000
set_option maxHeartbeats 4000000
set_option linter.unusedVariables false
set_option linter.unusedSimpArgs false
namespace Go.Proofs.Yteohjokcoddnjaa
noncomputable def ttiSt (g : List (List Int)) : Empty → St
  | x => x.elim
def ttiHd : Empty → Nat
  | x => x.elim
noncomputable def ttiEn (g : List (List Int)) : Option (Empty ⊕ Ret) :=
  gu (Rows g) <|
  br (cycE g != 0)
  (some (.inr ([], AV.tup [AV.nils, AV.nils, AV.int IntKind.i64 (cycE g)])))
  (gu (∀ (e : AV), e ∈ List.map (AV.int IntKind.i64) (cycL g) → e.cells.length = 1) <|
   gu (1 ≤ iN (List.map (AV.int IntKind.i64) (cycL g)).length) <|
   gu ([List.take ((List.map (AV.int IntKind.i64) (cycL g)).length - Int.toNat 1) (List.drop (Int.toNat 1) (cycL g)), List.take 1 (List.drop (Int.toNat 0) (cycL g))].length ≤ 1000 ∧ ∀ (r : List Int), r ∈ [List.take ((List.map (AV.int IntKind.i64) (cycL g)).length - Int.toNat 1) (List.drop (Int.toNat 1) (cycL g)), List.take 1 (List.drop (Int.toNat 0) (cycL g))] → r.length ≤ 1000000) <|
   some (.inr ([], AV.tup [AV.lst (List.map (AV.int IntKind.i64) (cycL g)), AV.lst (List.map (AV.int IntKind.i64) [List.take ((List.map (AV.int IntKind.i64) (cycL g)).length - Int.toNat 1) (List.drop (Int.toNat 1) (cycL g)), List.take 1 (List.drop (Int.toNat 0) (cycL g))].flatten), AV.int IntKind.i64 0])))
noncomputable def ttiStep (g : List (List Int)) : Empty → Option (Empty ⊕ Ret)
  | x => x.elim
theorem ttiEn_ok (g : List (List Int)) (o : Empty ⊕ Ret) (h : ttiEn g = some o) : Arr Try.prog Try.f27 0 (ttiSt g) ttiHd (bodyOf Try.f27) [] { n := Try.f27.ntmps, fr := enumF 0 ([.lst (gL g)]), hp := ([]) } o :=
 Scr.ok h mix (
 .rn 0 [] [] [] [] (al t4) <|
 .gu fun a0 =>
 have c0 := cyc_c (g) a0;
 .rn 1 [] [] [(9, hK c0 [] [])] [] (aj (u2 (aj (k2 (al (c0))) (u2 (u2 (u2 (u2 s2)))))) (al (u2 s2))) <|
 .br (fun a1 =>
 .rt [27] [] [] [] [] [] (aj (aj a1 (al (u2 (k2 s2)))) (al t4)))
 (fun a1 =>
 .gu fun a2 =>
 .gu fun a3 =>
 .gu fun a4 =>
 have c1 := cct_c ([List.take ((List.map (iv) (cycL g)).length - Int.toNat 1) (List.drop (Int.toNat 1) (cycL g)), List.take 1 (List.drop (Int.toNat 0) (cycL g))]) a4;
 .rt [26] [(20, AV.lst [])] [(21, hK c1 [] [])] [] [] [] (aj (aj a1 (al (u2 (u2 (aj (ak (aj a2 (aj (show (0 : Int) ≤ (1 : Int) from (by first | exact Nat.le_of_ble_eq_true rfl | decide)) (aj a3 (aj (show iN (List.map (iv) (cycL g)).length ≤ iN (List.map (iv) (cycL g)).length by omega) (show iN (List.map (iv) (cycL g)).length ≤ iN (List.map (iv) (cycL g)).length by omega)))))) (u2 (aj (ak (aj a2 (aj (show (0 : Int) ≤ (0 : Int) from (by first | exact Nat.le_of_ble_eq_true rfl | decide)) (aj (show (0 : Int) ≤ (1 : Int) from (by first | exact Nat.le_of_ble_eq_true rfl | decide)) (aj a3 (show iN (List.map (iv) (cycL g)).length ≤ iN (List.map (iv) (cycL g)).length by omega)))))) (aj t3 (aj (k2 (al (show CT Try.prog 66 [] [AV.lst [AV.lst (List.take ((List.map (iv) (cycL g)).length - Int.toNat 1) (List.drop (Int.toNat 1) (List.map (iv) (cycL g)))), AV.lst (List.take 1 (List.drop (Int.toNat 0) (List.map (iv) (cycL g))))]] [] (AV.lst (List.map (iv) [List.take ((List.map (iv) (cycL g)).length - Int.toNat 1) (List.drop (Int.toNat 1) (cycL g)), List.take 1 (List.drop (Int.toNat 0) (cycL g))].flatten)) from CT.eqs (c1) (by simp [gL, boL, lI]) (by simp [gL, boL, lI])))) (u2 (u2 t2))))))))))) (al t4)))) (by kernel_rfl)
theorem tti_ct (g : List (List Int)) (r : Ret) (h : MReach (ttiStep g) (ttiEn g) r) : CT Try.prog 27 ([]) ([.lst (gL g)]) r.1 r.2 :=
  CT.mach (fn := Try.f27) (c := bodyOf Try.f27) (S := ttiSt g) (hd := ttiHd) Try.func27 (by kernel_rfl) (Nat.le_of_ble_eq_true rfl)
    (fun s o ho => match s, ho with
      | x, _ => x.elim)
    (fun o ho => ttiEn_ok g o ho) h
noncomputable def rtiSt (g : List (List Int)) : Empty → St
  | x => x.elim
def rtiHd : Empty → Nat
  | x => x.elim
noncomputable def rtiEn (g : List (List Int)) : Option (Empty ⊕ Ret) :=
  gu (Rows g) <|
  br (!valZ g)
  (some (.inr ([], AV.tup [AV.nils, AV.nils, AV.int IntKind.i64 20])))
  (br (valZ g)
   (br (iN (List.map (AV.int IntKind.i64) (girW g)).length == 0)
    (some (.inr ([], AV.tup [AV.nils, AV.nils, AV.int IntKind.i64 25])))
    (gu (∀ (e : AV), e ∈ List.map (AV.int IntKind.i64) (girW g) → e.cells.length = 1) <|
     gu (1 ≤ iN (List.map (AV.int IntKind.i64) (girW g)).length) <|
     gu (∀ (e : AV), e ∈ List.take ((List.map (AV.int IntKind.i64) (girW g)).length - Int.toNat 1) (List.drop (Int.toNat 1) (List.map (AV.int IntKind.i64) (girW g))) → e.cells.length = 1) <|
     gu ((List.take ((List.map (AV.int IntKind.i64) (girW g)).length - Int.toNat 1) (List.drop (Int.toNat 1) (List.map (AV.int IntKind.i64) (girW g)))).length ≤ 9223372036854775807) <|
     gu ((List.take ((List.map (AV.int IntKind.i64) (girW g)).length - Int.toNat 1) (List.drop (Int.toNat 1) (List.map (AV.int IntKind.i64) (girW g)))).length * 8 ≤ 140737488355328) <|
     el (girW g) (Int.toNat 0) fun (x19 : Int) =>
     gu ((List.take ((List.map (AV.int IntKind.i64) (girW g)).length - Int.toNat 1) (List.drop (Int.toNat 1) (List.map (AV.int IntKind.i64) (girW g)))).length + [AV.int IntKind.i64 x19].length ≤ 9223372036854775807) <|
     gu (((List.take ((List.map (AV.int IntKind.i64) (girW g)).length - Int.toNat 1) (List.drop (Int.toNat 1) (List.map (AV.int IntKind.i64) (girW g)))).length + [AV.int IntKind.i64 x19].length) * 8 ≤ 140737488355328) <|
     some (.inr ([], AV.tup [AV.lst (List.map (AV.int IntKind.i64) (girW g)), AV.lst (List.take ((List.map (AV.int IntKind.i64) (girW g)).length - Int.toNat 1) (List.drop (Int.toNat 1) (List.map (AV.int IntKind.i64) (girW g))) ++ [AV.int IntKind.i64 x19]), AV.int IntKind.i64 0]))))
   (none))
noncomputable def rtiStep (g : List (List Int)) : Empty → Option (Empty ⊕ Ret)
  | x => x.elim
theorem rtiEn_ok (g : List (List Int)) (o : Empty ⊕ Ret) (h : rtiEn g = some o) : Arr Try.prog Try.f28 0 (rtiSt g) rtiHd (bodyOf Try.f28) [] { n := Try.f28.ntmps, fr := enumF 0 ([.lst (gL g)]), hp := ([]) } o :=
 Scr.ok h mix (
 .rn 0 [] [] [] [] (al t4) <|
 .gu fun a0 =>
 have c0 := valid_ct a0;
 .rn 0 [] [] [(7, hK c0 [] [])] [] (al (u2 (aj (k2 (al (c0))) s2))) <|
 .br (fun a1 =>
 .rt [17] [] [] [] [] [] (aj (aj a1 (al t4)) (al t4)))
 (fun a1 =>
 .br (fun a2 =>
  have c1 := wlk_c (g) a0 a2;
  .rn 1 [16] [] [(10, hK c1 [] [])] [] (aj a1 (aj (u2 (aj (k2 (al (c1))) s2)) (al (u2 (u2 s2))))) <|
  .br (fun a3 =>
  .rt [27] [] [] [] [] [] (aj (aj a3 (al t4)) (al t4)))
  (fun a3 =>
  .gu fun a4 =>
  .gu fun a5 =>
  .gu fun a6 =>
  .gu fun a7 =>
  .gu fun a8 =>
  .el fun x19 a9 =>
  .gu fun a10 =>
  .gu fun a11 =>
  .rt [26] [(19, iv x19)] [] [] [] [2] (aj (aj a3 (al (u2 (u2 (aj (ak (aj a4 (aj (show (0 : Int) ≤ (1 : Int) from (by first | exact Nat.le_of_ble_eq_true rfl | decide)) (aj a5 (aj (show iN (List.map (iv) (girW g)).length ≤ iN (List.map (iv) (girW g)).length by omega) (show iN (List.map (iv) (girW g)).length ≤ iN (List.map (iv) (girW g)).length by omega)))))) (aj (ak (aj a6 (aj a7 a8))) (u2 (aj (ak (aj (show (0 : Int) ≤ (0 : Int) from (by first | exact Nat.le_of_ble_eq_true rfl | decide)) (getMap (f := iv) a9))) (u2 (u2 (aj (k2 (aj (show (List.take ((List.map (iv) (girW g)).length - Int.toNat 1) (List.drop (Int.toNat 1) (List.map (iv) (girW g)))).length = (List.take ((List.map (iv) (girW g)).length - Int.toNat 1) (List.drop (Int.toNat 1) (List.map (iv) (girW g)))).length from rfl) (aj (aj (show nat_lit 1 = nat_lit 1 from rfl) (show 1 ≤ [iv x19].length by simp)) (aj a10 a11)))) (u2 (u2 t2))))))))))))) (al (ak (aj (show (List.take ((List.map (iv) (girW g)).length - Int.toNat 1) (List.drop (Int.toNat 1) (List.map (iv) (girW g)))).length + [iv x19].length = (List.take ((List.map (iv) (girW g)).length - Int.toNat 1) (List.drop (Int.toNat 1) (List.map (iv) (girW g))) ++ [iv x19]).length by simp) t2))))))
 (fun a2 =>
  .no))) (by kernel_rfl)
theorem rti_ct (g : List (List Int)) (r : Ret) (h : MReach (rtiStep g) (rtiEn g) r) : CT Try.prog 28 ([]) ([.lst (gL g)]) r.1 r.2 :=
  CT.mach (fn := Try.f28) (c := bodyOf Try.f28) (S := rtiSt g) (hd := rtiHd) Try.func28 (by kernel_rfl) (Nat.le_of_ble_eq_true rfl)
    (fun s o ho => match s, ho with
      | x, _ => x.elim)
    (fun o ho => rtiEn_ok g o ho) h
inductive tfiPc where
  | l0 (v0 : List Int) (v1 : Int) (v2 : Int)
  | l1 (v0 : List Int) (v1 : List MvD) (v2 : Int)
  | l2 (v0 : List Int) (v1 : List MvD) (v2 : Int) (v3 : Int) (v4 : List Int) (v5 : Nat) (v6 : Int)
noncomputable def tfiSt (g : List (List Int)) (z : Int) : tfiPc → St
  | .l0 v0 v1 v2 => St.mk 129 [(0, AV.lst (gL g)), (1, iv z), (6, AV.lst (List.map (iv) (cycL g))), (8, AV.lst (List.map (iv) v0)), (9, iv v1), (41, AV.lst (List.map (iv) (cycL g))), (42, iv (iN (List.map (iv) (cycL g)).length)), (43, iv v2)] []
  | .l1 v0 v1 v2 => St.mk 129 [(8, AV.lst (List.map (iv) v0)), (14, AV.sl 0 0 v1.length), (103, iv (iN (List.map (iv) (cycL g)).length)), (104, iv v2)] [some (Blk.mk (List.map mvA v1) 3 true true none)]
  | .l2 v0 v1 v2 v3 v4 v5 v6 => St.mk 129 [(8, AV.lst (List.map (iv) v0)), (14, AV.sl 0 0 v1.length), (15, iv v2), (16, iv v3), (103, iv (iN (List.map (iv) (cycL g)).length)), (104, iv v2), (112, AV.lst (List.map (iv) v4)), (113, iv (iN v5)), (114, iv v6)] [some (Blk.mk (List.map mvA v1) 3 true true none)]
def tfiHd : tfiPc → Nat
  | .l0 _ _ _ => 0
  | .l1 _ _ _ => 1
  | .l2 _ _ _ _ _ _ _ => 2
noncomputable def tfiEn (g : List (List Int)) (z : Int) : Option (tfiPc ⊕ Ret) :=
  gu (Rows g) <|
  br (cycE g == 20)
  (some (.inr ([], AV.tup [AV.nils, AV.int IntKind.i64 (cycE g)])))
  (br (decide (z < 0))
   (some (.inr ([], AV.tup [AV.nils, AV.int IntKind.i64 19])))
   (br (decide (iN (gL g).length ≤ z))
    (some (.inr ([], AV.tup [AV.nils, AV.int IntKind.i64 19])))
    (br (cycE g != 0)
     (some (.inr ([], AV.tup [AV.nils, AV.int IntKind.i64 (cycE g)])))
     (some (.inl (.l0 ([]) ((-1 : Int)) ((0 : Int))))))))
noncomputable def tfiS0 (g : List (List Int)) (z : Int) (v0 : List Int) (v1 : Int) (v2 : Int) : Option (tfiPc ⊕ Ret) :=
  br (decide (v2 < iN (List.map (AV.int IntKind.i64) (cycL g)).length))
  (gu (0 ≤ v2) <|
   el (cycL g) (v2.toNat) fun (x46 : Int) =>
   gu (1 * iN (gL g).length ≤ 281474976710656) <|
   gu (iN (gL g).length ≤ 9223372036854775807) <|
   gu (Rows g) <|
   gu ((gL g).length = g.length) <|
   br (valZ g)
   (gu (0 ≤ z ∧ z < iN g.length) <|
    gu (0 ≤ x46 ∧ x46 < iN g.length) <|
    br (decide (0 < iN (List.map (AV.int IntKind.i64) (pthL g z x46)).length))
    (br (decide (v1 < 0))
     (some (.inl (.l0 (pthL g z x46) (v2) (IntKind.i64.wrap (v2 + 1)))))
     (br (decide (iN (List.map (AV.int IntKind.i64) (pthL g z x46)).length < iN (List.map (AV.int IntKind.i64) v0).length))
      (some (.inl (.l0 (pthL g z x46) (v2) (IntKind.i64.wrap (v2 + 1)))))
      (br (iN (List.map (AV.int IntKind.i64) (pthL g z x46)).length == iN (List.map (AV.int IntKind.i64) v0).length)
       (gu (0 ≤ v1) <|
        el (cycL g) (v1.toNat) fun (x81 : Int) =>
        br (decide (x46 < x81))
        (some (.inl (.l0 (pthL g z x46) (v2) (IntKind.i64.wrap (v2 + 1)))))
        (some (.inl (.l0 (v0) (v1) (IntKind.i64.wrap (v2 + 1))))))
       (some (.inl (.l0 (v0) (v1) (IntKind.i64.wrap (v2 + 1))))))))
    (some (.inl (.l0 (v0) (v1) (IntKind.i64.wrap (v2 + 1))))))
   (none))
  (br (decide (v1 < 0))
   (some (.inr ([], AV.tup [AV.nils, AV.int IntKind.i64 25])))
   (gu (∀ (e : AV), e ∈ List.map (AV.int IntKind.i64) (cycL g) → e.cells.length = 1) <|
    gu (0 ≤ IntKind.i64.wrap (v1 + 1)) <|
    gu (IntKind.i64.wrap (v1 + 1) ≤ iN (List.map (AV.int IntKind.i64) (cycL g)).length) <|
    gu (0 ≤ v1) <|
    gu (v1 ≤ iN (List.map (AV.int IntKind.i64) (cycL g)).length) <|
    gu ([v0, List.take ((List.map (AV.int IntKind.i64) (cycL g)).length - (IntKind.i64.wrap (v1 + 1)).toNat) (List.drop (IntKind.i64.wrap (v1 + 1)).toNat (cycL g)), List.take (v1.toNat - Int.toNat 0) (List.drop (Int.toNat 0) (cycL g))].length ≤ 1000 ∧ ∀ (r : List Int), r ∈ [v0, List.take ((List.map (AV.int IntKind.i64) (cycL g)).length - (IntKind.i64.wrap (v1 + 1)).toNat) (List.drop (IntKind.i64.wrap (v1 + 1)).toNat (cycL g)), List.take (v1.toNat - Int.toNat 0) (List.drop (Int.toNat 0) (cycL g))] → r.length ≤ 1000000) <|
    some (.inl (.l1 ([v0, List.take ((List.map (AV.int IntKind.i64) (cycL g)).length - (IntKind.i64.wrap (v1 + 1)).toNat) (List.drop (IntKind.i64.wrap (v1 + 1)).toNat (cycL g)), List.take (v1.toNat - Int.toNat 0) (List.drop (Int.toNat 0) (cycL g))].flatten) ([]) ((0 : Int))))))
noncomputable def tfiS1 (g : List (List Int)) (z : Int) (v0 : List Int) (v1 : List MvD) (v2 : Int) : Option (tfiPc ⊕ Ret) :=
  br (decide (v2 < iN (List.map (AV.int IntKind.i64) (cycL g)).length))
  (gu (∀ (e : AV), e ∈ List.map (AV.int IntKind.i64) v0 → e.cells.length = 1) <|
   gu (0 ≤ IntKind.i64.wrap (iN (List.map (AV.int IntKind.i64) v0).length - v2)) <|
   gu (IntKind.i64.wrap (iN (List.map (AV.int IntKind.i64) v0).length - v2) ≤ iN (List.map (AV.int IntKind.i64) v0).length) <|
   some (.inl (.l2 (v0) (v1) (v2) ((-1 : Int)) (List.take ((IntKind.i64.wrap (iN (List.map (AV.int IntKind.i64) v0).length - v2)).toNat - Int.toNat 0) (List.drop (Int.toNat 0) v0)) ((List.take ((IntKind.i64.wrap (iN (List.map (AV.int IntKind.i64) v0).length - v2)).toNat - Int.toNat 0) (List.drop (Int.toNat 0) (List.map (AV.int IntKind.i64) v0))).length) ((0 : Int)))))
  (some (.inr ([], AV.tup [AV.lst (List.map mvA v1), AV.int IntKind.i64 0])))
noncomputable def tfiS2 (g : List (List Int)) (z : Int) (v0 : List Int) (v1 : List MvD) (v2 : Int) (v3 : Int) (v4 : List Int) (v5 : Nat) (v6 : Int) : Option (tfiPc ⊕ Ret) :=
  br (decide (v6 < iN v5))
  (gu (0 ≤ v6) <|
   el (v4) (v6.toNat) fun (x116 : Int) =>
   gu ((List.map mvA v1).length + [AV.agg [AV.int IntKind.i64 v2, AV.int IntKind.i64 v3, AV.int IntKind.i64 x116]].length ≤ 9223372036854775807) <|
   gu (((List.map mvA v1).length + [AV.agg [AV.int IntKind.i64 v2, AV.int IntKind.i64 v3, AV.int IntKind.i64 x116]].length) * 24 ≤ 140737488355328) <|
   some (.inl (.l2 (v0) (v1 ++ [MvD.mk v2 v3 x116]) (v2) (x116) (v4) (v5) (IntKind.i64.wrap (v6 + 1)))))
  (some (.inl (.l1 (v0) (v1) (IntKind.i64.wrap (v2 + 1)))))
noncomputable def tfiStep (g : List (List Int)) (z : Int) : tfiPc → Option (tfiPc ⊕ Ret)
  | .l0 v0 v1 v2 => tfiS0 g z v0 v1 v2
  | .l1 v0 v1 v2 => tfiS1 g z v0 v1 v2
  | .l2 v0 v1 v2 v3 v4 v5 v6 => tfiS2 g z v0 v1 v2 v3 v4 v5 v6
theorem tfiEn_ok (g : List (List Int)) (z : Int) (o : tfiPc ⊕ Ret) (h : tfiEn g z = some o) : Arr Try.prog Try.f29 0 (tfiSt g z) tfiHd (bodyOf Try.f29) [] { n := Try.f29.ntmps, fr := enumF 0 ([.lst (gL g), .int .i64 z]), hp := ([]) } o :=
 Scr.ok h mix (
 .rn 0 [] [] [] [] (al t3) <|
 .gu fun a0 =>
 have c0 := cyc_c (g) a0;
 .rn 1 [] [] [(21, hK c0 [] [])] [] (aj (u2 (aj (k2 (al (c0))) (u2 (u2 (u2 (u2 s2)))))) (al (u2 (u2 s2)))) <|
 .br (fun a1 =>
 .rt [49] [] [] [] [] [] (aj (aj a1 (al (u2 (ak s2)))) (al t3)))
 (fun a1 =>
 .br (fun a2 =>
  .rt [48, 63] [] [] [] [] [] (aj (aj a1 (aj (u2 (u2 (u2 (aj a2 (aj a2 (aj a2 (aj a2 (ag a2 s2)))))))) (ak (al t3)))) (al t3)))
 (fun a2 =>
  .rn 0 [48, 62] [] [] [] (aj a1 (al (u2 (u2 (u2 (ag a2 (ag a2 (ag a2 (aj (aj a2 t3) (ag a2 s2)))))))))) <|
  .br (fun a3 =>
  .rt [62, 57] [] [] [] [] [] (aj (aj a3 (al t3)) (al t3)))
  (fun a3 =>
  .rn 0 [62, 56] [] [] [] (aj a3 (al (u2 (u2 s2)))) <|
  .br (fun a4 =>
   .rt [62, 75] [] [] [] [] [] (aj (aj a4 (al (u2 (ak s2)))) (al t3)))
  (fun a4 =>
   .lp [62, 74] [] [] [] [(8, 1000)] [] [0, 1, 6, 8, 9, 41, 42, 43] (aj (aj a4 (u2 (u2 (al (u2 (u2 t2)))))) t9)))))) (by kernel_rfl)
theorem tfiS0_ok (g : List (List Int)) (z : Int) (v0 : List Int) (v1 : Int) (v2 : Int) (o : tfiPc ⊕ Ret) (h : tfiS0 g z v0 v1 v2 = some o) : Arr Try.prog Try.f29 0 (tfiSt g z) tfiHd (headC Try.f29 0) (.rnd (headC Try.f29 0) :: headK Try.f29 0) (tfiSt g z (.l0 v0 v1 v2)) o :=
 Scr.ok h mix (
 .rn 0 [] [] [] [] (al (al t3)) <|
 .br (fun a0 =>
 .gu fun a1 =>
 .el fun x46 a2 =>
 .rn 0 [89] [(46, iv x46)] [] [] (aj a0 (al (u2 (aj (k2 (aj a1 (getMap (f := iv) a2))) (u2 (u2 s2)))))) <|
 .gu fun a3 =>
 .gu fun a4 =>
 .gu fun a5 =>
 .gu fun a6 =>
 .br (fun a7 =>
  .gu fun a8 =>
  .gu fun a9 =>
  have c0 := path_c (g) ((gL g).length) (z) (x46) a5 a6 a7 a8 a9;
  .rn 0 [] [(52, AV.lst [])] [(55, hK c0 [] [])] [] (al (u2 (u2 (u2 (aj (k2 (aj (show 0 ≤ iN (gL g).length from (Int.natCast_nonneg _)) (aj (show iN (gL g).length ≤ iN (gL g).length by omega) (aj a3 a4)))) (u2 (u2 (aj (k3 (k5 (al (c0)))) (u2 (u2 (u2 (u2 s2)))))))))))) <|
  .br (fun a10 =>
  .br (fun a11 =>
   .lp [123, 129] [] [] [] [] [] [0, 1, 6, 8, 9, 41, 42, 43] (aj (aj (u2 (u2 (u2 (u2 (ag a10 (ag a10 (ag a10 (aj a11 (aj a11 (aj a11 (aj a11 (aj a11 (aj (aj a10 (aj a11 t2)) (ag a10 (k3 (k5 (k5 (aj (aj a10 t3) (al (aj a10 t2)))))))))))))))))))) (ak (aj (u2 (u2 (u2 s2))) (al (u2 s2))))) t9))
  (fun a11 =>
   .br (fun a12 =>
   .lp [123, 128, 143] [] [] [] [] [] [0, 1, 6, 8, 9, 41, 42, 43] (aj (aj (u2 (u2 (u2 (u2 (ag a10 (ag a10 (ag a10 (ag a11 (ag a11 (ag a11 (ag a11 (aj (aj a11 t3) (aj (aj a10 (aj a11 t2)) (ag a10 (aj a12 (aj a12 (aj a12 (aj a12 (aj a12 (aj a12 (ak (k5 (aj a12 (aj (aj a10 (aj a12 t2)) (al (aj a10 t2)))))))))))))))))))))))))) (ak (aj (u2 (u2 (u2 s2))) (al (u2 s2))))) t9))
   (fun a12 =>
   .br (fun a13 =>
    .gu fun a14 =>
    .el fun x81 a15 =>
    .rn 0 [123, 128, 142, 155] [(81, iv x81)] [] [] (al (u2 (u2 (u2 (u2 (ag a10 (ag a10 (ag a10 (ag a11 (ag a11 (ag a11 (ag a11 (aj (aj a11 t3) (aj (aj a10 (aj a11 t2)) (ag a10 (ag a12 (ag a12 (ag a12 (ag a12 (aj (aj a12 t3) (ag a12 (ag a13 (ag a13 (ag a13 (aj (aj a13 (k2 (aj a14 (getMap (f := iv) a15)))) (ag a13 (aj (aj a13 t3) (aj (aj a12 (aj a13 t2)) (aj (aj a10 (aj a12 t2)) (al (aj a10 t2))))))))))))))))))))))))))))))) <|
    .br (fun a16 =>
    .lp [123, 128, 142, 155, 173] [] [] [] [] [] [0, 1, 6, 8, 9, 41, 42, 43] (aj (aj a16 (aj (u2 (u2 (u2 s2))) (al (u2 s2)))) t9))
    (fun a16 =>
    .lp [123, 128, 142, 155, 172] [] [] [] [] [] [0, 1, 6, 8, 9, 41, 42, 43] (aj (aj a16 (al (u2 s2))) t9)))
   (fun a13 =>
    .lp [123, 128, 142, 154] [] [] [] [] [] [0, 1, 6, 8, 9, 41, 42, 43] (aj (aj (u2 (u2 (u2 (u2 (ag a10 (ag a10 (ag a10 (ag a11 (ag a11 (ag a11 (ag a11 (aj (aj a11 t3) (aj (aj a10 (aj a11 t2)) (ag a10 (ag a12 (ag a12 (ag a12 (ag a12 (aj (aj a12 t3) (ag a12 (aj a13 (aj a13 (aj a13 (aj a13 (aj a13 (aj a13 (aj (aj a12 (aj a13 t2)) (aj (aj a10 (aj a12 t2)) (al (aj a10 t2)))))))))))))))))))))))))))))) (ak (al (u2 s2)))) t9)))))
  (fun a10 =>
  .lp [122] [] [] [] [] [] [0, 1, 6, 8, 9, 41, 42, 43] (aj (aj (u2 (u2 (u2 (u2 (aj a10 (aj a10 (aj a10 (k5 (aj a10 (aj a10 (k3 (k5 (k5 (aj a10 (al (aj a10 t2)))))))))))))))) (ak (al (u2 s2)))) t9)))
 (fun a7 =>
  .no))
 (fun a0 =>
 .rn 0 [88] [] [] [] (aj a0 (al (u2 s2))) <|
 .br (fun a1 =>
  .rt [183] [] [] [] [] [] (aj (aj a1 (al t3)) (al t3)))
 (fun a1 =>
  .gu fun a2 =>
  .gu fun a3 =>
  .gu fun a4 =>
  .gu fun a5 =>
  .gu fun a6 =>
  .gu fun a7 =>
  have c0 := cct_c ([v0, List.take ((List.map (iv) (cycL g)).length - (IntKind.i64.wrap (v1 + 1)).toNat) (List.drop (IntKind.i64.wrap (v1 + 1)).toNat (cycL g)), List.take (v1.toNat - Int.toNat 0) (List.drop (Int.toNat 0) (cycL g))]) a7;
  .lp [182] [(100, AV.lst [])] [(101, hK c0 [] [])] [] [(14, 3)] [0] [8, 14, 103, 104] (aj (aj a1 (aj (u2 (u2 (u2 (u2 (aj (k2 (aj a2 (aj a3 (aj a4 (aj (show iN (List.map (iv) (cycL g)).length ≤ iN (List.map (iv) (cycL g)).length by omega) (show iN (List.map (iv) (cycL g)).length ≤ iN (List.map (iv) (cycL g)).length by omega)))))) (u2 (u2 (aj (k2 (aj a2 (aj (show (0 : Int) ≤ (0 : Int) from (by first | exact Nat.le_of_ble_eq_true rfl | decide)) (aj a5 (aj a6 (show iN (List.map (iv) (cycL g)).length ≤ iN (List.map (iv) (cycL g)).length by omega)))))) (aj t4 (aj (k2 (al (show CT Try.prog 66 [] [AV.lst [AV.lst (List.map (iv) v0), AV.lst (List.take ((List.map (iv) (cycL g)).length - (IntKind.i64.wrap (v1 + 1)).toNat) (List.drop (IntKind.i64.wrap (v1 + 1)).toNat (List.map (iv) (cycL g)))), AV.lst (List.take (v1.toNat - Int.toNat 0) (List.drop (Int.toNat 0) (List.map (iv) (cycL g))))]] [] (AV.lst (List.map (iv) [v0, List.take ((List.map (iv) (cycL g)).length - (IntKind.i64.wrap (v1 + 1)).toNat) (List.drop (IntKind.i64.wrap (v1 + 1)).toNat (cycL g)), List.take (v1.toNat - Int.toNat 0) (List.drop (Int.toNat 0) (cycL g))].flatten)) from CT.eqs (c0) (by simp [gL, boL, lI, mvA]) (by simp [gL, boL, lI, mvA])))) s2)))))))))) (u2 (al (u2 (u2 t2)))))) t6)))) (by kernel_rfl)
theorem tfiS1_ok (g : List (List Int)) (z : Int) (v0 : List Int) (v1 : List MvD) (v2 : Int) (o : tfiPc ⊕ Ret) (h : tfiS1 g z v0 v1 v2 = some o) : Arr Try.prog Try.f29 0 (tfiSt g z) tfiHd (headC Try.f29 1) (.rnd (headC Try.f29 1) :: headK Try.f29 1) (tfiSt g z (.l1 v0 v1 v2)) o :=
 Scr.ok h mix (
 .rn 0 [] [] [] [] (al (al t3)) <|
 .br (fun a0 =>
 .rn 1 [211] [] [] [] (aj a0 (aj (u2 s2) s2)) <|
 .gu fun a1 =>
 .gu fun a2 =>
 .gu fun a3 =>
 .lq [] [] [] [] [] [0] [8, 14, 15, 16, 103, 104, 112, 113, 114] (up [(112, AV.lst (List.take ((IntKind.i64.wrap (iN (List.map (iv) v0).length - v2)).toNat - Int.toNat 0) (List.drop (Int.toNat 0) (List.map (iv) v0))))] [] (tfiSt g z (.l2 (v0) (v1) (v2) ((-1 : Int)) (List.take ((IntKind.i64.wrap (iN (List.map (iv) v0).length - v2)).toNat - Int.toNat 0) (List.drop (Int.toNat 0) v0)) ((List.take ((IntKind.i64.wrap (iN (List.map (iv) v0).length - v2)).toNat - Int.toNat 0) (List.drop (Int.toNat 0) (List.map (iv) v0))).length) ((0 : Int))))) (aj (al (u2 (u2 (u2 (u2 (aj t3 (aj (k2 (aj a1 (aj (show (0 : Int) ≤ (0 : Int) from (by first | exact Nat.le_of_ble_eq_true rfl | decide)) (aj a2 (aj a3 (show iN (List.map (iv) v0).length ≤ iN (List.map (iv) v0).length by omega)))))) (u2 t2)))))))) (k2 t9)) (by simp [up, upF, upV, upH, upB, tfiSt, gL, boL, lI, mvA]))
 (fun a0 =>
 .rt [210] [] [] [] [] [0] (aj (aj a0 (al (u2 (u2 t2)))) (al (aj (show v1.length = (List.map mvA v1).length by simp) t2))))) (by kernel_rfl)
theorem tfiS2_ok (g : List (List Int)) (z : Int) (v0 : List Int) (v1 : List MvD) (v2 : Int) (v3 : Int) (v4 : List Int) (v5 : Nat) (v6 : Int) (o : tfiPc ⊕ Ret) (h : tfiS2 g z v0 v1 v2 v3 v4 v5 v6 = some o) : Arr Try.prog Try.f29 0 (tfiSt g z) tfiHd (headC Try.f29 2) (.rnd (headC Try.f29 2) :: headK Try.f29 2) (tfiSt g z (.l2 v0 v1 v2 v3 v4 v5 v6)) o :=
 Scr.ok h mix (
 .rn 0 [] [] [] [] (al (al t3)) <|
 .br (fun a0 =>
 .gu fun a1 =>
 .el fun x116 a2 =>
 .rn 0 [231] [(116, iv x116)] [] [] (aj a0 (al (aj (k2 (aj a1 (getMap (f := iv) a2))) (u2 s2)))) <|
 .gu fun a3 =>
 .gu fun a4 =>
 .lq [] [] [] [] [] [2] [8, 14, 15, 16, 103, 104, 112, 113, 114] (up [(14, AV.sl 0 0 ((List.map mvA v1).length + [AV.agg [iv v2, iv v3, iv x116]].length))] [(0, List.map mvA v1 ++ [AV.agg [iv v2, iv v3, iv x116]])] (tfiSt g z (.l2 (v0) (v1 ++ [MvD.mk v2 v3 x116]) (v2) (x116) (v4) (v5) (IntKind.i64.wrap (v6 + 1))))) (aj (aj (u2 (u2 (u2 (u2 (aj t4 (u2 (aj (k2 (aj (show (List.map mvA v1).length = v1.length by simp) (aj (aj (show nat_lit 3 = nat_lit 3 from rfl) (show 1 ≤ [AV.agg [iv v2, iv v3, iv x116]].length by simp)) (aj a3 a4)))) s2))))))) (aj (u2 s2) (al (u2 s2)))) (k2 t9)) (by simp [up, upF, upV, upH, upB, tfiSt, gL, boL, lI, mvA]))
 (fun a0 =>
 .lp [230] [] [] [] [] [0] [8, 14, 103, 104] (aj (aj a0 (al (u2 s2))) t6))) (by kernel_rfl)
theorem tfi_ct (g : List (List Int)) (z : Int) (r : Ret) (h : MReach (tfiStep g z) (tfiEn g z) r) : CT Try.prog 29 ([]) ([.lst (gL g), .int .i64 z]) r.1 r.2 :=
  CT.mach (fn := Try.f29) (c := bodyOf Try.f29) (S := tfiSt g z) (hd := tfiHd) Try.func29 (by kernel_rfl) (Nat.le_of_ble_eq_true rfl)
    (fun s o ho => match s, ho with
      | .l0 v0 v1 v2, ho => tfiS0_ok g z v0 v1 v2 o ho
      | .l1 v0 v1 v2, ho => tfiS1_ok g z v0 v1 v2 o ho
      | .l2 v0 v1 v2 v3 v4 v5 v6, ho => tfiS2_ok g z v0 v1 v2 v3 v4 v5 v6 o ho
    )
    (fun o ho => tfiEn_ok g z o ho) h
inductive rfiPc where
  | l0 (v0 : Int) (v1 : Int) (v2 : Int)
  | l1 (v0 : Int) (v1 : List Int) (v2 : List MvD) (v3 : Int)
  | l2 (v0 : Int) (v1 : List Int) (v2 : List MvD) (v3 : Int) (v4 : Int)
  | l3 (v0 : Int) (v1 : List Int) (v2 : List MvD) (v3 : Int) (v4 : Int)
noncomputable def rfiSt (g : List (List Int)) (z : Int) : rfiPc → St
  | .l0 v0 v1 v2 => St.mk 153 [(0, AV.lst (gL g)), (1, iv z), (6, AV.lst (List.map (iv) (girW g))), (7, AV.lst (List.replicate (gL g).length (AV.bool false))), (8, iv v0), (9, iv v1), (10, iv v2)] []
  | .l1 v0 v1 v2 v3 => St.mk 153 [(1, iv z), (6, AV.lst (List.map (iv) (girW g))), (9, iv v0), (12, AV.lst (List.map (iv) v1)), (13, AV.sl 0 0 v2.length), (14, iv v3)] [some (Blk.mk (List.map mvA v2) 3 true true none)]
  | .l2 v0 v1 v2 v3 v4 => St.mk 153 [(1, iv z), (6, AV.lst (List.map (iv) (girW g))), (9, iv v0), (12, AV.lst (List.map (iv) v1)), (13, AV.sl 0 0 v2.length), (14, iv v3), (15, iv v4)] [some (Blk.mk (List.map mvA v2) 3 true true none)]
  | .l3 v0 v1 v2 v3 v4 => St.mk 153 [(1, iv z), (6, AV.lst (List.map (iv) (girW g))), (9, iv v0), (12, AV.lst (List.map (iv) v1)), (13, AV.sl 0 0 v2.length), (14, iv v3), (16, iv v4)] [some (Blk.mk (List.map mvA v2) 3 true true none)]
def rfiHd : rfiPc → Nat
  | .l0 _ _ _ => 0
  | .l1 _ _ _ _ => 1
  | .l2 _ _ _ _ _ => 2
  | .l3 _ _ _ _ _ => 3
noncomputable def rfiEn (g : List (List Int)) (z : Int) : Option (rfiPc ⊕ Ret) :=
  gu (Rows g) <|
  br (!valZ g)
  (some (.inr ([], AV.tup [AV.nils, AV.int IntKind.i64 20])))
  (br (decide (z < 0))
   (some (.inr ([], AV.tup [AV.nils, AV.int IntKind.i64 19])))
   (br (decide (iN (gL g).length ≤ z))
    (some (.inr ([], AV.tup [AV.nils, AV.int IntKind.i64 19])))
    (br (valZ g)
     (gu (1 * iN (gL g).length ≤ 281474976710656) <|
      gu (iN (gL g).length ≤ 9223372036854775807) <|
      some (.inl (.l0 ((-1 : Int)) ((-1 : Int)) ((0 : Int)))))
     (none))))
noncomputable def rfiS0 (g : List (List Int)) (z : Int) (v0 : Int) (v1 : Int) (v2 : Int) : Option (rfiPc ⊕ Ret) :=
  br (decide (v2 < iN (List.map (AV.int IntKind.i64) (girW g)).length))
  (gu (0 ≤ v2) <|
   el (girW g) (v2.toNat) fun (x43 : Int) =>
   gu (Rows g) <|
   gu ((gL g).length = g.length) <|
   br (valZ g)
   (gu (0 ≤ x43 ∧ x43 < iN g.length) <|
    gu (0 ≤ z) <|
    el (dstL g x43) (z.toNat) fun (x47 : Int) =>
    br (decide (0 ≤ x47))
    (br (decide (v0 < 0))
     (some (.inl (.l0 (x47) (v2) (IntKind.i64.wrap (v2 + 1)))))
     (br (decide (x47 < v0))
      (some (.inl (.l0 (x47) (v2) (IntKind.i64.wrap (v2 + 1)))))
      (br (x47 == v0)
       (el (girW g) (v2.toNat) fun (x66 : Int) =>
        gu (0 ≤ v1) <|
        el (girW g) (v1.toNat) fun (x70 : Int) =>
        br (decide (x66 < x70))
        (some (.inl (.l0 (x47) (v2) (IntKind.i64.wrap (v2 + 1)))))
        (some (.inl (.l0 (v0) (v1) (IntKind.i64.wrap (v2 + 1))))))
       (some (.inl (.l0 (v0) (v1) (IntKind.i64.wrap (v2 + 1))))))))
    (some (.inl (.l0 (v0) (v1) (IntKind.i64.wrap (v2 + 1))))))
   (none))
  (br (decide (v1 < 0))
   (some (.inr ([], AV.tup [AV.nils, AV.int IntKind.i64 25])))
   (gu (0 ≤ v1) <|
    el (girW g) (v1.toNat) fun (x85 : Int) =>
    gu (Rows g) <|
    gu ((gL g).length = g.length) <|
    br (valZ g)
    (gu (0 ≤ z ∧ z < iN g.length) <|
     gu (0 ≤ x85 ∧ x85 < iN g.length) <|
     some (.inl (.l1 (v1) (pthL g z x85) ([]) ((0 : Int)))))
    (none)))
noncomputable def rfiS1 (g : List (List Int)) (z : Int) (v0 : Int) (v1 : List Int) (v2 : List MvD) (v3 : Int) : Option (rfiPc ⊕ Ret) :=
  br (decide (v3 < iN (List.map (AV.int IntKind.i64) (girW g)).length))
  (gu ((List.map mvA v2).length + [AV.agg [AV.int IntKind.i64 v3, AV.int IntKind.i64 (-1), AV.int IntKind.i64 z]].length ≤ 9223372036854775807) <|
   gu (((List.map mvA v2).length + [AV.agg [AV.int IntKind.i64 v3, AV.int IntKind.i64 (-1), AV.int IntKind.i64 z]].length) * 24 ≤ 140737488355328) <|
   some (.inl (.l2 (v0) (v1) (v2 ++ [MvD.mk v3 (-1) z]) (v3) ((1 : Int)))))
  (some (.inr ([some (Blk.mk (List.map mvA v2) 3 true true none)], AV.tup [AV.sl 0 0 v2.length, AV.int IntKind.i64 0])))
noncomputable def rfiS2 (g : List (List Int)) (z : Int) (v0 : Int) (v1 : List Int) (v2 : List MvD) (v3 : Int) (v4 : Int) : Option (rfiPc ⊕ Ret) :=
  br (decide (v4 < iN (List.map (AV.int IntKind.i64) v1).length))
  (gu (0 ≤ IntKind.i64.wrap (v4 - 1)) <|
   el (v1) ((IntKind.i64.wrap (v4 - 1)).toNat) fun (x111 : Int) =>
   gu (0 ≤ v4) <|
   el (v1) (v4.toNat) fun (x115 : Int) =>
   gu ((List.map mvA v2).length + [AV.agg [AV.int IntKind.i64 v3, AV.int IntKind.i64 x111, AV.int IntKind.i64 x115]].length ≤ 9223372036854775807) <|
   gu (((List.map mvA v2).length + [AV.agg [AV.int IntKind.i64 v3, AV.int IntKind.i64 x111, AV.int IntKind.i64 x115]].length) * 24 ≤ 140737488355328) <|
   some (.inl (.l2 (v0) (v1) (v2 ++ [MvD.mk v3 x111 x115]) (v3) (IntKind.i64.wrap (v4 + 1)))))
  (some (.inl (.l3 (v0) (v1) (v2) (v3) ((1 : Int)))))
noncomputable def rfiS3 (g : List (List Int)) (z : Int) (v0 : Int) (v1 : List Int) (v2 : List MvD) (v3 : Int) (v4 : Int) : Option (rfiPc ⊕ Ret) :=
  br (decide (v4 < IntKind.i64.wrap (iN (List.map (AV.int IntKind.i64) (girW g)).length - v3)))
  (gu (iN (List.map (AV.int IntKind.i64) (girW g)).length = 0 → False) <|
   gu (0 ≤ (IntKind.i64.wrap (IntKind.i64.wrap (v0 + v4) - 1)).tmod (iN (List.map (AV.int IntKind.i64) (girW g)).length)) <|
   el (girW g) (((IntKind.i64.wrap (IntKind.i64.wrap (v0 + v4) - 1)).tmod (iN (List.map (AV.int IntKind.i64) (girW g)).length)).toNat) fun (x138 : Int) =>
   gu (0 ≤ (IntKind.i64.wrap (v0 + v4)).tmod (iN (List.map (AV.int IntKind.i64) (girW g)).length)) <|
   el (girW g) (((IntKind.i64.wrap (v0 + v4)).tmod (iN (List.map (AV.int IntKind.i64) (girW g)).length)).toNat) fun (x147 : Int) =>
   gu ((List.map mvA v2).length + [AV.agg [AV.int IntKind.i64 v3, AV.int IntKind.i64 x138, AV.int IntKind.i64 x147]].length ≤ 9223372036854775807) <|
   gu (((List.map mvA v2).length + [AV.agg [AV.int IntKind.i64 v3, AV.int IntKind.i64 x138, AV.int IntKind.i64 x147]].length) * 24 ≤ 140737488355328) <|
   some (.inl (.l3 (v0) (v1) (v2 ++ [MvD.mk v3 x138 x147]) (v3) (IntKind.i64.wrap (v4 + 1)))))
  (some (.inl (.l1 (v0) (v1) (v2) (IntKind.i64.wrap (v3 + 1)))))
noncomputable def rfiStep (g : List (List Int)) (z : Int) : rfiPc → Option (rfiPc ⊕ Ret)
  | .l0 v0 v1 v2 => rfiS0 g z v0 v1 v2
  | .l1 v0 v1 v2 v3 => rfiS1 g z v0 v1 v2 v3
  | .l2 v0 v1 v2 v3 v4 => rfiS2 g z v0 v1 v2 v3 v4
  | .l3 v0 v1 v2 v3 v4 => rfiS3 g z v0 v1 v2 v3 v4
theorem rfiEn_ok (g : List (List Int)) (z : Int) (o : rfiPc ⊕ Ret) (h : rfiEn g z = some o) : Arr Try.prog Try.f26 0 (rfiSt g z) rfiHd (bodyOf Try.f26) [] { n := Try.f26.ntmps, fr := enumF 0 ([.lst (gL g), .int .i64 z]), hp := ([]) } o :=
 Scr.ok h mix (
 .rn 0 [] [] [] [] (al t3) <|
 .gu fun a0 =>
 have c0 := valid_ct a0;
 .rn 0 [] [] [(18, hK c0 [] [])] [] (al (u2 (aj (k2 (al (c0))) s2))) <|
 .br (fun a1 =>
 .rt [39] [] [] [] [] [] (aj (aj a1 (al t3)) (al t3)))
 (fun a1 =>
 .br (fun a2 =>
  .rt [38, 45] [] [] [] [] [] (aj (aj a1 (aj (u2 (u2 (u2 (aj a2 (aj a2 (aj a2 (aj a2 (al (aj a2 t2))))))))) (ak (al t3)))) (al t3)))
 (fun a2 =>
  .rn 0 [38, 44] [] [] [] (aj a1 (al (u2 (u2 (u2 (ag a2 (ag a2 (ag a2 (aj (aj a2 t3) (al (aj a2 t2))))))))))) <|
  .br (fun a3 =>
  .rt [44, 55] [] [] [] [] [] (aj (aj a3 (al t3)) (al t3)))
  (fun a3 =>
  .br (fun a4 =>
   .gu fun a5 =>
   .gu fun a6 =>
   have c1 := wlk_c (g) a0 a4;
   .lp [44, 54] [(32, AV.lst [])] [(29, hK c1 [] [])] [] [] [] [0, 1, 6, 7, 8, 9, 10] (aj (aj a3 (aj (u2 (aj (k2 (al (c1))) (u2 (u2 (aj (k2 (aj (show 0 ≤ iN (gL g).length from (Int.natCast_nonneg _)) (aj (show iN (gL g).length ≤ iN (gL g).length by omega) (aj a5 a6)))) (u2 s2)))))) (aj t3 s2))) t8))
  (fun a4 =>
   .no))))) (by kernel_rfl)
theorem rfiS0_ok (g : List (List Int)) (z : Int) (v0 : Int) (v1 : Int) (v2 : Int) (o : rfiPc ⊕ Ret) (h : rfiS0 g z v0 v1 v2 = some o) : Arr Try.prog Try.f26 0 (rfiSt g z) rfiHd (headC Try.f26 0) (.rnd (headC Try.f26 0) :: headK Try.f26 0) (rfiSt g z (.l0 v0 v1 v2)) o :=
 Scr.ok h mix (
 .rn 0 [] [] [] [] (al (u2 (u2 (u2 (al t3))))) <|
 .br (fun a0 =>
 .gu fun a1 =>
 .el fun x43 a2 =>
 .gu fun a3 =>
 .gu fun a4 =>
 .br (fun a5 =>
  .gu fun a6 =>
  .gu fun a7 =>
  .el fun x47 a8 =>
  have c0 := dist_c (g) ((gL g).length) (x43) a3 a4 a5 a6;
  .rn 0 [73] [(43, iv x43), (47, iv x47)] [(45, hK c0 [] [])] [] (aj a0 (al (u2 (u2 (u2 (u2 (aj (k2 (aj a1 (getMap (f := iv) a2))) (u2 (aj (ak (k5 (al (c0)))) (u2 (aj (k2 (aj a7 (getMap (f := iv) a8))) (u2 s2)))))))))))) <|
  .br (fun a9 =>
  .br (fun a10 =>
   .lp [103, 109] [] [] [] [] [] [0, 1, 6, 7, 8, 9, 10] (aj (aj (u2 (u2 (u2 (ag a9 (ag a9 (ag a9 (aj a10 (aj a10 (aj a10 (aj (aj a9 (aj a10 t2)) (ag a9 (ak (k3 (k5 (k5 (aj (aj a9 t3) (al (aj a9 t2)))))))))))))))))) (ak (aj (u2 (u2 (u2 s2))) (al (u2 (u2 s2)))))) t8))
  (fun a10 =>
   .br (fun a11 =>
   .lp [103, 108, 119] [] [] [] [] [] [0, 1, 6, 7, 8, 9, 10] (aj (aj (u2 (u2 (u2 (ag a9 (ag a9 (ag a9 (ag a10 (ag a10 (aj (aj a10 t3) (aj (aj a9 (aj a10 t2)) (ag a9 (aj a11 (aj a11 (aj a11 (aj a11 (ak (k3 (k5 (aj a11 (aj (aj a9 (aj a11 t2)) (al (aj a9 t2)))))))))))))))))))))) (ak (aj (u2 (u2 (u2 s2))) (al (u2 (u2 s2)))))) t8))
   (fun a11 =>
   .br (fun a12 =>
    .el fun x66 a13 =>
    .gu fun a14 =>
    .el fun x70 a15 =>
    .rn 0 [103, 108, 118, 127] [(66, iv x66), (70, iv x70)] [] [] (al (u2 (u2 (u2 (ag a9 (ag a9 (ag a9 (ag a10 (ag a10 (aj (aj a10 t3) (aj (aj a9 (aj a10 t2)) (ag a9 (ag a11 (ag a11 (aj (aj a11 t3) (ag a11 (ag a12 (ag a12 (aj (aj a12 (k2 (aj a1 (getMap (f := iv) a13)))) (ag a12 (ag a12 (ag a12 (aj (aj a12 (k2 (aj a14 (getMap (f := iv) a15)))) (ag a12 (aj (aj a12 t3) (aj (aj a11 (aj a12 t2)) (aj (aj a9 (aj a11 t2)) (al (aj a9 t2))))))))))))))))))))))))))))) <|
    .br (fun a16 =>
    .lp [103, 108, 118, 127, 151] [] [] [] [] [] [0, 1, 6, 7, 8, 9, 10] (aj (aj a16 (aj (u2 (u2 (u2 s2))) (al (u2 (u2 s2))))) t8))
    (fun a16 =>
    .lp [103, 108, 118, 127, 150] [] [] [] [] [] [0, 1, 6, 7, 8, 9, 10] (aj (aj a16 (al (u2 (u2 s2)))) t8)))
   (fun a12 =>
    .lp [103, 108, 118, 126] [] [] [] [] [] [0, 1, 6, 7, 8, 9, 10] (aj (aj (u2 (u2 (u2 (ag a9 (ag a9 (ag a9 (ag a10 (ag a10 (aj (aj a10 t3) (aj (aj a9 (aj a10 t2)) (ag a9 (ag a11 (ag a11 (aj (aj a11 t3) (ag a11 (aj a12 (aj a12 (aj a12 (aj a12 (aj a12 (aj a12 (aj a12 (aj a12 (aj a12 (aj (aj a11 (aj a12 t2)) (aj (aj a9 (aj a11 t2)) (al (aj a9 t2)))))))))))))))))))))))))))) (ak (al (u2 (u2 s2))))) t8)))))
  (fun a9 =>
  .lp [102] [] [] [] [] [] [0, 1, 6, 7, 8, 9, 10] (aj (aj (u2 (u2 (u2 (aj a9 (aj a9 (aj a9 (k3 (aj a9 (aj a9 (ak (k3 (k5 (k5 (aj a9 (al (aj a9 t2)))))))))))))))) (ak (al (u2 (u2 s2))))) t8)))
 (fun a5 =>
  .no))
 (fun a0 =>
 .rn 0 [72] [] [] [] (aj a0 (al (u2 s2))) <|
 .br (fun a1 =>
  .rt [159] [] [] [] [] [] (aj (aj a1 (al t3)) (al t3)))
 (fun a1 =>
  .gu fun a2 =>
  .el fun x85 a3 =>
  .gu fun a4 =>
  .gu fun a5 =>
  .br (fun a6 =>
  .gu fun a7 =>
  .gu fun a8 =>
  have c0 := first_c (g) ((gL g).length) (z) (x85) a4 a5 a6 a7 a8;
  .lp [158] [(85, iv x85)] [(87, hK c0 [] [])] [] [(13, 3)] [0] [1, 6, 9, 12, 13, 14] (aj (aj a1 (aj (u2 (u2 (u2 (u2 (u2 (aj (k2 (aj a2 (getMap (f := iv) a3))) (u2 (aj (k3 (k5 (al (c0)))) s2)))))))) (u2 s2))) t8))
  (fun a6 =>
  .no)))) (by kernel_rfl)
theorem rfiS1_ok (g : List (List Int)) (z : Int) (v0 : Int) (v1 : List Int) (v2 : List MvD) (v3 : Int) (o : rfiPc ⊕ Ret) (h : rfiS1 g z v0 v1 v2 v3 = some o) : Arr Try.prog Try.f26 0 (rfiSt g z) rfiHd (headC Try.f26 1) (.rnd (headC Try.f26 1) :: headK Try.f26 1) (rfiSt g z (.l1 v0 v1 v2 v3)) o :=
 Scr.ok h mix (
 .rn 0 [] [] [] [] (al (u2 (u2 (u2 (al t3))))) <|
 .br (fun a0 =>
 .gu fun a1 =>
 .gu fun a2 =>
 .lq [183] [] [] [] [] [2] [1, 6, 9, 12, 13, 14, 15] (up [(13, AV.sl 0 0 ((List.map mvA v2).length + [AV.agg [iv v3, iv (-1), iv z]].length))] [(0, List.map mvA v2 ++ [AV.agg [iv v3, iv (-1), iv z]])] (rfiSt g z (.l2 (v0) (v1) (v2 ++ [MvD.mk v3 (-1) z]) (v3) ((1 : Int))))) (aj (aj a0 (aj (u2 (u2 (u2 (aj t3 (u2 (aj (k2 (aj (show (List.map mvA v2).length = v2.length by simp) (aj (aj (show nat_lit 3 = nat_lit 3 from rfl) (show 1 ≤ [AV.agg [iv v3, iv (-1), iv z]].length by simp)) (aj a1 a2)))) s2)))))) s2)) t9) (by simp [up, upF, upV, upH, upB, rfiSt, gL, boL, lI, mvA]))
 (fun a0 =>
 .rt [182] [] [] [] [0] [] (aj (aj a0 (al (u2 (u2 t2)))) (aj t3 t2)))) (by kernel_rfl)
theorem rfiS2_ok (g : List (List Int)) (z : Int) (v0 : Int) (v1 : List Int) (v2 : List MvD) (v3 : Int) (v4 : Int) (o : rfiPc ⊕ Ret) (h : rfiS2 g z v0 v1 v2 v3 v4 = some o) : Arr Try.prog Try.f26 0 (rfiSt g z) rfiHd (headC Try.f26 2) (.rnd (headC Try.f26 2) :: headK Try.f26 2) (rfiSt g z (.l2 v0 v1 v2 v3 v4)) o :=
 Scr.ok h mix (
 .rn 0 [] [] [] [] (al (u2 (u2 (u2 (al t3))))) <|
 .br (fun a0 =>
 .gu fun a1 =>
 .el fun x111 a2 =>
 .gu fun a3 =>
 .el fun x115 a4 =>
 .gu fun a5 =>
 .gu fun a6 =>
 .lq [207] [(111, iv x111), (115, iv x115)] [] [] [] [2] [1, 6, 9, 12, 13, 14, 15] (up [(13, AV.sl 0 0 ((List.map mvA v2).length + [AV.agg [iv v3, iv x111, iv x115]].length))] [(0, List.map mvA v2 ++ [AV.agg [iv v3, iv x111, iv x115]])] (rfiSt g z (.l2 (v0) (v1) (v2 ++ [MvD.mk v3 x111 x115]) (v3) (IntKind.i64.wrap (v4 + 1))))) (aj (aj a0 (aj (u2 (u2 (u2 (u2 (u2 (aj (k2 (aj a1 (getMap (f := iv) a2))) (u2 (u2 (u2 (aj (k2 (aj a3 (getMap (f := iv) a4))) (u2 (aj t4 (u2 (aj (k2 (aj (show (List.map mvA v2).length = v2.length by simp) (aj (aj (show nat_lit 3 = nat_lit 3 from rfl) (show 1 ≤ [AV.agg [iv v3, iv x111, iv x115]].length by simp)) (aj a5 a6)))) s2)))))))))))))) (al (u2 (u2 s2))))) t9) (by simp [up, upF, upV, upH, upB, rfiSt, gL, boL, lI, mvA]))
 (fun a0 =>
 .lp [206] [] [] [] [] [0] [1, 6, 9, 12, 13, 14, 16] (aj (aj a0 s2) t9))) (by kernel_rfl)
theorem rfiS3_ok (g : List (List Int)) (z : Int) (v0 : Int) (v1 : List Int) (v2 : List MvD) (v3 : Int) (v4 : Int) (o : rfiPc ⊕ Ret) (h : rfiS3 g z v0 v1 v2 v3 v4 = some o) : Arr Try.prog Try.f26 0 (rfiSt g z) rfiHd (headC Try.f26 3) (.rnd (headC Try.f26 3) :: headK Try.f26 3) (rfiSt g z (.l3 v0 v1 v2 v3 v4)) o :=
 Scr.ok h mix (
 .rn 0 [] [] [] [] (al (u2 (u2 (u2 (u2 (aj t3 (al t3))))))) <|
 .br (fun a0 =>
 .gu fun a1 =>
 .gu fun a2 =>
 .el fun x138 a3 =>
 .gu fun a4 =>
 .el fun x147 a5 =>
 .gu fun a6 =>
 .gu fun a7 =>
 .lq [251] [(138, iv x138), (147, iv x147)] [] [] [] [2] [1, 6, 9, 12, 13, 14, 16] (up [(13, AV.sl 0 0 ((List.map mvA v2).length + [AV.agg [iv v3, iv x138, iv x147]].length))] [(0, List.map mvA v2 ++ [AV.agg [iv v3, iv x138, iv x147]])] (rfiSt g z (.l3 (v0) (v1) (v2 ++ [MvD.mk v3 x138 x147]) (v3) (IntKind.i64.wrap (v4 + 1))))) (aj (aj a0 (aj (u2 (u2 (u2 (u2 (u2 (aj t3 (u2 (u2 (u2 (aj (k2 a1) (aj (k2 (aj a2 (getMap (f := iv) a3))) (u2 (u2 (u2 (u2 (aj t3 (u2 (u2 (aj (k2 a1) (aj (k2 (aj a4 (getMap (f := iv) a5))) (u2 (aj t4 (u2 (aj (k2 (aj (show (List.map mvA v2).length = v2.length by simp) (aj (aj (show nat_lit 3 = nat_lit 3 from rfl) (show 1 ≤ [AV.agg [iv v3, iv x138, iv x147]].length by simp)) (aj a6 a7)))) s2)))))))))))))))))))))))) (al (u2 (u2 s2))))) t9) (by simp [up, upF, upV, upH, upB, rfiSt, gL, boL, lI, mvA]))
 (fun a0 =>
 .lp [250] [] [] [] [] [0] [1, 6, 9, 12, 13, 14] (aj (aj a0 (al (u2 (u2 s2)))) t8))) (by kernel_rfl)
theorem rfi_ct (g : List (List Int)) (z : Int) (r : Ret) (h : MReach (rfiStep g z) (rfiEn g z) r) : CT Try.prog 26 ([]) ([.lst (gL g), .int .i64 z]) r.1 r.2 :=
  CT.mach (fn := Try.f26) (c := bodyOf Try.f26) (S := rfiSt g z) (hd := rfiHd) Try.func26 (by kernel_rfl) (Nat.le_of_ble_eq_true rfl)
    (fun s o ho => match s, ho with
      | .l0 v0 v1 v2, ho => rfiS0_ok g z v0 v1 v2 o ho
      | .l1 v0 v1 v2 v3, ho => rfiS1_ok g z v0 v1 v2 v3 o ho
      | .l2 v0 v1 v2 v3 v4, ho => rfiS2_ok g z v0 v1 v2 v3 v4 o ho
      | .l3 v0 v1 v2 v3 v4, ho => rfiS3_ok g z v0 v1 v2 v3 v4 o ho
    )
    (fun o ho => rfiEn_ok g z o ho) h
end Go.Proofs.Yteohjokcoddnjaa
namespace Go.Proofs.Yteohjokcoddnjaa
theorem girW_cls {g : List (List Int)} (hrw : Rows g) (hv : valZ g = true) (hne : girW g ≠ []) : OkG g (opn g) ∧ Asc g ∧ ClsP g (opn g) (girW g) ∧ (girW g).Nodup ∧ (girW g).length ≤ 24 := by
  have hc4 := valZ_chk hv
  obtain ⟨hg, has⟩ := chk4_ok hrw hc4
  have eg : girW g = girN g (opn g) g.length := by unfold girW girL; rw [if_pos hc4]
  rw [eg] at hne ⊢
  obtain ⟨h1, h2⟩ := girth_cls hg hne
  have hn := nd_take h2
  have := rng_len hn (n := g.length) fun x hx => ⟨(h1.2.1 x hx).1, (h1.2.1 x hx).2.1⟩
  have := hg.len
  exact ⟨hg, has, h1, hn, by omega⟩
noncomputable def tigR (g : List (List Int)) : List Int := rotL (cycL g) 1
theorem cyc_nil {g : List (List Int)} (h : cycE g ≠ 0) : cycL g = [] := by
  unfold cycE at h; unfold cycL
  split
  · rename_i hv
    rw [if_pos hv] at h
    split at h
    · assumption
    · exact absurd rfl h
  · rfl
theorem cyc_ok {g : List (List Int)} (h : cycE g = 0) : valZ g = true ∧ girW g ≠ [] ∧ cycL g = girW g := by
  unfold cycE at h; unfold cycL
  split at h
  · rename_i hv
    split at h
    · cases h
    · rename_i hw; exact ⟨hv, hw, by rw [if_pos hv]⟩
  · cases h
theorem ttight_c (g : List (List Int)) (hrw : Rows g) : CT Try.prog 27 [] [.lst (gL g)] [] (.tup [lI (cycL g), lI (tigR g), .int .i64 (cycE g)]) := by
  unfold tigR
  by_cases h : cycE g = 0
  · obtain ⟨hv, hw, e⟩ := cyc_ok h
    obtain ⟨_, _, _, _, h24⟩ := girW_cls hrw hv hw
    have hp : 0 < (girW g).length := List.length_pos_iff.2 hw
    rw [e]
    have hfl : [List.take ((List.map (AV.int IntKind.i64) (girW g)).length - Int.toNat 1) (List.drop (Int.toNat 1) (girW g)), List.take 1 (List.drop (Int.toNat 0) (girW g))].flatten = rotL (girW g) 1 := by
      rw [show Int.toNat 1 = 1 from rfl, show Int.toNat 0 = 0 from rfl, List.drop_zero, List.length_map, List.take_of_length_le (by rw [List.length_drop]; omega)]
      simp [rotL]
    have hrl : ∀ r ∈ [List.take ((List.map (AV.int IntKind.i64) (girW g)).length - Int.toNat 1) (List.drop (Int.toNat 1) (girW g)), List.take 1 (List.drop (Int.toNat 0) (girW g))], r.length ≤ 1000000 := fun r hr => by
      simp only [List.mem_cons, List.not_mem_nil, or_false] at hr
      rcases hr with rfl | rfl <;> (simp only [List.length_take, List.length_drop]; omega)
    refine (tti_ct g ([], _) (.val (show ttiEn g = some (.inr ([], .tup [lI (girW g), lI (rotL (girW g) 1), .int .i64 0])) from ?_))).to rfl (by rw [h]; rfl)
    unfold ttiEn
    rw [gu_t hrw, br_f (by rw [h]; rfl), e, gu_t (fun e he => by obtain ⟨x, _, rfl⟩ := List.mem_map.1 he; rfl), gu_t (by simp only [iN, List.length_map]; omega), gu_t ⟨by simp, hrl⟩, hfl]; rfl
  · rw [cyc_nil h]
    exact (tti_ct g ([], _) (.val (show ttiEn g = _ by unfold ttiEn; rw [gu_t hrw, br_t (bne_iff_ne.2 h)]))).to rfl rfl
theorem rtight_c (g : List (List Int)) (hrw : Rows g) : CT Try.prog 28 [] [.lst (gL g)] [] (.tup [lI (cycL g), lI (tigR g), .int .i64 (cycE g)]) := by
  unfold tigR cycL cycE
  cases hv : valZ g with
  | false => exact (rti_ct g ([], _) (.val (show rtiEn g = _ by unfold rtiEn; rw [gu_t hrw, hv, br_t (by rfl)]))).to rfl rfl
  | true =>
  rw [if_pos rfl, if_pos rfl]
  by_cases hw : girW g = []
  · rw [hw]
    exact (rti_ct g ([], _) (.val (show rtiEn g = _ by unfold rtiEn; rw [gu_t hrw, hv, br_f (by rfl), br_t rfl, hw, br_t (by rfl)]))).to rfl rfl
  · obtain ⟨_, _, _, _, h24⟩ := girW_cls hrw hv hw
    have hp : 0 < (girW g).length := List.length_pos_iff.2 hw
    rw [if_neg hw]
    refine rti_ct g ([], _) (.val (show rtiEn g = some (.inr ([], .tup [lI (girW g), lI (rotL (girW g) 1), .int .i64 0])) from ?_))
    have htk : List.take ((List.map (AV.int IntKind.i64) (girW g)).length - Int.toNat 1) (List.drop (Int.toNat 1) (List.map (AV.int IntKind.i64) (girW g))) = List.map (AV.int .i64) ((girW g).drop 1) := by
      rw [show Int.toNat 1 = 1 from rfl, List.take_of_length_le (by rw [List.length_drop]; exact Nat.le_refl _), List.map_drop]
    have hall : ∀ l : List Int, ∀ e ∈ List.map (AV.int IntKind.i64) l, e.cells.length = 1 := fun l e he => by obtain ⟨x, _, rfl⟩ := List.mem_map.1 he; rfl
    unfold rtiEn
    rw [gu_t hrw, hv, br_f (by rfl), br_t rfl, br_f (by rw [beq_eq_false_iff_ne]; simp only [iN, List.length_map]; omega), gu_t (hall _), gu_t (by simp only [iN, List.length_map]; omega), htk, gu_t (hall _), gu_t (by simp only [List.length_map, List.length_drop]; omega), gu_t (by simp only [List.length_map, List.length_drop]; omega),
      el_t (show (girW g)[Int.toNat 0]? = some ((girW g).getD 0 0) from getE 0 hp), gu_t (by simp only [List.length_map, List.length_drop, List.length_singleton]; omega), gu_t (by simp only [List.length_map, List.length_drop, List.length_singleton]; omega)]
    have e : rotL (girW g) 1 = (girW g).drop 1 ++ [(girW g).getD 0 0] := by
      unfold rotL; rw [take_snoc hp]; rfl
    rw [e]
    show _ = some (Sum.inr ([], AV.tup [lI (girW g), .lst (List.map (AV.int .i64) ((girW g).drop 1 ++ [(girW g).getD 0 0])), AV.int IntKind.i64 0]))
    rw [List.map_append]; rfl
theorem fill_way {g : List (List Int)} {v : Int} (hrw : Rows g) (hv : valZ g = true) (h0 : 0 ≤ v) (h1 : v < (g.length : Int)) :
    bstN (dsT g v) (girW g) (girW g).length = -1 ∨ ∃ b m : Nat, bstN (dsT g v) (girW g) (girW g).length = (b : Int) ∧ WayH g v (girW g) b m ∧ m ≤ 24 ∧ (girW g).length ≤ 24 := by
  rcases bstN_spec (dsT g v) (girW g) (girW g).length with ⟨e, h⟩ | ⟨b, hb, e, hd, hmn⟩
  · exact .inl e
  · have hne : girW g ≠ [] := fun e => by rw [e] at hb; simp at hb
    obtain ⟨hg, has, hc, hn, h24⟩ := girW_cls hrw hv hne
    obtain ⟨m, hm⟩ : ∃ m : Nat, dsT g v ((girW g).getD b 0) = (m : Int) := ⟨(dsT g v ((girW g).getD b 0)).toNat, by omega⟩
    have hW : WayH g v (girW g) b m := ⟨hg, h0, h1, hc, hn, hb, hm, hmn⟩
    have hbd := hW.dst.bnd v.toNat (by omega)
    have := hg.len
    exact .inr ⟨b, m, e, hW, by unfold dsT at hm; omega, h24⟩
theorem girW_rg {g : List (List Int)} (hrw : Rows g) (hv : valZ g = true) {i : Nat} (hi : i < (girW g).length) : 0 ≤ (girW g).getD i 0 ∧ (girW g).getD i 0 < (g.length : Int) := by
  have hne : girW g ≠ [] := fun e => by rw [e] at hi; simp at hi
  obtain ⟨_, _, hc, _, _⟩ := girW_cls hrw hv hne
  have := hc.2.1 _ (get_mem hi)
  exact ⟨this.1, this.2.1⟩
theorem girW_24 {g : List (List Int)} (hrw : Rows g) (hv : valZ g = true) : (girW g).length ≤ 24 := by
  by_cases hne : girW g = []
  · rw [hne]; simp
  · exact (girW_cls hrw hv hne).2.2.2.2
theorem dsT_bnd {g : List (List Int)} {v x : Int} (hrw : Rows g) (hv : valZ g = true) (h0 : 0 ≤ v) (h1 : v < (g.length : Int)) (h2 : 0 ≤ x) (h3 : x < (g.length : Int)) : -1 ≤ dsT g v x ∧ dsT g v x < 24 := by
  obtain ⟨hg, _⟩ := valZ_ok hrw hv
  have hD := dst_ok hg (goal := x.toNat) (by omega)
  have := hD.bnd v.toNat (by omega)
  have := hg.len
  unfold dsT
  omega
noncomputable def bstP (g : List (List Int)) (v : Int) (b : Int) : List Int := if b < 0 then [] else pthL g v ((girW g).getD b.toNat 0)
theorem fillN_mv {l : List Int} {i : Nat} : fillN l i ++ mvN i l (l.length - i) = fillN l (i + 1) := (fillN_succ l i).symm
theorem mv_step {k : Nat} {l : List Int} {j : Nat} {a x : Int} (ha : a = if j = 0 then -1 else l.getD (j - 1) 0) (hx : x = l.getD j 0) : mvN k l j ++ [MvD.mk (k : Int) a x] = mvN k l (j + 1) := by
  rw [mvN_succ, ha, hx]
theorem fillO_20 {g : List (List Int)} {v : Int} (h : valZ g = false) : fillO g v = ([], 20) := by unfold fillO; rw [if_pos h]
theorem fillO_19 {g : List (List Int)} {v : Int} (h : valZ g = true) (hr : v < 0 ∨ (g.length : Int) ≤ v) : fillO g v = ([], 19) := by unfold fillO; rw [if_neg (by rw [h]; simp), if_pos hr]
theorem fillO_25 {g : List (List Int)} {v : Int} (h : valZ g = true) (h0 : 0 ≤ v) (h1 : v < (g.length : Int)) (hb : bstN (dsT g v) (girW g) (girW g).length < 0) : fillO g v = ([], 25) := by unfold fillO; rw [if_neg (by rw [h]; simp), if_neg (by omega), if_pos hb]
theorem fillO_0 {g : List (List Int)} {v : Int} (h : valZ g = true) (h0 : 0 ≤ v) (h1 : v < (g.length : Int)) {b : Nat} (hb : bstN (dsT g v) (girW g) (girW g).length = (b : Int)) : fillO g v = (fillN (wayO g v (girW g) b) (girW g).length, 0) := by
  unfold fillO; rw [if_neg (by rw [h]; simp), if_neg (by omega), if_neg (by omega), hb]; rfl
theorem tfi_walk {g : List (List Int)} {z : Int} {l : List Int} (hc : cycL g = girW g) (hW : (girW g).length ≤ 24) (hl : l.length ≤ 100) (hWl : (girW g).length ≤ l.length) :
    MReach (tfiStep g z) (some (.inl (.l1 l [] 0))) ([], .tup [.lst ((fillN l (girW g).length).map mvA), .int .i64 0]) := by
  have hfl : ∀ i, i ≤ (girW g).length → (fillN l i).length ≤ 2400 := fun i hi => by
    have := fillN_len l i
    have := Nat.mul_le_mul (show i ≤ 24 by omega) hl
    omega
  refine loop_up (fun i => tfiPc.l1 l (fillN l i) (i : Int)) (girW g).length (fun i hi h => ?_) ?_
  · have hw : IntKind.i64.wrap (iN (List.map (AV.int IntKind.i64) l).length - (i : Int)) = ((l.length - i : Nat) : Int) := by
      rw [wrap_in] <;> simp only [iN, List.length_map] <;> omega
    have ht : List.take (((l.length - i : Nat) : Int).toNat - Int.toNat 0) (List.drop (Int.toNat 0) l) = l.take (l.length - i) := by rw [Int.toNat_natCast]; rfl
    have ht2 : (List.take (((l.length - i : Nat) : Int).toNat - Int.toNat 0) (List.drop (Int.toNat 0) (List.map (AV.int IntKind.i64) l))).length = l.length - i := by
      rw [Int.toNat_natCast]; show (List.take (l.length - i) (List.map (AV.int IntKind.i64) l)).length = _
      rw [List.length_take, List.length_map]; omega
    refine .to (show tfiS1 g z l (fillN l i) i = some (.inl (.l2 l (fillN l i ++ mvN i l 0) i (if (0 : Nat) = 0 then -1 else l.getD (0 - 1) 0) (l.take (l.length - i)) (l.length - i) ((0 : Nat) : Int))) from ?_) ?_
    · unfold tfiS1
      rw [hc, br_t (dec_t (by simp only [iN, List.length_map]; omega)), gu_t (fun e he => by obtain ⟨x, _, rfl⟩ := List.mem_map.1 he; rfl), hw, gu_t (by omega), gu_t (by simp only [iN, List.length_map]; omega), ht, ht2, if_pos rfl]
      show _ = some (Sum.inl (tfiPc.l2 l (fillN l i ++ []) _ _ _ _ _))
      rw [List.append_nil]; rfl
    refine loop_up (fun j => tfiPc.l2 l (fillN l i ++ mvN i l j) i (if j = 0 then -1 else l.getD (j - 1) 0) (l.take (l.length - i)) (l.length - i) (j : Int)) (l.length - i) (fun j hj h => ?_) ?_
    · refine .to (show tfiS2 g z l _ i _ _ _ j = _ from ?_) h
      unfold tfiS2
      have h1 := hfl i (by omega)
      have h2 := mvN_len i l j
      rw [br_t (dec_t (by simp only [iN]; omega)), gu_t (by omega), elG 0 (show j < (l.take (l.length - i)).length by rw [List.length_take]; omega), getD_takeZ hj, gu_t (by simp only [List.length_map, List.length_append, List.length_singleton]; omega), gu_t (by simp only [List.length_map, List.length_append, List.length_singleton]; omega), wrap_nat j (by omega), List.append_assoc, mv_step rfl rfl]
      rfl
    · refine .to (show tfiS2 g z l _ i _ _ _ (l.length - i : Nat) = _ from ?_) h
      unfold tfiS2
      rw [br_f (dec_f (by simp only [iN]; omega)), fillN_mv, wrap_nat i (by omega)]
  · refine .to (show tfiS1 g z l _ (girW g).length = _ from ?_) (.ret _)
    unfold tfiS1
    rw [hc, rngE]
theorem tfill_c (g : List (List Int)) (z : Int) (hrw : Rows g) : CT Try.prog 29 [] [.lst (gL g), .int .i64 z] [] (.tup [.lst ((fillO g z).1.map mvA), .int .i64 (fillO g z).2]) := by
  have hgl := gL_len g
  cases hv : valZ g with
  | false =>
    rw [fillO_20 hv]
    have e : cycE g = 20 := by unfold cycE; rw [hv]; rfl
    exact (tfi_ct g z ([], _) (.val (show tfiEn g z = _ by unfold tfiEn; rw [gu_t hrw, e, br_t (by rfl)]))).to rfl rfl
  | true =>
  have h24 := val24 hv
  have e20 : (cycE g == 20) = false := by unfold cycE; rw [hv, if_pos rfl]; split <;> rfl
  by_cases h0 : z < 0
  · rw [fillO_19 hv (.inl h0)]
    exact (tfi_ct g z ([], _) (.val (show tfiEn g z = _ by unfold tfiEn; rw [gu_t hrw, br_f e20, br_t (dec_t h0)]))).to rfl rfl
  by_cases h1 : (g.length : Int) ≤ z
  · rw [fillO_19 hv (.inr h1)]
    exact (tfi_ct g z ([], _) (.val (show tfiEn g z = _ by unfold tfiEn; rw [gu_t hrw, br_f e20, br_f (dec_f h0), br_t (dec_t (by simp only [iN, hgl]; exact h1))]))).to rfl rfl
  have h0 := Int.not_lt.1 h0
  have h1 := Int.not_le.1 h1
  by_cases hw : girW g = []
  · have e : cycE g = 25 := by unfold cycE; rw [hv, if_pos rfl, if_pos hw]
    rw [fillO_25 hv h0 h1 (by rw [hw]; show (-1 : Int) < 0; omega)]
    exact (tfi_ct g z ([], _) (.val (show tfiEn g z = _ by unfold tfiEn; rw [gu_t hrw, br_f e20, br_f (dec_f (by omega)), br_f (dec_f (by simp only [iN, hgl]; omega)), e, br_t (by rfl)]))).to rfl rfl
  have e0 : cycE g = 0 := by unfold cycE; rw [hv, if_pos rfl, if_neg hw]
  have hc : cycL g = girW g := by unfold cycL; rw [hv, if_pos rfl]
  have hW24 := girW_24 hrw hv
  have hen : tfiEn g z = some (.inl (.l0 (bstP g z (bstN (dsT g z) (girW g) 0)) (bstN (dsT g z) (girW g) 0) ((0 : Nat) : Int))) := by
    unfold tfiEn; rw [gu_t hrw, br_f e20, br_f (dec_f (by omega)), br_f (dec_f (by simp only [iN, hgl]; omega)), e0, br_f (by rfl)]; rfl
  have hbl : ∀ i, i ≤ (girW g).length → bstN (dsT g z) (girW g) i = -1 ∨ ∃ b : Nat, b < i ∧ bstN (dsT g z) (girW g) i = (b : Int) ∧ 0 ≤ dsT g z ((girW g).getD b 0) := fun i hi => by
    rcases bstN_spec (dsT g z) (girW g) i with ⟨e, _⟩ | ⟨b, hb, e, hd, _⟩
    · exact .inl e
    · exact .inr ⟨b, hb, e, hd⟩
  have hloop : ∀ r, MReach (tfiStep g z) (some (.inl (.l0 (bstP g z (bstN (dsT g z) (girW g) (girW g).length)) (bstN (dsT g z) (girW g) (girW g).length) ((girW g).length : Int)))) r → MReach (tfiStep g z) (tfiEn g z) r := by
    intro r hr
    rw [hen]
    refine loop_up (fun i => tfiPc.l0 (bstP g z (bstN (dsT g z) (girW g) i)) (bstN (dsT g z) (girW g) i) (i : Int)) (girW g).length (fun i hi h => ?_) hr
    refine .to (show tfiS0 g z _ _ i = _ from ?_) h
    have hx := girW_rg hrw hv hi
    have hd := dsT_bnd hrw hv h0 h1 hx.1 hx.2
    unfold tfiS0
    rw [hc, rngG 0 hi, gu_t (by simp only [iN]; omega), gu_t (by simp only [iN]; omega), gu_t hrw, gu_t hgl, hv, br_t rfl, gu_t ⟨h0, by simp only [iN]; exact h1⟩, gu_t ⟨hx.1, by simp only [iN]; exact hx.2⟩, wrap_nat i (by omega)]
    have hstep : bstN (dsT g z) (girW g) (i + 1) = bstF (dsT g z) (girW g) (bstN (dsT g z) (girW g) i) i := rfl
    rw [hstep]
    unfold bstF
    have take : bstP g z (i : Int) = pthL g z ((girW g).getD i 0) := by unfold bstP; rw [if_neg (by omega), Int.toNat_natCast]
    by_cases hp : 0 ≤ dsT g z ((girW g).getD i 0)
    · have hpl := pthL_len hp
      have hpi : iN (List.map (AV.int IntKind.i64) (pthL g z ((girW g).getD i 0))).length = dsT g z ((girW g).getD i 0) + 1 := by simp only [iN, List.length_map, hpl]; omega
      rw [hpi, br_t (dec_t (by omega))]
      rcases hbl i (by omega) with e | ⟨b, hb, e, hbd⟩
      · rw [e, br_t (by rfl), if_pos ⟨hp, .inl (by omega)⟩, take]
      · have hbl2 := pthL_len hbd
        have hbi : iN (List.map (AV.int IntKind.i64) (bstP g z (b : Int))).length = dsT g z ((girW g).getD b 0) + 1 := by unfold bstP; rw [if_neg (by omega), Int.toNat_natCast]; simp only [iN, List.length_map, hbl2]; omega
        rw [e, hbi, br_f (dec_f (by omega))]
        by_cases c1 : dsT g z ((girW g).getD i 0) < dsT g z ((girW g).getD b 0)
        · rw [br_t (dec_t (by omega)), if_pos ⟨hp, .inr (.inl (by rw [Int.toNat_natCast]; exact c1))⟩, take]
        · rw [br_f (dec_f (by omega))]
          by_cases c2 : dsT g z ((girW g).getD i 0) = dsT g z ((girW g).getD b 0)
          · rw [br_t (by rw [beq_iff_eq, c2]), gu_t (by omega), elG 0 (show b < (girW g).length by omega)]
            by_cases c3 : (girW g).getD i 0 < (girW g).getD b 0
            · rw [br_t (dec_t c3), if_pos ⟨hp, .inr (.inr ⟨by rw [Int.toNat_natCast]; exact c2, by rw [Int.toNat_natCast]; exact c3⟩)⟩, take]
            · rw [br_f (dec_f c3), if_neg (by rw [Int.toNat_natCast]; rintro ⟨_, h | h | h⟩ <;> omega)]
          · rw [br_f (by rw [beq_eq_false_iff_ne]; omega), if_neg (by rw [Int.toNat_natCast]; rintro ⟨_, h | h | h⟩ <;> omega)]
    · rw [pthL_nil (Int.not_le.1 hp), br_f (by rfl), if_neg (fun e => hp e.1)]
  rcases fill_way hrw hv h0 h1 with e | ⟨b, m, e, hH, hm, _⟩
  · rw [fillO_25 hv h0 h1 (by omega)]
    refine (tfi_ct g z ([], .tup [.nils, .int .i64 25]) (hloop _ ?_)).to rfl rfl
    rw [e]
    refine .to (show tfiS0 g z _ (-1) (girW g).length = _ from ?_) (.ret _)
    unfold tfiS0
    rw [hc, rngE, br_t (by rfl)]
  · rw [fillO_0 hv h0 h1 e]
    refine tfi_ct g z ([], _) (hloop _ ?_)
    rw [e]
    have hbW := hH.hb
    have hpm : 0 ≤ dsT g z ((girW g).getD b 0) := by rw [hH.hm]; omega
    have hbP : bstP g z (b : Int) = wkL g (distL g (opn g) ((girW g).getD b 0).toNat g.length) z.toNat (dsT g z ((girW g).getD b 0)).toNat := by
      unfold bstP pthL; rw [if_neg (by omega), Int.toNat_natCast, if_neg (by omega)]
    have hw1 : IntKind.i64.wrap ((b : Int) + 1) = ((b + 1 : Nat) : Int) := wrap_nat b (by omega)
    have hfl : [bstP g z (b : Int), List.take ((List.map (AV.int IntKind.i64) (girW g)).length - ((b + 1 : Nat) : Int).toNat) (List.drop ((b + 1 : Nat) : Int).toNat (girW g)), List.take ((b : Int).toNat - Int.toNat 0) (List.drop (Int.toNat 0) (girW g))].flatten = wayO g z (girW g) b := by
      rw [Int.toNat_natCast, Int.toNat_natCast, List.length_map, List.take_of_length_le (by rw [List.length_drop]; exact Nat.le_refl _), hbP]
      unfold wayO
      simp
    have hlen := hH.len
    have hrl : ∀ r ∈ [bstP g z (b : Int), List.take ((List.map (AV.int IntKind.i64) (girW g)).length - ((b + 1 : Nat) : Int).toNat) (List.drop ((b + 1 : Nat) : Int).toNat (girW g)), List.take ((b : Int).toNat - Int.toNat 0) (List.drop (Int.toNat 0) (girW g))], r.length ≤ 1000000 := fun r hr => by
      simp only [List.mem_cons, List.not_mem_nil, or_false] at hr
      rcases hr with rfl | rfl | rfl
      · rw [hbP, wkL_len, hH.hm]; omega
      · simp only [List.length_take, List.length_drop]; omega
      · simp only [List.length_take, List.length_drop]; omega
    refine .to (show tfiS0 g z _ (b : Int) (girW g).length = some (.inl (.l1 (wayO g z (girW g) b) [] 0)) from ?_) (tfi_walk hc hW24 (by omega) (by omega))
    unfold tfiS0
    rw [hc, rngE, br_f (dec_f (by omega)), gu_t (fun e he => by obtain ⟨x, _, rfl⟩ := List.mem_map.1 he; rfl), hw1, gu_t (by omega), gu_t (by simp only [iN, List.length_map]; omega), gu_t (by omega), gu_t (by simp only [iN, List.length_map]; omega), gu_t ⟨by simp, hrl⟩, hfl]
noncomputable def bstD (g : List (List Int)) (v : Int) (b : Int) : Int := if b < 0 then -1 else dsT g v ((girW g).getD b.toNat 0)
theorem rfi_walk {g : List (List Int)} {z : Int} {b m : Nat} (hH : WayH g z (girW g) b m) (hm : m ≤ 24) (h24 : (girW g).length ≤ 24) :
    MReach (rfiStep g z) (some (.inl (.l1 (b : Int) (pthL g z ((girW g).getD b 0)) [] 0))) ([some (Blk.mk ((fillN (wayO g z (girW g) b) (girW g).length).map mvA) 3 true true none)], .tup [.sl 0 0 (fillN (wayO g z (girW g) b) (girW g).length).length, .int .i64 0]) := by
  have hb := hH.hb
  have hlen := hH.len
  have hpos : 0 ≤ dsT g z ((girW g).getD b 0) := by rw [hH.hm]; omega
  have hpl : (pthL g z ((girW g).getD b 0)).length = m + 1 := by rw [pthL_len hpos, hH.hm]; rfl
  have hpg : ∀ j, j ≤ m → (pthL g z ((girW g).getD b 0)).getD j 0 = (wayO g z (girW g) b).getD j 0 := fun j hj => by
    unfold wayO pthL
    rw [if_neg (by omega)]
    have hl : j < (wkL g (distL g (opn g) ((girW g).getD b 0).toNat g.length) z.toNat (dsT g z ((girW g).getD b 0)).toNat).length := by rw [wkL_len, hH.hm]; show j < m + 1; omega
    generalize wkL g (distL g (opn g) ((girW g).getD b 0).toNat g.length) z.toNat (dsT g z ((girW g).getD b 0)).toNat = u at hl ⊢
    rw [List.getD_eq_getElem?_getD, List.getD_eq_getElem?_getD, List.getElem?_append_left hl]
  have hp0 : (wayO g z (girW g) b).getD 0 0 = z := by
    rw [hH.pre (Nat.zero_le _), wkZ, Int.toNat_of_nonneg hH.v0]
  generalize hW : wayO g z (girW g) b = l at hlen hpg hp0
  have hpost : ∀ j, j < (girW g).length → l.getD (m + j) 0 = (girW g).getD ((b + j) % (girW g).length) 0 := fun j hj => by rw [← hW]; exact hH.post hj
  have hfl : ∀ i, i ≤ (girW g).length → (fillN l i).length ≤ 2400 := fun i hi => by
    have := fillN_len l i
    have := Nat.mul_le_mul (show i ≤ 24 by omega) (show l.length ≤ 100 by omega)
    omega
  refine loop_up (fun i => rfiPc.l1 (b : Int) (pthL g z ((girW g).getD b 0)) (fillN l i) (i : Int)) (girW g).length (fun i hi h => ?_) ?_
  · have h1 := hfl i (by omega)
    refine .to (show rfiS1 g z b _ (fillN l i) i = some (.inl (.l2 (b : Int) (pthL g z ((girW g).getD b 0)) (fillN l i ++ mvN i l (0 + 1)) i ((0 + 1 : Nat) : Int))) from ?_) ?_
    · unfold rfiS1
      rw [br_t (dec_t (by simp only [iN, List.length_map]; omega)), gu_t (by simp only [List.length_map, List.length_singleton]; omega), gu_t (by simp only [List.length_map, List.length_singleton]; omega), mvN_succ, if_pos rfl, hp0]
      rfl
    refine loop_up (fun j => rfiPc.l2 (b : Int) (pthL g z ((girW g).getD b 0)) (fillN l i ++ mvN i l (j + 1)) i ((j + 1 : Nat) : Int)) m (fun j hj h => ?_) ?_
    · refine .to (show rfiS2 g z b _ _ i (j + 1 : Nat) = _ from ?_) h
      have h2 := mvN_len i l (j + 1)
      have hw : IntKind.i64.wrap (((j + 1 : Nat) : Int) - 1) = (j : Int) := by rw [wrap_in (by omega) (by omega)]; omega
      unfold rfiS2
      rw [br_t (dec_t (by simp only [iN, List.length_map, hpl]; omega)), hw, gu_t (by omega), elG 0 (by rw [hpl]; omega), gu_t (by omega), elG 0 (by rw [hpl]; omega), hpg j (by omega), hpg (j + 1) (by omega), gu_t (by simp only [List.length_map, List.length_append, List.length_singleton]; omega), gu_t (by simp only [List.length_map, List.length_append, List.length_singleton]; omega), wrap_nat (j + 1) (by omega), List.append_assoc, mv_step (by rw [if_neg (by omega)]; rfl) rfl]
    · refine .to (show rfiS2 g z b _ _ i (m + 1 : Nat) = some (.inl (.l3 (b : Int) (pthL g z ((girW g).getD b 0)) (fillN l i ++ mvN i l (m + (0 + 1))) i ((0 + 1 : Nat) : Int))) from ?_) ?_
      · unfold rfiS2
        rw [br_f (dec_f (by simp only [iN, List.length_map, hpl]; omega))]; rfl
      have hwl : IntKind.i64.wrap (iN (List.map (AV.int IntKind.i64) (girW g)).length - (i : Int)) = (((girW g).length - i : Nat) : Int) := by
        rw [wrap_in] <;> simp only [iN, List.length_map] <;> omega
      refine loop_up (fun j => rfiPc.l3 (b : Int) (pthL g z ((girW g).getD b 0)) (fillN l i ++ mvN i l (m + (j + 1))) i ((j + 1 : Nat) : Int)) ((girW g).length - i - 1) (fun j hj h => ?_) ?_
      · refine .to (show rfiS3 g z b _ _ i (j + 1 : Nat) = _ from ?_) h
        have h2 := mvN_len i l (m + (j + 1))
        have hw1 : IntKind.i64.wrap ((b : Int) + ((j + 1 : Nat) : Int)) = ((b + (j + 1) : Nat) : Int) := by rw [wrap_in (by omega) (by omega)]; omega
        have hw2 : IntKind.i64.wrap (((b + (j + 1) : Nat) : Int) - 1) = ((b + j : Nat) : Int) := by rw [wrap_in (by omega) (by omega)]; omega
        have hn : iN (List.map (AV.int IntKind.i64) (girW g)).length = ((girW g).length : Int) := by simp only [iN, List.length_map]
        have hmod : ∀ x : Nat, ((x : Int)).tmod ((girW g).length : Int) = ((x % (girW g).length : Nat) : Int) := fun x => by rw [Int.tmod_eq_emod_of_nonneg (by omega)]; rfl
        have hlt : ∀ x : Nat, x % (girW g).length < (girW g).length := fun x => Nat.mod_lt _ (by omega)
        unfold rfiS3
        rw [hwl, br_t (dec_t (by omega)), hn, gu_t (by omega), hw1, hw2, hmod, hmod, gu_t (by omega), elG 0 (hlt _), gu_t (by omega), elG 0 (hlt _), gu_t (by simp only [List.length_map, List.length_append, List.length_singleton]; omega), gu_t (by simp only [List.length_map, List.length_append, List.length_singleton]; omega), wrap_nat (j + 1) (by omega), List.append_assoc, mv_step (by rw [if_neg (by omega), show m + (j + 1) - 1 = m + j by omega, hpost j (by omega)]) (hpost (j + 1) (by omega)).symm]
        rfl
      · refine .to (show rfiS3 g z b _ _ i ((girW g).length - i - 1 + 1 : Nat) = _ from ?_) h
        unfold rfiS3
        rw [hwl, br_f (dec_f (by omega)), show m + ((girW g).length - i - 1 + 1) = l.length - i by omega, fillN_mv, wrap_nat i (by omega)]
  · refine .to (show rfiS1 g z b _ _ (girW g).length = _ from ?_) (.ret _)
    unfold rfiS1
    rw [rngE]
theorem rfill_c (g : List (List Int)) (z : Int) (hrw : Rows g) : CT Try.prog 26 [] [.lst (gL g), .int .i64 z] [some (Blk.mk ((fillO g z).1.map mvA) 3 true true none)] (.tup [.sl 0 0 (fillO g z).1.length, .int .i64 (fillO g z).2]) := by
  have hgl := gL_len g
  cases hv : valZ g with
  | false =>
    rw [fillO_20 hv]
    exact virtTup 3 (rfi_ct g z ([], _) (.val (show rfiEn g z = _ by unfold rfiEn; rw [gu_t hrw, hv, br_t (by rfl)])))
  | true =>
  have h24 := val24 hv
  by_cases h0 : z < 0
  · rw [fillO_19 hv (.inl h0)]
    exact virtTup 3 (rfi_ct g z ([], _) (.val (show rfiEn g z = _ by unfold rfiEn; rw [gu_t hrw, hv, br_f (by rfl), br_t (dec_t h0)])))
  by_cases h1 : (g.length : Int) ≤ z
  · rw [fillO_19 hv (.inr h1)]
    exact virtTup 3 (rfi_ct g z ([], _) (.val (show rfiEn g z = _ by unfold rfiEn; rw [gu_t hrw, hv, br_f (by rfl), br_f (dec_f h0), br_t (dec_t (by simp only [iN, hgl]; exact h1))])))
  have h0 := Int.not_lt.1 h0
  have h1 := Int.not_le.1 h1
  have hW24 := girW_24 hrw hv
  have hen : rfiEn g z = some (.inl (.l0 (bstD g z (bstN (dsT g z) (girW g) 0)) (bstN (dsT g z) (girW g) 0) ((0 : Nat) : Int))) := by
    unfold rfiEn; rw [gu_t hrw, hv, br_f (by rfl), br_f (dec_f (by omega)), br_f (dec_f (by simp only [iN, hgl]; omega)), br_t rfl, gu_t (by simp only [iN]; omega), gu_t (by simp only [iN]; omega)]; rfl
  have hbl : ∀ i, i ≤ (girW g).length → bstN (dsT g z) (girW g) i = -1 ∨ ∃ b : Nat, b < i ∧ bstN (dsT g z) (girW g) i = (b : Int) ∧ 0 ≤ dsT g z ((girW g).getD b 0) := fun i hi => by
    rcases bstN_spec (dsT g z) (girW g) i with ⟨e, _⟩ | ⟨b, hb, e, hd, _⟩
    · exact .inl e
    · exact .inr ⟨b, hb, e, hd⟩
  have hloop : ∀ r, MReach (rfiStep g z) (some (.inl (.l0 (bstD g z (bstN (dsT g z) (girW g) (girW g).length)) (bstN (dsT g z) (girW g) (girW g).length) ((girW g).length : Int)))) r → MReach (rfiStep g z) (rfiEn g z) r := by
    intro r hr
    rw [hen]
    refine loop_up (fun i => rfiPc.l0 (bstD g z (bstN (dsT g z) (girW g) i)) (bstN (dsT g z) (girW g) i) (i : Int)) (girW g).length (fun i hi h => ?_) hr
    refine .to (show rfiS0 g z _ _ i = _ from ?_) h
    have hx := girW_rg hrw hv hi
    have hdl : (dstL g ((girW g).getD i 0)).length = g.length := by unfold dstL; exact distL_len _ _ _ _
    have hdz : (dstL g ((girW g).getD i 0)).getD z.toNat 0 = dsT g z ((girW g).getD i 0) := rfl
    unfold rfiS0
    rw [rngG 0 hi, gu_t hrw, gu_t hgl, hv, br_t rfl, gu_t ⟨hx.1, by simp only [iN]; exact hx.2⟩, gu_t h0, el_t (getE 0 (show z.toNat < (dstL g ((girW g).getD i 0)).length by rw [hdl]; omega)), hdz, wrap_nat i (by omega)]
    have hstep : bstN (dsT g z) (girW g) (i + 1) = bstF (dsT g z) (girW g) (bstN (dsT g z) (girW g) i) i := rfl
    rw [hstep]
    unfold bstF
    have take : bstD g z (i : Int) = dsT g z ((girW g).getD i 0) := by unfold bstD; rw [if_neg (by omega), Int.toNat_natCast]
    by_cases hp : 0 ≤ dsT g z ((girW g).getD i 0)
    · rw [br_t (dec_t hp)]
      rcases hbl i (by omega) with e | ⟨b, hb, e, hbd⟩
      · rw [e, br_t (by rfl), if_pos ⟨hp, .inl (by omega)⟩, take]
      · have hbi : bstD g z (b : Int) = dsT g z ((girW g).getD b 0) := by unfold bstD; rw [if_neg (by omega), Int.toNat_natCast]
        rw [e, hbi, br_f (dec_f (by omega))]
        by_cases c1 : dsT g z ((girW g).getD i 0) < dsT g z ((girW g).getD b 0)
        · rw [br_t (dec_t c1), if_pos ⟨hp, .inr (.inl (by rw [Int.toNat_natCast]; exact c1))⟩, take]
        · rw [br_f (dec_f c1)]
          by_cases c2 : dsT g z ((girW g).getD i 0) = dsT g z ((girW g).getD b 0)
          · rw [br_t (by rw [beq_iff_eq, c2]), elG 0 hi, gu_t (by omega), elG 0 (show b < (girW g).length by omega)]
            by_cases c3 : (girW g).getD i 0 < (girW g).getD b 0
            · rw [br_t (dec_t c3), if_pos ⟨hp, .inr (.inr ⟨by rw [Int.toNat_natCast]; exact c2, by rw [Int.toNat_natCast]; exact c3⟩)⟩, take]
            · rw [br_f (dec_f c3), if_neg (by rw [Int.toNat_natCast]; rintro ⟨_, h | h | h⟩ <;> omega), hbi]
          · rw [br_f (by rw [beq_eq_false_iff_ne]; exact c2), if_neg (by rw [Int.toNat_natCast]; rintro ⟨_, h | h | h⟩ <;> omega), hbi]
    · rw [br_f (dec_f hp), if_neg (fun e => hp e.1)]
  rcases fill_way hrw hv h0 h1 with e | ⟨b, m, e, hH, hm, _⟩
  · rw [fillO_25 hv h0 h1 (by omega)]
    refine virtTup 3 (rfi_ct g z ([], .tup [.nils, .int .i64 25]) (hloop _ ?_))
    rw [e]
    refine .to (show rfiS0 g z _ (-1) (girW g).length = _ from ?_) (.ret _)
    unfold rfiS0
    rw [rngE, br_t (by rfl)]
  · rw [fillO_0 hv h0 h1 e]
    refine rfi_ct g z ([_], _) (hloop _ ?_)
    rw [e]
    have hbW := hH.hb
    have hx := girW_rg hrw hv hbW
    refine .to (show rfiS0 g z _ (b : Int) (girW g).length = some (.inl (.l1 (b : Int) (pthL g z ((girW g).getD b 0)) [] 0)) from ?_) (rfi_walk hH hm hW24)
    unfold rfiS0
    rw [rngE, br_f (dec_f (by omega)), gu_t (by omega), elG 0 hbW, gu_t hrw, gu_t hgl, hv, br_t rfl, gu_t ⟨h0, by simp only [iN]; exact h1⟩, gu_t ⟨hx.1, by simp only [iN]; exact hx.2⟩]
def kg3 : List (List Int) := [[1], [2], [0]]
def km3 : List MvD := [⟨0, -1, 0⟩, ⟨0, 0, 1⟩, ⟨0, 1, 2⟩, ⟨1, -1, 0⟩, ⟨1, 0, 1⟩, ⟨2, -1, 0⟩]
theorem kg3_rows : Rows kg3 := fun v hv => by
  match v, hv with
  | 0, _ => decide
  | 1, _ => decide
  | 2, _ => decide
theorem kg3_fre : freL kg3 [0, 1] [1, 2] = [1] := by decide +kernel
theorem kg3_freE : freE kg3 [0, 1] [1, 2] = 0 := by decide +kernel
theorem kg3_stk : stkB kg3 [0, 1, 2] [1, 2, 0] = true := by decide +kernel
theorem kg3_fill : fillO kg3 0 = (km3, 0) := by decide +kernel
theorem kg3_rep : repO kg3 km3 = ([2, 1, 0], 0) := by decide +kernel
theorem kfree_c : CT Try.prog 19 [] [.lst [.lst [.int .i64 1], .lst [.int .i64 2], .lst [.int .i64 0]], .lst [.int .i64 0, .int .i64 1], .lst [.int .i64 1, .int .i64 2]] [] (.tup [.lst [.int .i64 1], .int .i64 0]) := by
  have := tfree_c kg3 [0, 1] [1, 2] kg3_rows
  rw [kg3_fre, kg3_freE] at this
  exact this
theorem kfill_c : CT Try.prog 29 [] [.lst [.lst [.int .i64 1], .lst [.int .i64 2], .lst [.int .i64 0]], .int .i64 0] [] (.tup [.lst [.agg [.int .i64 0, .int .i64 (-1), .int .i64 0], .agg [.int .i64 0, .int .i64 0, .int .i64 1], .agg [.int .i64 0, .int .i64 1, .int .i64 2], .agg [.int .i64 1, .int .i64 (-1), .int .i64 0], .agg [.int .i64 1, .int .i64 0, .int .i64 1], .agg [.int .i64 2, .int .i64 (-1), .int .i64 0]], .int .i64 0]) := by
  have := tfill_c kg3 0 kg3_rows
  rw [kg3_fill] at this
  exact this
theorem krep_c : CT Try.prog 23 [] [.lst [.lst [.int .i64 1], .lst [.int .i64 2], .lst [.int .i64 0]], .lst [.agg [.int .i64 0, .int .i64 (-1), .int .i64 0], .agg [.int .i64 0, .int .i64 0, .int .i64 1], .agg [.int .i64 0, .int .i64 1, .int .i64 2], .agg [.int .i64 1, .int .i64 (-1), .int .i64 0], .agg [.int .i64 1, .int .i64 0, .int .i64 1], .agg [.int .i64 2, .int .i64 (-1), .int .i64 0]]]
    [some (Blk.mk [.int .i64 2, .int .i64 1, .int .i64 0] 1 true true none)] (.tup [.sl 0 0 3, .int .i64 0]) := by
  have := treplay_c kg3 km3 kg3_rows
  rw [kg3_rep] at this
  exact this
theorem kstk_c : CT Try.prog 20 [] [.lst [.lst [.int .i64 1], .lst [.int .i64 2], .lst [.int .i64 0]], .lst [.int .i64 0, .int .i64 1, .int .i64 2], .lst [.int .i64 1, .int .i64 2, .int .i64 0]] [] (.bool true) := by
  have := tst_c kg3 [0, 1, 2] [1, 2, 0] kg3_rows
  rw [kg3_stk] at this
  exact this
theorem ksin_c : CT Try.prog 25 [] [.lst [.int .i64 1], .lst [.int .i64 1]] [] (.bool true) := sameInts_ct [1] (by decide)
theorem ksin3_c : CT Try.prog 25 [] [.lst [.int .i64 2, .int .i64 1, .int .i64 0], .lst [.int .i64 2, .int .i64 1, .int .i64 0]] [] (.bool true) := sameInts_ct [2, 1, 0] (by decide)
noncomputable def knwSt : Empty → St
  | x => x.elim
def knwHd : Empty → Nat
  | x => x.elim
noncomputable def knwEn : Option (Empty ⊕ Ret) :=
  some (.inr ([], AV.bool true))
noncomputable def knwStep : Empty → Option (Empty ⊕ Ret)
  | x => x.elim
theorem knwEn_ok (o : Empty ⊕ Ret) (h : knwEn = some o) : Arr Try.prog Try.f15 0 (knwSt) knwHd (bodyOf Try.f15) [] { n := Try.f15.ntmps, fr := enumF 0 ([]), hp := ([]) } o :=
 Scr.ok h mix (
 have c0 := kfree_c;
 have c1 := kfill_c;
 have c2 := krep_c;
 have c3 := ksin_c;
 have c4 := ksin3_c;
 have c5 := kstk_c;
 .rt [] [(8, AV.lst []), (9, AV.lst []), (10, AV.lst []), (11, AV.lst []), (14, AV.lst []), (15, AV.lst []), (42, AV.lst []), (59, AV.lst []), (64, AV.lst []), (65, AV.lst [])] [(16, hK c0 [] []), (21, hK c1 [] []), (27, hK c2 [] []), (43, hK c3 [] []), (60, hK c4 [] [0]), (66, hK c5 [] [])] [] [] [] (aj (u2 (aj (k3 (aj t4 s2)) (aj (u2 (k2 (aj (ak (k5 (al (c0)))) (u2 (u2 (u2 (u2 s2))))))) (aj (u2 (aj (k3 (al (c1))) (u2 (u2 (u2 (u2 s2)))))) (aj (u2 (u2 (aj (ak (k3 (al (c2)))) (u2 (u2 (u2 (u2 s2))))))) (al (u2 (u2 (u2 (aj t3 (aj t3 (aj t3 (u2 (aj t3 (aj t3 (aj t3 (u2 (aj t3 (u2 (aj (k5 (al (c3))) (aj t3 (u2 (aj t3 (aj t3 (aj t3 (aj t3 (u2 (aj t3 (aj (k2 (show Int.NonNeg (1 : Int) from (by first | decide | exact Int.NonNeg.mk _))) (aj t3 (u2 (aj t4 (aj t3 (u2 (aj t3 (u2 (aj (k3 (aj (show nat_lit 3 = nat_lit 3 from rfl) (ak (aj (c4) (show ∀ (blk : Blk), blk ∈ [] → ImmB blk from (by intro _ h; cases h)))))) (aj t3 (u2 (aj t3 (u2 (u2 (aj (k2 (k5 (al (c5)))) (aj t3 s2)))))))))))))))))))))))))))))))))))))))))))) t2)) (by kernel_rfl)
theorem knw_ct (r : Ret) (h : MReach (knwStep) (knwEn) r) : CT Try.prog 15 ([]) ([]) r.1 r.2 :=
  CT.mach (fn := Try.f15) (c := bodyOf Try.f15) (S := knwSt) (hd := knwHd) Try.func15 (by kernel_rfl) (Nat.le_of_ble_eq_true rfl)
    (fun s o ho => match s, ho with
      | x, _ => x.elim)
    (fun o ho => knwEn_ok o ho) h
theorem known_c : CT Try.prog 15 [] [] [] (.bool true) := knw_ct ([], _) (.ret _)
theorem rdIntsT {n : Nat} {es : List AV} (h : ∀ x ∈ es, ShV Try.prog n 3 x) : ∃ L : List Int, es = L.map (AV.int .i64) := by
  induction es with
  | nil => exact ⟨[], rfl⟩
  | cons x es ih =>
    obtain ⟨L, rfl⟩ := ih fun y hy => h y (List.mem_cons_of_mem _ hy)
    obtain ⟨i, _, rfl⟩ := (h x (by simp)).intD Try.underlying3
    exact ⟨i :: L, rfl⟩
theorem rdRowsT {n : Nat} {es : List AV} (h : ∀ x ∈ es, ShV Try.prog (n + 1) 22 x) : ∃ g : List (List Int), es = gL g ∧ Rows g := by
  have key : ∃ g : List (List Int), es = gL g ∧ ∀ r ∈ g, r.length ≤ 9223372036854775807 := by
    induction es with
    | nil => exact ⟨[], rfl, fun r hr => by cases hr⟩
    | cons x es ih =>
      obtain ⟨g, rfl, hg⟩ := ih fun y hy => h y (List.mem_cons_of_mem _ hy)
      obtain ⟨ls, hm, hl, rfl⟩ := (h x (by simp)).sliceD Try.underlying22
      obtain ⟨L, rfl⟩ := rdIntsT hl
      refine ⟨L :: g, rfl, fun r hr => ?_⟩
      rcases List.mem_cons.1 hr with rfl | hr
      · simpa [maxLen] using hm
      · exact hg r hr
  obtain ⟨g, e, hg⟩ := key
  refine ⟨g, e, fun v hv => hg _ ?_⟩
  rw [List.getD_eq_getElem?_getD, List.getElem?_eq_getElem hv]
  exact List.getElem_mem hv
inductive filPc where
  | l0 
  | l1 
  | l2 (v0 : List MvD) (v1 : List Int × Int) (v2 : Bool) (v3 : Bool) (v4 : Bool) (v5 : Nat)
noncomputable def filSt (g : List (List Int)) (m : List MvD) (z : Int) (l : List Int) : filPc → St
  | .l0  => St.mk 150 [(0, AV.lst (gL g)), (1, AV.lst (List.map mvA m)), (2, iv z), (9, AV.ptr 0 0 0), (10, iv 0)] [some (Blk.mk [AV.agg [AV.lst (List.map (iv) l), iv 0]] 2 true true none)]
  | .l1  => St.mk 150 [(0, AV.lst (gL g)), (1, AV.lst (List.map mvA m)), (2, iv z), (9, AV.ptr 0 0 0), (10, iv 1), (117, iv (fillO g z).snd), (118, iv (fillO g z).snd), (119, AV.bool ((fillO g z).snd != (fillO g z).snd)), (122, iv (repO g m).snd), (123, iv (repO g m).snd), (124, AV.bool ((repO g m).snd != (repO g m).snd)), (127, AV.lst (List.map (iv) (cycL g))), (128, AV.lst (List.map (iv) (cycL g))), (129, AV.bool (decide (cycL g = cycL g))), (130, AV.bool !decide (cycL g = cycL g)), (133, AV.lst (List.map (iv) (tigR g))), (134, AV.lst (List.map (iv) (tigR g))), (135, AV.bool (decide (tigR g = tigR g))), (136, AV.bool !decide (tigR g = tigR g)), (139, AV.lst (List.map mvA (fillO g z).fst)), (140, AV.sl 1 0 (fillO g z).fst.length), (141, AV.bool (decide ((fillO g z).fst = (fillO g z).fst))), (142, AV.bool !decide ((fillO g z).fst = (fillO g z).fst)), (145, AV.sl 2 0 (repO g m).fst.length), (146, AV.sl 3 0 (repO g m).fst.length), (147, AV.bool (decide ((repO g m).fst = (repO g m).fst))), (148, AV.bool !decide ((repO g m).fst = (repO g m).fst))] [some (Blk.mk [AV.agg [AV.lst (List.map (iv) l), iv 0]] 2 true true none), some (Blk.mk (List.map mvA (fillO g z).fst) 3 true true none), some (Blk.mk (List.map (iv) (repO g m).fst) 1 true true none), some (Blk.mk (List.map (iv) (repO g m).fst) 1 true true none)]
  | .l2 v0 v1 v2 v3 v4 v5 => St.mk 150 [(0, AV.lst (gL (graM l 0 9))), (1, AV.sl 0 0 v0.length), (2, iv (nextZ l (graK l 0 9) (iN (gL (graM l 0 9)).length))), (9, AV.ptr 1 0 0), (10, iv 2), (117, iv (fillO (graM l 0 9) (nextZ l (graK l 0 9) (iN (gL (graM l 0 9)).length))).snd), (118, iv (fillO (graM l 0 9) (nextZ l (graK l 0 9) (iN (gL (graM l 0 9)).length))).snd), (119, AV.bool ((fillO (graM l 0 9) (nextZ l (graK l 0 9) (iN (gL (graM l 0 9)).length))).snd != (fillO (graM l 0 9) (nextZ l (graK l 0 9) (iN (gL (graM l 0 9)).length))).snd)), (122, iv v1.snd), (123, iv v1.snd), (124, AV.bool v2), (127, AV.lst (List.map (iv) (cycL (graM l 0 9)))), (128, AV.lst (List.map (iv) (cycL (graM l 0 9)))), (129, AV.bool (decide (cycL (graM l 0 9) = cycL (graM l 0 9)))), (130, AV.bool !decide (cycL (graM l 0 9) = cycL (graM l 0 9))), (133, AV.lst (List.map (iv) (tigR (graM l 0 9)))), (134, AV.lst (List.map (iv) (tigR (graM l 0 9)))), (135, AV.bool (decide (tigR (graM l 0 9) = tigR (graM l 0 9)))), (136, AV.bool !decide (tigR (graM l 0 9) = tigR (graM l 0 9))), (139, AV.lst (List.map mvA (fillO (graM l 0 9) (nextZ l (graK l 0 9) (iN (gL (graM l 0 9)).length))).fst)), (140, AV.sl 2 0 (fillO (graM l 0 9) (nextZ l (graK l 0 9) (iN (gL (graM l 0 9)).length))).fst.length), (141, AV.bool (decide ((fillO (graM l 0 9) (nextZ l (graK l 0 9) (iN (gL (graM l 0 9)).length))).fst = (fillO (graM l 0 9) (nextZ l (graK l 0 9) (iN (gL (graM l 0 9)).length))).fst))), (142, AV.bool !decide ((fillO (graM l 0 9) (nextZ l (graK l 0 9) (iN (gL (graM l 0 9)).length))).fst = (fillO (graM l 0 9) (nextZ l (graK l 0 9) (iN (gL (graM l 0 9)).length))).fst)), (145, AV.sl 3 0 v1.fst.length), (146, AV.sl 4 0 v1.fst.length), (147, AV.bool v3), (148, AV.bool v4)] [some (Blk.mk (List.map mvA v0) 3 true true none), some (tapeB l v5), some (Blk.mk (List.map mvA (fillO (graM l 0 9) (nextZ l (graK l 0 9) (iN (gL (graM l 0 9)).length))).fst) 3 true true none), some (Blk.mk (List.map (iv) v1.fst) 1 true true none), some (Blk.mk (List.map (iv) v1.fst) 1 true true none)]
def filHd : filPc → Nat
  | .l0  => 0
  | .l1  => 0
  | .l2 _ _ _ _ _ _ => 0
noncomputable def filEn (g : List (List Int)) (m : List MvD) (z : Int) (l : List Int) : Option (filPc ⊕ Ret) :=
  some (.inl (.l0 ))
noncomputable def filS0 (g : List (List Int)) (m : List MvD) (z : Int) (l : List Int) : Option (filPc ⊕ Ret) :=
  gu (Rows g) <|
  br (cycE g != cycE g)
  (some (.inr ([], AV.bool false)))
  (br ((fillO g z).snd != (fillO g z).snd)
   (some (.inr ([], AV.bool false)))
   (br ((repO g m).snd != (repO g m).snd)
    (some (.inr ([], AV.bool false)))
    (gu ((cycL g).length ≤ 1000000) <|
     br (!decide (cycL g = cycL g))
     (some (.inr ([], AV.bool false)))
     (gu ((tigR g).length ≤ 1000000) <|
      br (!decide (tigR g = tigR g))
      (some (.inr ([], AV.bool false)))
      (gu ((fillO g z).fst.length ≤ 1000000) <|
       br (!decide ((fillO g z).fst = (fillO g z).fst))
       (some (.inr ([], AV.bool false)))
       (gu ((repO g m).fst.length ≤ 1000000) <|
        br (!decide ((repO g m).fst = (repO g m).fst))
        (some (.inr ([], AV.bool false)))
        (some (.inl (.l1 )))))))))
noncomputable def filS1 (g : List (List Int)) (m : List MvD) (z : Int) (l : List Int) : Option (filPc ⊕ Ret) :=
  gu (graK l 0 9 < 9223372036854775807) <|
  gu (Rows (graM l 0 9)) <|
  br (decide (0 < iN (fillO (graM l 0 9) (nextZ l (graK l 0 9) (iN (gL (graM l 0 9)).length))).fst.length))
  (gu (graK l 0 9 + 1 < 9223372036854775807) <|
   br (nextZ l (graK l 0 9 + 1) 2 == 0)
   (gu (graK l 0 9 + 1 + 1 < 9223372036854775807) <|
    gu (graK l 0 9 + 1 + 1 + 1 < 9223372036854775807) <|
    gu (graK l 0 9 + 1 + 1 + 1 + 1 < 9223372036854775807) <|
    gu (graK l 0 9 + 1 + 1 + 1 + 1 + 1 < 9223372036854775807) <|
    gu (0 ≤ nextZ l (graK l 0 9 + 1 + 1) (iN (fillO (graM l 0 9) (nextZ l (graK l 0 9) (iN (gL (graM l 0 9)).length))).fst.length)) <|
    gu (nextZ l (graK l 0 9 + 1 + 1) (iN (fillO (graM l 0 9) (nextZ l (graK l 0 9) (iN (gL (graM l 0 9)).length))).fst.length) < iN (fillO (graM l 0 9) (nextZ l (graK l 0 9) (iN (gL (graM l 0 9)).length))).fst.length) <|
    gu ((0 + (nextZ l (graK l 0 9 + 1 + 1) (iN (fillO (graM l 0 9) (nextZ l (graK l 0 9) (iN (gL (graM l 0 9)).length))).fst.length)).toNat).succ.le (List.map mvA (fillO (graM l 0 9) (nextZ l (graK l 0 9) (iN (gL (graM l 0 9)).length))).fst).length) <|
    gu (∀ (blk : Blk), blk ∈ [Blk.mk (List.map (AV.int IntKind.i64) (repO (graM l 0 9) ((fillO (graM l 0 9) (nextZ l (graK l 0 9) (iN (gL (graM l 0 9)).length))).fst.set (0 + (nextZ l (graK l 0 9 + 1 + 1) (iN (fillO (graM l 0 9) (nextZ l (graK l 0 9) (iN (gL (graM l 0 9)).length))).fst.length)).toNat) (MvD.mk (nextZ l (graK l 0 9 + 1 + 1 + 1) 4) (IntKind.i64.wrap (nextZ l (graK l 0 9 + 1 + 1 + 1 + 1) (IntKind.i64.wrap (iN (gL (graM l 0 9)).length + 1)) - 1)) (nextZ l (graK l 0 9 + 1 + 1 + 1 + 1 + 1) (iN (gL (graM l 0 9)).length))))).fst) 1 true true none] → ImmB blk) <|
    br (cycE (graM l 0 9) != cycE (graM l 0 9))
    (some (.inr ([], AV.bool false)))
    (br ((fillO (graM l 0 9) (nextZ l (graK l 0 9) (iN (gL (graM l 0 9)).length))).snd != (fillO (graM l 0 9) (nextZ l (graK l 0 9) (iN (gL (graM l 0 9)).length))).snd)
     (some (.inr ([], AV.bool false)))
     (br ((repO (graM l 0 9) ((fillO (graM l 0 9) (nextZ l (graK l 0 9) (iN (gL (graM l 0 9)).length))).fst.set (0 + (nextZ l (graK l 0 9 + 1 + 1) (iN (fillO (graM l 0 9) (nextZ l (graK l 0 9) (iN (gL (graM l 0 9)).length))).fst.length)).toNat) (MvD.mk (nextZ l (graK l 0 9 + 1 + 1 + 1) 4) (IntKind.i64.wrap (nextZ l (graK l 0 9 + 1 + 1 + 1 + 1) (IntKind.i64.wrap (iN (gL (graM l 0 9)).length + 1)) - 1)) (nextZ l (graK l 0 9 + 1 + 1 + 1 + 1 + 1) (iN (gL (graM l 0 9)).length))))).snd != (repO (graM l 0 9) ((fillO (graM l 0 9) (nextZ l (graK l 0 9) (iN (gL (graM l 0 9)).length))).fst.set (0 + (nextZ l (graK l 0 9 + 1 + 1) (iN (fillO (graM l 0 9) (nextZ l (graK l 0 9) (iN (gL (graM l 0 9)).length))).fst.length)).toNat) (MvD.mk (nextZ l (graK l 0 9 + 1 + 1 + 1) 4) (IntKind.i64.wrap (nextZ l (graK l 0 9 + 1 + 1 + 1 + 1) (IntKind.i64.wrap (iN (gL (graM l 0 9)).length + 1)) - 1)) (nextZ l (graK l 0 9 + 1 + 1 + 1 + 1 + 1) (iN (gL (graM l 0 9)).length))))).snd)
      (some (.inr ([], AV.bool false)))
      (gu ((cycL (graM l 0 9)).length ≤ 1000000) <|
       br (!decide (cycL (graM l 0 9) = cycL (graM l 0 9)))
       (some (.inr ([], AV.bool false)))
       (gu ((tigR (graM l 0 9)).length ≤ 1000000) <|
        br (!decide (tigR (graM l 0 9) = tigR (graM l 0 9)))
        (some (.inr ([], AV.bool false)))
        (gu ((fillO (graM l 0 9) (nextZ l (graK l 0 9) (iN (gL (graM l 0 9)).length))).fst.length ≤ 1000000) <|
         br (!decide ((fillO (graM l 0 9) (nextZ l (graK l 0 9) (iN (gL (graM l 0 9)).length))).fst = (fillO (graM l 0 9) (nextZ l (graK l 0 9) (iN (gL (graM l 0 9)).length))).fst))
         (some (.inr ([], AV.bool false)))
         (gu ((repO (graM l 0 9) ((fillO (graM l 0 9) (nextZ l (graK l 0 9) (iN (gL (graM l 0 9)).length))).fst.set (0 + (nextZ l (graK l 0 9 + 1 + 1) (iN (fillO (graM l 0 9) (nextZ l (graK l 0 9) (iN (gL (graM l 0 9)).length))).fst.length)).toNat) (MvD.mk (nextZ l (graK l 0 9 + 1 + 1 + 1) 4) (IntKind.i64.wrap (nextZ l (graK l 0 9 + 1 + 1 + 1 + 1) (IntKind.i64.wrap (iN (gL (graM l 0 9)).length + 1)) - 1)) (nextZ l (graK l 0 9 + 1 + 1 + 1 + 1 + 1) (iN (gL (graM l 0 9)).length))))).fst.length ≤ 1000000) <|
          br (!decide ((repO (graM l 0 9) ((fillO (graM l 0 9) (nextZ l (graK l 0 9) (iN (gL (graM l 0 9)).length))).fst.set (0 + (nextZ l (graK l 0 9 + 1 + 1) (iN (fillO (graM l 0 9) (nextZ l (graK l 0 9) (iN (gL (graM l 0 9)).length))).fst.length)).toNat) (MvD.mk (nextZ l (graK l 0 9 + 1 + 1 + 1) 4) (IntKind.i64.wrap (nextZ l (graK l 0 9 + 1 + 1 + 1 + 1) (IntKind.i64.wrap (iN (gL (graM l 0 9)).length + 1)) - 1)) (nextZ l (graK l 0 9 + 1 + 1 + 1 + 1 + 1) (iN (gL (graM l 0 9)).length))))).fst = (repO (graM l 0 9) ((fillO (graM l 0 9) (nextZ l (graK l 0 9) (iN (gL (graM l 0 9)).length))).fst.set (0 + (nextZ l (graK l 0 9 + 1 + 1) (iN (fillO (graM l 0 9) (nextZ l (graK l 0 9) (iN (gL (graM l 0 9)).length))).fst.length)).toNat) (MvD.mk (nextZ l (graK l 0 9 + 1 + 1 + 1) 4) (IntKind.i64.wrap (nextZ l (graK l 0 9 + 1 + 1 + 1 + 1) (IntKind.i64.wrap (iN (gL (graM l 0 9)).length + 1)) - 1)) (nextZ l (graK l 0 9 + 1 + 1 + 1 + 1 + 1) (iN (gL (graM l 0 9)).length))))).fst))
          (some (.inr ([], AV.bool false)))
          (some (.inl (.l2 ((fillO (graM l 0 9) (nextZ l (graK l 0 9) (iN (gL (graM l 0 9)).length))).fst.set (0 + (nextZ l (graK l 0 9 + 1 + 1) (iN (fillO (graM l 0 9) (nextZ l (graK l 0 9) (iN (gL (graM l 0 9)).length))).fst.length)).toNat) (MvD.mk (nextZ l (graK l 0 9 + 1 + 1 + 1) 4) (IntKind.i64.wrap (nextZ l (graK l 0 9 + 1 + 1 + 1 + 1) (IntKind.i64.wrap (iN (gL (graM l 0 9)).length + 1)) - 1)) (nextZ l (graK l 0 9 + 1 + 1 + 1 + 1 + 1) (iN (gL (graM l 0 9)).length)))) (repO (graM l 0 9) ((fillO (graM l 0 9) (nextZ l (graK l 0 9) (iN (gL (graM l 0 9)).length))).fst.set (0 + (nextZ l (graK l 0 9 + 1 + 1) (iN (fillO (graM l 0 9) (nextZ l (graK l 0 9) (iN (gL (graM l 0 9)).length))).fst.length)).toNat) (MvD.mk (nextZ l (graK l 0 9 + 1 + 1 + 1) 4) (IntKind.i64.wrap (nextZ l (graK l 0 9 + 1 + 1 + 1 + 1) (IntKind.i64.wrap (iN (gL (graM l 0 9)).length + 1)) - 1)) (nextZ l (graK l 0 9 + 1 + 1 + 1 + 1 + 1) (iN (gL (graM l 0 9)).length))))) ((repO (graM l 0 9) ((fillO (graM l 0 9) (nextZ l (graK l 0 9) (iN (gL (graM l 0 9)).length))).fst.set (0 + (nextZ l (graK l 0 9 + 1 + 1) (iN (fillO (graM l 0 9) (nextZ l (graK l 0 9) (iN (gL (graM l 0 9)).length))).fst.length)).toNat) (MvD.mk (nextZ l (graK l 0 9 + 1 + 1 + 1) 4) (IntKind.i64.wrap (nextZ l (graK l 0 9 + 1 + 1 + 1 + 1) (IntKind.i64.wrap (iN (gL (graM l 0 9)).length + 1)) - 1)) (nextZ l (graK l 0 9 + 1 + 1 + 1 + 1 + 1) (iN (gL (graM l 0 9)).length))))).snd != (repO (graM l 0 9) ((fillO (graM l 0 9) (nextZ l (graK l 0 9) (iN (gL (graM l 0 9)).length))).fst.set (0 + (nextZ l (graK l 0 9 + 1 + 1) (iN (fillO (graM l 0 9) (nextZ l (graK l 0 9) (iN (gL (graM l 0 9)).length))).fst.length)).toNat) (MvD.mk (nextZ l (graK l 0 9 + 1 + 1 + 1) 4) (IntKind.i64.wrap (nextZ l (graK l 0 9 + 1 + 1 + 1 + 1) (IntKind.i64.wrap (iN (gL (graM l 0 9)).length + 1)) - 1)) (nextZ l (graK l 0 9 + 1 + 1 + 1 + 1 + 1) (iN (gL (graM l 0 9)).length))))).snd) (decide ((repO (graM l 0 9) ((fillO (graM l 0 9) (nextZ l (graK l 0 9) (iN (gL (graM l 0 9)).length))).fst.set (0 + (nextZ l (graK l 0 9 + 1 + 1) (iN (fillO (graM l 0 9) (nextZ l (graK l 0 9) (iN (gL (graM l 0 9)).length))).fst.length)).toNat) (MvD.mk (nextZ l (graK l 0 9 + 1 + 1 + 1) 4) (IntKind.i64.wrap (nextZ l (graK l 0 9 + 1 + 1 + 1 + 1) (IntKind.i64.wrap (iN (gL (graM l 0 9)).length + 1)) - 1)) (nextZ l (graK l 0 9 + 1 + 1 + 1 + 1 + 1) (iN (gL (graM l 0 9)).length))))).fst = (repO (graM l 0 9) ((fillO (graM l 0 9) (nextZ l (graK l 0 9) (iN (gL (graM l 0 9)).length))).fst.set (0 + (nextZ l (graK l 0 9 + 1 + 1) (iN (fillO (graM l 0 9) (nextZ l (graK l 0 9) (iN (gL (graM l 0 9)).length))).fst.length)).toNat) (MvD.mk (nextZ l (graK l 0 9 + 1 + 1 + 1) 4) (IntKind.i64.wrap (nextZ l (graK l 0 9 + 1 + 1 + 1 + 1) (IntKind.i64.wrap (iN (gL (graM l 0 9)).length + 1)) - 1)) (nextZ l (graK l 0 9 + 1 + 1 + 1 + 1 + 1) (iN (gL (graM l 0 9)).length))))).fst)) (!decide ((repO (graM l 0 9) ((fillO (graM l 0 9) (nextZ l (graK l 0 9) (iN (gL (graM l 0 9)).length))).fst.set (0 + (nextZ l (graK l 0 9 + 1 + 1) (iN (fillO (graM l 0 9) (nextZ l (graK l 0 9) (iN (gL (graM l 0 9)).length))).fst.length)).toNat) (MvD.mk (nextZ l (graK l 0 9 + 1 + 1 + 1) 4) (IntKind.i64.wrap (nextZ l (graK l 0 9 + 1 + 1 + 1 + 1) (IntKind.i64.wrap (iN (gL (graM l 0 9)).length + 1)) - 1)) (nextZ l (graK l 0 9 + 1 + 1 + 1 + 1 + 1) (iN (gL (graM l 0 9)).length))))).fst = (repO (graM l 0 9) ((fillO (graM l 0 9) (nextZ l (graK l 0 9) (iN (gL (graM l 0 9)).length))).fst.set (0 + (nextZ l (graK l 0 9 + 1 + 1) (iN (fillO (graM l 0 9) (nextZ l (graK l 0 9) (iN (gL (graM l 0 9)).length))).fst.length)).toNat) (MvD.mk (nextZ l (graK l 0 9 + 1 + 1 + 1) 4) (IntKind.i64.wrap (nextZ l (graK l 0 9 + 1 + 1 + 1 + 1) (IntKind.i64.wrap (iN (gL (graM l 0 9)).length + 1)) - 1)) (nextZ l (graK l 0 9 + 1 + 1 + 1 + 1 + 1) (iN (gL (graM l 0 9)).length))))).fst)) (graK l 0 9 + 1 + 1 + 1 + 1 + 1 + 1)))))))))))
   (gu (∀ (blk : Blk), blk ∈ [Blk.mk (List.map (AV.int IntKind.i64) (repO (graM l 0 9) (fillO (graM l 0 9) (nextZ l (graK l 0 9) (iN (gL (graM l 0 9)).length))).fst).fst) 1 true true none] → ImmB blk) <|
    br (cycE (graM l 0 9) != cycE (graM l 0 9))
    (some (.inr ([], AV.bool false)))
    (br ((fillO (graM l 0 9) (nextZ l (graK l 0 9) (iN (gL (graM l 0 9)).length))).snd != (fillO (graM l 0 9) (nextZ l (graK l 0 9) (iN (gL (graM l 0 9)).length))).snd)
     (some (.inr ([], AV.bool false)))
     (br ((repO (graM l 0 9) (fillO (graM l 0 9) (nextZ l (graK l 0 9) (iN (gL (graM l 0 9)).length))).fst).snd != (repO (graM l 0 9) (fillO (graM l 0 9) (nextZ l (graK l 0 9) (iN (gL (graM l 0 9)).length))).fst).snd)
      (some (.inr ([], AV.bool false)))
      (gu ((cycL (graM l 0 9)).length ≤ 1000000) <|
       br (!decide (cycL (graM l 0 9) = cycL (graM l 0 9)))
       (some (.inr ([], AV.bool false)))
       (gu ((tigR (graM l 0 9)).length ≤ 1000000) <|
        br (!decide (tigR (graM l 0 9) = tigR (graM l 0 9)))
        (some (.inr ([], AV.bool false)))
        (gu ((fillO (graM l 0 9) (nextZ l (graK l 0 9) (iN (gL (graM l 0 9)).length))).fst.length ≤ 1000000) <|
         br (!decide ((fillO (graM l 0 9) (nextZ l (graK l 0 9) (iN (gL (graM l 0 9)).length))).fst = (fillO (graM l 0 9) (nextZ l (graK l 0 9) (iN (gL (graM l 0 9)).length))).fst))
         (some (.inr ([], AV.bool false)))
         (gu ((repO (graM l 0 9) (fillO (graM l 0 9) (nextZ l (graK l 0 9) (iN (gL (graM l 0 9)).length))).fst).fst.length ≤ 1000000) <|
          br (!decide ((repO (graM l 0 9) (fillO (graM l 0 9) (nextZ l (graK l 0 9) (iN (gL (graM l 0 9)).length))).fst).fst = (repO (graM l 0 9) (fillO (graM l 0 9) (nextZ l (graK l 0 9) (iN (gL (graM l 0 9)).length))).fst).fst))
          (some (.inr ([], AV.bool false)))
          (some (.inl (.l2 ((fillO (graM l 0 9) (nextZ l (graK l 0 9) (iN (gL (graM l 0 9)).length))).fst) (repO (graM l 0 9) (fillO (graM l 0 9) (nextZ l (graK l 0 9) (iN (gL (graM l 0 9)).length))).fst) ((repO (graM l 0 9) (fillO (graM l 0 9) (nextZ l (graK l 0 9) (iN (gL (graM l 0 9)).length))).fst).snd != (repO (graM l 0 9) (fillO (graM l 0 9) (nextZ l (graK l 0 9) (iN (gL (graM l 0 9)).length))).fst).snd) (decide ((repO (graM l 0 9) (fillO (graM l 0 9) (nextZ l (graK l 0 9) (iN (gL (graM l 0 9)).length))).fst).fst = (repO (graM l 0 9) (fillO (graM l 0 9) (nextZ l (graK l 0 9) (iN (gL (graM l 0 9)).length))).fst).fst)) (!decide ((repO (graM l 0 9) (fillO (graM l 0 9) (nextZ l (graK l 0 9) (iN (gL (graM l 0 9)).length))).fst).fst = (repO (graM l 0 9) (fillO (graM l 0 9) (nextZ l (graK l 0 9) (iN (gL (graM l 0 9)).length))).fst).fst)) (graK l 0 9 + 1 + 1))))))))))))
  (gu (∀ (blk : Blk), blk ∈ [Blk.mk (List.map (AV.int IntKind.i64) (repO (graM l 0 9) (fillO (graM l 0 9) (nextZ l (graK l 0 9) (iN (gL (graM l 0 9)).length))).fst).fst) 1 true true none] → ImmB blk) <|
   br (cycE (graM l 0 9) != cycE (graM l 0 9))
   (some (.inr ([], AV.bool false)))
   (br ((fillO (graM l 0 9) (nextZ l (graK l 0 9) (iN (gL (graM l 0 9)).length))).snd != (fillO (graM l 0 9) (nextZ l (graK l 0 9) (iN (gL (graM l 0 9)).length))).snd)
    (some (.inr ([], AV.bool false)))
    (br ((repO (graM l 0 9) (fillO (graM l 0 9) (nextZ l (graK l 0 9) (iN (gL (graM l 0 9)).length))).fst).snd != (repO (graM l 0 9) (fillO (graM l 0 9) (nextZ l (graK l 0 9) (iN (gL (graM l 0 9)).length))).fst).snd)
     (some (.inr ([], AV.bool false)))
     (gu ((cycL (graM l 0 9)).length ≤ 1000000) <|
      br (!decide (cycL (graM l 0 9) = cycL (graM l 0 9)))
      (some (.inr ([], AV.bool false)))
      (gu ((tigR (graM l 0 9)).length ≤ 1000000) <|
       br (!decide (tigR (graM l 0 9) = tigR (graM l 0 9)))
       (some (.inr ([], AV.bool false)))
       (gu ((fillO (graM l 0 9) (nextZ l (graK l 0 9) (iN (gL (graM l 0 9)).length))).fst.length ≤ 1000000) <|
        br (!decide ((fillO (graM l 0 9) (nextZ l (graK l 0 9) (iN (gL (graM l 0 9)).length))).fst = (fillO (graM l 0 9) (nextZ l (graK l 0 9) (iN (gL (graM l 0 9)).length))).fst))
        (some (.inr ([], AV.bool false)))
        (gu ((repO (graM l 0 9) (fillO (graM l 0 9) (nextZ l (graK l 0 9) (iN (gL (graM l 0 9)).length))).fst).fst.length ≤ 1000000) <|
         br (!decide ((repO (graM l 0 9) (fillO (graM l 0 9) (nextZ l (graK l 0 9) (iN (gL (graM l 0 9)).length))).fst).fst = (repO (graM l 0 9) (fillO (graM l 0 9) (nextZ l (graK l 0 9) (iN (gL (graM l 0 9)).length))).fst).fst))
         (some (.inr ([], AV.bool false)))
         (some (.inl (.l2 ((fillO (graM l 0 9) (nextZ l (graK l 0 9) (iN (gL (graM l 0 9)).length))).fst) (repO (graM l 0 9) (fillO (graM l 0 9) (nextZ l (graK l 0 9) (iN (gL (graM l 0 9)).length))).fst) ((repO (graM l 0 9) (fillO (graM l 0 9) (nextZ l (graK l 0 9) (iN (gL (graM l 0 9)).length))).fst).snd != (repO (graM l 0 9) (fillO (graM l 0 9) (nextZ l (graK l 0 9) (iN (gL (graM l 0 9)).length))).fst).snd) (decide ((repO (graM l 0 9) (fillO (graM l 0 9) (nextZ l (graK l 0 9) (iN (gL (graM l 0 9)).length))).fst).fst = (repO (graM l 0 9) (fillO (graM l 0 9) (nextZ l (graK l 0 9) (iN (gL (graM l 0 9)).length))).fst).fst)) (!decide ((repO (graM l 0 9) (fillO (graM l 0 9) (nextZ l (graK l 0 9) (iN (gL (graM l 0 9)).length))).fst).fst = (repO (graM l 0 9) (fillO (graM l 0 9) (nextZ l (graK l 0 9) (iN (gL (graM l 0 9)).length))).fst).fst)) (graK l 0 9 + 1)))))))))))
noncomputable def filS2 (g : List (List Int)) (m : List MvD) (z : Int) (l : List Int) (v0 : List MvD) (v1 : List Int × Int) (v2 : Bool) (v3 : Bool) (v4 : Bool) (v5 : Nat) : Option (filPc ⊕ Ret) :=
  some (.inr ([], AV.bool true))
noncomputable def filStep (g : List (List Int)) (m : List MvD) (z : Int) (l : List Int) : filPc → Option (filPc ⊕ Ret)
  | .l0  => filS0 g m z l 
  | .l1  => filS1 g m z l 
  | .l2 v0 v1 v2 v3 v4 v5 => filS2 g m z l v0 v1 v2 v3 v4 v5
theorem filEn_ok (g : List (List Int)) (m : List MvD) (z : Int) (l : List Int) (o : filPc ⊕ Ret) (h : filEn g m z l = some o) : Arr Try.prog Try.f5 0 (filSt g m z l) filHd (bodyOf Try.f5) [] { n := Try.f5.ntmps, fr := enumF 0 ([.lst (gL g), .lst (m.map mvA), .int .i64 z, lI l]), hp := ([]) } o :=
 Scr.ok h mix (
 have c0 := known_c;
 .lp [] [] [(26, hK c0 [] [])] [] [] [0] [0, 1, 2, 9, 10] (aj (u2 (aj (aj (al (c0)) s2) (ak (aj (u2 (u2 (u2 s2))) s2)))) t7)) (by kernel_rfl)
theorem filS0_ok (g : List (List Int)) (m : List MvD) (z : Int) (l : List Int) (o : filPc ⊕ Ret) (h : filS0 g m z l = some o) : Arr Try.prog Try.f5 0 (filSt g m z l) filHd (headC Try.f5 0) (.rnd (headC Try.f5 0) :: headK Try.f5 0) (filSt g m z l (.l0)) o :=
 Scr.ok h mix (
 .rn 1 [] [] [] [] (aj (u2 s2) (ak (al (u2 s2)))) <|
 .gu fun a0 =>
 have c0 := ttight_c (g) a0;
 have c1 := rtight_c (g) a0;
 have c2 := tfill_c (g) (z) a0;
 have c3 := rfill_c (g) (z) a0;
 have c4 := treplay_c (g) (m) a0;
 have c5 := rreplay_c (g) (m) a0;
 .rn 5 [] [] [(79, hK c0 [] []), (85, hK c1 [] []), (92, hK c2 [] []), (98, hK c3 [] []), (104, hK c4 [] []), (110, hK c5 [] [])] [] (ak (aj (u2 (aj (k2 (al (c0))) (u2 (u2 (u2 (u2 (u2 (u2 s2)))))))) (aj (u2 (aj (k2 (al (c1))) (u2 (u2 (u2 (u2 (u2 (u2 s2)))))))) (aj (u2 (u2 (aj (ak (k3 (al (c2)))) (u2 (u2 (u2 (u2 s2))))))) (aj (u2 (u2 (aj (ak (k3 (al (c3)))) (u2 (u2 (u2 (u2 s2))))))) (aj (u2 (u2 (aj (ak (k3 (al (c4)))) (u2 (u2 (u2 (u2 s2))))))) (al (u2 (u2 (aj (ak (k3 (al (c5)))) (u2 (u2 (u2 (u2 s2)))))))))))))) <|
 .br (fun a1 =>
 .rt [233] [] [] [] [] [] (aj (aj (u2 (u2 (aj t3 (u2 (aj a1 (aj a1 (aj a1 (ag a1 (u2 (k3 (aj t3 (u2 (ak (k3 (aj t3 (u2 (ak (k3 (aj t3 (u2 (ak (k3 (aj t3 (u2 (ak (k3 (al t3))))))))))))))))))))))))))) (ak s2)) t2))
 (fun a1 =>
 .br (fun a2 =>
  .rt [232, 243] [] [] [] [] [] (aj (aj (u2 (u2 (aj t3 (u2 (ag a1 (ag a1 (aj (aj a1 t3) (ag a1 (u2 (aj a2 (aj a2 (aj a2 (ag a2 (u2 (ak (k3 (aj t3 (u2 (ak (k3 (aj t3 (u2 (ak (k3 (aj t3 (u2 (ak (k3 (al t3))))))))))))))))))))))))))))) (ak s2)) t2))
 (fun a2 =>
  .br (fun a3 =>
  .rt [232, 242, 253] [] [] [] [] [] (aj (aj (u2 (u2 (aj t3 (u2 (ag a1 (ag a1 (aj (aj a1 t3) (ag a1 (u2 (ag a2 (ag a2 (aj (aj a2 t3) (ag a2 (u2 (aj a3 (aj a3 (aj a3 (aj a3 (ag a3 (u2 (ak (k3 (aj t3 (u2 (ak (k3 (aj t3 (u2 (ak (k3 (al t3))))))))))))))))))))))))))))))) (ak s2)) t2))
  (fun a3 =>
  .gu fun a4 =>
  .br (fun a5 =>
   have c6 := sin_c (cycL g) (cycL g) a4;
   .rt [232, 242, 252, 265] [] [(129, hK c6 [] [])] [] [] [] (aj (aj (u2 (u2 (aj t3 (u2 (ag a1 (ag a1 (aj (aj a1 t3) (ag a1 (u2 (ag a2 (ag a2 (aj (aj a2 t3) (ag a2 (u2 (ag a3 (ag a3 (aj (aj a3 (ak (k3 (al (c6))))) (ag a3 (ag a3 (u2 (aj a5 (aj a5 (aj a5 (aj a5 (ag a5 (u2 (ak (k3 (aj t3 (u2 (ak (k3 (al t3))))))))))))))))))))))))))))))))) (ak s2)) t2))
  (fun a5 =>
   .gu fun a6 =>
   .br (fun a7 =>
   have c6 := sin_c (cycL g) (cycL g) a4;
   have c7 := sin_c (tigR g) (tigR g) a6;
   .rt [232, 242, 252, 264, 277] [] [(129, hK c6 [] []), (135, hK c7 [] [])] [] [] [] (aj (aj (u2 (u2 (aj t3 (u2 (ag a1 (ag a1 (aj (aj a1 t3) (ag a1 (u2 (ag a2 (ag a2 (aj (aj a2 t3) (ag a2 (u2 (ag a3 (ag a3 (aj (aj a3 (ak (k3 (al (c6))))) (ag a3 (ag a3 (u2 (ag a5 (ag a5 (aj (aj a5 (ak (k3 (al (c7))))) (ag a5 (ag a5 (u2 (aj a7 (aj a7 (aj a7 (aj a7 (ag a7 (u2 (ak (k3 (al t3))))))))))))))))))))))))))))))))))) (ak s2)) t2))
   (fun a7 =>
   .gu fun a8 =>
   .br (fun a9 =>
    have c6 := sin_c (cycL g) (cycL g) a4;
    have c7 := sin_c (tigR g) (tigR g) a6;
    have c8 := mvs_c ((fillO g z).fst) ((fillO g z).fst) a8;
    .rt [232, 242, 252, 264, 276, 289] [] [(129, hK c6 [] []), (135, hK c7 [] []), (141, hK c8 [] [1])] [] [] [] (aj (aj (u2 (u2 (aj t3 (u2 (ag a1 (ag a1 (aj (aj a1 t3) (ag a1 (u2 (ag a2 (ag a2 (aj (aj a2 t3) (ag a2 (u2 (ag a3 (ag a3 (aj (aj a3 (ak (k3 (al (c6))))) (ag a3 (ag a3 (u2 (ag a5 (ag a5 (aj (aj a5 (ak (k3 (al (c7))))) (ag a5 (ag a5 (u2 (ag a7 (ag a7 (aj (aj a7 (k3 (aj (show (fillO g z).fst.length = (List.map mvA (fillO g z).fst).length by simp) (aj (c8) (show ∀ (blk : Blk), blk ∈ [] → ImmB blk from (by intro _ h; cases h)))))) (ag a7 (ag a7 (u2 (aj a9 (aj a9 (aj a9 (aj a9 (al (aj a9 t2)))))))))))))))))))))))))))))))))))))) (ak s2)) t2))
   (fun a9 =>
    .gu fun a10 =>
    have c6 := sin_c (cycL g) (cycL g) a4;
    have c7 := sin_c (tigR g) (tigR g) a6;
    have c8 := mvs_c ((fillO g z).fst) ((fillO g z).fst) a8;
    have c9 := sin_c ((repO g m).fst) ((repO g m).fst) a10;
    .rn 0 [232, 242, 252, 264, 276, 288] [] [(129, hK c6 [] []), (135, hK c7 [] []), (141, hK c8 [] [1]), (147, hK c9 [] [2, 3])] [] (al (u2 (u2 (aj t3 (u2 (ag a1 (ag a1 (aj (aj a1 t3) (ag a1 (u2 (ag a2 (ag a2 (aj (aj a2 t3) (ag a2 (u2 (ag a3 (ag a3 (aj (aj a3 (ak (k3 (al (c6))))) (ag a3 (ag a3 (u2 (ag a5 (ag a5 (aj (aj a5 (ak (k3 (al (c7))))) (ag a5 (ag a5 (u2 (ag a7 (ag a7 (aj (aj a7 (k3 (aj (show (fillO g z).fst.length = (List.map mvA (fillO g z).fst).length by simp) (aj (c8) (show ∀ (blk : Blk), blk ∈ [] → ImmB blk from (by intro _ h; cases h)))))) (ag a7 (ag a7 (u2 (ag a9 (ag a9 (aj (aj a9 (k2 (aj (show (repO g m).fst.length = (List.map (iv) (repO g m).fst).length by simp) (aj (show (repO g m).fst.length = (List.map (iv) (repO g m).fst).length by simp) (aj (c9) (show ∀ (blk : Blk), blk ∈ [] → ImmB blk from (by intro _ h; cases h))))))) (ag a9 (al (aj a9 t2))))))))))))))))))))))))))))))))))))))) <|
    .br (fun a11 =>
    .rt [232, 242, 252, 264, 276, 288, 299] [] [] [] [] [] (aj (aj a11 s2) t2))
    (fun a11 =>
    .lp [232, 242, 252, 264, 276, 288, 298] [] [] [] [] [0, 1, 2, 3] [0, 1, 2, 9, 10, 117, 118, 119, 122, 123, 124, 127, 128, 129, 130, 133, 134, 135, 136, 139, 140, 141, 142, 145, 146, 147, 148] (aj (aj a11 (al (u2 (u2 s2)))) (k3 (k5 (k5 (k5 (k5 t9)))))))))))))) (by kernel_rfl)
theorem filS1_ok (g : List (List Int)) (m : List MvD) (z : Int) (l : List Int) (o : filPc ⊕ Ret) (h : filS1 g m z l = some o) : Arr Try.prog Try.f5 0 (filSt g m z l) filHd (headC Try.f5 0) (.rnd (headC Try.f5 0) :: headK Try.f5 0) (filSt g m z l (.l1)) o :=
 Scr.ok h mix (
 have c0 := graph_c (l) (0) (9) (show nat_lit 0 ≤ (100000 : Nat) from (by first | exact Nat.le_of_ble_eq_true rfl | decide)) (show (0 : Int) ≤ (9 : Int) ∧ (9 : Int) ≤ (20 : Int) from ⟨(by first | exact Nat.le_of_ble_eq_true rfl | decide), (by first | exact Nat.le_of_ble_eq_true rfl | decide)⟩);
 .rn 2 [] [] [(38, hK c0 [0] [])] [] (aj (u2 s2) (ak (aj (u2 s2) (ak (al (u2 (aj (ak (k3 (al (c0)))) s2))))))) <|
 .gu fun a0 =>
 have c1 := next_ct (l) (graK l 0 9) (iN (gL (graM l 0 9)).length) a0;
 .rn 0 [] [] [(42, hK c1 [0] [])] [] (al (u2 (u2 (u2 (aj (k5 (al (c1))) s2))))) <|
 .gu fun a1 =>
 have c2 := rfill_c (graM l 0 9) (nextZ l (graK l 0 9) (iN (gL (graM l 0 9)).length)) a1;
 .rn 0 [] [] [(46, hK c2 [] [])] [] (al (u2 (u2 (aj (ak (k3 (al (c2)))) (u2 (u2 (u2 s2))))))) <|
 .br (fun a2 =>
 .gu fun a3 =>
 have c3 := next_ct (l) (graK l 0 9 + 1) (2) a3;
 .rn 0 [105] [] [(54, hK c3 [0] [])] [] (al (u2 (u2 (u2 (u2 (ag a2 (aj (aj a2 (ak (k3 (al (c3))))) (ag a2 (al (aj a2 t2)))))))))) <|
 .br (fun a4 =>
  .gu fun a5 =>
  have c4 := next_ct (l) (graK l 0 9 + 1 + 1) (iN (fillO (graM l 0 9) (nextZ l (graK l 0 9) (iN (gL (graM l 0 9)).length))).fst.length) a5;
  .rn 0 [105, 113] [] [(60, hK c4 [0] [])] [] (aj a4 (al (u2 (u2 (u2 (aj (k5 (al (c4))) s2)))))) <|
  .gu fun a6 =>
  .gu fun a7 =>
  .gu fun a8 =>
  .gu fun a9 =>
  .gu fun a10 =>
  .gu fun a11 =>
  have c5 := next_ct (l) (graK l 0 9 + 1 + 1 + 1) (4) a6;
  have c6 := next_ct (l) (graK l 0 9 + 1 + 1 + 1 + 1) (IntKind.i64.wrap (iN (gL (graM l 0 9)).length + 1)) a7;
  have c7 := next_ct (l) (graK l 0 9 + 1 + 1 + 1 + 1 + 1) (iN (gL (graM l 0 9)).length) a8;
  have c8 := ttight_c (graM l 0 9) a1;
  have c9 := rtight_c (graM l 0 9) a1;
  have c10 := tfill_c (graM l 0 9) (nextZ l (graK l 0 9) (iN (gL (graM l 0 9)).length)) a1;
  have c11 := rfill_c (graM l 0 9) (nextZ l (graK l 0 9) (iN (gL (graM l 0 9)).length)) a1;
  .rn 4 [105] [] [(64, hK c5 [0] []), (69, hK c6 [0] []), (74, hK c7 [0] []), (79, hK c8 [] []), (85, hK c9 [] []), (92, hK c10 [] []), (98, hK c11 [] [])] [] (aj (u2 (u2 (u2 (aj (ak (k3 (al (c5)))) (u2 (u2 (u2 (u2 (aj (k5 (al (c6))) (u2 (u2 (u2 (u2 (aj (k5 (al (c7))) (aj t4 (aj (k2 (aj a9 a10)) (al (k2 a11)))))))))))))))))) (aj (u2 (aj (k2 (al (c8))) (u2 (u2 (u2 (u2 (u2 (u2 s2)))))))) (aj (u2 (aj (k2 (al (c9))) (u2 (u2 (u2 (u2 (u2 (u2 s2)))))))) (aj (u2 (u2 (aj (ak (k3 (al (c10)))) (u2 (u2 (u2 (u2 s2))))))) (al (u2 (u2 (aj (ak (k3 (al (c11)))) (u2 (u2 (u2 (u2 s2)))))))))))) <|
  .gu fun a12 =>
  have c12 := treplay_c (graM l 0 9) ((fillO (graM l 0 9) (nextZ l (graK l 0 9) (iN (gL (graM l 0 9)).length))).fst.set (0 + (nextZ l (graK l 0 9 + 1 + 1) (iN (fillO (graM l 0 9) (nextZ l (graK l 0 9) (iN (gL (graM l 0 9)).length))).fst.length)).toNat) (MvD.mk (nextZ l (graK l 0 9 + 1 + 1 + 1) 4) (IntKind.i64.wrap (nextZ l (graK l 0 9 + 1 + 1 + 1 + 1) (IntKind.i64.wrap (iN (gL (graM l 0 9)).length + 1)) - 1)) (nextZ l (graK l 0 9 + 1 + 1 + 1 + 1 + 1) (iN (gL (graM l 0 9)).length)))) a1;
  have c13 := rreplay_c (graM l 0 9) ((fillO (graM l 0 9) (nextZ l (graK l 0 9) (iN (gL (graM l 0 9)).length))).fst.set (0 + (nextZ l (graK l 0 9 + 1 + 1) (iN (fillO (graM l 0 9) (nextZ l (graK l 0 9) (iN (gL (graM l 0 9)).length))).fst.length)).toNat) (MvD.mk (nextZ l (graK l 0 9 + 1 + 1 + 1) 4) (IntKind.i64.wrap (nextZ l (graK l 0 9 + 1 + 1 + 1 + 1) (IntKind.i64.wrap (iN (gL (graM l 0 9)).length + 1)) - 1)) (nextZ l (graK l 0 9 + 1 + 1 + 1 + 1 + 1) (iN (gL (graM l 0 9)).length)))) a1;
  .rn 1 [105] [] [(104, hK c12 [] [4]), (110, hK c13 [] [4])] [] (aj (u2 (u2 (aj (k3 (aj (show (fillO (graM l 0 9) (nextZ l (graK l 0 9) (iN (gL (graM l 0 9)).length))).fst.length = ((List.map mvA (fillO (graM l 0 9) (nextZ l (graK l 0 9) (iN (gL (graM l 0 9)).length))).fst).set (0 + (nextZ l (graK l 0 9 + 1 + 1) (iN (fillO (graM l 0 9) (nextZ l (graK l 0 9) (iN (gL (graM l 0 9)).length))).fst.length)).toNat) (AV.agg [iv (nextZ l (graK l 0 9 + 1 + 1 + 1) 4), iv (IntKind.i64.wrap (nextZ l (graK l 0 9 + 1 + 1 + 1 + 1) (IntKind.i64.wrap (iN (gL (graM l 0 9)).length + 1)) - 1)), iv (nextZ l (graK l 0 9 + 1 + 1 + 1 + 1 + 1) (iN (gL (graM l 0 9)).length))])).length by simp) (aj (show CT Try.prog 23 [] [AV.lst (gL (graM l 0 9)), AV.lst ((List.map mvA (fillO (graM l 0 9) (nextZ l (graK l 0 9) (iN (gL (graM l 0 9)).length))).fst).set (0 + (nextZ l (graK l 0 9 + 1 + 1) (iN (fillO (graM l 0 9) (nextZ l (graK l 0 9) (iN (gL (graM l 0 9)).length))).fst.length)).toNat) (AV.agg [iv (nextZ l (graK l 0 9 + 1 + 1 + 1) 4), iv (IntKind.i64.wrap (nextZ l (graK l 0 9 + 1 + 1 + 1 + 1) (IntKind.i64.wrap (iN (gL (graM l 0 9)).length + 1)) - 1)), iv (nextZ l (graK l 0 9 + 1 + 1 + 1 + 1 + 1) (iN (gL (graM l 0 9)).length))]))] [some (Blk.mk (List.map (iv) (repO (graM l 0 9) ((fillO (graM l 0 9) (nextZ l (graK l 0 9) (iN (gL (graM l 0 9)).length))).fst.set (0 + (nextZ l (graK l 0 9 + 1 + 1) (iN (fillO (graM l 0 9) (nextZ l (graK l 0 9) (iN (gL (graM l 0 9)).length))).fst.length)).toNat) (MvD.mk (nextZ l (graK l 0 9 + 1 + 1 + 1) 4) (IntKind.i64.wrap (nextZ l (graK l 0 9 + 1 + 1 + 1 + 1) (IntKind.i64.wrap (iN (gL (graM l 0 9)).length + 1)) - 1)) (nextZ l (graK l 0 9 + 1 + 1 + 1 + 1 + 1) (iN (gL (graM l 0 9)).length))))).fst) 1 true true none)] (AV.tup [AV.sl 0 0 (repO (graM l 0 9) ((fillO (graM l 0 9) (nextZ l (graK l 0 9) (iN (gL (graM l 0 9)).length))).fst.set (0 + (nextZ l (graK l 0 9 + 1 + 1) (iN (fillO (graM l 0 9) (nextZ l (graK l 0 9) (iN (gL (graM l 0 9)).length))).fst.length)).toNat) (MvD.mk (nextZ l (graK l 0 9 + 1 + 1 + 1) 4) (IntKind.i64.wrap (nextZ l (graK l 0 9 + 1 + 1 + 1 + 1) (IntKind.i64.wrap (iN (gL (graM l 0 9)).length + 1)) - 1)) (nextZ l (graK l 0 9 + 1 + 1 + 1 + 1 + 1) (iN (gL (graM l 0 9)).length))))).fst.length, iv (repO (graM l 0 9) ((fillO (graM l 0 9) (nextZ l (graK l 0 9) (iN (gL (graM l 0 9)).length))).fst.set (0 + (nextZ l (graK l 0 9 + 1 + 1) (iN (fillO (graM l 0 9) (nextZ l (graK l 0 9) (iN (gL (graM l 0 9)).length))).fst.length)).toNat) (MvD.mk (nextZ l (graK l 0 9 + 1 + 1 + 1) 4) (IntKind.i64.wrap (nextZ l (graK l 0 9 + 1 + 1 + 1 + 1) (IntKind.i64.wrap (iN (gL (graM l 0 9)).length + 1)) - 1)) (nextZ l (graK l 0 9 + 1 + 1 + 1 + 1 + 1) (iN (gL (graM l 0 9)).length))))).snd]) from CT.eqs (c12) (by simp [gL, boL, lI, mvA]) (by simp [gL, boL, lI, mvA])) a12))) (u2 (u2 (u2 (u2 s2))))))) (al (u2 (u2 (aj (k3 (aj (show (fillO (graM l 0 9) (nextZ l (graK l 0 9) (iN (gL (graM l 0 9)).length))).fst.length = ((List.map mvA (fillO (graM l 0 9) (nextZ l (graK l 0 9) (iN (gL (graM l 0 9)).length))).fst).set (0 + (nextZ l (graK l 0 9 + 1 + 1) (iN (fillO (graM l 0 9) (nextZ l (graK l 0 9) (iN (gL (graM l 0 9)).length))).fst.length)).toNat) (AV.agg [iv (nextZ l (graK l 0 9 + 1 + 1 + 1) 4), iv (IntKind.i64.wrap (nextZ l (graK l 0 9 + 1 + 1 + 1 + 1) (IntKind.i64.wrap (iN (gL (graM l 0 9)).length + 1)) - 1)), iv (nextZ l (graK l 0 9 + 1 + 1 + 1 + 1 + 1) (iN (gL (graM l 0 9)).length))])).length by simp) (aj (show CT Try.prog 30 [] [AV.lst (gL (graM l 0 9)), AV.lst ((List.map mvA (fillO (graM l 0 9) (nextZ l (graK l 0 9) (iN (gL (graM l 0 9)).length))).fst).set (0 + (nextZ l (graK l 0 9 + 1 + 1) (iN (fillO (graM l 0 9) (nextZ l (graK l 0 9) (iN (gL (graM l 0 9)).length))).fst.length)).toNat) (AV.agg [iv (nextZ l (graK l 0 9 + 1 + 1 + 1) 4), iv (IntKind.i64.wrap (nextZ l (graK l 0 9 + 1 + 1 + 1 + 1) (IntKind.i64.wrap (iN (gL (graM l 0 9)).length + 1)) - 1)), iv (nextZ l (graK l 0 9 + 1 + 1 + 1 + 1 + 1) (iN (gL (graM l 0 9)).length))]))] [some (Blk.mk (List.map (iv) (repO (graM l 0 9) ((fillO (graM l 0 9) (nextZ l (graK l 0 9) (iN (gL (graM l 0 9)).length))).fst.set (0 + (nextZ l (graK l 0 9 + 1 + 1) (iN (fillO (graM l 0 9) (nextZ l (graK l 0 9) (iN (gL (graM l 0 9)).length))).fst.length)).toNat) (MvD.mk (nextZ l (graK l 0 9 + 1 + 1 + 1) 4) (IntKind.i64.wrap (nextZ l (graK l 0 9 + 1 + 1 + 1 + 1) (IntKind.i64.wrap (iN (gL (graM l 0 9)).length + 1)) - 1)) (nextZ l (graK l 0 9 + 1 + 1 + 1 + 1 + 1) (iN (gL (graM l 0 9)).length))))).fst) 1 true true none)] (AV.tup [AV.sl 0 0 (repO (graM l 0 9) ((fillO (graM l 0 9) (nextZ l (graK l 0 9) (iN (gL (graM l 0 9)).length))).fst.set (0 + (nextZ l (graK l 0 9 + 1 + 1) (iN (fillO (graM l 0 9) (nextZ l (graK l 0 9) (iN (gL (graM l 0 9)).length))).fst.length)).toNat) (MvD.mk (nextZ l (graK l 0 9 + 1 + 1 + 1) 4) (IntKind.i64.wrap (nextZ l (graK l 0 9 + 1 + 1 + 1 + 1) (IntKind.i64.wrap (iN (gL (graM l 0 9)).length + 1)) - 1)) (nextZ l (graK l 0 9 + 1 + 1 + 1 + 1 + 1) (iN (gL (graM l 0 9)).length))))).fst.length, iv (repO (graM l 0 9) ((fillO (graM l 0 9) (nextZ l (graK l 0 9) (iN (gL (graM l 0 9)).length))).fst.set (0 + (nextZ l (graK l 0 9 + 1 + 1) (iN (fillO (graM l 0 9) (nextZ l (graK l 0 9) (iN (gL (graM l 0 9)).length))).fst.length)).toNat) (MvD.mk (nextZ l (graK l 0 9 + 1 + 1 + 1) 4) (IntKind.i64.wrap (nextZ l (graK l 0 9 + 1 + 1 + 1 + 1) (IntKind.i64.wrap (iN (gL (graM l 0 9)).length + 1)) - 1)) (nextZ l (graK l 0 9 + 1 + 1 + 1 + 1 + 1) (iN (gL (graM l 0 9)).length))))).snd]) from CT.eqs (c13) (by simp [gL, boL, lI, mvA]) (by simp [gL, boL, lI, mvA])) a12))) (u2 (u2 (u2 (u2 s2))))))))) <|
  .br (fun a13 =>
  .rt [105, 233] [] [] [] [] [] (aj (aj (u2 (u2 (aj t3 (u2 (aj a13 (aj a13 (aj a13 (ag a13 (u2 (k3 (aj t3 (u2 (ak (k3 (aj t3 (u2 (ak (k3 (aj t3 (u2 (ak (k3 (aj t3 (u2 (ak (k3 (al t3))))))))))))))))))))))))))) (ak s2)) t2))
  (fun a13 =>
  .br (fun a14 =>
   .rt [105, 232, 243] [] [] [] [] [] (aj (aj (u2 (u2 (aj t3 (u2 (ag a13 (ag a13 (aj (aj a13 t3) (ag a13 (u2 (aj a14 (aj a14 (aj a14 (ag a14 (u2 (ak (k3 (aj t3 (u2 (ak (k3 (aj t3 (u2 (ak (k3 (aj t3 (u2 (ak (k3 (al t3))))))))))))))))))))))))))))) (ak s2)) t2))
  (fun a14 =>
   .br (fun a15 =>
   .rt [105, 232, 242, 253] [] [] [] [] [] (aj (aj (u2 (u2 (aj t3 (u2 (ag a13 (ag a13 (aj (aj a13 t3) (ag a13 (u2 (ag a14 (ag a14 (aj (aj a14 t3) (ag a14 (u2 (aj a15 (aj a15 (aj a15 (aj a15 (ag a15 (u2 (ak (k3 (aj t3 (u2 (ak (k3 (aj t3 (u2 (ak (k3 (al t3))))))))))))))))))))))))))))))) (ak s2)) t2))
   (fun a15 =>
   .gu fun a16 =>
   .br (fun a17 =>
    have c14 := sin_c (cycL (graM l 0 9)) (cycL (graM l 0 9)) a16;
    .rt [105, 232, 242, 252, 265] [] [(129, hK c14 [] [])] [] [] [] (aj (aj (u2 (u2 (aj t3 (u2 (ag a13 (ag a13 (aj (aj a13 t3) (ag a13 (u2 (ag a14 (ag a14 (aj (aj a14 t3) (ag a14 (u2 (ag a15 (ag a15 (aj (aj a15 (ak (k3 (al (c14))))) (ag a15 (ag a15 (u2 (aj a17 (aj a17 (aj a17 (aj a17 (ag a17 (u2 (ak (k3 (aj t3 (u2 (ak (k3 (al t3))))))))))))))))))))))))))))))))) (ak s2)) t2))
   (fun a17 =>
    .gu fun a18 =>
    .br (fun a19 =>
    have c14 := sin_c (cycL (graM l 0 9)) (cycL (graM l 0 9)) a16;
    have c15 := sin_c (tigR (graM l 0 9)) (tigR (graM l 0 9)) a18;
    .rt [105, 232, 242, 252, 264, 277] [] [(129, hK c14 [] []), (135, hK c15 [] [])] [] [] [] (aj (aj (u2 (u2 (aj t3 (u2 (ag a13 (ag a13 (aj (aj a13 t3) (ag a13 (u2 (ag a14 (ag a14 (aj (aj a14 t3) (ag a14 (u2 (ag a15 (ag a15 (aj (aj a15 (ak (k3 (al (c14))))) (ag a15 (ag a15 (u2 (ag a17 (ag a17 (aj (aj a17 (ak (k3 (al (c15))))) (ag a17 (ag a17 (u2 (aj a19 (aj a19 (aj a19 (aj a19 (ag a19 (u2 (ak (k3 (al t3))))))))))))))))))))))))))))))))))) (ak s2)) t2))
    (fun a19 =>
    .gu fun a20 =>
    .br (fun a21 =>
     have c14 := sin_c (cycL (graM l 0 9)) (cycL (graM l 0 9)) a16;
     have c15 := sin_c (tigR (graM l 0 9)) (tigR (graM l 0 9)) a18;
     have c16 := mvs_c ((fillO (graM l 0 9) (nextZ l (graK l 0 9) (iN (gL (graM l 0 9)).length))).fst) ((fillO (graM l 0 9) (nextZ l (graK l 0 9) (iN (gL (graM l 0 9)).length))).fst) a20;
     .rt [105, 232, 242, 252, 264, 276, 289] [] [(129, hK c14 [] []), (135, hK c15 [] []), (141, hK c16 [] [5])] [] [] [] (aj (aj (u2 (u2 (aj t3 (u2 (ag a13 (ag a13 (aj (aj a13 t3) (ag a13 (u2 (ag a14 (ag a14 (aj (aj a14 t3) (ag a14 (u2 (ag a15 (ag a15 (aj (aj a15 (ak (k3 (al (c14))))) (ag a15 (ag a15 (u2 (ag a17 (ag a17 (aj (aj a17 (ak (k3 (al (c15))))) (ag a17 (ag a17 (u2 (ag a19 (ag a19 (aj (aj a19 (k3 (aj (show (fillO (graM l 0 9) (nextZ l (graK l 0 9) (iN (gL (graM l 0 9)).length))).fst.length = (List.map mvA (fillO (graM l 0 9) (nextZ l (graK l 0 9) (iN (gL (graM l 0 9)).length))).fst).length by simp) (aj (c16) (show ∀ (blk : Blk), blk ∈ [] → ImmB blk from (by intro _ h; cases h)))))) (ag a19 (ag a19 (u2 (aj a21 (aj a21 (aj a21 (aj a21 (al (aj a21 t2)))))))))))))))))))))))))))))))))))))) (ak s2)) t2))
    (fun a21 =>
     .gu fun a22 =>
     have c14 := sin_c (cycL (graM l 0 9)) (cycL (graM l 0 9)) a16;
     have c15 := sin_c (tigR (graM l 0 9)) (tigR (graM l 0 9)) a18;
     have c16 := mvs_c ((fillO (graM l 0 9) (nextZ l (graK l 0 9) (iN (gL (graM l 0 9)).length))).fst) ((fillO (graM l 0 9) (nextZ l (graK l 0 9) (iN (gL (graM l 0 9)).length))).fst) a20;
     have c17 := sin_c ((repO (graM l 0 9) ((fillO (graM l 0 9) (nextZ l (graK l 0 9) (iN (gL (graM l 0 9)).length))).fst.set (0 + (nextZ l (graK l 0 9 + 1 + 1) (iN (fillO (graM l 0 9) (nextZ l (graK l 0 9) (iN (gL (graM l 0 9)).length))).fst.length)).toNat) (MvD.mk (nextZ l (graK l 0 9 + 1 + 1 + 1) 4) (IntKind.i64.wrap (nextZ l (graK l 0 9 + 1 + 1 + 1 + 1) (IntKind.i64.wrap (iN (gL (graM l 0 9)).length + 1)) - 1)) (nextZ l (graK l 0 9 + 1 + 1 + 1 + 1 + 1) (iN (gL (graM l 0 9)).length))))).fst) ((repO (graM l 0 9) ((fillO (graM l 0 9) (nextZ l (graK l 0 9) (iN (gL (graM l 0 9)).length))).fst.set (0 + (nextZ l (graK l 0 9 + 1 + 1) (iN (fillO (graM l 0 9) (nextZ l (graK l 0 9) (iN (gL (graM l 0 9)).length))).fst.length)).toNat) (MvD.mk (nextZ l (graK l 0 9 + 1 + 1 + 1) 4) (IntKind.i64.wrap (nextZ l (graK l 0 9 + 1 + 1 + 1 + 1) (IntKind.i64.wrap (iN (gL (graM l 0 9)).length + 1)) - 1)) (nextZ l (graK l 0 9 + 1 + 1 + 1 + 1 + 1) (iN (gL (graM l 0 9)).length))))).fst) a22;
     .rn 0 [105, 232, 242, 252, 264, 276, 288] [] [(129, hK c14 [] []), (135, hK c15 [] []), (141, hK c16 [] [5]), (147, hK c17 [] [6, 7])] [] (al (u2 (u2 (aj t3 (u2 (ag a13 (ag a13 (aj (aj a13 t3) (ag a13 (u2 (ag a14 (ag a14 (aj (aj a14 t3) (ag a14 (u2 (ag a15 (ag a15 (aj (aj a15 (ak (k3 (al (c14))))) (ag a15 (ag a15 (u2 (ag a17 (ag a17 (aj (aj a17 (ak (k3 (al (c15))))) (ag a17 (ag a17 (u2 (ag a19 (ag a19 (aj (aj a19 (k3 (aj (show (fillO (graM l 0 9) (nextZ l (graK l 0 9) (iN (gL (graM l 0 9)).length))).fst.length = (List.map mvA (fillO (graM l 0 9) (nextZ l (graK l 0 9) (iN (gL (graM l 0 9)).length))).fst).length by simp) (aj (c16) (show ∀ (blk : Blk), blk ∈ [] → ImmB blk from (by intro _ h; cases h)))))) (ag a19 (ag a19 (u2 (ag a21 (ag a21 (aj (aj a21 (k2 (aj (show (repO (graM l 0 9) ((fillO (graM l 0 9) (nextZ l (graK l 0 9) (iN (gL (graM l 0 9)).length))).fst.set (0 + (nextZ l (graK l 0 9 + 1 + 1) (iN (fillO (graM l 0 9) (nextZ l (graK l 0 9) (iN (gL (graM l 0 9)).length))).fst.length)).toNat) (MvD.mk (nextZ l (graK l 0 9 + 1 + 1 + 1) 4) (IntKind.i64.wrap (nextZ l (graK l 0 9 + 1 + 1 + 1 + 1) (IntKind.i64.wrap (iN (gL (graM l 0 9)).length + 1)) - 1)) (nextZ l (graK l 0 9 + 1 + 1 + 1 + 1 + 1) (iN (gL (graM l 0 9)).length))))).fst.length = (List.map (iv) (repO (graM l 0 9) ((fillO (graM l 0 9) (nextZ l (graK l 0 9) (iN (gL (graM l 0 9)).length))).fst.set (0 + (nextZ l (graK l 0 9 + 1 + 1) (iN (fillO (graM l 0 9) (nextZ l (graK l 0 9) (iN (gL (graM l 0 9)).length))).fst.length)).toNat) (MvD.mk (nextZ l (graK l 0 9 + 1 + 1 + 1) 4) (IntKind.i64.wrap (nextZ l (graK l 0 9 + 1 + 1 + 1 + 1) (IntKind.i64.wrap (iN (gL (graM l 0 9)).length + 1)) - 1)) (nextZ l (graK l 0 9 + 1 + 1 + 1 + 1 + 1) (iN (gL (graM l 0 9)).length))))).fst).length by simp) (aj (show (repO (graM l 0 9) ((fillO (graM l 0 9) (nextZ l (graK l 0 9) (iN (gL (graM l 0 9)).length))).fst.set (0 + (nextZ l (graK l 0 9 + 1 + 1) (iN (fillO (graM l 0 9) (nextZ l (graK l 0 9) (iN (gL (graM l 0 9)).length))).fst.length)).toNat) (MvD.mk (nextZ l (graK l 0 9 + 1 + 1 + 1) 4) (IntKind.i64.wrap (nextZ l (graK l 0 9 + 1 + 1 + 1 + 1) (IntKind.i64.wrap (iN (gL (graM l 0 9)).length + 1)) - 1)) (nextZ l (graK l 0 9 + 1 + 1 + 1 + 1 + 1) (iN (gL (graM l 0 9)).length))))).fst.length = (List.map (iv) (repO (graM l 0 9) ((fillO (graM l 0 9) (nextZ l (graK l 0 9) (iN (gL (graM l 0 9)).length))).fst.set (0 + (nextZ l (graK l 0 9 + 1 + 1) (iN (fillO (graM l 0 9) (nextZ l (graK l 0 9) (iN (gL (graM l 0 9)).length))).fst.length)).toNat) (MvD.mk (nextZ l (graK l 0 9 + 1 + 1 + 1) 4) (IntKind.i64.wrap (nextZ l (graK l 0 9 + 1 + 1 + 1 + 1) (IntKind.i64.wrap (iN (gL (graM l 0 9)).length + 1)) - 1)) (nextZ l (graK l 0 9 + 1 + 1 + 1 + 1 + 1) (iN (gL (graM l 0 9)).length))))).fst).length by simp) (aj (c17) (show ∀ (blk : Blk), blk ∈ [] → ImmB blk from (by intro _ h; cases h))))))) (ag a21 (al (aj a21 t2))))))))))))))))))))))))))))))))))))))) <|
     .br (fun a23 =>
     .rt [105, 232, 242, 252, 264, 276, 288, 299] [] [] [] [] [] (aj (aj a23 s2) t2))
     (fun a23 =>
     .lq [105, 232, 242, 252, 264, 276, 288, 298] [] [] [] [] [4, 0, 5, 6, 7] [0, 1, 2, 9, 10, 117, 118, 119, 122, 123, 124, 127, 128, 129, 130, 133, 134, 135, 136, 139, 140, 141, 142, 145, 146, 147, 148] (up [(1, AV.sl 0 0 (fillO (graM l 0 9) (nextZ l (graK l 0 9) (iN (gL (graM l 0 9)).length))).fst.length)] [(0, (List.map mvA (fillO (graM l 0 9) (nextZ l (graK l 0 9) (iN (gL (graM l 0 9)).length))).fst).set (0 + (nextZ l (graK l 0 9 + 1 + 1) (iN (fillO (graM l 0 9) (nextZ l (graK l 0 9) (iN (gL (graM l 0 9)).length))).fst.length)).toNat) (AV.agg [iv (nextZ l (graK l 0 9 + 1 + 1 + 1) 4), iv (IntKind.i64.wrap (nextZ l (graK l 0 9 + 1 + 1 + 1 + 1) (IntKind.i64.wrap (iN (gL (graM l 0 9)).length + 1)) - 1)), iv (nextZ l (graK l 0 9 + 1 + 1 + 1 + 1 + 1) (iN (gL (graM l 0 9)).length))]))] (filSt g m z l (.l2 ((fillO (graM l 0 9) (nextZ l (graK l 0 9) (iN (gL (graM l 0 9)).length))).fst.set (0 + (nextZ l (graK l 0 9 + 1 + 1) (iN (fillO (graM l 0 9) (nextZ l (graK l 0 9) (iN (gL (graM l 0 9)).length))).fst.length)).toNat) (MvD.mk (nextZ l (graK l 0 9 + 1 + 1 + 1) 4) (IntKind.i64.wrap (nextZ l (graK l 0 9 + 1 + 1 + 1 + 1) (IntKind.i64.wrap (iN (gL (graM l 0 9)).length + 1)) - 1)) (nextZ l (graK l 0 9 + 1 + 1 + 1 + 1 + 1) (iN (gL (graM l 0 9)).length)))) (repO (graM l 0 9) ((fillO (graM l 0 9) (nextZ l (graK l 0 9) (iN (gL (graM l 0 9)).length))).fst.set (0 + (nextZ l (graK l 0 9 + 1 + 1) (iN (fillO (graM l 0 9) (nextZ l (graK l 0 9) (iN (gL (graM l 0 9)).length))).fst.length)).toNat) (MvD.mk (nextZ l (graK l 0 9 + 1 + 1 + 1) 4) (IntKind.i64.wrap (nextZ l (graK l 0 9 + 1 + 1 + 1 + 1) (IntKind.i64.wrap (iN (gL (graM l 0 9)).length + 1)) - 1)) (nextZ l (graK l 0 9 + 1 + 1 + 1 + 1 + 1) (iN (gL (graM l 0 9)).length))))) ((repO (graM l 0 9) ((fillO (graM l 0 9) (nextZ l (graK l 0 9) (iN (gL (graM l 0 9)).length))).fst.set (0 + (nextZ l (graK l 0 9 + 1 + 1) (iN (fillO (graM l 0 9) (nextZ l (graK l 0 9) (iN (gL (graM l 0 9)).length))).fst.length)).toNat) (MvD.mk (nextZ l (graK l 0 9 + 1 + 1 + 1) 4) (IntKind.i64.wrap (nextZ l (graK l 0 9 + 1 + 1 + 1 + 1) (IntKind.i64.wrap (iN (gL (graM l 0 9)).length + 1)) - 1)) (nextZ l (graK l 0 9 + 1 + 1 + 1 + 1 + 1) (iN (gL (graM l 0 9)).length))))).snd != (repO (graM l 0 9) ((fillO (graM l 0 9) (nextZ l (graK l 0 9) (iN (gL (graM l 0 9)).length))).fst.set (0 + (nextZ l (graK l 0 9 + 1 + 1) (iN (fillO (graM l 0 9) (nextZ l (graK l 0 9) (iN (gL (graM l 0 9)).length))).fst.length)).toNat) (MvD.mk (nextZ l (graK l 0 9 + 1 + 1 + 1) 4) (IntKind.i64.wrap (nextZ l (graK l 0 9 + 1 + 1 + 1 + 1) (IntKind.i64.wrap (iN (gL (graM l 0 9)).length + 1)) - 1)) (nextZ l (graK l 0 9 + 1 + 1 + 1 + 1 + 1) (iN (gL (graM l 0 9)).length))))).snd) (decide ((repO (graM l 0 9) ((fillO (graM l 0 9) (nextZ l (graK l 0 9) (iN (gL (graM l 0 9)).length))).fst.set (0 + (nextZ l (graK l 0 9 + 1 + 1) (iN (fillO (graM l 0 9) (nextZ l (graK l 0 9) (iN (gL (graM l 0 9)).length))).fst.length)).toNat) (MvD.mk (nextZ l (graK l 0 9 + 1 + 1 + 1) 4) (IntKind.i64.wrap (nextZ l (graK l 0 9 + 1 + 1 + 1 + 1) (IntKind.i64.wrap (iN (gL (graM l 0 9)).length + 1)) - 1)) (nextZ l (graK l 0 9 + 1 + 1 + 1 + 1 + 1) (iN (gL (graM l 0 9)).length))))).fst = (repO (graM l 0 9) ((fillO (graM l 0 9) (nextZ l (graK l 0 9) (iN (gL (graM l 0 9)).length))).fst.set (0 + (nextZ l (graK l 0 9 + 1 + 1) (iN (fillO (graM l 0 9) (nextZ l (graK l 0 9) (iN (gL (graM l 0 9)).length))).fst.length)).toNat) (MvD.mk (nextZ l (graK l 0 9 + 1 + 1 + 1) 4) (IntKind.i64.wrap (nextZ l (graK l 0 9 + 1 + 1 + 1 + 1) (IntKind.i64.wrap (iN (gL (graM l 0 9)).length + 1)) - 1)) (nextZ l (graK l 0 9 + 1 + 1 + 1 + 1 + 1) (iN (gL (graM l 0 9)).length))))).fst)) (!decide ((repO (graM l 0 9) ((fillO (graM l 0 9) (nextZ l (graK l 0 9) (iN (gL (graM l 0 9)).length))).fst.set (0 + (nextZ l (graK l 0 9 + 1 + 1) (iN (fillO (graM l 0 9) (nextZ l (graK l 0 9) (iN (gL (graM l 0 9)).length))).fst.length)).toNat) (MvD.mk (nextZ l (graK l 0 9 + 1 + 1 + 1) 4) (IntKind.i64.wrap (nextZ l (graK l 0 9 + 1 + 1 + 1 + 1) (IntKind.i64.wrap (iN (gL (graM l 0 9)).length + 1)) - 1)) (nextZ l (graK l 0 9 + 1 + 1 + 1 + 1 + 1) (iN (gL (graM l 0 9)).length))))).fst = (repO (graM l 0 9) ((fillO (graM l 0 9) (nextZ l (graK l 0 9) (iN (gL (graM l 0 9)).length))).fst.set (0 + (nextZ l (graK l 0 9 + 1 + 1) (iN (fillO (graM l 0 9) (nextZ l (graK l 0 9) (iN (gL (graM l 0 9)).length))).fst.length)).toNat) (MvD.mk (nextZ l (graK l 0 9 + 1 + 1 + 1) 4) (IntKind.i64.wrap (nextZ l (graK l 0 9 + 1 + 1 + 1 + 1) (IntKind.i64.wrap (iN (gL (graM l 0 9)).length + 1)) - 1)) (nextZ l (graK l 0 9 + 1 + 1 + 1 + 1 + 1) (iN (gL (graM l 0 9)).length))))).fst)) (graK l 0 9 + 1 + 1 + 1 + 1 + 1 + 1)))) (aj (aj a23 (al (u2 (u2 s2)))) (ak (k3 (k5 (k5 (k5 (k5 t9))))))) (by simp [up, upF, upV, upH, upB, filSt, gL, boL, lI, mvA])))))))))
 (fun a4 =>
  have c4 := ttight_c (graM l 0 9) a1;
  have c5 := rtight_c (graM l 0 9) a1;
  have c6 := tfill_c (graM l 0 9) (nextZ l (graK l 0 9) (iN (gL (graM l 0 9)).length)) a1;
  have c7 := rfill_c (graM l 0 9) (nextZ l (graK l 0 9) (iN (gL (graM l 0 9)).length)) a1;
  .rn 3 [105, 112] [] [(79, hK c4 [] []), (85, hK c5 [] []), (92, hK c6 [] []), (98, hK c7 [] [])] [] (aj a4 (aj (u2 (aj (k2 (al (c4))) (u2 (u2 (u2 (u2 (u2 (u2 s2)))))))) (aj (u2 (aj (k2 (al (c5))) (u2 (u2 (u2 (u2 (u2 (u2 s2)))))))) (aj (u2 (u2 (aj (ak (k3 (al (c6)))) (u2 (u2 (u2 (u2 s2))))))) (al (u2 (u2 (aj (ak (k3 (al (c7)))) (u2 (u2 (u2 (u2 s2)))))))))))) <|
  .gu fun a5 =>
  have c8 := treplay_c (graM l 0 9) ((fillO (graM l 0 9) (nextZ l (graK l 0 9) (iN (gL (graM l 0 9)).length))).fst) a1;
  have c9 := rreplay_c (graM l 0 9) ((fillO (graM l 0 9) (nextZ l (graK l 0 9) (iN (gL (graM l 0 9)).length))).fst) a1;
  .rn 1 [105] [] [(104, hK c8 [] [4]), (110, hK c9 [] [4])] [] (aj (u2 (u2 (aj (k3 (aj (show (fillO (graM l 0 9) (nextZ l (graK l 0 9) (iN (gL (graM l 0 9)).length))).fst.length = (List.map mvA (fillO (graM l 0 9) (nextZ l (graK l 0 9) (iN (gL (graM l 0 9)).length))).fst).length by simp) (aj (c8) a5))) (u2 (u2 (u2 (u2 s2))))))) (al (u2 (u2 (aj (k3 (aj (show (fillO (graM l 0 9) (nextZ l (graK l 0 9) (iN (gL (graM l 0 9)).length))).fst.length = (List.map mvA (fillO (graM l 0 9) (nextZ l (graK l 0 9) (iN (gL (graM l 0 9)).length))).fst).length by simp) (aj (c9) a5))) (u2 (u2 (u2 (u2 s2))))))))) <|
  .br (fun a6 =>
  .rt [105, 233] [] [] [] [] [] (aj (aj (u2 (u2 (aj t3 (u2 (aj a6 (aj a6 (aj a6 (ag a6 (u2 (k3 (aj t3 (u2 (ak (k3 (aj t3 (u2 (ak (k3 (aj t3 (u2 (ak (k3 (aj t3 (u2 (ak (k3 (al t3))))))))))))))))))))))))))) (ak s2)) t2))
  (fun a6 =>
  .br (fun a7 =>
   .rt [105, 232, 243] [] [] [] [] [] (aj (aj (u2 (u2 (aj t3 (u2 (ag a6 (ag a6 (aj (aj a6 t3) (ag a6 (u2 (aj a7 (aj a7 (aj a7 (ag a7 (u2 (ak (k3 (aj t3 (u2 (ak (k3 (aj t3 (u2 (ak (k3 (aj t3 (u2 (ak (k3 (al t3))))))))))))))))))))))))))))) (ak s2)) t2))
  (fun a7 =>
   .br (fun a8 =>
   .rt [105, 232, 242, 253] [] [] [] [] [] (aj (aj (u2 (u2 (aj t3 (u2 (ag a6 (ag a6 (aj (aj a6 t3) (ag a6 (u2 (ag a7 (ag a7 (aj (aj a7 t3) (ag a7 (u2 (aj a8 (aj a8 (aj a8 (aj a8 (ag a8 (u2 (ak (k3 (aj t3 (u2 (ak (k3 (aj t3 (u2 (ak (k3 (al t3))))))))))))))))))))))))))))))) (ak s2)) t2))
   (fun a8 =>
   .gu fun a9 =>
   .br (fun a10 =>
    have c10 := sin_c (cycL (graM l 0 9)) (cycL (graM l 0 9)) a9;
    .rt [105, 232, 242, 252, 265] [] [(129, hK c10 [] [])] [] [] [] (aj (aj (u2 (u2 (aj t3 (u2 (ag a6 (ag a6 (aj (aj a6 t3) (ag a6 (u2 (ag a7 (ag a7 (aj (aj a7 t3) (ag a7 (u2 (ag a8 (ag a8 (aj (aj a8 (ak (k3 (al (c10))))) (ag a8 (ag a8 (u2 (aj a10 (aj a10 (aj a10 (aj a10 (ag a10 (u2 (ak (k3 (aj t3 (u2 (ak (k3 (al t3))))))))))))))))))))))))))))))))) (ak s2)) t2))
   (fun a10 =>
    .gu fun a11 =>
    .br (fun a12 =>
    have c10 := sin_c (cycL (graM l 0 9)) (cycL (graM l 0 9)) a9;
    have c11 := sin_c (tigR (graM l 0 9)) (tigR (graM l 0 9)) a11;
    .rt [105, 232, 242, 252, 264, 277] [] [(129, hK c10 [] []), (135, hK c11 [] [])] [] [] [] (aj (aj (u2 (u2 (aj t3 (u2 (ag a6 (ag a6 (aj (aj a6 t3) (ag a6 (u2 (ag a7 (ag a7 (aj (aj a7 t3) (ag a7 (u2 (ag a8 (ag a8 (aj (aj a8 (ak (k3 (al (c10))))) (ag a8 (ag a8 (u2 (ag a10 (ag a10 (aj (aj a10 (ak (k3 (al (c11))))) (ag a10 (ag a10 (u2 (aj a12 (aj a12 (aj a12 (aj a12 (ag a12 (u2 (ak (k3 (al t3))))))))))))))))))))))))))))))))))) (ak s2)) t2))
    (fun a12 =>
    .gu fun a13 =>
    .br (fun a14 =>
     have c10 := sin_c (cycL (graM l 0 9)) (cycL (graM l 0 9)) a9;
     have c11 := sin_c (tigR (graM l 0 9)) (tigR (graM l 0 9)) a11;
     have c12 := mvs_c ((fillO (graM l 0 9) (nextZ l (graK l 0 9) (iN (gL (graM l 0 9)).length))).fst) ((fillO (graM l 0 9) (nextZ l (graK l 0 9) (iN (gL (graM l 0 9)).length))).fst) a13;
     .rt [105, 232, 242, 252, 264, 276, 289] [] [(129, hK c10 [] []), (135, hK c11 [] []), (141, hK c12 [] [5])] [] [] [] (aj (aj (u2 (u2 (aj t3 (u2 (ag a6 (ag a6 (aj (aj a6 t3) (ag a6 (u2 (ag a7 (ag a7 (aj (aj a7 t3) (ag a7 (u2 (ag a8 (ag a8 (aj (aj a8 (ak (k3 (al (c10))))) (ag a8 (ag a8 (u2 (ag a10 (ag a10 (aj (aj a10 (ak (k3 (al (c11))))) (ag a10 (ag a10 (u2 (ag a12 (ag a12 (aj (aj a12 (k3 (aj (show (fillO (graM l 0 9) (nextZ l (graK l 0 9) (iN (gL (graM l 0 9)).length))).fst.length = (List.map mvA (fillO (graM l 0 9) (nextZ l (graK l 0 9) (iN (gL (graM l 0 9)).length))).fst).length by simp) (aj (c12) (show ∀ (blk : Blk), blk ∈ [] → ImmB blk from (by intro _ h; cases h)))))) (ag a12 (ag a12 (u2 (aj a14 (aj a14 (aj a14 (aj a14 (al (aj a14 t2)))))))))))))))))))))))))))))))))))))) (ak s2)) t2))
    (fun a14 =>
     .gu fun a15 =>
     have c10 := sin_c (cycL (graM l 0 9)) (cycL (graM l 0 9)) a9;
     have c11 := sin_c (tigR (graM l 0 9)) (tigR (graM l 0 9)) a11;
     have c12 := mvs_c ((fillO (graM l 0 9) (nextZ l (graK l 0 9) (iN (gL (graM l 0 9)).length))).fst) ((fillO (graM l 0 9) (nextZ l (graK l 0 9) (iN (gL (graM l 0 9)).length))).fst) a13;
     have c13 := sin_c ((repO (graM l 0 9) (fillO (graM l 0 9) (nextZ l (graK l 0 9) (iN (gL (graM l 0 9)).length))).fst).fst) ((repO (graM l 0 9) (fillO (graM l 0 9) (nextZ l (graK l 0 9) (iN (gL (graM l 0 9)).length))).fst).fst) a15;
     .rn 0 [105, 232, 242, 252, 264, 276, 288] [] [(129, hK c10 [] []), (135, hK c11 [] []), (141, hK c12 [] [5]), (147, hK c13 [] [6, 7])] [] (al (u2 (u2 (aj t3 (u2 (ag a6 (ag a6 (aj (aj a6 t3) (ag a6 (u2 (ag a7 (ag a7 (aj (aj a7 t3) (ag a7 (u2 (ag a8 (ag a8 (aj (aj a8 (ak (k3 (al (c10))))) (ag a8 (ag a8 (u2 (ag a10 (ag a10 (aj (aj a10 (ak (k3 (al (c11))))) (ag a10 (ag a10 (u2 (ag a12 (ag a12 (aj (aj a12 (k3 (aj (show (fillO (graM l 0 9) (nextZ l (graK l 0 9) (iN (gL (graM l 0 9)).length))).fst.length = (List.map mvA (fillO (graM l 0 9) (nextZ l (graK l 0 9) (iN (gL (graM l 0 9)).length))).fst).length by simp) (aj (c12) (show ∀ (blk : Blk), blk ∈ [] → ImmB blk from (by intro _ h; cases h)))))) (ag a12 (ag a12 (u2 (ag a14 (ag a14 (aj (aj a14 (k2 (aj (show (repO (graM l 0 9) (fillO (graM l 0 9) (nextZ l (graK l 0 9) (iN (gL (graM l 0 9)).length))).fst).fst.length = (List.map (iv) (repO (graM l 0 9) (fillO (graM l 0 9) (nextZ l (graK l 0 9) (iN (gL (graM l 0 9)).length))).fst).fst).length by simp) (aj (show (repO (graM l 0 9) (fillO (graM l 0 9) (nextZ l (graK l 0 9) (iN (gL (graM l 0 9)).length))).fst).fst.length = (List.map (iv) (repO (graM l 0 9) (fillO (graM l 0 9) (nextZ l (graK l 0 9) (iN (gL (graM l 0 9)).length))).fst).fst).length by simp) (aj (c13) (show ∀ (blk : Blk), blk ∈ [] → ImmB blk from (by intro _ h; cases h))))))) (ag a14 (al (aj a14 t2))))))))))))))))))))))))))))))))))))))) <|
     .br (fun a16 =>
     .rt [105, 232, 242, 252, 264, 276, 288, 299] [] [] [] [] [] (aj (aj a16 s2) t2))
     (fun a16 =>
     .lp [105, 232, 242, 252, 264, 276, 288, 298] [] [] [] [] [4, 0, 5, 6, 7] [0, 1, 2, 9, 10, 117, 118, 119, 122, 123, 124, 127, 128, 129, 130, 133, 134, 135, 136, 139, 140, 141, 142, 145, 146, 147, 148] (aj (aj a16 (al (u2 (u2 s2)))) (ak (k3 (k5 (k5 (k5 (k5 t9))))))))))))))))
 (fun a2 =>
 have c3 := ttight_c (graM l 0 9) a1;
 have c4 := rtight_c (graM l 0 9) a1;
 have c5 := tfill_c (graM l 0 9) (nextZ l (graK l 0 9) (iN (gL (graM l 0 9)).length)) a1;
 have c6 := rfill_c (graM l 0 9) (nextZ l (graK l 0 9) (iN (gL (graM l 0 9)).length)) a1;
 .rn 4 [104] [] [(79, hK c3 [] []), (85, hK c4 [] []), (92, hK c5 [] []), (98, hK c6 [] [])] [] (aj (u2 (u2 (u2 (u2 (aj a2 (aj a2 (aj a2 (al (aj a2 t2))))))))) (ak (aj (u2 (aj (k2 (al (c3))) (u2 (u2 (u2 (u2 (u2 (u2 s2)))))))) (aj (u2 (aj (k2 (al (c4))) (u2 (u2 (u2 (u2 (u2 (u2 s2)))))))) (aj (u2 (u2 (aj (ak (k3 (al (c5)))) (u2 (u2 (u2 (u2 s2))))))) (al (u2 (u2 (aj (ak (k3 (al (c6)))) (u2 (u2 (u2 (u2 s2))))))))))))) <|
 .gu fun a3 =>
 have c7 := treplay_c (graM l 0 9) ((fillO (graM l 0 9) (nextZ l (graK l 0 9) (iN (gL (graM l 0 9)).length))).fst) a1;
 have c8 := rreplay_c (graM l 0 9) ((fillO (graM l 0 9) (nextZ l (graK l 0 9) (iN (gL (graM l 0 9)).length))).fst) a1;
 .rn 1 [104] [] [(104, hK c7 [] [4]), (110, hK c8 [] [4])] [] (aj (u2 (u2 (aj (k3 (aj (show (fillO (graM l 0 9) (nextZ l (graK l 0 9) (iN (gL (graM l 0 9)).length))).fst.length = (List.map mvA (fillO (graM l 0 9) (nextZ l (graK l 0 9) (iN (gL (graM l 0 9)).length))).fst).length by simp) (aj (c7) a3))) (u2 (u2 (u2 (u2 s2))))))) (al (u2 (u2 (aj (k3 (aj (show (fillO (graM l 0 9) (nextZ l (graK l 0 9) (iN (gL (graM l 0 9)).length))).fst.length = (List.map mvA (fillO (graM l 0 9) (nextZ l (graK l 0 9) (iN (gL (graM l 0 9)).length))).fst).length by simp) (aj (c8) a3))) (u2 (u2 (u2 (u2 s2))))))))) <|
 .br (fun a4 =>
  .rt [104, 233] [] [] [] [] [] (aj (aj (u2 (u2 (aj t3 (u2 (aj a4 (aj a4 (aj a4 (ag a4 (u2 (k3 (aj t3 (u2 (ak (k3 (aj t3 (u2 (ak (k3 (aj t3 (u2 (ak (k3 (aj t3 (u2 (ak (k3 (al t3))))))))))))))))))))))))))) (ak s2)) t2))
 (fun a4 =>
  .br (fun a5 =>
  .rt [104, 232, 243] [] [] [] [] [] (aj (aj (u2 (u2 (aj t3 (u2 (ag a4 (ag a4 (aj (aj a4 t3) (ag a4 (u2 (aj a5 (aj a5 (aj a5 (ag a5 (u2 (ak (k3 (aj t3 (u2 (ak (k3 (aj t3 (u2 (ak (k3 (aj t3 (u2 (ak (k3 (al t3))))))))))))))))))))))))))))) (ak s2)) t2))
  (fun a5 =>
  .br (fun a6 =>
   .rt [104, 232, 242, 253] [] [] [] [] [] (aj (aj (u2 (u2 (aj t3 (u2 (ag a4 (ag a4 (aj (aj a4 t3) (ag a4 (u2 (ag a5 (ag a5 (aj (aj a5 t3) (ag a5 (u2 (aj a6 (aj a6 (aj a6 (aj a6 (ag a6 (u2 (ak (k3 (aj t3 (u2 (ak (k3 (aj t3 (u2 (ak (k3 (al t3))))))))))))))))))))))))))))))) (ak s2)) t2))
  (fun a6 =>
   .gu fun a7 =>
   .br (fun a8 =>
   have c9 := sin_c (cycL (graM l 0 9)) (cycL (graM l 0 9)) a7;
   .rt [104, 232, 242, 252, 265] [] [(129, hK c9 [] [])] [] [] [] (aj (aj (u2 (u2 (aj t3 (u2 (ag a4 (ag a4 (aj (aj a4 t3) (ag a4 (u2 (ag a5 (ag a5 (aj (aj a5 t3) (ag a5 (u2 (ag a6 (ag a6 (aj (aj a6 (ak (k3 (al (c9))))) (ag a6 (ag a6 (u2 (aj a8 (aj a8 (aj a8 (aj a8 (ag a8 (u2 (ak (k3 (aj t3 (u2 (ak (k3 (al t3))))))))))))))))))))))))))))))))) (ak s2)) t2))
   (fun a8 =>
   .gu fun a9 =>
   .br (fun a10 =>
    have c9 := sin_c (cycL (graM l 0 9)) (cycL (graM l 0 9)) a7;
    have c10 := sin_c (tigR (graM l 0 9)) (tigR (graM l 0 9)) a9;
    .rt [104, 232, 242, 252, 264, 277] [] [(129, hK c9 [] []), (135, hK c10 [] [])] [] [] [] (aj (aj (u2 (u2 (aj t3 (u2 (ag a4 (ag a4 (aj (aj a4 t3) (ag a4 (u2 (ag a5 (ag a5 (aj (aj a5 t3) (ag a5 (u2 (ag a6 (ag a6 (aj (aj a6 (ak (k3 (al (c9))))) (ag a6 (ag a6 (u2 (ag a8 (ag a8 (aj (aj a8 (ak (k3 (al (c10))))) (ag a8 (ag a8 (u2 (aj a10 (aj a10 (aj a10 (aj a10 (ag a10 (u2 (ak (k3 (al t3))))))))))))))))))))))))))))))))))) (ak s2)) t2))
   (fun a10 =>
    .gu fun a11 =>
    .br (fun a12 =>
    have c9 := sin_c (cycL (graM l 0 9)) (cycL (graM l 0 9)) a7;
    have c10 := sin_c (tigR (graM l 0 9)) (tigR (graM l 0 9)) a9;
    have c11 := mvs_c ((fillO (graM l 0 9) (nextZ l (graK l 0 9) (iN (gL (graM l 0 9)).length))).fst) ((fillO (graM l 0 9) (nextZ l (graK l 0 9) (iN (gL (graM l 0 9)).length))).fst) a11;
    .rt [104, 232, 242, 252, 264, 276, 289] [] [(129, hK c9 [] []), (135, hK c10 [] []), (141, hK c11 [] [5])] [] [] [] (aj (aj (u2 (u2 (aj t3 (u2 (ag a4 (ag a4 (aj (aj a4 t3) (ag a4 (u2 (ag a5 (ag a5 (aj (aj a5 t3) (ag a5 (u2 (ag a6 (ag a6 (aj (aj a6 (ak (k3 (al (c9))))) (ag a6 (ag a6 (u2 (ag a8 (ag a8 (aj (aj a8 (ak (k3 (al (c10))))) (ag a8 (ag a8 (u2 (ag a10 (ag a10 (aj (aj a10 (k3 (aj (show (fillO (graM l 0 9) (nextZ l (graK l 0 9) (iN (gL (graM l 0 9)).length))).fst.length = (List.map mvA (fillO (graM l 0 9) (nextZ l (graK l 0 9) (iN (gL (graM l 0 9)).length))).fst).length by simp) (aj (c11) (show ∀ (blk : Blk), blk ∈ [] → ImmB blk from (by intro _ h; cases h)))))) (ag a10 (ag a10 (u2 (aj a12 (aj a12 (aj a12 (aj a12 (al (aj a12 t2)))))))))))))))))))))))))))))))))))))) (ak s2)) t2))
    (fun a12 =>
    .gu fun a13 =>
    have c9 := sin_c (cycL (graM l 0 9)) (cycL (graM l 0 9)) a7;
    have c10 := sin_c (tigR (graM l 0 9)) (tigR (graM l 0 9)) a9;
    have c11 := mvs_c ((fillO (graM l 0 9) (nextZ l (graK l 0 9) (iN (gL (graM l 0 9)).length))).fst) ((fillO (graM l 0 9) (nextZ l (graK l 0 9) (iN (gL (graM l 0 9)).length))).fst) a11;
    have c12 := sin_c ((repO (graM l 0 9) (fillO (graM l 0 9) (nextZ l (graK l 0 9) (iN (gL (graM l 0 9)).length))).fst).fst) ((repO (graM l 0 9) (fillO (graM l 0 9) (nextZ l (graK l 0 9) (iN (gL (graM l 0 9)).length))).fst).fst) a13;
    .rn 0 [104, 232, 242, 252, 264, 276, 288] [] [(129, hK c9 [] []), (135, hK c10 [] []), (141, hK c11 [] [5]), (147, hK c12 [] [6, 7])] [] (al (u2 (u2 (aj t3 (u2 (ag a4 (ag a4 (aj (aj a4 t3) (ag a4 (u2 (ag a5 (ag a5 (aj (aj a5 t3) (ag a5 (u2 (ag a6 (ag a6 (aj (aj a6 (ak (k3 (al (c9))))) (ag a6 (ag a6 (u2 (ag a8 (ag a8 (aj (aj a8 (ak (k3 (al (c10))))) (ag a8 (ag a8 (u2 (ag a10 (ag a10 (aj (aj a10 (k3 (aj (show (fillO (graM l 0 9) (nextZ l (graK l 0 9) (iN (gL (graM l 0 9)).length))).fst.length = (List.map mvA (fillO (graM l 0 9) (nextZ l (graK l 0 9) (iN (gL (graM l 0 9)).length))).fst).length by simp) (aj (c11) (show ∀ (blk : Blk), blk ∈ [] → ImmB blk from (by intro _ h; cases h)))))) (ag a10 (ag a10 (u2 (ag a12 (ag a12 (aj (aj a12 (k2 (aj (show (repO (graM l 0 9) (fillO (graM l 0 9) (nextZ l (graK l 0 9) (iN (gL (graM l 0 9)).length))).fst).fst.length = (List.map (iv) (repO (graM l 0 9) (fillO (graM l 0 9) (nextZ l (graK l 0 9) (iN (gL (graM l 0 9)).length))).fst).fst).length by simp) (aj (show (repO (graM l 0 9) (fillO (graM l 0 9) (nextZ l (graK l 0 9) (iN (gL (graM l 0 9)).length))).fst).fst.length = (List.map (iv) (repO (graM l 0 9) (fillO (graM l 0 9) (nextZ l (graK l 0 9) (iN (gL (graM l 0 9)).length))).fst).fst).length by simp) (aj (c12) (show ∀ (blk : Blk), blk ∈ [] → ImmB blk from (by intro _ h; cases h))))))) (ag a12 (al (aj a12 t2))))))))))))))))))))))))))))))))))))))) <|
    .br (fun a14 =>
     .rt [104, 232, 242, 252, 264, 276, 288, 299] [] [] [] [] [] (aj (aj a14 s2) t2))
    (fun a14 =>
     .lp [104, 232, 242, 252, 264, 276, 288, 298] [] [] [] [] [4, 0, 5, 6, 7] [0, 1, 2, 9, 10, 117, 118, 119, 122, 123, 124, 127, 128, 129, 130, 133, 134, 135, 136, 139, 140, 141, 142, 145, 146, 147, 148] (aj (aj a14 (al (u2 (u2 s2)))) (ak (k3 (k5 (k5 (k5 (k5 t9)))))))))))))))) (by kernel_rfl)
theorem filS2_ok (g : List (List Int)) (m : List MvD) (z : Int) (l : List Int) (v0 : List MvD) (v1 : List Int × Int) (v2 : Bool) (v3 : Bool) (v4 : Bool) (v5 : Nat) (o : filPc ⊕ Ret) (h : filS2 g m z l v0 v1 v2 v3 v4 v5 = some o) : Arr Try.prog Try.f5 0 (filSt g m z l) filHd (headC Try.f5 0) (.rnd (headC Try.f5 0) :: headK Try.f5 0) (filSt g m z l (.l2 v0 v1 v2 v3 v4 v5)) o :=
 Scr.ok h mix (
 .rt [] [] [] [] [] [] (aj (aj (u2 s2) (ak s2)) t2)) (by kernel_rfl)
theorem fil_ct (g : List (List Int)) (m : List MvD) (z : Int) (l : List Int) (r : Ret) (h : MReach (filStep g m z l) (filEn g m z l) r) : CT Try.prog 5 ([]) ([.lst (gL g), .lst (m.map mvA), .int .i64 z, lI l]) r.1 r.2 :=
  CT.mach (fn := Try.f5) (c := bodyOf Try.f5) (S := filSt g m z l) (hd := filHd) Try.func5 (by kernel_rfl) (Nat.le_of_ble_eq_true rfl)
    (fun s o ho => match s, ho with
      | .l0 , ho => filS0_ok g m z l  o ho
      | .l1 , ho => filS1_ok g m z l  o ho
      | .l2 v0 v1 v2 v3 v4 v5, ho => filS2_ok g m z l v0 v1 v2 v3 v4 v5 o ho
    )
    (fun o ho => filEn_ok g m z l o ho) h
theorem fillO_len (g : List (List Int)) (hrw : Rows g) (z : Int) : (fillO g z).1.length ≤ 10000 := by
  cases hv : valZ g with
  | false => rw [fillO_20 hv]; simp
  | true =>
    by_cases hr : z < 0 ∨ (g.length : Int) ≤ z
    · rw [fillO_19 hv hr]; simp
    · have h0 : 0 ≤ z := by omega
      have h1 : z < (g.length : Int) := by omega
      rcases fill_way hrw hv h0 h1 with e | ⟨b, m, e, hH, hm, hW⟩
      · rw [fillO_25 hv h0 h1 (by omega)]; simp
      · rw [fillO_0 hv h0 h1 e]
        have := fillN_len (wayO g z (girW g) b) (girW g).length
        have h2 := hH.len
        have := Nat.mul_le_mul hW (show (wayO g z (girW g) b).length ≤ 100 by omega)
        show (fillN (wayO g z (girW g) b) (girW g).length).length ≤ 10000
        omega
theorem repO_len (g : List (List Int)) (l : List MvD) : (repO g l).1.length ≤ 1000000 := by
  unfold repO
  cases hv : valZ g with
  | false => simp
  | true =>
    rw [if_neg (by simp)]
    split
    · simp
    · split
      · rename_i p hp
        have := ((RI.nil g).all hp).len
        have := val24 hv
        show p.length ≤ _; omega
      · simp
theorem cycL_len {g : List (List Int)} (hrw : Rows g) : (cycL g).length ≤ 24 := by
  unfold cycL
  split
  · rename_i hv; exact girW_24 hrw hv
  · simp
theorem tigR_len {g : List (List Int)} (hrw : Rows g) : (tigR g).length ≤ 24 := by unfold tigR; rw [rotL_len]; exact cycL_len hrw
theorem imm1 (l : List Int) : ∀ blk ∈ [Blk.mk (List.map (AV.int .i64) l) 1 true true none], ImmB blk := by
  intro blk hb
  rw [List.mem_singleton.1 hb]
  intro e he c hc
  obtain ⟨x, _, rfl⟩ := List.mem_map.1 he
  rw [List.mem_singleton.1 hc]; rfl
theorem ndc {α : Type} [DecidableEq α] (x : α) : (!decide (x = x)) = false := by simp
theorem fil_run (g : List (List Int)) (hrw : Rows g) (m : List MvD) (z : Int) (l : List Int) : CT Try.prog 5 [] [.lst (gL g), .lst (m.map mvA), .int .i64 z, lI l] [] (.bool true) := by
  refine fil_ct g m z l ([], .bool true) ?_
  obtain ⟨g1, g2, g3, g4, _⟩ := gra_spec (L := l) (kk := 0) (most := 9) (by omega) (by omega)
  unfold filEn
  refine .to (y := some (.inl filPc.l1)) ?_ ?_
  · show filS0 g m z l = _
    have a1 := fillO_len g hrw z
    have a2 := cycL_len hrw
    have a3 := tigR_len hrw
    unfold filS0
    rw [gu_t hrw, br_f (bne_self_eq_false _), br_f (bne_self_eq_false _), br_f (bne_self_eq_false _), gu_t (by omega), br_f (ndc _), gu_t (by omega), br_f (ndc _), gu_t (by omega), br_f (ndc _), gu_t (repO_len _ _), br_f (ndc _)]
  · have last : ∀ v0 v1 v2 v3 v4 v5, MReach (filStep g m z l) (some (.inl (filPc.l2 v0 v1 v2 v3 v4 v5))) ([], .bool true) := fun v0 v1 v2 v3 v4 v5 => by
      refine .to (show filS2 g m z l v0 v1 v2 v3 v4 v5 = _ from ?_) (.ret _)
      unfold filS2; rfl
    refine .go _ _ ?_
    show MReach (filStep g m z l) (filS1 g m z l) _
    have a1 := fillO_len (graM l 0 9) g2 (nextZ l (graK l 0 9) (iN (gL (graM l 0 9)).length))
    have a2 := cycL_len g2
    have a3 := tigR_len g2
    unfold filS1
    rw [gu_t (by omega), gu_t g2]
    by_cases h0 : 0 < (fillO (graM l 0 9) (nextZ l (graK l 0 9) (iN (gL (graM l 0 9)).length))).1.length
    · rw [br_t (dec_t (by simp only [iN] at *; omega)), gu_t (by omega)]
      cases h2 : nextZ l (graK l 0 9 + 1) 2 == 0 with
      | true =>
        have r := nextZ_rng l (graK l 0 9 + 1 + 1) (iN (fillO (graM l 0 9) (nextZ l (graK l 0 9) (iN (gL (graM l 0 9)).length))).1.length) (by simp only [iN] at *; omega) (by simp only [iN] at *; omega)
        have hsl : Nat.le (Nat.succ (0 + (nextZ l (graK l 0 9 + 1 + 1) (iN (fillO (graM l 0 9) (nextZ l (graK l 0 9) (iN (gL (graM l 0 9)).length))).1.length)).toNat)) (List.map mvA (fillO (graM l 0 9) (nextZ l (graK l 0 9) (iN (gL (graM l 0 9)).length))).1).length := by
          show _ + 1 ≤ _
          rw [List.length_map]; simp only [iN] at r ⊢; omega
        skip
        rw [br_t rfl, gu_t (by omega), gu_t (by omega), gu_t (by omega), gu_t (by omega), gu_t r.1, gu_t r.2, gu_t hsl, gu_t (imm1 _), br_f (bne_self_eq_false _), br_f (bne_self_eq_false _), br_f (bne_self_eq_false _), gu_t (by omega), br_f (ndc _), gu_t (by omega), br_f (ndc _), gu_t (by omega), br_f (ndc _), gu_t (repO_len _ _), br_f (ndc _)]; exact last _ _ _ _ _ _
      | false =>
        skip
        rw [br_f rfl, gu_t (imm1 _), br_f (bne_self_eq_false _), br_f (bne_self_eq_false _), br_f (bne_self_eq_false _), gu_t (by omega), br_f (ndc _), gu_t (by omega), br_f (ndc _), gu_t (by omega), br_f (ndc _), gu_t (repO_len _ _), br_f (ndc _)]; exact last _ _ _ _ _ _
    · skip
      rw [br_f (dec_f (by simp only [iN] at *; omega)), gu_t (imm1 _), br_f (bne_self_eq_false _), br_f (bne_self_eq_false _), br_f (bne_self_eq_false _), gu_t (by omega), br_f (ndc _), gu_t (by omega), br_f (ndc _), gu_t (by omega), br_f (ndc _), gu_t (repO_len _ _), br_f (ndc _)]; exact last _ _ _ _ _ _
theorem rdMv {n : Nat} {es : List AV} (h : ∀ x ∈ es, ShV Try.prog (n + 2) 42 x) : ∃ L : List MvD, es = L.map mvA := by
  induction es with
  | nil => exact ⟨[], rfl⟩
  | cons x es ih =>
    obtain ⟨L, rfl⟩ := ih fun y hy => h y (List.mem_cons_of_mem _ hy)
    obtain ⟨_, hs, rfl⟩ := (h x (by simp)).structD Try.underlying42
    obtain ⟨a, _, rfl, ka, hs⟩ := hs.consD
    obtain ⟨b, _, rfl, kb, hs⟩ := hs.consD
    obtain ⟨c, _, rfl, kc, hs⟩ := hs.consD
    obtain rfl := hs.nilD
    obtain ⟨a, _, rfl⟩ := ka.intD Try.underlying3
    obtain ⟨b, _, rfl⟩ := kb.intD Try.underlying3
    obtain ⟨c, _, rfl⟩ := kc.intD Try.underlying3
    exact ⟨⟨a, b, c⟩ :: L, rfl⟩
theorem tokenFills_row (avs : List AV) (h : ShVs Try.prog 6 Try.f5.params.toList avs) : CT Try.prog 5 [] avs [] (.bool true) := by
  rw [Try.params5] at h
  obtain ⟨a, _, rfl, ka, h⟩ := h.consD
  obtain ⟨b, _, rfl, kb, h⟩ := h.consD
  obtain ⟨c, _, rfl, kc, h⟩ := h.consD
  obtain ⟨d, _, rfl, kd, h⟩ := h.consD
  obtain rfl := h.nilD
  obtain ⟨_, _, ha, rfl⟩ := ka.sliceD Try.underlying27
  obtain ⟨g, rfl, hrw⟩ := rdRowsT ha
  obtain ⟨_, _, hb, rfl⟩ := kb.sliceD Try.underlying39
  obtain ⟨m, rfl⟩ := rdMv hb
  obtain ⟨z, _, rfl⟩ := kc.intD Try.underlying3
  obtain ⟨_, _, hd, rfl⟩ := kd.sliceD Try.underlying22
  obtain ⟨l, rfl⟩ := rdIntsT hd
  exact fil_run g hrw m z l
end Go.Proofs.Yteohjokcoddnjaa

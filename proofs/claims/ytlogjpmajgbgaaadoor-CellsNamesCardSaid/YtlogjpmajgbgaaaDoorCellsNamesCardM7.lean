/- Parts of the proof: Ce3m, CeD, Da1m, DaA, Da2m, DaB, Da3m, DaC, Da4m, DaD, Da5m, Da6m, DaE, Da7m, DaF, Db3m, Db2m, Db1m, DbA, DbB, DbC, DbD, DbE, DbF. -/
import Derived.Test.YtlogjpmajgbgaaaDoorProg
import Derived.KernelRfl
import Derived.Test.YtlogjpmajgbgaaaDoorCellsNamesCardM6
open Go Go.AX Go.Proofs
set_option maxRecDepth 100000
set_option maxHeartbeats 4000000
set_option linter.unusedVariables false
set_option linter.unusedSimpArgs false
namespace Go.Proofs.YtlogjpmajgbgaaaDoor
inductive folPc where
  | l0 (v0 : Int)
noncomputable def folSt (n : NetD) (q w : Int) : folPc → St
  | .l0 v0 => St.mk 27 [(2, iv w), (17, AV.lst (List.map (iv) (nxO n q))), (18, iv (iN (List.map (iv) (nxO n q)).length)), (19, iv v0)] []
def folHd : folPc → Nat
  | .l0 _ => 0
noncomputable def folEn (n : NetD) (q w : Int) : Option (folPc ⊕ Ret) :=
  gu (Rows n.nx) <|
  some (.inl (.l0 ((0 : Int))))
noncomputable def folS0 (n : NetD) (q w : Int) (v0 : Int) : Option (folPc ⊕ Ret) :=
  br (decide (v0 < iN (List.map (AV.int IntKind.i64) (nxO n q)).length))
  (gu (0 ≤ v0) <|
   el (nxO n q) (v0.toNat) fun (x21 : Int) =>
   br (x21 == w)
   (some (.inr ([], AV.bool true)))
   (some (.inl (.l0 (IntKind.i64.wrap (v0 + 1))))))
  (some (.inr ([], AV.bool false)))
noncomputable def folStep (n : NetD) (q w : Int) : folPc → Option (folPc ⊕ Ret)
  | .l0 v0 => folS0 n q w v0
theorem folEn_ok (n : NetD) (q w : Int) (o : folPc ⊕ Ret) (h : folEn n q w = some o) : Arr Tryd.prog Tryd.f12 0 (folSt n q w) folHd (bodyOf Tryd.f12) [] { n := Tryd.f12.ntmps, fr := enumF 0 ([netA n, .int .i64 q, .int .i64 w]), hp := ([]) } o :=
 Scr.ok h mix (
 .rn 0 [] [] [] [] (al (u2 t2)) <|
 .gu fun a0 =>
 have c0 := cnext_c (n) (q) a0;
 .lp [] [] [(14, hK c0 [] [])] [] [] [] [2, 17, 18, 19] (aj (aj (u2 (u2 (aj (k2 (aj t9 (ak (al (c0))))) (u2 (u2 (u2 (u2 s2))))))) (al (u2 (u2 t2)))) t5)) (by kernel_rfl)
theorem folS0_ok (n : NetD) (q w : Int) (v0 : Int) (o : folPc ⊕ Ret) (h : folS0 n q w v0 = some o) : Arr Tryd.prog Tryd.f12 0 (folSt n q w) folHd (headC Tryd.f12 0) (.rnd (headC Tryd.f12 0) :: headK Tryd.f12 0) (folSt n q w (.l0 v0)) o :=
 Scr.ok h mix (
 .rn 0 [] [] [] [] (al (al t3)) <|
 .br (fun a0 =>
 .gu fun a1 =>
 .el fun x21 a2 =>
 .rn 1 [41] [(21, iv x21)] [] [] (aj a0 (aj (aj (k2 (aj a1 (getMap (f := iv) a2))) (u2 s2)) (al (u2 (u2 (al t3)))))) <|
 .br (fun a3 =>
  .rt [51] [] [] [] [] [] (aj (aj a3 s2) t2))
 (fun a3 =>
  .lp [50] [] [] [] [] [] [2, 17, 18, 19] (aj (aj a3 (al (u2 s2))) t5)))
 (fun a0 =>
 .rt [40] [] [] [] [] [] (aj (aj a0 s2) t2))) (by kernel_rfl)
theorem fol_ct (n : NetD) (q w : Int) (r : Ret) (h : MReach (folStep n q w) (folEn n q w) r) : CT Tryd.prog 12 ([]) ([netA n, .int .i64 q, .int .i64 w]) r.1 r.2 :=
  CT.mach (fn := Tryd.f12) (c := bodyOf Tryd.f12) (S := folSt n q w) (hd := folHd) Tryd.func12 (by kernel_rfl) (Nat.le_of_ble_eq_true rfl)
    (fun s o ho => match s, ho with
      | .l0 v0, ho => folS0_ok n q w v0 o ho
    )
    (fun o ho => folEn_ok n q w o ho) h
end Go.Proofs.YtlogjpmajgbgaaaDoor
namespace Go.Proofs.YtlogjpmajgbgaaaDoor
theorem cfol_c (n : NetD) (q w : Int) (hrw : Rows n.nx) : CT Tryd.prog 12 [] [netA n, .int .i64 q, .int .i64 w] [] (.bool (folB n q w)) := by
  refine fol_ct n q w ([], _) ?_
  have hl := nxO_len hrw q
  unfold folEn
  rw [gu_t hrw]
  refine (loop_fnd (fun i => folPc.l0 (i : Int)) (nxO n q).length (fun i => (nxO n q).getD i 0 == w) (rF := fun _ => ([], .bool true)) (r := ([], .bool false)) (fun i hi hp => ?_) (fun i r hi hp hr => ?_) (fun _ => ?_)).res ?_
  · refine .to (show folS0 n q w i = _ from ?_) (.ret _)
    unfold folS0
    rw [rngG 0 hi, br_t hp]
  · refine .to (show folS0 n q w i = _ from ?_) hr
    unfold folS0
    rw [rngG 0 hi, br_f hp, wrap_nat i (by omega)]
  · refine .to (show folS0 n q w (nxO n q).length = _ from ?_) (.ret _)
    unfold folS0; rw [rngE]
  · unfold folB hasZ
    cases fnd (fun i => (nxO n q).getD i 0 == w) 0 (nxO n q).length <;> rfl
noncomputable def cntSt (n : NetD) : Empty → St
  | x => x.elim
def cntHd : Empty → Nat
  | x => x.elim
noncomputable def cntEn (n : NetD) : Option (Empty ⊕ Ret) :=
  gu (Rows n.nx) <|
  br (!valB n)
  (some (.inr ([], AV.tup [AV.int IntKind.i64 0, AV.int IntKind.i64 20])))
  (gu (ValidN n) <|
   some (.inr ([], AV.tup [AV.int IntKind.i64 (iN (celN n)), AV.int IntKind.i64 0])))
noncomputable def cntStep (n : NetD) : Empty → Option (Empty ⊕ Ret)
  | x => x.elim
theorem cntEn_ok (n : NetD) (o : Empty ⊕ Ret) (h : cntEn n = some o) : Arr Tryd.prog Tryd.f10 0 (cntSt n) cntHd (bodyOf Tryd.f10) [] { n := Tryd.f10.ntmps, fr := enumF 0 ([netA n]), hp := ([]) } o :=
 Scr.ok h mix (
 .rn 0 [] [] [] [] (al (u2 t3)) <|
 .gu fun a0 =>
 have c0 := valid_net_ct a0;
 .rn 0 [] [] [(5, hK c0 [] [])] [] (al (u2 (aj (ak (aj t9 (al (c0)))) s2))) <|
 .br (fun a1 =>
 .rt [13] [] [] [] [] [] (aj (aj a1 (al t3)) (al t3)))
 (fun a1 =>
 .gu fun a2 =>
 have c1 := ccount_ct a2;
 .rt [12] [] [(8, hK c1 [] [])] [] [] [] (aj (aj a1 (al (u2 (aj (ak (aj t9 (al (c1)))) (u2 t2))))) (al t3)))) (by kernel_rfl)
theorem cnt_ct (n : NetD) (r : Ret) (h : MReach (cntStep n) (cntEn n) r) : CT Tryd.prog 10 ([]) ([netA n]) r.1 r.2 :=
  CT.mach (fn := Tryd.f10) (c := bodyOf Tryd.f10) (S := cntSt n) (hd := cntHd) Tryd.func10 (by kernel_rfl) (Nat.le_of_ble_eq_true rfl)
    (fun s o ho => match s, ho with
      | x, _ => x.elim)
    (fun o ho => cntEn_ok n o ho) h
noncomputable def sm1St : Empty → St
  | x => x.elim
def sm1Hd : Empty → Nat
  | x => x.elim
noncomputable def sm1En : Option (Empty ⊕ Ret) :=
  some (.inr ([], AV.str ((ByteArray.mk #[48, 49, 50, 51, 52, 53, 54, 55, 56, 57, 97, 98, 99, 100, 101, 102, 103, 104, 105, 106, 107, 108, 109, 110, 111, 112, 113, 114, 115, 116, 117, 118, 119, 120, 121, 122]).extract (Int.toNat 1) (Int.toNat 2))))
noncomputable def sm1Step : Empty → Option (Empty ⊕ Ret)
  | x => x.elim
theorem sm1En_ok (o : Empty ⊕ Ret) (h : sm1En = some o) : Arr Tryd.prog Tryd.f63 0 (sm1St) sm1Hd (bodyOf Tryd.f63) [] { n := Tryd.f63.ntmps, fr := enumF 0 ([.int .i64 1]), hp := ([]) } o :=
 Scr.ok h mix (
 .rt [] [] [] [] [] [] (aj (u2 (aj (u2 s2) (ak (al (u2 (u2 (u2 (aj (k2 (aj (show (0 : Int) ≤ (1 : Int) from (by first | exact Nat.le_of_ble_eq_true rfl | decide)) (aj (show (1 : Int) ≤ (2 : Int) from (by first | exact Nat.le_of_ble_eq_true rfl | decide)) (show (2 : Int) ≤ (36 : Int) from (by first | exact Nat.le_of_ble_eq_true rfl | decide))))) s2)))))))) t2)) (by kernel_rfl)
theorem sm1_ct (r : Ret) (h : MReach (sm1Step) (sm1En) r) : CT Tryd.prog 63 ([]) ([.int .i64 1]) r.1 r.2 :=
  CT.mach (fn := Tryd.f63) (c := bodyOf Tryd.f63) (S := sm1St) (hd := sm1Hd) Tryd.func63 (by kernel_rfl) (Nat.le_of_ble_eq_true rfl)
    (fun s o ho => match s, ho with
      | x, _ => x.elim)
    (fun o ho => sm1En_ok o ho) h
noncomputable def sm2St : Empty → St
  | x => x.elim
def sm2Hd : Empty → Nat
  | x => x.elim
noncomputable def sm2En : Option (Empty ⊕ Ret) :=
  some (.inr ([], AV.str ((ByteArray.mk #[48, 49, 50, 51, 52, 53, 54, 55, 56, 57, 97, 98, 99, 100, 101, 102, 103, 104, 105, 106, 107, 108, 109, 110, 111, 112, 113, 114, 115, 116, 117, 118, 119, 120, 121, 122]).extract (Int.toNat 2) (Int.toNat 3))))
noncomputable def sm2Step : Empty → Option (Empty ⊕ Ret)
  | x => x.elim
theorem sm2En_ok (o : Empty ⊕ Ret) (h : sm2En = some o) : Arr Tryd.prog Tryd.f63 0 (sm2St) sm2Hd (bodyOf Tryd.f63) [] { n := Tryd.f63.ntmps, fr := enumF 0 ([.int .i64 2]), hp := ([]) } o :=
 Scr.ok h mix (
 .rt [] [] [] [] [] [] (aj (u2 (aj (u2 s2) (ak (al (u2 (u2 (u2 (aj (k2 (aj (show (0 : Int) ≤ (2 : Int) from (by first | exact Nat.le_of_ble_eq_true rfl | decide)) (aj (show (2 : Int) ≤ (3 : Int) from (by first | exact Nat.le_of_ble_eq_true rfl | decide)) (show (3 : Int) ≤ (36 : Int) from (by first | exact Nat.le_of_ble_eq_true rfl | decide))))) s2)))))))) t2)) (by kernel_rfl)
theorem sm2_ct (r : Ret) (h : MReach (sm2Step) (sm2En) r) : CT Tryd.prog 63 ([]) ([.int .i64 2]) r.1 r.2 :=
  CT.mach (fn := Tryd.f63) (c := bodyOf Tryd.f63) (S := sm2St) (hd := sm2Hd) Tryd.func63 (by kernel_rfl) (Nat.le_of_ble_eq_true rfl)
    (fun s o ho => match s, ho with
      | x, _ => x.elim)
    (fun o ho => sm2En_ok o ho) h
noncomputable def sm3St : Empty → St
  | x => x.elim
def sm3Hd : Empty → Nat
  | x => x.elim
noncomputable def sm3En : Option (Empty ⊕ Ret) :=
  some (.inr ([], AV.str ((ByteArray.mk #[48, 49, 50, 51, 52, 53, 54, 55, 56, 57, 97, 98, 99, 100, 101, 102, 103, 104, 105, 106, 107, 108, 109, 110, 111, 112, 113, 114, 115, 116, 117, 118, 119, 120, 121, 122]).extract (Int.toNat 3) (Int.toNat 4))))
noncomputable def sm3Step : Empty → Option (Empty ⊕ Ret)
  | x => x.elim
theorem sm3En_ok (o : Empty ⊕ Ret) (h : sm3En = some o) : Arr Tryd.prog Tryd.f63 0 (sm3St) sm3Hd (bodyOf Tryd.f63) [] { n := Tryd.f63.ntmps, fr := enumF 0 ([.int .i64 3]), hp := ([]) } o :=
 Scr.ok h mix (
 .rt [] [] [] [] [] [] (aj (u2 (aj (u2 s2) (ak (al (u2 (u2 (u2 (aj (k2 (aj (show (0 : Int) ≤ (3 : Int) from (by first | exact Nat.le_of_ble_eq_true rfl | decide)) (aj (show (3 : Int) ≤ (4 : Int) from (by first | exact Nat.le_of_ble_eq_true rfl | decide)) (show (4 : Int) ≤ (36 : Int) from (by first | exact Nat.le_of_ble_eq_true rfl | decide))))) s2)))))))) t2)) (by kernel_rfl)
theorem sm3_ct (r : Ret) (h : MReach (sm3Step) (sm3En) r) : CT Tryd.prog 63 ([]) ([.int .i64 3]) r.1 r.2 :=
  CT.mach (fn := Tryd.f63) (c := bodyOf Tryd.f63) (S := sm3St) (hd := sm3Hd) Tryd.func63 (by kernel_rfl) (Nat.le_of_ble_eq_true rfl)
    (fun s o ho => match s, ho with
      | x, _ => x.elim)
    (fun o ho => sm3En_ok o ho) h
noncomputable def sm4St : Empty → St
  | x => x.elim
def sm4Hd : Empty → Nat
  | x => x.elim
noncomputable def sm4En : Option (Empty ⊕ Ret) :=
  some (.inr ([], AV.str ((ByteArray.mk #[48, 49, 50, 51, 52, 53, 54, 55, 56, 57, 97, 98, 99, 100, 101, 102, 103, 104, 105, 106, 107, 108, 109, 110, 111, 112, 113, 114, 115, 116, 117, 118, 119, 120, 121, 122]).extract (Int.toNat 4) (Int.toNat 5))))
noncomputable def sm4Step : Empty → Option (Empty ⊕ Ret)
  | x => x.elim
theorem sm4En_ok (o : Empty ⊕ Ret) (h : sm4En = some o) : Arr Tryd.prog Tryd.f63 0 (sm4St) sm4Hd (bodyOf Tryd.f63) [] { n := Tryd.f63.ntmps, fr := enumF 0 ([.int .i64 4]), hp := ([]) } o :=
 Scr.ok h mix (
 .rt [] [] [] [] [] [] (aj (u2 (aj (u2 s2) (ak (al (u2 (u2 (u2 (aj (k2 (aj (show (0 : Int) ≤ (4 : Int) from (by first | exact Nat.le_of_ble_eq_true rfl | decide)) (aj (show (4 : Int) ≤ (5 : Int) from (by first | exact Nat.le_of_ble_eq_true rfl | decide)) (show (5 : Int) ≤ (36 : Int) from (by first | exact Nat.le_of_ble_eq_true rfl | decide))))) s2)))))))) t2)) (by kernel_rfl)
theorem sm4_ct (r : Ret) (h : MReach (sm4Step) (sm4En) r) : CT Tryd.prog 63 ([]) ([.int .i64 4]) r.1 r.2 :=
  CT.mach (fn := Tryd.f63) (c := bodyOf Tryd.f63) (S := sm4St) (hd := sm4Hd) Tryd.func63 (by kernel_rfl) (Nat.le_of_ble_eq_true rfl)
    (fun s o ho => match s, ho with
      | x, _ => x.elim)
    (fun o ho => sm4En_ok o ho) h
noncomputable def cntZ (n : NetD) : Int := if valB n = true then (celN n : Int) else 0
noncomputable def cntE (n : NetD) : Int := if valB n = true then 0 else 20
theorem cnt_c {n : NetD} (hrw : Rows n.nx) : CT Tryd.prog 10 [] [netA n] [] (.tup [.int .i64 (cntZ n), .int .i64 (cntE n)]) := by
  refine cnt_ct n ([], _) (.val ?_)
  unfold cntEn cntZ cntE
  rw [gu_t hrw]
  cases hv : valB n with
  | false => rfl
  | true => rw [br_f (by rfl), gu_t (valB_iff.1 hv)]; rfl
theorem sml_c (k : Nat) (h : 1 ≤ k ∧ k ≤ 4) : CT Tryd.prog 63 [] [.int .i64 (iN k)] [] (.str (digB k)) := by
  obtain rfl | rfl | rfl | rfl : k = 1 ∨ k = 2 ∨ k = 3 ∨ k = 4 := by omega
  · exact sm1_ct ([], _) (.val (show sm1En = _ by unfold sm1En; first | rfl | decide +kernel))
  · exact sm2_ct ([], _) (.val (show sm2En = _ by unfold sm2En; first | rfl | decide +kernel))
  · exact sm3_ct ([], _) (.val (show sm3En = _ by unfold sm3En; first | rfl | decide +kernel))
  · exact sm4_ct ([], _) (.val (show sm4En = _ by unfold sm4En; first | rfl | decide +kernel))
theorem sm1_c : CT Tryd.prog 63 [] [.int .i64 1] [] (.str (digB 1)) := sml_c 1 (by omega)
theorem sm2_c : CT Tryd.prog 63 [] [.int .i64 2] [] (.str (digB 2)) := sml_c 2 (by omega)
theorem sm3_c : CT Tryd.prog 63 [] [.int .i64 3] [] (.str (digB 3)) := sml_c 3 (by omega)
theorem sm4_c : CT Tryd.prog 63 [] [.int .i64 4] [] (.str (digB 4)) := sml_c 4 (by omega)
noncomputable def ex9St : Empty → St
  | x => x.elim
def ex9Hd : Empty → Nat
  | x => x.elim
noncomputable def ex9En : Option (Empty ⊕ Ret) :=
  some (.inr ([], AV.agg [AV.lst [AV.agg [AV.str (ByteArray.mk #[97]), AV.int IntKind.i64 0, AV.int IntKind.i64 0], AV.agg [AV.str (ByteArray.mk #[98]), AV.int IntKind.i64 0, AV.int IntKind.i64 0]], AV.lst [AV.lst [AV.int IntKind.i64 1], AV.lst [AV.int IntKind.i64 0]], AV.lst [AV.agg [AV.str (ByteArray.mk #[100]), AV.bool true, AV.int IntKind.i64 0, AV.int IntKind.i64 1, AV.int IntKind.i64 2, AV.int IntKind.i64 2]], AV.lst [AV.int IntKind.i64 3], AV.int IntKind.i64 4, AV.int IntKind.i64 2, AV.int IntKind.i64 1, AV.int IntKind.i64 8]))
noncomputable def ex9Step : Empty → Option (Empty ⊕ Ret)
  | x => x.elim
theorem ex9En_ok (o : Empty ⊕ Ret) (h : ex9En = some o) : Arr Tryd.prog Tryd.f30 0 (ex9St) ex9Hd (bodyOf Tryd.f30) [] { n := Tryd.f30.ntmps, fr := enumF 0 ([]), hp := ([]) } o :=
 Scr.ok h mix (
 .rt [] [(3, AV.lst []), (4, AV.lst []), (5, AV.lst []), (6, AV.lst []), (8, AV.lst []), (9, AV.lst [])] [] [] [] [] (aj (u2 (al (k2 (aj t3 (k2 (aj t3 (ak (u2 (k2 (aj t6 (al (k2 n11)))))))))))) (al t9))) (by kernel_rfl)
theorem ex9_ct (r : Ret) (h : MReach (ex9Step) (ex9En) r) : CT Tryd.prog 30 ([]) ([]) r.1 r.2 :=
  CT.mach (fn := Tryd.f30) (c := bodyOf Tryd.f30) (S := ex9St) (hd := ex9Hd) Tryd.func30 (by kernel_rfl) (Nat.le_of_ble_eq_true rfl)
    (fun s o ho => match s, ho with
      | x, _ => x.elim)
    (fun o ho => ex9En_ok o ho) h
noncomputable def fi1St : Empty → St
  | x => x.elim
def fi1Hd : Empty → Nat
  | x => x.elim
noncomputable def fi1En : Option (Empty ⊕ Ret) :=
  some (.inr ([], AV.str (digB 1)))
noncomputable def fi1Step : Empty → Option (Empty ⊕ Ret)
  | x => x.elim
theorem fi1En_ok (o : Empty ⊕ Ret) (h : fi1En = some o) : Arr Tryd.prog Tryd.f59 0 (fi1St) fi1Hd (bodyOf Tryd.f59) [] { n := Tryd.f59.ntmps, fr := enumF 0 ([.int .i64 1, .int .i64 10]), hp := ([]) } o :=
 Scr.ok h mix (
 have c0 := sm1_c;
 .rt [] [] [(19, hK c0 [] [])] [] [] [] (aj (u2 (aj (u2 s2) (ak (aj (u2 (u2 (u2 (aj t3 (aj t3 (al t3)))))) (ak (al (u2 (aj (k2 (al (c0))) s2)))))))) t2)) (by kernel_rfl)
theorem fi1_ct (r : Ret) (h : MReach (fi1Step) (fi1En) r) : CT Tryd.prog 59 ([]) ([.int .i64 1, .int .i64 10]) r.1 r.2 :=
  CT.mach (fn := Tryd.f59) (c := bodyOf Tryd.f59) (S := fi1St) (hd := fi1Hd) Tryd.func59 (by kernel_rfl) (Nat.le_of_ble_eq_true rfl)
    (fun s o ho => match s, ho with
      | x, _ => x.elim)
    (fun o ho => fi1En_ok o ho) h
noncomputable def fi2St : Empty → St
  | x => x.elim
def fi2Hd : Empty → Nat
  | x => x.elim
noncomputable def fi2En : Option (Empty ⊕ Ret) :=
  some (.inr ([], AV.str (digB 2)))
noncomputable def fi2Step : Empty → Option (Empty ⊕ Ret)
  | x => x.elim
theorem fi2En_ok (o : Empty ⊕ Ret) (h : fi2En = some o) : Arr Tryd.prog Tryd.f59 0 (fi2St) fi2Hd (bodyOf Tryd.f59) [] { n := Tryd.f59.ntmps, fr := enumF 0 ([.int .i64 2, .int .i64 10]), hp := ([]) } o :=
 Scr.ok h mix (
 have c0 := sm2_c;
 .rt [] [] [(19, hK c0 [] [])] [] [] [] (aj (u2 (aj (u2 s2) (ak (aj (u2 (u2 (u2 (aj t3 (aj t3 (al t3)))))) (ak (al (u2 (aj (k2 (al (c0))) s2)))))))) t2)) (by kernel_rfl)
theorem fi2_ct (r : Ret) (h : MReach (fi2Step) (fi2En) r) : CT Tryd.prog 59 ([]) ([.int .i64 2, .int .i64 10]) r.1 r.2 :=
  CT.mach (fn := Tryd.f59) (c := bodyOf Tryd.f59) (S := fi2St) (hd := fi2Hd) Tryd.func59 (by kernel_rfl) (Nat.le_of_ble_eq_true rfl)
    (fun s o ho => match s, ho with
      | x, _ => x.elim)
    (fun o ho => fi2En_ok o ho) h
noncomputable def fi3St : Empty → St
  | x => x.elim
def fi3Hd : Empty → Nat
  | x => x.elim
noncomputable def fi3En : Option (Empty ⊕ Ret) :=
  some (.inr ([], AV.str (digB 3)))
noncomputable def fi3Step : Empty → Option (Empty ⊕ Ret)
  | x => x.elim
theorem fi3En_ok (o : Empty ⊕ Ret) (h : fi3En = some o) : Arr Tryd.prog Tryd.f59 0 (fi3St) fi3Hd (bodyOf Tryd.f59) [] { n := Tryd.f59.ntmps, fr := enumF 0 ([.int .i64 3, .int .i64 10]), hp := ([]) } o :=
 Scr.ok h mix (
 have c0 := sm3_c;
 .rt [] [] [(19, hK c0 [] [])] [] [] [] (aj (u2 (aj (u2 s2) (ak (aj (u2 (u2 (u2 (aj t3 (aj t3 (al t3)))))) (ak (al (u2 (aj (k2 (al (c0))) s2)))))))) t2)) (by kernel_rfl)
theorem fi3_ct (r : Ret) (h : MReach (fi3Step) (fi3En) r) : CT Tryd.prog 59 ([]) ([.int .i64 3, .int .i64 10]) r.1 r.2 :=
  CT.mach (fn := Tryd.f59) (c := bodyOf Tryd.f59) (S := fi3St) (hd := fi3Hd) Tryd.func59 (by kernel_rfl) (Nat.le_of_ble_eq_true rfl)
    (fun s o ho => match s, ho with
      | x, _ => x.elim)
    (fun o ho => fi3En_ok o ho) h
noncomputable def fi4St : Empty → St
  | x => x.elim
def fi4Hd : Empty → Nat
  | x => x.elim
noncomputable def fi4En : Option (Empty ⊕ Ret) :=
  some (.inr ([], AV.str (digB 4)))
noncomputable def fi4Step : Empty → Option (Empty ⊕ Ret)
  | x => x.elim
theorem fi4En_ok (o : Empty ⊕ Ret) (h : fi4En = some o) : Arr Tryd.prog Tryd.f59 0 (fi4St) fi4Hd (bodyOf Tryd.f59) [] { n := Tryd.f59.ntmps, fr := enumF 0 ([.int .i64 4, .int .i64 10]), hp := ([]) } o :=
 Scr.ok h mix (
 have c0 := sm4_c;
 .rt [] [] [(19, hK c0 [] [])] [] [] [] (aj (u2 (aj (u2 s2) (ak (aj (u2 (u2 (u2 (aj t3 (aj t3 (al t3)))))) (ak (al (u2 (aj (k2 (al (c0))) s2)))))))) t2)) (by kernel_rfl)
theorem fi4_ct (r : Ret) (h : MReach (fi4Step) (fi4En) r) : CT Tryd.prog 59 ([]) ([.int .i64 4, .int .i64 10]) r.1 r.2 :=
  CT.mach (fn := Tryd.f59) (c := bodyOf Tryd.f59) (S := fi4St) (hd := fi4Hd) Tryd.func59 (by kernel_rfl) (Nat.le_of_ble_eq_true rfl)
    (fun s o ho => match s, ho with
      | x, _ => x.elim)
    (fun o ho => fi4En_ok o ho) h
theorem fi1_c : CT Tryd.prog 59 [] [.int .i64 1, .int .i64 10] [] (.str (digB 1)) := fi1_ct ([], _) (.val (show fi1En = _ by unfold fi1En; rfl))
theorem fi2_c : CT Tryd.prog 59 [] [.int .i64 2, .int .i64 10] [] (.str (digB 2)) := fi2_ct ([], _) (.val (show fi2En = _ by unfold fi2En; rfl))
theorem fi3_c : CT Tryd.prog 59 [] [.int .i64 3, .int .i64 10] [] (.str (digB 3)) := fi3_ct ([], _) (.val (show fi3En = _ by unfold fi3En; rfl))
theorem fi4_c : CT Tryd.prog 59 [] [.int .i64 4, .int .i64 10] [] (.str (digB 4)) := fi4_ct ([], _) (.val (show fi4En = _ by unfold fi4En; rfl))
noncomputable def ii1St : Empty → St
  | x => x.elim
def ii1Hd : Empty → Nat
  | x => x.elim
noncomputable def ii1En : Option (Empty ⊕ Ret) :=
  some (.inr ([], AV.str (digB 1)))
noncomputable def ii1Step : Empty → Option (Empty ⊕ Ret)
  | x => x.elim
theorem ii1En_ok (o : Empty ⊕ Ret) (h : ii1En = some o) : Arr Tryd.prog Tryd.f51 0 (ii1St) ii1Hd (bodyOf Tryd.f51) [] { n := Tryd.f51.ntmps, fr := enumF 0 ([.int .i64 1]), hp := ([]) } o :=
 Scr.ok h mix (
 have c0 := fi1_c;
 .rt [] [] [(4, hK c0 [] [])] [] [] [] (aj (u2 (al (u2 (aj (k3 (al (c0))) s2)))) t2)) (by kernel_rfl)
theorem ii1_ct (r : Ret) (h : MReach (ii1Step) (ii1En) r) : CT Tryd.prog 51 ([]) ([.int .i64 1]) r.1 r.2 :=
  CT.mach (fn := Tryd.f51) (c := bodyOf Tryd.f51) (S := ii1St) (hd := ii1Hd) Tryd.func51 (by kernel_rfl) (Nat.le_of_ble_eq_true rfl)
    (fun s o ho => match s, ho with
      | x, _ => x.elim)
    (fun o ho => ii1En_ok o ho) h
noncomputable def ii2St : Empty → St
  | x => x.elim
def ii2Hd : Empty → Nat
  | x => x.elim
noncomputable def ii2En : Option (Empty ⊕ Ret) :=
  some (.inr ([], AV.str (digB 2)))
noncomputable def ii2Step : Empty → Option (Empty ⊕ Ret)
  | x => x.elim
theorem ii2En_ok (o : Empty ⊕ Ret) (h : ii2En = some o) : Arr Tryd.prog Tryd.f51 0 (ii2St) ii2Hd (bodyOf Tryd.f51) [] { n := Tryd.f51.ntmps, fr := enumF 0 ([.int .i64 2]), hp := ([]) } o :=
 Scr.ok h mix (
 have c0 := fi2_c;
 .rt [] [] [(4, hK c0 [] [])] [] [] [] (aj (u2 (al (u2 (aj (k3 (al (c0))) s2)))) t2)) (by kernel_rfl)
theorem ii2_ct (r : Ret) (h : MReach (ii2Step) (ii2En) r) : CT Tryd.prog 51 ([]) ([.int .i64 2]) r.1 r.2 :=
  CT.mach (fn := Tryd.f51) (c := bodyOf Tryd.f51) (S := ii2St) (hd := ii2Hd) Tryd.func51 (by kernel_rfl) (Nat.le_of_ble_eq_true rfl)
    (fun s o ho => match s, ho with
      | x, _ => x.elim)
    (fun o ho => ii2En_ok o ho) h
noncomputable def ii3St : Empty → St
  | x => x.elim
def ii3Hd : Empty → Nat
  | x => x.elim
noncomputable def ii3En : Option (Empty ⊕ Ret) :=
  some (.inr ([], AV.str (digB 3)))
noncomputable def ii3Step : Empty → Option (Empty ⊕ Ret)
  | x => x.elim
theorem ii3En_ok (o : Empty ⊕ Ret) (h : ii3En = some o) : Arr Tryd.prog Tryd.f51 0 (ii3St) ii3Hd (bodyOf Tryd.f51) [] { n := Tryd.f51.ntmps, fr := enumF 0 ([.int .i64 3]), hp := ([]) } o :=
 Scr.ok h mix (
 have c0 := fi3_c;
 .rt [] [] [(4, hK c0 [] [])] [] [] [] (aj (u2 (al (u2 (aj (k3 (al (c0))) s2)))) t2)) (by kernel_rfl)
theorem ii3_ct (r : Ret) (h : MReach (ii3Step) (ii3En) r) : CT Tryd.prog 51 ([]) ([.int .i64 3]) r.1 r.2 :=
  CT.mach (fn := Tryd.f51) (c := bodyOf Tryd.f51) (S := ii3St) (hd := ii3Hd) Tryd.func51 (by kernel_rfl) (Nat.le_of_ble_eq_true rfl)
    (fun s o ho => match s, ho with
      | x, _ => x.elim)
    (fun o ho => ii3En_ok o ho) h
noncomputable def ii4St : Empty → St
  | x => x.elim
def ii4Hd : Empty → Nat
  | x => x.elim
noncomputable def ii4En : Option (Empty ⊕ Ret) :=
  some (.inr ([], AV.str (digB 4)))
noncomputable def ii4Step : Empty → Option (Empty ⊕ Ret)
  | x => x.elim
theorem ii4En_ok (o : Empty ⊕ Ret) (h : ii4En = some o) : Arr Tryd.prog Tryd.f51 0 (ii4St) ii4Hd (bodyOf Tryd.f51) [] { n := Tryd.f51.ntmps, fr := enumF 0 ([.int .i64 4]), hp := ([]) } o :=
 Scr.ok h mix (
 have c0 := fi4_c;
 .rt [] [] [(4, hK c0 [] [])] [] [] [] (aj (u2 (al (u2 (aj (k3 (al (c0))) s2)))) t2)) (by kernel_rfl)
theorem ii4_ct (r : Ret) (h : MReach (ii4Step) (ii4En) r) : CT Tryd.prog 51 ([]) ([.int .i64 4]) r.1 r.2 :=
  CT.mach (fn := Tryd.f51) (c := bodyOf Tryd.f51) (S := ii4St) (hd := ii4Hd) Tryd.func51 (by kernel_rfl) (Nat.le_of_ble_eq_true rfl)
    (fun s o ho => match s, ho with
      | x, _ => x.elim)
    (fun o ho => ii4En_ok o ho) h
theorem ii1_c : CT Tryd.prog 51 [] [.int .i64 1] [] (.str (digB 1)) := ii1_ct ([], _) (.val (show ii1En = _ by unfold ii1En; rfl))
theorem ii2_c : CT Tryd.prog 51 [] [.int .i64 2] [] (.str (digB 2)) := ii2_ct ([], _) (.val (show ii2En = _ by unfold ii2En; rfl))
theorem ii3_c : CT Tryd.prog 51 [] [.int .i64 3] [] (.str (digB 3)) := ii3_ct ([], _) (.val (show ii3En = _ by unfold ii3En; rfl))
theorem ii4_c : CT Tryd.prog 51 [] [.int .i64 4] [] (.str (digB 4)) := ii4_ct ([], _) (.val (show ii4En = _ by unfold ii4En; rfl))
noncomputable def it1St : Empty → St
  | x => x.elim
def it1Hd : Empty → Nat
  | x => x.elim
noncomputable def it1En : Option (Empty ⊕ Ret) :=
  some (.inr ([], AV.str (digB 1)))
noncomputable def it1Step : Empty → Option (Empty ⊕ Ret)
  | x => x.elim
theorem it1En_ok (o : Empty ⊕ Ret) (h : it1En = some o) : Arr Tryd.prog Tryd.f36 0 (it1St) it1Hd (bodyOf Tryd.f36) [] { n := Tryd.f36.ntmps, fr := enumF 0 ([.int .i64 1]), hp := ([]) } o :=
 Scr.ok h mix (
 have c0 := ii1_c;
 .rt [] [] [(4, hK c0 [] [])] [] [] [] (aj (u2 (al (u2 (aj (k2 (al (c0))) s2)))) t2)) (by kernel_rfl)
theorem it1_ct (r : Ret) (h : MReach (it1Step) (it1En) r) : CT Tryd.prog 36 ([]) ([.int .i64 1]) r.1 r.2 :=
  CT.mach (fn := Tryd.f36) (c := bodyOf Tryd.f36) (S := it1St) (hd := it1Hd) Tryd.func36 (by kernel_rfl) (Nat.le_of_ble_eq_true rfl)
    (fun s o ho => match s, ho with
      | x, _ => x.elim)
    (fun o ho => it1En_ok o ho) h
noncomputable def it2St : Empty → St
  | x => x.elim
def it2Hd : Empty → Nat
  | x => x.elim
noncomputable def it2En : Option (Empty ⊕ Ret) :=
  some (.inr ([], AV.str (digB 2)))
noncomputable def it2Step : Empty → Option (Empty ⊕ Ret)
  | x => x.elim
theorem it2En_ok (o : Empty ⊕ Ret) (h : it2En = some o) : Arr Tryd.prog Tryd.f36 0 (it2St) it2Hd (bodyOf Tryd.f36) [] { n := Tryd.f36.ntmps, fr := enumF 0 ([.int .i64 2]), hp := ([]) } o :=
 Scr.ok h mix (
 have c0 := ii2_c;
 .rt [] [] [(4, hK c0 [] [])] [] [] [] (aj (u2 (al (u2 (aj (k2 (al (c0))) s2)))) t2)) (by kernel_rfl)
theorem it2_ct (r : Ret) (h : MReach (it2Step) (it2En) r) : CT Tryd.prog 36 ([]) ([.int .i64 2]) r.1 r.2 :=
  CT.mach (fn := Tryd.f36) (c := bodyOf Tryd.f36) (S := it2St) (hd := it2Hd) Tryd.func36 (by kernel_rfl) (Nat.le_of_ble_eq_true rfl)
    (fun s o ho => match s, ho with
      | x, _ => x.elim)
    (fun o ho => it2En_ok o ho) h
noncomputable def it3St : Empty → St
  | x => x.elim
def it3Hd : Empty → Nat
  | x => x.elim
noncomputable def it3En : Option (Empty ⊕ Ret) :=
  some (.inr ([], AV.str (digB 3)))
noncomputable def it3Step : Empty → Option (Empty ⊕ Ret)
  | x => x.elim
theorem it3En_ok (o : Empty ⊕ Ret) (h : it3En = some o) : Arr Tryd.prog Tryd.f36 0 (it3St) it3Hd (bodyOf Tryd.f36) [] { n := Tryd.f36.ntmps, fr := enumF 0 ([.int .i64 3]), hp := ([]) } o :=
 Scr.ok h mix (
 have c0 := ii3_c;
 .rt [] [] [(4, hK c0 [] [])] [] [] [] (aj (u2 (al (u2 (aj (k2 (al (c0))) s2)))) t2)) (by kernel_rfl)
theorem it3_ct (r : Ret) (h : MReach (it3Step) (it3En) r) : CT Tryd.prog 36 ([]) ([.int .i64 3]) r.1 r.2 :=
  CT.mach (fn := Tryd.f36) (c := bodyOf Tryd.f36) (S := it3St) (hd := it3Hd) Tryd.func36 (by kernel_rfl) (Nat.le_of_ble_eq_true rfl)
    (fun s o ho => match s, ho with
      | x, _ => x.elim)
    (fun o ho => it3En_ok o ho) h
noncomputable def it4St : Empty → St
  | x => x.elim
def it4Hd : Empty → Nat
  | x => x.elim
noncomputable def it4En : Option (Empty ⊕ Ret) :=
  some (.inr ([], AV.str (digB 4)))
noncomputable def it4Step : Empty → Option (Empty ⊕ Ret)
  | x => x.elim
theorem it4En_ok (o : Empty ⊕ Ret) (h : it4En = some o) : Arr Tryd.prog Tryd.f36 0 (it4St) it4Hd (bodyOf Tryd.f36) [] { n := Tryd.f36.ntmps, fr := enumF 0 ([.int .i64 4]), hp := ([]) } o :=
 Scr.ok h mix (
 have c0 := ii4_c;
 .rt [] [] [(4, hK c0 [] [])] [] [] [] (aj (u2 (al (u2 (aj (k2 (al (c0))) s2)))) t2)) (by kernel_rfl)
theorem it4_ct (r : Ret) (h : MReach (it4Step) (it4En) r) : CT Tryd.prog 36 ([]) ([.int .i64 4]) r.1 r.2 :=
  CT.mach (fn := Tryd.f36) (c := bodyOf Tryd.f36) (S := it4St) (hd := it4Hd) Tryd.func36 (by kernel_rfl) (Nat.le_of_ble_eq_true rfl)
    (fun s o ho => match s, ho with
      | x, _ => x.elim)
    (fun o ho => it4En_ok o ho) h
theorem it1_c : CT Tryd.prog 36 [] [.int .i64 1] [] (.str (digB 1)) := it1_ct ([], _) (.val (show it1En = _ by unfold it1En; rfl))
theorem it2_c : CT Tryd.prog 36 [] [.int .i64 2] [] (.str (digB 2)) := it2_ct ([], _) (.val (show it2En = _ by unfold it2En; rfl))
theorem it3_c : CT Tryd.prog 36 [] [.int .i64 3] [] (.str (digB 3)) := it3_ct ([], _) (.val (show it3En = _ by unfold it3En; rfl))
theorem it4_c : CT Tryd.prog 36 [] [.int .i64 4] [] (.str (digB 4)) := it4_ct ([], _) (.val (show it4En = _ by unfold it4En; rfl))
theorem it_c (k : Int) (h : 1 ≤ k ∧ k ≤ 4) : CT Tryd.prog 36 [] [.int .i64 k] [] (.str (digB k.toNat)) := by
  obtain rfl | rfl | rfl | rfl : k = 1 ∨ k = 2 ∨ k = 3 ∨ k = 4 := by omega
  · exact it1_c
  · exact it2_c
  · exact it3_c
  · exact it4_c
noncomputable def namSt (n : NetD) (c : Int) : Empty → St
  | x => x.elim
def namHd : Empty → Nat
  | x => x.elim
noncomputable def namEn (n : NetD) (c : Int) : Option (Empty ⊕ Ret) :=
  gu (Rows n.nx) <|
  br (ckE n c != 0)
  (some (.inr ([], AV.tup [AV.str (ByteArray.mk #[]), AV.int IntKind.i64 (ckE n c)])))
  (gu (ValidN n) <|
   gu (-1000 ≤ c ∧ c ≤ 1000) <|
   br (decide (plI n c < 0))
   (gu (0 ≤ c) <|
    el (n.bs) (c.toNat) fun (x26 : BlkD) =>
    some (.inr ([], AV.tup [AV.str x26.nm, AV.int IntKind.i64 0])))
   (gu (0 ≤ plI n c) <|
    el (n.ss) ((plI n c).toNat) fun (x32 : SpuD) =>
    gu ((x32.nm.size + 1).le 9223372036854775807) <|
    gu (1 ≤ plJ n c ∧ plJ n c ≤ 4) <|
    gu (((x32.nm ++ ByteArray.mk #[47]).size + (digB (plJ n c).toNat).size).le 9223372036854775807) <|
    some (.inr ([], AV.tup [AV.str (x32.nm ++ ByteArray.mk #[47] ++ digB (plJ n c).toNat), AV.int IntKind.i64 0]))))
noncomputable def namStep (n : NetD) (c : Int) : Empty → Option (Empty ⊕ Ret)
  | x => x.elim
theorem namEn_ok (n : NetD) (c : Int) (o : Empty ⊕ Ret) (h : namEn n c = some o) : Arr Tryd.prog Tryd.f14 0 (namSt n c) namHd (bodyOf Tryd.f14) [] { n := Tryd.f14.ntmps, fr := enumF 0 ([netA n, .int .i64 c]), hp := ([]) } o :=
 Scr.ok h mix (
 .rn 0 [] [] [] [] (al (u2 t3)) <|
 .gu fun a0 =>
 have c0 := ck_c (n) (c) a0;
 .rn 1 [] [] [(11, hK c0 [] [])] [] (aj (u2 (u2 (aj (k2 (aj t9 (ak (al (c0))))) s2))) (al (u2 s2))) <|
 .br (fun a1 =>
 .rt [27] [] [] [] [] [] (aj (aj a1 (al (u2 (ak s2)))) (al t3)))
 (fun a1 =>
 .gu fun a2 =>
 .gu fun a3 =>
 have c1 := place_ct a2 (c) a3;
 .rn 1 [26] [] [(18, hK c1 [] [])] [] (aj a1 (aj (u2 (u2 (aj (k2 (aj t9 (ak (al (c1))))) (u2 (u2 (u2 (u2 s2))))))) (al (u2 s2)))) <|
 .br (fun a4 =>
  .gu fun a5 =>
  .el fun x26 a6 =>
  .rt [45] [(26, bA x26)] [] [] [] [] (aj (aj a4 (al (u2 (u2 (u2 (aj (k2 (aj a5 (getMap (f := bA) a6))) (u2 (u2 (u2 t2))))))))) (al t3)))
 (fun a4 =>
  .gu fun a5 =>
  .el fun x32 a6 =>
  .gu fun a7 =>
  .gu fun a8 =>
  .gu fun a9 =>
  have c2 := it_c (plJ n c) a8;
  .rt [44] [(32, sA x32)] [(37, hK c2 [] [])] [] [] [] (aj (aj a4 (al (u2 (u2 (u2 (aj (k2 (aj a5 (getMap (f := sA) a6))) (u2 (u2 (aj (ak a7) (u2 (aj (k2 (al (c2))) (aj (k2 a9) (u2 t2))))))))))))) (al t3))))) (by kernel_rfl)
theorem nam_ct (n : NetD) (c : Int) (r : Ret) (h : MReach (namStep n c) (namEn n c) r) : CT Tryd.prog 14 ([]) ([netA n, .int .i64 c]) r.1 r.2 :=
  CT.mach (fn := Tryd.f14) (c := bodyOf Tryd.f14) (S := namSt n c) (hd := namHd) Tryd.func14 (by kernel_rfl) (Nat.le_of_ble_eq_true rfl)
    (fun s o ho => match s, ho with
      | x, _ => x.elim)
    (fun o ho => namEn_ok n c o ho) h
noncomputable def namZ (n : NetD) (c : Int) : ByteArray := if ckE n c = 0 then (match plF n c with | some i => (n.ss.getD i s0).nm ++ ⟨#[47]⟩ ++ digB (plJ n c).toNat | none => (n.bs.getD c.toNat ⟨⟨#[]⟩, 0, 0⟩).nm) else ⟨#[]⟩
theorem nm_size {s : ByteArray} (h : nmB s = true) : s.size ≤ 12 := by
  unfold nmB at h
  simp only [Bool.and_eq_true, Bool.not_eq_true', decide_eq_false_iff_not, iN] at h
  omega
theorem dig_size (k : Nat) : (digB k).size ≤ 2 := by unfold digB; split <;> exact Nat.le_of_ble_eq_true rfl
theorem pl_slot {n : NetD} (hv : ValidN n) {c : Int} {i : Nat} (h : plF n c = some i) : 1 ≤ plJ n c ∧ plJ n c ≤ 4 ∧ 0 ≤ plI n c ∧ plI n c = (i : Int) ∧ i < n.ss.length := by
  obtain ⟨s, hs, hg, g1, g2, hl⟩ := plF_some h
  obtain ⟨e1, e2⟩ := plI_some h
  have := hv.sb hs
  rw [e1, e2, hg]; exact ⟨by omega, by omega, by omega, rfl, hl⟩
theorem nam_c (n : NetD) (c : Int) (hrw : Rows n.nx) : CT Tryd.prog 14 [] [netA n, .int .i64 c] [] (.tup [.str (namZ n c), .int .i64 (ckE n c)]) := by
  refine nam_ct n c ([], _) (.val ?_)
  unfold namEn namZ
  rw [gu_t hrw]
  by_cases h : ckE n c = 0
  · obtain ⟨hv, h0, h1⟩ := ckE_ok h
    have hce := hv.cel
    rw [br_f (by rw [h]; rfl), gu_t hv, gu_t (by omega), if_pos h]
    cases hp : plF n c with
    | some i =>
      obtain ⟨g1, g2, g3, g4, g5⟩ := pl_slot hv hp
      have hs := getE s0 g5
      have z1 := nm_size (hv.spu i _ hs).nm
      have z2 := dig_size (plJ n c).toNat
      have z3 : ((n.ss.getD i s0).nm ++ (⟨#[47]⟩ : ByteArray)).size = (n.ss.getD i s0).nm.size + 1 := by rw [ByteArray.size_append]; rfl
      rw [br_f (dec_f (by omega)), g4, gu_t (by omega), Int.toNat_natCast, el_t hs, gu_t (show Nat.le _ _ from (show (n.ss.getD i s0).nm.size + 1 ≤ 9223372036854775807 by omega)), gu_t ⟨g1, g2⟩, gu_t (show Nat.le _ _ from (show ((n.ss.getD i s0).nm ++ (⟨#[47]⟩ : ByteArray)).size + (digB (plJ n c).toNat).size ≤ 9223372036854775807 by omega)), h]
    | none =>
      have hb := plF_block hv h0 h1 hp
      rw [plI_none hp, br_t (by rfl), gu_t h0, el_t (getE ⟨⟨#[]⟩, 0, 0⟩ (show c.toNat < n.bs.length by omega)), h]
  · rw [br_t (bne_iff_ne.2 h), if_neg h]
theorem ex9_exP : ∃ n : NetD, n = ⟨[⟨⟨#[97]⟩, 0, 0⟩, ⟨⟨#[98]⟩, 0, 0⟩], [[1], [0]], [⟨⟨#[100]⟩, true, 0, 1, 2, 2⟩], [3], 4, 2, 1, 8⟩ := ⟨_, rfl⟩
@[irreducible] noncomputable def exN : NetD := Classical.choose ex9_exP
theorem exN_eq : exN = ⟨[⟨⟨#[97]⟩, 0, 0⟩, ⟨⟨#[98]⟩, 0, 0⟩], [[1], [0]], [⟨⟨#[100]⟩, true, 0, 1, 2, 2⟩], [3], 4, 2, 1, 8⟩ := by unfold exN; exact Classical.choose_spec ex9_exP
theorem ex9_c : CT Tryd.prog 30 [] [] [] (netA exN) := by
  rw [exN_eq]
  exact ex9_ct _ (.val (show ex9En = some (.inr _) by unfold ex9En; exact rfl))
theorem exN_rows : Rows exN.nx := by
  rw [exN_eq]
  intro v hv
  match v, hv with
  | 0, _ => decide
  | 1, _ => decide
  | v + 2, hv => simp at hv; try omega
theorem exN_ok : ValidN exN := by
  rw [exN_eq]
  refine ⟨by decide +kernel, rfl, by decide, by decide, by decide +kernel, ?_, ?_, ?_, ?_, ?_⟩
  · intro i b h
    match i, h with
    | 0, h => cases h; exact ⟨by decide +kernel, by decide +kernel, by decide +kernel, by decide +kernel⟩
    | 1, h => cases h; exact ⟨by decide +kernel, by decide +kernel, by decide +kernel, by decide +kernel⟩
    | i + 2, h => simp at h
  · intro i s h
    match i, h with
    | 0, h => cases h; exact ⟨by decide +kernel, by decide +kernel, by decide +kernel, by decide +kernel, by decide +kernel⟩
    | i + 1, h => simp at h
  · decide +kernel
  · exact ⟨2, ⟨⟨#[100]⟩, true, 0, 1, 2, 2⟩, by simp, rfl, by decide, by decide⟩
  · intro i c h
    match i, h with
    | 0, h => cases h; exact ⟨⟨⟨⟨#[100]⟩, true, 0, 1, 2, 2⟩, by simp, rfl, by decide, by decide⟩, by simp⟩
    | i + 1, h => simp at h
theorem exN_cel : celN exN = 4 := by rw [exN_eq]; decide +kernel
theorem exN_ck (c : Int) (h : 0 ≤ c ∧ c < 4) : ckE exN c = 0 := ckE_of exN_ok h.1 (by rw [exN_cel]; exact h.2)
theorem nxK0_c : CT Tryd.prog 11 [] [netA exN, .int .i64 0] [] (.tup [lI [1, 2], .int .i64 0]) := by
  have h := cnext_c exN 0 exN_rows
  have e : nxO exN 0 = [1, 2] := by unfold nxO; rw [if_pos (exN_ck 0 (by omega)), exN_eq]; decide +kernel
  rwa [e, exN_ck 0 (by omega)] at h
theorem nxK3_c : CT Tryd.prog 11 [] [netA exN, .int .i64 3] [] (.tup [lI [1], .int .i64 0]) := by
  have h := cnext_c exN 3 exN_rows
  have e : nxO exN 3 = [1] := by unfold nxO; rw [if_pos (exN_ck 3 (by omega)), exN_eq]; decide +kernel
  rwa [e, exN_ck 3 (by omega)] at h
theorem cntK_c : CT Tryd.prog 10 [] [netA exN] [] (.tup [.int .i64 4, .int .i64 0]) := by
  have h := cnt_c exN_rows
  have e : cntZ exN = 4 := by unfold cntZ; rw [if_pos (valB_iff.2 exN_ok), exN_cel]; rfl
  have e2 : cntE exN = 0 := by unfold cntE; rw [if_pos (valB_iff.2 exN_ok)]
  rwa [e, e2] at h
theorem namK_c : CT Tryd.prog 14 [] [netA exN, .int .i64 3] [] (.tup [.str ⟨#[100, 47, 50]⟩, .int .i64 0]) := by
  have h := nam_c exN 3 exN_rows
  have e : namZ exN 3 = ⟨#[100, 47, 50]⟩ := by unfold namZ; rw [if_pos (exN_ck 3 (by omega)), exN_eq]; decide +kernel
  rwa [e, exN_ck 3 (by omega)] at h
theorem folK_c : CT Tryd.prog 12 [] [netA exN, .int .i64 2, .int .i64 3] [] (.bool true) := by
  have h := cfol_c exN 2 3 exN_rows
  have e : folB exN 2 3 = true := by
    have e1 : nxO exN 2 = [3] := by unfold nxO; rw [if_pos (exN_ck 2 (by omega)), exN_eq]; decide +kernel
    unfold folB; rw [e1]; decide +kernel
  rwa [e] at h
theorem si12_c : CT Tryd.prog 17 [] [lI [1, 2], lI [1, 2]] [] (.bool true) := sameInts_ct [1, 2] (by decide)
theorem si1_c : CT Tryd.prog 17 [] [lI [1], lI [1]] [] (.bool true) := sameInts_ct [1] (by decide)
noncomputable def kn9St : Empty → St
  | x => x.elim
def kn9Hd : Empty → Nat
  | x => x.elim
noncomputable def kn9En : Option (Empty ⊕ Ret) :=
  some (.inr ([], AV.bool true))
noncomputable def kn9Step : Empty → Option (Empty ⊕ Ret)
  | x => x.elim
theorem kn9En_ok (o : Empty ⊕ Ret) (h : kn9En = some o) : Arr Tryd.prog Tryd.f8 0 (kn9St) kn9Hd (bodyOf Tryd.f8) [] { n := Tryd.f8.ntmps, fr := enumF 0 ([]), hp := ([]) } o :=
 Scr.ok h mix (
 have c0 := ex9_c;
 have c1 := nxK0_c;
 have c2 := nxK3_c;
 have c3 := cntK_c;
 have c4 := namK_c;
 have c5 := si12_c;
 have c6 := si1_c;
 have c7 := folK_c;
 .rt [] [] [(10, hK c0 [] []), (13, hK c1 [] []), (18, hK c2 [] []), (23, hK c3 [] []), (28, hK c4 [] []), (48, hK c5 [] [1]), (53, hK c6 [] [2]), (65, hK c7 [] [])] [] [] [] (aj (u2 (aj (aj (al (c0)) (ak (al (k2 n11)))) (aj (u2 (aj (ak (aj t9 (ak (al (c1))))) (u2 (u2 (u2 (u2 s2)))))) (aj (u2 (aj (ak (aj t9 (ak (al (c2))))) (u2 (u2 (u2 (u2 s2)))))) (aj (u2 (aj (ak (aj t9 (al (c3)))) (u2 (u2 (u2 (u2 s2)))))) (aj (u2 (aj (ak (aj t9 (ak (al (c4))))) (u2 (u2 (u2 (u2 s2)))))) (al (u2 (u2 (u2 (aj t3 (aj t3 (aj t3 (u2 (aj t3 (aj t3 (aj t3 (u2 (aj t3 (aj t3 (aj t3 (u2 (aj t3 (u2 (aj (ak (k3 (aj (show nat_lit 2 = nat_lit 2 from rfl) (aj (c5) (show ∀ (blk : Blk), blk ∈ [] → ImmB blk from (by intro _ h; cases h)))))) (aj t3 (u2 (aj t3 (u2 (aj (ak (k3 (aj (show nat_lit 1 = nat_lit 1 from rfl) (aj (c6) (show ∀ (blk : Blk), blk ∈ [] → ImmB blk from (by intro _ h; cases h)))))) (aj t3 (u2 (aj t3 (aj t3 (aj t3 (u2 (aj t3 (aj t3 (aj t3 (u2 (aj t3 (aj (k2 (aj t9 (k2 (al (c7))))) (aj t3 s2))))))))))))))))))))))))))))))))))))))))))) t2)) (by kernel_rfl)
theorem kn9_ct (r : Ret) (h : MReach (kn9Step) (kn9En) r) : CT Tryd.prog 8 ([]) ([]) r.1 r.2 :=
  CT.mach (fn := Tryd.f8) (c := bodyOf Tryd.f8) (S := kn9St) (hd := kn9Hd) Tryd.func8 (by kernel_rfl) (Nat.le_of_ble_eq_true rfl)
    (fun s o ho => match s, ho with
      | x, _ => x.elim)
    (fun o ho => kn9En_ok o ho) h
theorem kn9_c : CT Tryd.prog 8 [] [] [] (.bool true) := by
  refine kn9_ct ([], _) (.val ?_)
  unfold kn9En
  rfl
inductive ceNPc where
  | l0 (v0 : List ByteArray) (v1 : Int)
  | l1 (v0 : List ByteArray) (v1 : Int) (v2 : ByteArray) (v3 : Int) (v4 : Bool)
noncomputable def ceNSt (ls : List Int) : ceNPc → St
  | .l0 v0 v1 => St.mk 57 [(3, AV.ptr 0 0 0), (4, iv (cntZ (looM ls 0 8))), (6, AV.sl 1 0 v0.length), (7, iv v1)] [some (Blk.mk [netA (looM ls 0 8)] 8 true true none), some (Blk.mk (List.map AV.str v0) 1 true true none)]
  | .l1 v0 v1 v2 v3 v4 => St.mk 57 [(3, AV.ptr 0 0 0), (4, iv (cntZ (looM ls 0 8))), (6, AV.sl 1 0 v0.length), (7, iv v1), (8, AV.str v2), (10, iv v3), (38, AV.str v2), (39, AV.bool v4)] [some (Blk.mk [netA (looM ls 0 8)] 8 true true none), some (Blk.mk (List.map AV.str v0) 1 true true none)]
def ceNHd : ceNPc → Nat
  | .l0 _ _ => 0
  | .l1 _ _ _ _ _ => 1
noncomputable def ceNEn (ls : List Int) : Option (ceNPc ⊕ Ret) :=
  gu (Rows (looM ls 0 8).nx) <|
  br (cntE (looM ls 0 8) != 0)
  (some (.inr ([], AV.bool false)))
  (some (.inl (.l0 ([]) ((0 : Int)))))
noncomputable def ceNS0 (ls : List Int) (v0 : List ByteArray) (v1 : Int) : Option (ceNPc ⊕ Ret) :=
  br (decide (v1 < cntZ (looM ls 0 8)))
  (gu (Rows (looM ls 0 8).nx) <|
   br (ckE (looM ls 0 8) v1 != 0)
   (some (.inr ([], AV.bool false)))
   (br ((namZ (looM ls 0 8) v1).toList == (ByteArray.mk #[]).toList)
    (some (.inr ([], AV.bool false)))
    (some (.inl (.l1 (v0) (v1) (namZ (looM ls 0 8) v1) ((0 : Int)) ((namZ (looM ls 0 8) v1).toList == (ByteArray.mk #[]).toList))))))
  (some (.inr ([], AV.bool true)))
noncomputable def ceNS1 (ls : List Int) (v0 : List ByteArray) (v1 : Int) (v2 : ByteArray) (v3 : Int) (v4 : Bool) : Option (ceNPc ⊕ Ret) :=
  br (decide (v3 < iN v0.length))
  (gu (0 ≤ v3) <|
   gu (v3 < iN v0.length) <|
   el (v0) (0 + v3.toNat) fun (x50 : ByteArray) =>
   br (x50.toList == v2.toList)
   (some (.inr ([], AV.bool false)))
   (some (.inl (.l1 (v0) (v1) (v2) (IntKind.i64.wrap (v3 + 1)) (v4)))))
  (gu ((List.map AV.str v0).length + [AV.str v2].length ≤ 9223372036854775807) <|
   gu (((List.map AV.str v0).length + [AV.str v2].length) * 16 ≤ 140737488355328) <|
   some (.inl (.l0 (v0 ++ [v2]) (IntKind.i64.wrap (v1 + 1)))))
noncomputable def ceNStep (ls : List Int) : ceNPc → Option (ceNPc ⊕ Ret)
  | .l0 v0 v1 => ceNS0 ls v0 v1
  | .l1 v0 v1 v2 v3 v4 => ceNS1 ls v0 v1 v2 v3 v4
theorem ceNEn_ok (ls : List Int) (o : ceNPc ⊕ Ret) (h : ceNEn ls = some o) : Arr Tryd.prog Tryd.f4 0 (ceNSt ls) ceNHd (bodyOf Tryd.f4) [] { n := Tryd.f4.ntmps, fr := enumF 0 ([lI ls]), hp := ([]) } o :=
 Scr.ok h mix (
 have c0 := kn9_c;
 have c1 := loose_ct (ls) (0) (8) (show nat_lit 0 ≤ (5000 : Nat) from (by first | exact Nat.le_of_ble_eq_true rfl | decide)) (show (1 : Int) ≤ (8 : Int) ∧ (8 : Int) ≤ (20 : Int) from ⟨(by first | exact Nat.le_of_ble_eq_true rfl | decide), (by first | exact Nat.le_of_ble_eq_true rfl | decide)⟩);
 .rn 2 [] [] [(11, hK c0 [] []), (16, hK c1 [0] [])] [] (u2 (aj (aj (al (c0)) s2) (ak (al (u2 (u2 (u2 (aj (ak (k3 (al (c1)))) (ak (al (k2 n11))))))))))) <|
 .gu fun a0 =>
 have c2 := cnt_c a0;
 .rn 1 [] [] [(19, hK c2 [] [])] [] (aj (u2 (aj (ak (aj t9 (al (c2)))) (u2 (u2 (u2 (u2 s2)))))) (al (u2 s2))) <|
 .br (fun a1 =>
 .rt [47] [] [] [] [] [] (aj (aj a1 s2) t2))
 (fun a1 =>
 .lp [46] [] [] [] [(6, 1)] [1, 2] [3, 4, 6, 7] (aj (aj a1 (u2 s2)) t7))) (by kernel_rfl)
theorem ceNS0_ok (ls : List Int) (v0 : List ByteArray) (v1 : Int) (o : ceNPc ⊕ Ret) (h : ceNS0 ls v0 v1 = some o) : Arr Tryd.prog Tryd.f4 0 (ceNSt ls) ceNHd (headC Tryd.f4 0) (.rnd (headC Tryd.f4 0) :: headK Tryd.f4 0) (ceNSt ls (.l0 v0 v1)) o :=
 Scr.ok h mix (
 .rn 0 [] [] [] [] (al (u2 (u2 (al t3)))) <|
 .br (fun a0 =>
 .gu fun a1 =>
 have c0 := nam_c (looM ls 0 8) (v1) a1;
 .rn 0 [53] [] [(32, hK c0 [] [])] [] (aj a0 (al (u2 (u2 (aj (k2 (aj t9 (ak (al (c0))))) (u2 (u2 (u2 (u2 s2))))))))) <|
 .br (fun a2 =>
  .rt [75] [] [] [] [] [] (aj (aj (u2 (u2 (u2 (aj a2 (aj a2 (al (aj a2 t2))))))) (ak s2)) t2))
 (fun a2 =>
  .rn 0 [74] [] [] [] (al (u2 (u2 (u2 (ag a2 (ag a2 (al (aj a2 t2)))))))) <|
  .br (fun a3 =>
  .rt [74, 81] [] [] [] [] [] (aj (aj a3 s2) t2))
  (fun a3 =>
  .lp [74, 80] [] [] [] [] [0, 1] [3, 4, 6, 7, 8, 10, 38, 39] (aj (aj a3 s2) (k2 t9)))))
 (fun a0 =>
 .rt [52] [] [] [] [] [] (aj (aj a0 s2) t2))) (by kernel_rfl)
theorem ceNS1_ok (ls : List Int) (v0 : List ByteArray) (v1 : Int) (v2 : ByteArray) (v3 : Int) (v4 : Bool) (o : ceNPc ⊕ Ret) (h : ceNS1 ls v0 v1 v2 v3 v4 = some o) : Arr Tryd.prog Tryd.f4 0 (ceNSt ls) ceNHd (headC Tryd.f4 1) (.rnd (headC Tryd.f4 1) :: headK Tryd.f4 1) (ceNSt ls (.l1 v0 v1 v2 v3 v4)) o :=
 Scr.ok h mix (
 .rn 0 [] [] [] [] (al (u2 (u2 (u2 (al t3))))) <|
 .br (fun a0 =>
 .gu fun a1 =>
 .gu fun a2 =>
 .el fun x50 a3 =>
 .rn 0 [89] [(50, AV.str x50)] [] [] (aj a0 (al (u2 (u2 (aj (k2 (aj a1 a2)) (aj (ak (getMap (f := AV.str) a3)) (u2 (al t3)))))))) <|
 .br (fun a4 =>
  .rt [105] [] [] [] [] [] (aj (aj a4 s2) t2))
 (fun a4 =>
  .lp [104] [] [] [] [] [0, 1] [3, 4, 6, 7, 8, 10, 38, 39] (aj (aj a4 (al (u2 (u2 s2)))) (k2 t9))))
 (fun a0 =>
 .gu fun a1 =>
 .gu fun a2 =>
 .lq [88] [] [] [] [] [0, 3] [3, 4, 6, 7] (up [(6, AV.sl 1 0 ((List.map AV.str v0).length + [AV.str v2].length))] [(1, List.map AV.str v0 ++ [AV.str v2])] (ceNSt ls (.l0 (v0 ++ [v2]) (IntKind.i64.wrap (v1 + 1))))) (aj (aj a0 (aj (u2 (u2 (u2 (aj (k2 (aj (show (List.map AV.str v0).length = v0.length by simp) (aj (aj (show nat_lit 1 = nat_lit 1 from rfl) (show 1 ≤ [AV.str v2].length by simp)) (aj a1 a2)))) s2)))) (al (u2 (u2 s2))))) t7) (by simp [up, upF, upV, upH, upB, ceNSt, gL, boL, lI, sA, bA]))) (by kernel_rfl)
theorem ceN_ct (ls : List Int) (r : Ret) (h : MReach (ceNStep ls) (ceNEn ls) r) : CT Tryd.prog 4 ([]) ([lI ls]) r.1 r.2 :=
  CT.mach (fn := Tryd.f4) (c := bodyOf Tryd.f4) (S := ceNSt ls) (hd := ceNHd) Tryd.func4 (by kernel_rfl) (Nat.le_of_ble_eq_true rfl)
    (fun s o ho => match s, ho with
      | .l0 v0 v1, ho => ceNS0_ok ls v0 v1 o ho
      | .l1 v0 v1 v2 v3 v4, ho => ceNS1_ok ls v0 v1 v2 v3 v4 o ho
    )
    (fun o ho => ceNEn_ok ls o ho) h
theorem cnt_valid {n : NetD} (hv : ValidN n) : cntZ n = (celN n : Int) ∧ cntE n = 0 := by
  unfold cntZ cntE; rw [if_pos (valB_iff.2 hv), if_pos (valB_iff.2 hv)]; exact ⟨rfl, rfl⟩
theorem nm_ok {s : ByteArray} (h : nmB s = true) {i : Nat} (hi : i < s.size) : okB (bAt s i) = true := by
  unfold nmB at h
  simp only [Bool.and_eq_true, Bool.not_eq_true', Option.isSome_eq_false_iff, Option.isNone_iff_eq_none] at h
  have := fnd_none h.2 i (by omega) (by omega)
  simpa using this
theorem nm_pos {s : ByteArray} (h : nmB s = true) : 0 < s.size := by
  rcases Nat.eq_zero_or_pos s.size with h0 | h0
  · have e : s = ⟨#[]⟩ := ByteArray.ext (Array.eq_empty_of_size_eq_zero h0)
    subst e
    unfold nmB at h
    simp at h
  · exact h0
theorem ok47 : okB 47 = false := by unfold okB letB; rfl
theorem bAt_l (s : ByteArray) (i : Nat) : bAt s i = ((s.data.toList.getD i 0).toNat : Int) := by unfold bAt; rfl
theorem slot_bytes (s : ByteArray) (k : Nat) (hk : k < 10) : (s ++ (⟨#[47]⟩ : ByteArray) ++ digB k).data.toList = s.data.toList ++ [47, UInt8.ofNat (48 + k)] := by
  unfold digB
  rw [if_pos hk, ByteArray.data_append, ByteArray.data_append, Array.toList_append, Array.toList_append, List.append_assoc]; rfl
theorem dig_inj : ∀ a, a < 10 → ∀ b, b < 10 → UInt8.ofNat (48 + a) = UInt8.ofNat (48 + b) → a = b := by decide +kernel
theorem slot_inj {s t : ByteArray} {a b : Nat} (ha : a < 10) (hb : b < 10) (h : s ++ (⟨#[47]⟩ : ByteArray) ++ digB a = t ++ (⟨#[47]⟩ : ByteArray) ++ digB b) : s = t ∧ a = b := by
  have e := congrArg (fun x : ByteArray => x.data.toList) h
  simp only [slot_bytes _ _ ha, slot_bytes _ _ hb] at e
  have hl := congrArg List.length e
  simp only [List.length_append, List.length_cons, List.length_nil] at hl
  obtain ⟨e1, e2⟩ := List.append_inj e (by omega)
  simp only [List.cons.injEq, true_and, and_true] at e2
  exact ⟨ByteArray.ext (Array.toList_inj.1 e1), dig_inj a ha b hb e2⟩
theorem slot_block {s t : ByteArray} {a : Nat} (ha : a < 10) (ht : nmB t = true) : t ≠ s ++ (⟨#[47]⟩ : ByteArray) ++ digB a := by
  intro h
  have e : t.data.toList = s.data.toList ++ [47, UInt8.ofNat (48 + a)] := by rw [h]; exact slot_bytes _ _ ha
  have hsz : t.size = s.data.toList.length + 2 := by
    have := congrArg List.length e
    rw [List.length_append] at this
    exact this
  have ho := nm_ok ht (i := s.data.toList.length) (by omega)
  rw [bAt_l, e] at ho
  simp only [List.getD_eq_getElem?_getD, List.getElem?_append_right (Nat.le_refl _), Nat.sub_self, List.getElem?_cons_zero, Option.getD_some] at ho
  rw [show ((47 : UInt8).toNat : Int) = 47 from rfl, ok47] at ho
  cases ho
theorem nams_nodup {n : NetD} (hv : ValidN n) : (∀ (i j : Nat) (x y : BlkD), n.bs[i]? = some x → n.bs[j]? = some y → x.nm = y.nm → i = j) ∧ (∀ (i j : Nat) (x y : SpuD), n.ss[i]? = some x → n.ss[j]? = some y → x.nm = y.nm → i = j) := by
  have h := hv.nod
  unfold namesL at h
  rw [List.nodup_append] at h
  have key : ∀ {α : Type} (f : α → ByteArray) (l : List α), (l.map f).Nodup → ∀ (i j : Nat) (x y : α), l[i]? = some x → l[j]? = some y → f x = f y → i = j := by
    intro α f l hn i j x y hx hy e
    have h1 := (List.getElem?_eq_some_iff.1 hx).1
    have h2 := (List.getElem?_eq_some_iff.1 hy).1
    have hp := List.pairwise_iff_getElem.1 hn
    have g : ∀ (a : Nat) (z : α) (ha : a < (l.map f).length), l[a]? = some z → (l.map f)[a] = f z := fun a z ha hz => by
      rw [List.getElem_map, (List.getElem?_eq_some_iff.1 hz).2]
    have l1 : i < (l.map f).length := by simpa using h1
    have l2 : j < (l.map f).length := by simpa using h2
    rcases Nat.lt_trichotomy i j with h | h | h
    · exact absurd ((g i x l1 hx).trans (e.trans (g j y l2 hy).symm)) (hp i j l1 l2 h)
    · exact h
    · exact absurd ((g j y l2 hy).trans (e.symm.trans (g i x l1 hx).symm)) (hp j i l2 l1 h)
  exact ⟨fun i j x y => key _ _ h.1 i j x y, fun i j x y => key _ _ h.2.1 i j x y⟩
theorem nam_cases {n : NetD} (hv : ValidN n) {c : Nat} (hc : c < celN n) : (∃ x : BlkD, n.bs[c]? = some x ∧ namZ n (c : Int) = x.nm) ∨ ∃ (i : Nat) (s : SpuD) (k : Nat), n.ss[i]? = some s ∧ (c : Int) = s.b + k - 1 ∧ 1 ≤ k ∧ k < 10 ∧ namZ n (c : Int) = s.nm ++ (⟨#[47]⟩ : ByteArray) ++ digB k := by
  have hk := ckE_of hv (show (0 : Int) ≤ c by omega) (show (c : Int) < (celN n : Int) by omega)
  unfold namZ
  rw [if_pos hk]
  cases hp : plF n (c : Int) with
  | none =>
    have hb := plF_block hv (show (0 : Int) ≤ c by omega) (by omega) hp
    left
    refine ⟨_, getE ⟨⟨#[]⟩, 0, 0⟩ (show c < n.bs.length by omega), rfl⟩
  | some i =>
    right
    obtain ⟨s, hs, hg, g1, g2, hl⟩ := plF_some hp
    obtain ⟨e1, e2⟩ := plI_some hp
    have sb := hv.sb hs
    rw [hg] at e2
    refine ⟨i, s, (plJ n c).toNat, hs, by omega, by omega, by omega, ?_⟩
    simp only [hg]
theorem nam_inj {n : NetD} (hv : ValidN n) {c d : Nat} (hc : c < celN n) (hd : d < celN n) (h : namZ n (c : Int) = namZ n (d : Int)) : c = d := by
  obtain ⟨n1, n2⟩ := nams_nodup hv
  rcases nam_cases hv hc with ⟨x, hx, ex⟩ | ⟨i, s, k, hs, e1, k1, k2, ex⟩
  · rcases nam_cases hv hd with ⟨y, hy, ey⟩ | ⟨j, t, l, ht, f1, l1, l2, ey⟩
    · exact n1 _ _ _ _ hx hy (by rw [← ex, ← ey, h])
    · rw [ex, ey] at h; exact absurd h (slot_block l2 (hv.blk _ _ hx).nm)
  · rcases nam_cases hv hd with ⟨y, hy, ey⟩ | ⟨j, t, l, ht, f1, l1, l2, ey⟩
    · rw [ex, ey] at h; exact absurd h.symm (slot_block k2 (hv.blk _ _ hy).nm)
    · rw [ex, ey] at h
      obtain ⟨a, b⟩ := slot_inj k2 l2 h
      have := n2 _ _ _ _ hs ht a
      subst this
      rw [hs] at ht; cases ht
      omega
theorem toL_ne {a b : ByteArray} (h : a ≠ b) : (a.toList == b.toList) = false := Bool.eq_false_iff.2 fun e => h (str_eq.1 e)
theorem nam_ne {n : NetD} (hv : ValidN n) {c : Nat} (hc : c < celN n) : namZ n (c : Int) ≠ (ByteArray.mk #[]) := by
  intro h
  rcases nam_cases hv hc with ⟨x, hx, ex⟩ | ⟨i, s, k, hs, e1, k1, k2, ex⟩
  · have := nm_pos (hv.blk _ _ hx).nm
    rw [ex] at h; rw [h] at this; exact absurd this (by decide)
  · have e : (namZ n (c : Int)).data.toList = s.nm.data.toList ++ [47, UInt8.ofNat (48 + k)] := by rw [ex]; exact slot_bytes _ _ k2
    rw [h] at e
    have := congrArg List.length e
    simp at this
theorem ceN_run (ls : List Int) : CT Tryd.prog 4 [] [lI ls] [] (.bool true) := by
  refine ceN_ct ls ([], .bool true) ?_
  have hl := (loo_spec (L := ls) (kk := 0) (most := 8) (by omega) (by omega)).1
  have hv := hl.v
  have hce := hv.cel
  have hcn := cnt_valid hv
  unfold ceNEn
  rw [gu_t hl.rows, hcn.2, br_f (by rfl)]
  refine loop_up (fun x => ceNPc.l0 ((List.range x).map fun y : Nat => namZ (looM ls 0 8) (y : Int)) (x : Int)) (celN (looM ls 0 8)) (fun x hx hr => ?_) (.to (show ceNS0 ls _ _ = _ from ?_) (.ret _))
  · have hk := ckE_of hv (show (0 : Int) ≤ x by omega) (show (x : Int) < (celN (looM ls 0 8) : Int) by omega)
    have hne := toL_ne (nam_ne hv hx)
    have hlen : ((List.range x).map fun y : Nat => namZ (looM ls 0 8) (y : Int)).length = x := by simp
    refine .to (show ceNS0 ls _ x = _ from ?_) (?_ : MReach _ (some (.inl (.l1 ((List.range x).map fun y : Nat => namZ (looM ls 0 8) (y : Int)) (x : Int) (namZ (looM ls 0 8) (x : Int)) 0 false))) _)
    · unfold ceNS0
      rw [br_t (dec_t (by rw [hcn.1]; omega)), gu_t hl.rows, hk, br_f (by rfl), hne, br_f (by rfl)]
    · refine loop_up (fun i => ceNPc.l1 ((List.range x).map fun y : Nat => namZ (looM ls 0 8) (y : Int)) (x : Int) (namZ (looM ls 0 8) (x : Int)) (i : Int) false) x (fun i hi hr2 => .to (show ceNS1 ls _ x _ i false = _ from ?_) hr2) (.to (show ceNS1 ls _ x _ x false = _ from ?_) hr)
      · have hg : ((List.range x).map fun y : Nat => namZ (looM ls 0 8) (y : Int))[0 + (i : Int).toNat]? = some (namZ (looM ls 0 8) (i : Int)) := by
          rw [Nat.zero_add, Int.toNat_natCast, List.getElem?_map, List.getElem?_range hi]; rfl
        unfold ceNS1
        rw [br_t (dec_t (by simp only [iN, hlen]; omega)), gu_t (by omega), gu_t (by simp only [iN, hlen]; omega), el_t hg, br_f (toL_ne fun e => absurd (nam_inj hv (by omega) hx e) (by omega)), wrap_nat i (by omega)]
      · unfold ceNS1
        rw [br_f (dec_f (by simp only [iN, hlen]; omega)), gu_t (by simp only [List.length_map, List.length_range, List.length_singleton]; omega), gu_t (by simp only [List.length_map, List.length_range, List.length_singleton]; omega), wrap_nat x (by omega), List.range_succ, List.map_append]
        rfl
  · unfold ceNS0
    rw [br_f (dec_f (by rw [hcn.1]; omega))]
theorem rdInts {n : Nat} {es : List AV} (h : ∀ x ∈ es, ShV Tryd.prog n 3 x) : ∃ L : List Int, es = L.map (AV.int .i64) := by
  induction es with
  | nil => exact ⟨[], rfl⟩
  | cons x es ih =>
    obtain ⟨L, rfl⟩ := ih fun y hy => h y (List.mem_cons_of_mem _ hy)
    obtain ⟨i, _, rfl⟩ := (h x (by simp)).intD Tryd.underlying3
    exact ⟨i :: L, rfl⟩
theorem cellsNames_row (avs : List AV) (h : ShVs Tryd.prog 6 Tryd.f4.params.toList avs) : CT Tryd.prog 4 [] avs [] (.bool true) := by
  rw [Tryd.params4] at h
  obtain ⟨a, _, rfl, ka, h⟩ := h.consD
  obtain rfl := h.nilD
  obtain ⟨_, _, he, rfl⟩ := ka.sliceD Tryd.underlying22
  obtain ⟨l, rfl⟩ := rdInts he
  exact ceN_run l
end Go.Proofs.YtlogjpmajgbgaaaDoor

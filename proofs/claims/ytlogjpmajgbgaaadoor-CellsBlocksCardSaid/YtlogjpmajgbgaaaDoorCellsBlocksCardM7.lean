/- Parts of the proof: Ce3m, CeD, Da1m, DaA, Da2m, DaB, Da3m, DaC, Da4m, DaD, Da5m, Da6m, DaE, Da7m, DaF, Db3m, Db2m, Db1m, DbA, DbB, DbC, DbD, DbE, DbF. -/
import Derived.Test.YtlogjpmajgbgaaaDoorProg
import Derived.KernelRfl
import Derived.Test.YtlogjpmajgbgaaaDoorCellsBlocksCardM6
open Go Go.AX Go.Proofs
set_option maxRecDepth 100000
set_option maxHeartbeats 4000000
set_option linter.unusedVariables false
set_option linter.unusedSimpArgs false
namespace Go.Proofs.YtlogjpmajgbgaaaDoor
inductive folPc where
  | l0 (v0 : Int)
noncomputable def folSt (n : NetD) (q w : Int) : folPc → St
  | .l0 v0 => St.mk 27 [(2, iv w), (17, AV.lst (List.map (iv) (nxO n q))), (18, iv (iN (List.map (iv) (nxO n q)).length)), (19, iv v0)] []
def folHd : folPc → Nat
  | .l0 _ => 0
noncomputable def folEn (n : NetD) (q w : Int) : Option (folPc ⊕ Ret) :=
  gu (Rows n.nx) <|
  some (.inl (.l0 ((0 : Int))))
noncomputable def folS0 (n : NetD) (q w : Int) (v0 : Int) : Option (folPc ⊕ Ret) :=
  br (decide (v0 < iN (List.map (AV.int IntKind.i64) (nxO n q)).length))
  (gu (0 ≤ v0) <|
   el (nxO n q) (v0.toNat) fun (x21 : Int) =>
   br (x21 == w)
   (some (.inr ([], AV.bool true)))
   (some (.inl (.l0 (IntKind.i64.wrap (v0 + 1))))))
  (some (.inr ([], AV.bool false)))
noncomputable def folStep (n : NetD) (q w : Int) : folPc → Option (folPc ⊕ Ret)
  | .l0 v0 => folS0 n q w v0
theorem folEn_ok (n : NetD) (q w : Int) (o : folPc ⊕ Ret) (h : folEn n q w = some o) : Arr Tryd.prog Tryd.f12 0 (folSt n q w) folHd (bodyOf Tryd.f12) [] { n := Tryd.f12.ntmps, fr := enumF 0 ([netA n, .int .i64 q, .int .i64 w]), hp := ([]) } o :=
 Scr.ok h mix (
 .rn 0 [] [] [] [] (al (u2 t2)) <|
 .gu fun a0 =>
 have c0 := cnext_c (n) (q) a0;
 .lp [] [] [(14, hK c0 [] [])] [] [] [] [2, 17, 18, 19] (aj (aj (u2 (u2 (aj (k2 (aj t9 (ak (al (c0))))) (u2 (u2 (u2 (u2 s2))))))) (al (u2 (u2 t2)))) t5)) (by kernel_rfl)
theorem folS0_ok (n : NetD) (q w : Int) (v0 : Int) (o : folPc ⊕ Ret) (h : folS0 n q w v0 = some o) : Arr Tryd.prog Tryd.f12 0 (folSt n q w) folHd (headC Tryd.f12 0) (.rnd (headC Tryd.f12 0) :: headK Tryd.f12 0) (folSt n q w (.l0 v0)) o :=
 Scr.ok h mix (
 .rn 0 [] [] [] [] (al (al t3)) <|
 .br (fun a0 =>
 .gu fun a1 =>
 .el fun x21 a2 =>
 .rn 1 [41] [(21, iv x21)] [] [] (aj a0 (aj (aj (k2 (aj a1 (getMap (f := iv) a2))) (u2 s2)) (al (u2 (u2 (al t3)))))) <|
 .br (fun a3 =>
  .rt [51] [] [] [] [] [] (aj (aj a3 s2) t2))
 (fun a3 =>
  .lp [50] [] [] [] [] [] [2, 17, 18, 19] (aj (aj a3 (al (u2 s2))) t5)))
 (fun a0 =>
 .rt [40] [] [] [] [] [] (aj (aj a0 s2) t2))) (by kernel_rfl)
theorem fol_ct (n : NetD) (q w : Int) (r : Ret) (h : MReach (folStep n q w) (folEn n q w) r) : CT Tryd.prog 12 ([]) ([netA n, .int .i64 q, .int .i64 w]) r.1 r.2 :=
  CT.mach (fn := Tryd.f12) (c := bodyOf Tryd.f12) (S := folSt n q w) (hd := folHd) Tryd.func12 (by kernel_rfl) (Nat.le_of_ble_eq_true rfl)
    (fun s o ho => match s, ho with
      | .l0 v0, ho => folS0_ok n q w v0 o ho
    )
    (fun o ho => folEn_ok n q w o ho) h
end Go.Proofs.YtlogjpmajgbgaaaDoor
namespace Go.Proofs.YtlogjpmajgbgaaaDoor
theorem cfol_c (n : NetD) (q w : Int) (hrw : Rows n.nx) : CT Tryd.prog 12 [] [netA n, .int .i64 q, .int .i64 w] [] (.bool (folB n q w)) := by
  refine fol_ct n q w ([], _) ?_
  have hl := nxO_len hrw q
  unfold folEn
  rw [gu_t hrw]
  refine (loop_fnd (fun i => folPc.l0 (i : Int)) (nxO n q).length (fun i => (nxO n q).getD i 0 == w) (rF := fun _ => ([], .bool true)) (r := ([], .bool false)) (fun i hi hp => ?_) (fun i r hi hp hr => ?_) (fun _ => ?_)).res ?_
  · refine .to (show folS0 n q w i = _ from ?_) (.ret _)
    unfold folS0
    rw [rngG 0 hi, br_t hp]
  · refine .to (show folS0 n q w i = _ from ?_) hr
    unfold folS0
    rw [rngG 0 hi, br_f hp, wrap_nat i (by omega)]
  · refine .to (show folS0 n q w (nxO n q).length = _ from ?_) (.ret _)
    unfold folS0; rw [rngE]
  · unfold folB hasZ
    cases fnd (fun i => (nxO n q).getD i 0 == w) 0 (nxO n q).length <;> rfl
noncomputable def cntSt (n : NetD) : Empty → St
  | x => x.elim
def cntHd : Empty → Nat
  | x => x.elim
noncomputable def cntEn (n : NetD) : Option (Empty ⊕ Ret) :=
  gu (Rows n.nx) <|
  br (!valB n)
  (some (.inr ([], AV.tup [AV.int IntKind.i64 0, AV.int IntKind.i64 20])))
  (gu (ValidN n) <|
   some (.inr ([], AV.tup [AV.int IntKind.i64 (iN (celN n)), AV.int IntKind.i64 0])))
noncomputable def cntStep (n : NetD) : Empty → Option (Empty ⊕ Ret)
  | x => x.elim
theorem cntEn_ok (n : NetD) (o : Empty ⊕ Ret) (h : cntEn n = some o) : Arr Tryd.prog Tryd.f10 0 (cntSt n) cntHd (bodyOf Tryd.f10) [] { n := Tryd.f10.ntmps, fr := enumF 0 ([netA n]), hp := ([]) } o :=
 Scr.ok h mix (
 .rn 0 [] [] [] [] (al (u2 t3)) <|
 .gu fun a0 =>
 have c0 := valid_net_ct a0;
 .rn 0 [] [] [(5, hK c0 [] [])] [] (al (u2 (aj (ak (aj t9 (al (c0)))) s2))) <|
 .br (fun a1 =>
 .rt [13] [] [] [] [] [] (aj (aj a1 (al t3)) (al t3)))
 (fun a1 =>
 .gu fun a2 =>
 have c1 := ccount_ct a2;
 .rt [12] [] [(8, hK c1 [] [])] [] [] [] (aj (aj a1 (al (u2 (aj (ak (aj t9 (al (c1)))) (u2 t2))))) (al t3)))) (by kernel_rfl)
theorem cnt_ct (n : NetD) (r : Ret) (h : MReach (cntStep n) (cntEn n) r) : CT Tryd.prog 10 ([]) ([netA n]) r.1 r.2 :=
  CT.mach (fn := Tryd.f10) (c := bodyOf Tryd.f10) (S := cntSt n) (hd := cntHd) Tryd.func10 (by kernel_rfl) (Nat.le_of_ble_eq_true rfl)
    (fun s o ho => match s, ho with
      | x, _ => x.elim)
    (fun o ho => cntEn_ok n o ho) h
noncomputable def sm1St : Empty → St
  | x => x.elim
def sm1Hd : Empty → Nat
  | x => x.elim
noncomputable def sm1En : Option (Empty ⊕ Ret) :=
  some (.inr ([], AV.str ((ByteArray.mk #[48, 49, 50, 51, 52, 53, 54, 55, 56, 57, 97, 98, 99, 100, 101, 102, 103, 104, 105, 106, 107, 108, 109, 110, 111, 112, 113, 114, 115, 116, 117, 118, 119, 120, 121, 122]).extract (Int.toNat 1) (Int.toNat 2))))
noncomputable def sm1Step : Empty → Option (Empty ⊕ Ret)
  | x => x.elim
theorem sm1En_ok (o : Empty ⊕ Ret) (h : sm1En = some o) : Arr Tryd.prog Tryd.f63 0 (sm1St) sm1Hd (bodyOf Tryd.f63) [] { n := Tryd.f63.ntmps, fr := enumF 0 ([.int .i64 1]), hp := ([]) } o :=
 Scr.ok h mix (
 .rt [] [] [] [] [] [] (aj (u2 (aj (u2 s2) (ak (al (u2 (u2 (u2 (aj (k2 (aj (show (0 : Int) ≤ (1 : Int) from (by first | exact Nat.le_of_ble_eq_true rfl | decide)) (aj (show (1 : Int) ≤ (2 : Int) from (by first | exact Nat.le_of_ble_eq_true rfl | decide)) (show (2 : Int) ≤ (36 : Int) from (by first | exact Nat.le_of_ble_eq_true rfl | decide))))) s2)))))))) t2)) (by kernel_rfl)
theorem sm1_ct (r : Ret) (h : MReach (sm1Step) (sm1En) r) : CT Tryd.prog 63 ([]) ([.int .i64 1]) r.1 r.2 :=
  CT.mach (fn := Tryd.f63) (c := bodyOf Tryd.f63) (S := sm1St) (hd := sm1Hd) Tryd.func63 (by kernel_rfl) (Nat.le_of_ble_eq_true rfl)
    (fun s o ho => match s, ho with
      | x, _ => x.elim)
    (fun o ho => sm1En_ok o ho) h
noncomputable def sm2St : Empty → St
  | x => x.elim
def sm2Hd : Empty → Nat
  | x => x.elim
noncomputable def sm2En : Option (Empty ⊕ Ret) :=
  some (.inr ([], AV.str ((ByteArray.mk #[48, 49, 50, 51, 52, 53, 54, 55, 56, 57, 97, 98, 99, 100, 101, 102, 103, 104, 105, 106, 107, 108, 109, 110, 111, 112, 113, 114, 115, 116, 117, 118, 119, 120, 121, 122]).extract (Int.toNat 2) (Int.toNat 3))))
noncomputable def sm2Step : Empty → Option (Empty ⊕ Ret)
  | x => x.elim
theorem sm2En_ok (o : Empty ⊕ Ret) (h : sm2En = some o) : Arr Tryd.prog Tryd.f63 0 (sm2St) sm2Hd (bodyOf Tryd.f63) [] { n := Tryd.f63.ntmps, fr := enumF 0 ([.int .i64 2]), hp := ([]) } o :=
 Scr.ok h mix (
 .rt [] [] [] [] [] [] (aj (u2 (aj (u2 s2) (ak (al (u2 (u2 (u2 (aj (k2 (aj (show (0 : Int) ≤ (2 : Int) from (by first | exact Nat.le_of_ble_eq_true rfl | decide)) (aj (show (2 : Int) ≤ (3 : Int) from (by first | exact Nat.le_of_ble_eq_true rfl | decide)) (show (3 : Int) ≤ (36 : Int) from (by first | exact Nat.le_of_ble_eq_true rfl | decide))))) s2)))))))) t2)) (by kernel_rfl)
theorem sm2_ct (r : Ret) (h : MReach (sm2Step) (sm2En) r) : CT Tryd.prog 63 ([]) ([.int .i64 2]) r.1 r.2 :=
  CT.mach (fn := Tryd.f63) (c := bodyOf Tryd.f63) (S := sm2St) (hd := sm2Hd) Tryd.func63 (by kernel_rfl) (Nat.le_of_ble_eq_true rfl)
    (fun s o ho => match s, ho with
      | x, _ => x.elim)
    (fun o ho => sm2En_ok o ho) h
noncomputable def sm3St : Empty → St
  | x => x.elim
def sm3Hd : Empty → Nat
  | x => x.elim
noncomputable def sm3En : Option (Empty ⊕ Ret) :=
  some (.inr ([], AV.str ((ByteArray.mk #[48, 49, 50, 51, 52, 53, 54, 55, 56, 57, 97, 98, 99, 100, 101, 102, 103, 104, 105, 106, 107, 108, 109, 110, 111, 112, 113, 114, 115, 116, 117, 118, 119, 120, 121, 122]).extract (Int.toNat 3) (Int.toNat 4))))
noncomputable def sm3Step : Empty → Option (Empty ⊕ Ret)
  | x => x.elim
theorem sm3En_ok (o : Empty ⊕ Ret) (h : sm3En = some o) : Arr Tryd.prog Tryd.f63 0 (sm3St) sm3Hd (bodyOf Tryd.f63) [] { n := Tryd.f63.ntmps, fr := enumF 0 ([.int .i64 3]), hp := ([]) } o :=
 Scr.ok h mix (
 .rt [] [] [] [] [] [] (aj (u2 (aj (u2 s2) (ak (al (u2 (u2 (u2 (aj (k2 (aj (show (0 : Int) ≤ (3 : Int) from (by first | exact Nat.le_of_ble_eq_true rfl | decide)) (aj (show (3 : Int) ≤ (4 : Int) from (by first | exact Nat.le_of_ble_eq_true rfl | decide)) (show (4 : Int) ≤ (36 : Int) from (by first | exact Nat.le_of_ble_eq_true rfl | decide))))) s2)))))))) t2)) (by kernel_rfl)
theorem sm3_ct (r : Ret) (h : MReach (sm3Step) (sm3En) r) : CT Tryd.prog 63 ([]) ([.int .i64 3]) r.1 r.2 :=
  CT.mach (fn := Tryd.f63) (c := bodyOf Tryd.f63) (S := sm3St) (hd := sm3Hd) Tryd.func63 (by kernel_rfl) (Nat.le_of_ble_eq_true rfl)
    (fun s o ho => match s, ho with
      | x, _ => x.elim)
    (fun o ho => sm3En_ok o ho) h
noncomputable def sm4St : Empty → St
  | x => x.elim
def sm4Hd : Empty → Nat
  | x => x.elim
noncomputable def sm4En : Option (Empty ⊕ Ret) :=
  some (.inr ([], AV.str ((ByteArray.mk #[48, 49, 50, 51, 52, 53, 54, 55, 56, 57, 97, 98, 99, 100, 101, 102, 103, 104, 105, 106, 107, 108, 109, 110, 111, 112, 113, 114, 115, 116, 117, 118, 119, 120, 121, 122]).extract (Int.toNat 4) (Int.toNat 5))))
noncomputable def sm4Step : Empty → Option (Empty ⊕ Ret)
  | x => x.elim
theorem sm4En_ok (o : Empty ⊕ Ret) (h : sm4En = some o) : Arr Tryd.prog Tryd.f63 0 (sm4St) sm4Hd (bodyOf Tryd.f63) [] { n := Tryd.f63.ntmps, fr := enumF 0 ([.int .i64 4]), hp := ([]) } o :=
 Scr.ok h mix (
 .rt [] [] [] [] [] [] (aj (u2 (aj (u2 s2) (ak (al (u2 (u2 (u2 (aj (k2 (aj (show (0 : Int) ≤ (4 : Int) from (by first | exact Nat.le_of_ble_eq_true rfl | decide)) (aj (show (4 : Int) ≤ (5 : Int) from (by first | exact Nat.le_of_ble_eq_true rfl | decide)) (show (5 : Int) ≤ (36 : Int) from (by first | exact Nat.le_of_ble_eq_true rfl | decide))))) s2)))))))) t2)) (by kernel_rfl)
theorem sm4_ct (r : Ret) (h : MReach (sm4Step) (sm4En) r) : CT Tryd.prog 63 ([]) ([.int .i64 4]) r.1 r.2 :=
  CT.mach (fn := Tryd.f63) (c := bodyOf Tryd.f63) (S := sm4St) (hd := sm4Hd) Tryd.func63 (by kernel_rfl) (Nat.le_of_ble_eq_true rfl)
    (fun s o ho => match s, ho with
      | x, _ => x.elim)
    (fun o ho => sm4En_ok o ho) h
noncomputable def cntZ (n : NetD) : Int := if valB n = true then (celN n : Int) else 0
noncomputable def cntE (n : NetD) : Int := if valB n = true then 0 else 20
theorem cnt_c {n : NetD} (hrw : Rows n.nx) : CT Tryd.prog 10 [] [netA n] [] (.tup [.int .i64 (cntZ n), .int .i64 (cntE n)]) := by
  refine cnt_ct n ([], _) (.val ?_)
  unfold cntEn cntZ cntE
  rw [gu_t hrw]
  cases hv : valB n with
  | false => rfl
  | true => rw [br_f (by rfl), gu_t (valB_iff.1 hv)]; rfl
theorem sml_c (k : Nat) (h : 1 ≤ k ∧ k ≤ 4) : CT Tryd.prog 63 [] [.int .i64 (iN k)] [] (.str (digB k)) := by
  obtain rfl | rfl | rfl | rfl : k = 1 ∨ k = 2 ∨ k = 3 ∨ k = 4 := by omega
  · exact sm1_ct ([], _) (.val (show sm1En = _ by unfold sm1En; first | rfl | decide +kernel))
  · exact sm2_ct ([], _) (.val (show sm2En = _ by unfold sm2En; first | rfl | decide +kernel))
  · exact sm3_ct ([], _) (.val (show sm3En = _ by unfold sm3En; first | rfl | decide +kernel))
  · exact sm4_ct ([], _) (.val (show sm4En = _ by unfold sm4En; first | rfl | decide +kernel))
theorem sm1_c : CT Tryd.prog 63 [] [.int .i64 1] [] (.str (digB 1)) := sml_c 1 (by omega)
theorem sm2_c : CT Tryd.prog 63 [] [.int .i64 2] [] (.str (digB 2)) := sml_c 2 (by omega)
theorem sm3_c : CT Tryd.prog 63 [] [.int .i64 3] [] (.str (digB 3)) := sml_c 3 (by omega)
theorem sm4_c : CT Tryd.prog 63 [] [.int .i64 4] [] (.str (digB 4)) := sml_c 4 (by omega)
noncomputable def ex9St : Empty → St
  | x => x.elim
def ex9Hd : Empty → Nat
  | x => x.elim
noncomputable def ex9En : Option (Empty ⊕ Ret) :=
  some (.inr ([], AV.agg [AV.lst [AV.agg [AV.str (ByteArray.mk #[97]), AV.int IntKind.i64 0, AV.int IntKind.i64 0], AV.agg [AV.str (ByteArray.mk #[98]), AV.int IntKind.i64 0, AV.int IntKind.i64 0]], AV.lst [AV.lst [AV.int IntKind.i64 1], AV.lst [AV.int IntKind.i64 0]], AV.lst [AV.agg [AV.str (ByteArray.mk #[100]), AV.bool true, AV.int IntKind.i64 0, AV.int IntKind.i64 1, AV.int IntKind.i64 2, AV.int IntKind.i64 2]], AV.lst [AV.int IntKind.i64 3], AV.int IntKind.i64 4, AV.int IntKind.i64 2, AV.int IntKind.i64 1, AV.int IntKind.i64 8]))
noncomputable def ex9Step : Empty → Option (Empty ⊕ Ret)
  | x => x.elim
theorem ex9En_ok (o : Empty ⊕ Ret) (h : ex9En = some o) : Arr Tryd.prog Tryd.f30 0 (ex9St) ex9Hd (bodyOf Tryd.f30) [] { n := Tryd.f30.ntmps, fr := enumF 0 ([]), hp := ([]) } o :=
 Scr.ok h mix (
 .rt [] [(3, AV.lst []), (4, AV.lst []), (5, AV.lst []), (6, AV.lst []), (8, AV.lst []), (9, AV.lst [])] [] [] [] [] (aj (u2 (al (k2 (aj t3 (k2 (aj t3 (ak (u2 (k2 (aj t6 (al (k2 n11)))))))))))) (al t9))) (by kernel_rfl)
theorem ex9_ct (r : Ret) (h : MReach (ex9Step) (ex9En) r) : CT Tryd.prog 30 ([]) ([]) r.1 r.2 :=
  CT.mach (fn := Tryd.f30) (c := bodyOf Tryd.f30) (S := ex9St) (hd := ex9Hd) Tryd.func30 (by kernel_rfl) (Nat.le_of_ble_eq_true rfl)
    (fun s o ho => match s, ho with
      | x, _ => x.elim)
    (fun o ho => ex9En_ok o ho) h
noncomputable def fi1St : Empty → St
  | x => x.elim
def fi1Hd : Empty → Nat
  | x => x.elim
noncomputable def fi1En : Option (Empty ⊕ Ret) :=
  some (.inr ([], AV.str (digB 1)))
noncomputable def fi1Step : Empty → Option (Empty ⊕ Ret)
  | x => x.elim
theorem fi1En_ok (o : Empty ⊕ Ret) (h : fi1En = some o) : Arr Tryd.prog Tryd.f59 0 (fi1St) fi1Hd (bodyOf Tryd.f59) [] { n := Tryd.f59.ntmps, fr := enumF 0 ([.int .i64 1, .int .i64 10]), hp := ([]) } o :=
 Scr.ok h mix (
 have c0 := sm1_c;
 .rt [] [] [(19, hK c0 [] [])] [] [] [] (aj (u2 (aj (u2 s2) (ak (aj (u2 (u2 (u2 (aj t3 (aj t3 (al t3)))))) (ak (al (u2 (aj (k2 (al (c0))) s2)))))))) t2)) (by kernel_rfl)
theorem fi1_ct (r : Ret) (h : MReach (fi1Step) (fi1En) r) : CT Tryd.prog 59 ([]) ([.int .i64 1, .int .i64 10]) r.1 r.2 :=
  CT.mach (fn := Tryd.f59) (c := bodyOf Tryd.f59) (S := fi1St) (hd := fi1Hd) Tryd.func59 (by kernel_rfl) (Nat.le_of_ble_eq_true rfl)
    (fun s o ho => match s, ho with
      | x, _ => x.elim)
    (fun o ho => fi1En_ok o ho) h
noncomputable def fi2St : Empty → St
  | x => x.elim
def fi2Hd : Empty → Nat
  | x => x.elim
noncomputable def fi2En : Option (Empty ⊕ Ret) :=
  some (.inr ([], AV.str (digB 2)))
noncomputable def fi2Step : Empty → Option (Empty ⊕ Ret)
  | x => x.elim
theorem fi2En_ok (o : Empty ⊕ Ret) (h : fi2En = some o) : Arr Tryd.prog Tryd.f59 0 (fi2St) fi2Hd (bodyOf Tryd.f59) [] { n := Tryd.f59.ntmps, fr := enumF 0 ([.int .i64 2, .int .i64 10]), hp := ([]) } o :=
 Scr.ok h mix (
 have c0 := sm2_c;
 .rt [] [] [(19, hK c0 [] [])] [] [] [] (aj (u2 (aj (u2 s2) (ak (aj (u2 (u2 (u2 (aj t3 (aj t3 (al t3)))))) (ak (al (u2 (aj (k2 (al (c0))) s2)))))))) t2)) (by kernel_rfl)
theorem fi2_ct (r : Ret) (h : MReach (fi2Step) (fi2En) r) : CT Tryd.prog 59 ([]) ([.int .i64 2, .int .i64 10]) r.1 r.2 :=
  CT.mach (fn := Tryd.f59) (c := bodyOf Tryd.f59) (S := fi2St) (hd := fi2Hd) Tryd.func59 (by kernel_rfl) (Nat.le_of_ble_eq_true rfl)
    (fun s o ho => match s, ho with
      | x, _ => x.elim)
    (fun o ho => fi2En_ok o ho) h
noncomputable def fi3St : Empty → St
  | x => x.elim
def fi3Hd : Empty → Nat
  | x => x.elim
noncomputable def fi3En : Option (Empty ⊕ Ret) :=
  some (.inr ([], AV.str (digB 3)))
noncomputable def fi3Step : Empty → Option (Empty ⊕ Ret)
  | x => x.elim
theorem fi3En_ok (o : Empty ⊕ Ret) (h : fi3En = some o) : Arr Tryd.prog Tryd.f59 0 (fi3St) fi3Hd (bodyOf Tryd.f59) [] { n := Tryd.f59.ntmps, fr := enumF 0 ([.int .i64 3, .int .i64 10]), hp := ([]) } o :=
 Scr.ok h mix (
 have c0 := sm3_c;
 .rt [] [] [(19, hK c0 [] [])] [] [] [] (aj (u2 (aj (u2 s2) (ak (aj (u2 (u2 (u2 (aj t3 (aj t3 (al t3)))))) (ak (al (u2 (aj (k2 (al (c0))) s2)))))))) t2)) (by kernel_rfl)
theorem fi3_ct (r : Ret) (h : MReach (fi3Step) (fi3En) r) : CT Tryd.prog 59 ([]) ([.int .i64 3, .int .i64 10]) r.1 r.2 :=
  CT.mach (fn := Tryd.f59) (c := bodyOf Tryd.f59) (S := fi3St) (hd := fi3Hd) Tryd.func59 (by kernel_rfl) (Nat.le_of_ble_eq_true rfl)
    (fun s o ho => match s, ho with
      | x, _ => x.elim)
    (fun o ho => fi3En_ok o ho) h
noncomputable def fi4St : Empty → St
  | x => x.elim
def fi4Hd : Empty → Nat
  | x => x.elim
noncomputable def fi4En : Option (Empty ⊕ Ret) :=
  some (.inr ([], AV.str (digB 4)))
noncomputable def fi4Step : Empty → Option (Empty ⊕ Ret)
  | x => x.elim
theorem fi4En_ok (o : Empty ⊕ Ret) (h : fi4En = some o) : Arr Tryd.prog Tryd.f59 0 (fi4St) fi4Hd (bodyOf Tryd.f59) [] { n := Tryd.f59.ntmps, fr := enumF 0 ([.int .i64 4, .int .i64 10]), hp := ([]) } o :=
 Scr.ok h mix (
 have c0 := sm4_c;
 .rt [] [] [(19, hK c0 [] [])] [] [] [] (aj (u2 (aj (u2 s2) (ak (aj (u2 (u2 (u2 (aj t3 (aj t3 (al t3)))))) (ak (al (u2 (aj (k2 (al (c0))) s2)))))))) t2)) (by kernel_rfl)
theorem fi4_ct (r : Ret) (h : MReach (fi4Step) (fi4En) r) : CT Tryd.prog 59 ([]) ([.int .i64 4, .int .i64 10]) r.1 r.2 :=
  CT.mach (fn := Tryd.f59) (c := bodyOf Tryd.f59) (S := fi4St) (hd := fi4Hd) Tryd.func59 (by kernel_rfl) (Nat.le_of_ble_eq_true rfl)
    (fun s o ho => match s, ho with
      | x, _ => x.elim)
    (fun o ho => fi4En_ok o ho) h
theorem fi1_c : CT Tryd.prog 59 [] [.int .i64 1, .int .i64 10] [] (.str (digB 1)) := fi1_ct ([], _) (.val (show fi1En = _ by unfold fi1En; rfl))
theorem fi2_c : CT Tryd.prog 59 [] [.int .i64 2, .int .i64 10] [] (.str (digB 2)) := fi2_ct ([], _) (.val (show fi2En = _ by unfold fi2En; rfl))
theorem fi3_c : CT Tryd.prog 59 [] [.int .i64 3, .int .i64 10] [] (.str (digB 3)) := fi3_ct ([], _) (.val (show fi3En = _ by unfold fi3En; rfl))
theorem fi4_c : CT Tryd.prog 59 [] [.int .i64 4, .int .i64 10] [] (.str (digB 4)) := fi4_ct ([], _) (.val (show fi4En = _ by unfold fi4En; rfl))
noncomputable def ii1St : Empty → St
  | x => x.elim
def ii1Hd : Empty → Nat
  | x => x.elim
noncomputable def ii1En : Option (Empty ⊕ Ret) :=
  some (.inr ([], AV.str (digB 1)))
noncomputable def ii1Step : Empty → Option (Empty ⊕ Ret)
  | x => x.elim
theorem ii1En_ok (o : Empty ⊕ Ret) (h : ii1En = some o) : Arr Tryd.prog Tryd.f51 0 (ii1St) ii1Hd (bodyOf Tryd.f51) [] { n := Tryd.f51.ntmps, fr := enumF 0 ([.int .i64 1]), hp := ([]) } o :=
 Scr.ok h mix (
 have c0 := fi1_c;
 .rt [] [] [(4, hK c0 [] [])] [] [] [] (aj (u2 (al (u2 (aj (k3 (al (c0))) s2)))) t2)) (by kernel_rfl)
theorem ii1_ct (r : Ret) (h : MReach (ii1Step) (ii1En) r) : CT Tryd.prog 51 ([]) ([.int .i64 1]) r.1 r.2 :=
  CT.mach (fn := Tryd.f51) (c := bodyOf Tryd.f51) (S := ii1St) (hd := ii1Hd) Tryd.func51 (by kernel_rfl) (Nat.le_of_ble_eq_true rfl)
    (fun s o ho => match s, ho with
      | x, _ => x.elim)
    (fun o ho => ii1En_ok o ho) h
noncomputable def ii2St : Empty → St
  | x => x.elim
def ii2Hd : Empty → Nat
  | x => x.elim
noncomputable def ii2En : Option (Empty ⊕ Ret) :=
  some (.inr ([], AV.str (digB 2)))
noncomputable def ii2Step : Empty → Option (Empty ⊕ Ret)
  | x => x.elim
theorem ii2En_ok (o : Empty ⊕ Ret) (h : ii2En = some o) : Arr Tryd.prog Tryd.f51 0 (ii2St) ii2Hd (bodyOf Tryd.f51) [] { n := Tryd.f51.ntmps, fr := enumF 0 ([.int .i64 2]), hp := ([]) } o :=
 Scr.ok h mix (
 have c0 := fi2_c;
 .rt [] [] [(4, hK c0 [] [])] [] [] [] (aj (u2 (al (u2 (aj (k3 (al (c0))) s2)))) t2)) (by kernel_rfl)
theorem ii2_ct (r : Ret) (h : MReach (ii2Step) (ii2En) r) : CT Tryd.prog 51 ([]) ([.int .i64 2]) r.1 r.2 :=
  CT.mach (fn := Tryd.f51) (c := bodyOf Tryd.f51) (S := ii2St) (hd := ii2Hd) Tryd.func51 (by kernel_rfl) (Nat.le_of_ble_eq_true rfl)
    (fun s o ho => match s, ho with
      | x, _ => x.elim)
    (fun o ho => ii2En_ok o ho) h
noncomputable def ii3St : Empty → St
  | x => x.elim
def ii3Hd : Empty → Nat
  | x => x.elim
noncomputable def ii3En : Option (Empty ⊕ Ret) :=
  some (.inr ([], AV.str (digB 3)))
noncomputable def ii3Step : Empty → Option (Empty ⊕ Ret)
  | x => x.elim
theorem ii3En_ok (o : Empty ⊕ Ret) (h : ii3En = some o) : Arr Tryd.prog Tryd.f51 0 (ii3St) ii3Hd (bodyOf Tryd.f51) [] { n := Tryd.f51.ntmps, fr := enumF 0 ([.int .i64 3]), hp := ([]) } o :=
 Scr.ok h mix (
 have c0 := fi3_c;
 .rt [] [] [(4, hK c0 [] [])] [] [] [] (aj (u2 (al (u2 (aj (k3 (al (c0))) s2)))) t2)) (by kernel_rfl)
theorem ii3_ct (r : Ret) (h : MReach (ii3Step) (ii3En) r) : CT Tryd.prog 51 ([]) ([.int .i64 3]) r.1 r.2 :=
  CT.mach (fn := Tryd.f51) (c := bodyOf Tryd.f51) (S := ii3St) (hd := ii3Hd) Tryd.func51 (by kernel_rfl) (Nat.le_of_ble_eq_true rfl)
    (fun s o ho => match s, ho with
      | x, _ => x.elim)
    (fun o ho => ii3En_ok o ho) h
noncomputable def ii4St : Empty → St
  | x => x.elim
def ii4Hd : Empty → Nat
  | x => x.elim
noncomputable def ii4En : Option (Empty ⊕ Ret) :=
  some (.inr ([], AV.str (digB 4)))
noncomputable def ii4Step : Empty → Option (Empty ⊕ Ret)
  | x => x.elim
theorem ii4En_ok (o : Empty ⊕ Ret) (h : ii4En = some o) : Arr Tryd.prog Tryd.f51 0 (ii4St) ii4Hd (bodyOf Tryd.f51) [] { n := Tryd.f51.ntmps, fr := enumF 0 ([.int .i64 4]), hp := ([]) } o :=
 Scr.ok h mix (
 have c0 := fi4_c;
 .rt [] [] [(4, hK c0 [] [])] [] [] [] (aj (u2 (al (u2 (aj (k3 (al (c0))) s2)))) t2)) (by kernel_rfl)
theorem ii4_ct (r : Ret) (h : MReach (ii4Step) (ii4En) r) : CT Tryd.prog 51 ([]) ([.int .i64 4]) r.1 r.2 :=
  CT.mach (fn := Tryd.f51) (c := bodyOf Tryd.f51) (S := ii4St) (hd := ii4Hd) Tryd.func51 (by kernel_rfl) (Nat.le_of_ble_eq_true rfl)
    (fun s o ho => match s, ho with
      | x, _ => x.elim)
    (fun o ho => ii4En_ok o ho) h
theorem ii1_c : CT Tryd.prog 51 [] [.int .i64 1] [] (.str (digB 1)) := ii1_ct ([], _) (.val (show ii1En = _ by unfold ii1En; rfl))
theorem ii2_c : CT Tryd.prog 51 [] [.int .i64 2] [] (.str (digB 2)) := ii2_ct ([], _) (.val (show ii2En = _ by unfold ii2En; rfl))
theorem ii3_c : CT Tryd.prog 51 [] [.int .i64 3] [] (.str (digB 3)) := ii3_ct ([], _) (.val (show ii3En = _ by unfold ii3En; rfl))
theorem ii4_c : CT Tryd.prog 51 [] [.int .i64 4] [] (.str (digB 4)) := ii4_ct ([], _) (.val (show ii4En = _ by unfold ii4En; rfl))
noncomputable def it1St : Empty → St
  | x => x.elim
def it1Hd : Empty → Nat
  | x => x.elim
noncomputable def it1En : Option (Empty ⊕ Ret) :=
  some (.inr ([], AV.str (digB 1)))
noncomputable def it1Step : Empty → Option (Empty ⊕ Ret)
  | x => x.elim
theorem it1En_ok (o : Empty ⊕ Ret) (h : it1En = some o) : Arr Tryd.prog Tryd.f36 0 (it1St) it1Hd (bodyOf Tryd.f36) [] { n := Tryd.f36.ntmps, fr := enumF 0 ([.int .i64 1]), hp := ([]) } o :=
 Scr.ok h mix (
 have c0 := ii1_c;
 .rt [] [] [(4, hK c0 [] [])] [] [] [] (aj (u2 (al (u2 (aj (k2 (al (c0))) s2)))) t2)) (by kernel_rfl)
theorem it1_ct (r : Ret) (h : MReach (it1Step) (it1En) r) : CT Tryd.prog 36 ([]) ([.int .i64 1]) r.1 r.2 :=
  CT.mach (fn := Tryd.f36) (c := bodyOf Tryd.f36) (S := it1St) (hd := it1Hd) Tryd.func36 (by kernel_rfl) (Nat.le_of_ble_eq_true rfl)
    (fun s o ho => match s, ho with
      | x, _ => x.elim)
    (fun o ho => it1En_ok o ho) h
noncomputable def it2St : Empty → St
  | x => x.elim
def it2Hd : Empty → Nat
  | x => x.elim
noncomputable def it2En : Option (Empty ⊕ Ret) :=
  some (.inr ([], AV.str (digB 2)))
noncomputable def it2Step : Empty → Option (Empty ⊕ Ret)
  | x => x.elim
theorem it2En_ok (o : Empty ⊕ Ret) (h : it2En = some o) : Arr Tryd.prog Tryd.f36 0 (it2St) it2Hd (bodyOf Tryd.f36) [] { n := Tryd.f36.ntmps, fr := enumF 0 ([.int .i64 2]), hp := ([]) } o :=
 Scr.ok h mix (
 have c0 := ii2_c;
 .rt [] [] [(4, hK c0 [] [])] [] [] [] (aj (u2 (al (u2 (aj (k2 (al (c0))) s2)))) t2)) (by kernel_rfl)
theorem it2_ct (r : Ret) (h : MReach (it2Step) (it2En) r) : CT Tryd.prog 36 ([]) ([.int .i64 2]) r.1 r.2 :=
  CT.mach (fn := Tryd.f36) (c := bodyOf Tryd.f36) (S := it2St) (hd := it2Hd) Tryd.func36 (by kernel_rfl) (Nat.le_of_ble_eq_true rfl)
    (fun s o ho => match s, ho with
      | x, _ => x.elim)
    (fun o ho => it2En_ok o ho) h
noncomputable def it3St : Empty → St
  | x => x.elim
def it3Hd : Empty → Nat
  | x => x.elim
noncomputable def it3En : Option (Empty ⊕ Ret) :=
  some (.inr ([], AV.str (digB 3)))
noncomputable def it3Step : Empty → Option (Empty ⊕ Ret)
  | x => x.elim
theorem it3En_ok (o : Empty ⊕ Ret) (h : it3En = some o) : Arr Tryd.prog Tryd.f36 0 (it3St) it3Hd (bodyOf Tryd.f36) [] { n := Tryd.f36.ntmps, fr := enumF 0 ([.int .i64 3]), hp := ([]) } o :=
 Scr.ok h mix (
 have c0 := ii3_c;
 .rt [] [] [(4, hK c0 [] [])] [] [] [] (aj (u2 (al (u2 (aj (k2 (al (c0))) s2)))) t2)) (by kernel_rfl)
theorem it3_ct (r : Ret) (h : MReach (it3Step) (it3En) r) : CT Tryd.prog 36 ([]) ([.int .i64 3]) r.1 r.2 :=
  CT.mach (fn := Tryd.f36) (c := bodyOf Tryd.f36) (S := it3St) (hd := it3Hd) Tryd.func36 (by kernel_rfl) (Nat.le_of_ble_eq_true rfl)
    (fun s o ho => match s, ho with
      | x, _ => x.elim)
    (fun o ho => it3En_ok o ho) h
noncomputable def it4St : Empty → St
  | x => x.elim
def it4Hd : Empty → Nat
  | x => x.elim
noncomputable def it4En : Option (Empty ⊕ Ret) :=
  some (.inr ([], AV.str (digB 4)))
noncomputable def it4Step : Empty → Option (Empty ⊕ Ret)
  | x => x.elim
theorem it4En_ok (o : Empty ⊕ Ret) (h : it4En = some o) : Arr Tryd.prog Tryd.f36 0 (it4St) it4Hd (bodyOf Tryd.f36) [] { n := Tryd.f36.ntmps, fr := enumF 0 ([.int .i64 4]), hp := ([]) } o :=
 Scr.ok h mix (
 have c0 := ii4_c;
 .rt [] [] [(4, hK c0 [] [])] [] [] [] (aj (u2 (al (u2 (aj (k2 (al (c0))) s2)))) t2)) (by kernel_rfl)
theorem it4_ct (r : Ret) (h : MReach (it4Step) (it4En) r) : CT Tryd.prog 36 ([]) ([.int .i64 4]) r.1 r.2 :=
  CT.mach (fn := Tryd.f36) (c := bodyOf Tryd.f36) (S := it4St) (hd := it4Hd) Tryd.func36 (by kernel_rfl) (Nat.le_of_ble_eq_true rfl)
    (fun s o ho => match s, ho with
      | x, _ => x.elim)
    (fun o ho => it4En_ok o ho) h
theorem it1_c : CT Tryd.prog 36 [] [.int .i64 1] [] (.str (digB 1)) := it1_ct ([], _) (.val (show it1En = _ by unfold it1En; rfl))
theorem it2_c : CT Tryd.prog 36 [] [.int .i64 2] [] (.str (digB 2)) := it2_ct ([], _) (.val (show it2En = _ by unfold it2En; rfl))
theorem it3_c : CT Tryd.prog 36 [] [.int .i64 3] [] (.str (digB 3)) := it3_ct ([], _) (.val (show it3En = _ by unfold it3En; rfl))
theorem it4_c : CT Tryd.prog 36 [] [.int .i64 4] [] (.str (digB 4)) := it4_ct ([], _) (.val (show it4En = _ by unfold it4En; rfl))
theorem it_c (k : Int) (h : 1 ≤ k ∧ k ≤ 4) : CT Tryd.prog 36 [] [.int .i64 k] [] (.str (digB k.toNat)) := by
  obtain rfl | rfl | rfl | rfl : k = 1 ∨ k = 2 ∨ k = 3 ∨ k = 4 := by omega
  · exact it1_c
  · exact it2_c
  · exact it3_c
  · exact it4_c
noncomputable def namSt (n : NetD) (c : Int) : Empty → St
  | x => x.elim
def namHd : Empty → Nat
  | x => x.elim
noncomputable def namEn (n : NetD) (c : Int) : Option (Empty ⊕ Ret) :=
  gu (Rows n.nx) <|
  br (ckE n c != 0)
  (some (.inr ([], AV.tup [AV.str (ByteArray.mk #[]), AV.int IntKind.i64 (ckE n c)])))
  (gu (ValidN n) <|
   gu (-1000 ≤ c ∧ c ≤ 1000) <|
   br (decide (plI n c < 0))
   (gu (0 ≤ c) <|
    el (n.bs) (c.toNat) fun (x26 : BlkD) =>
    some (.inr ([], AV.tup [AV.str x26.nm, AV.int IntKind.i64 0])))
   (gu (0 ≤ plI n c) <|
    el (n.ss) ((plI n c).toNat) fun (x32 : SpuD) =>
    gu ((x32.nm.size + 1).le 9223372036854775807) <|
    gu (1 ≤ plJ n c ∧ plJ n c ≤ 4) <|
    gu (((x32.nm ++ ByteArray.mk #[47]).size + (digB (plJ n c).toNat).size).le 9223372036854775807) <|
    some (.inr ([], AV.tup [AV.str (x32.nm ++ ByteArray.mk #[47] ++ digB (plJ n c).toNat), AV.int IntKind.i64 0]))))
noncomputable def namStep (n : NetD) (c : Int) : Empty → Option (Empty ⊕ Ret)
  | x => x.elim
theorem namEn_ok (n : NetD) (c : Int) (o : Empty ⊕ Ret) (h : namEn n c = some o) : Arr Tryd.prog Tryd.f14 0 (namSt n c) namHd (bodyOf Tryd.f14) [] { n := Tryd.f14.ntmps, fr := enumF 0 ([netA n, .int .i64 c]), hp := ([]) } o :=
 Scr.ok h mix (
 .rn 0 [] [] [] [] (al (u2 t3)) <|
 .gu fun a0 =>
 have c0 := ck_c (n) (c) a0;
 .rn 1 [] [] [(11, hK c0 [] [])] [] (aj (u2 (u2 (aj (k2 (aj t9 (ak (al (c0))))) s2))) (al (u2 s2))) <|
 .br (fun a1 =>
 .rt [27] [] [] [] [] [] (aj (aj a1 (al (u2 (ak s2)))) (al t3)))
 (fun a1 =>
 .gu fun a2 =>
 .gu fun a3 =>
 have c1 := place_ct a2 (c) a3;
 .rn 1 [26] [] [(18, hK c1 [] [])] [] (aj a1 (aj (u2 (u2 (aj (k2 (aj t9 (ak (al (c1))))) (u2 (u2 (u2 (u2 s2))))))) (al (u2 s2)))) <|
 .br (fun a4 =>
  .gu fun a5 =>
  .el fun x26 a6 =>
  .rt [45] [(26, bA x26)] [] [] [] [] (aj (aj a4 (al (u2 (u2 (u2 (aj (k2 (aj a5 (getMap (f := bA) a6))) (u2 (u2 (u2 t2))))))))) (al t3)))
 (fun a4 =>
  .gu fun a5 =>
  .el fun x32 a6 =>
  .gu fun a7 =>
  .gu fun a8 =>
  .gu fun a9 =>
  have c2 := it_c (plJ n c) a8;
  .rt [44] [(32, sA x32)] [(37, hK c2 [] [])] [] [] [] (aj (aj a4 (al (u2 (u2 (u2 (aj (k2 (aj a5 (getMap (f := sA) a6))) (u2 (u2 (aj (ak a7) (u2 (aj (k2 (al (c2))) (aj (k2 a9) (u2 t2))))))))))))) (al t3))))) (by kernel_rfl)
theorem nam_ct (n : NetD) (c : Int) (r : Ret) (h : MReach (namStep n c) (namEn n c) r) : CT Tryd.prog 14 ([]) ([netA n, .int .i64 c]) r.1 r.2 :=
  CT.mach (fn := Tryd.f14) (c := bodyOf Tryd.f14) (S := namSt n c) (hd := namHd) Tryd.func14 (by kernel_rfl) (Nat.le_of_ble_eq_true rfl)
    (fun s o ho => match s, ho with
      | x, _ => x.elim)
    (fun o ho => namEn_ok n c o ho) h
noncomputable def namZ (n : NetD) (c : Int) : ByteArray := if ckE n c = 0 then (match plF n c with | some i => (n.ss.getD i s0).nm ++ ⟨#[47]⟩ ++ digB (plJ n c).toNat | none => (n.bs.getD c.toNat ⟨⟨#[]⟩, 0, 0⟩).nm) else ⟨#[]⟩
theorem nm_size {s : ByteArray} (h : nmB s = true) : s.size ≤ 12 := by
  unfold nmB at h
  simp only [Bool.and_eq_true, Bool.not_eq_true', decide_eq_false_iff_not, iN] at h
  omega
theorem dig_size (k : Nat) : (digB k).size ≤ 2 := by unfold digB; split <;> exact Nat.le_of_ble_eq_true rfl
theorem pl_slot {n : NetD} (hv : ValidN n) {c : Int} {i : Nat} (h : plF n c = some i) : 1 ≤ plJ n c ∧ plJ n c ≤ 4 ∧ 0 ≤ plI n c ∧ plI n c = (i : Int) ∧ i < n.ss.length := by
  obtain ⟨s, hs, hg, g1, g2, hl⟩ := plF_some h
  obtain ⟨e1, e2⟩ := plI_some h
  have := hv.sb hs
  rw [e1, e2, hg]; exact ⟨by omega, by omega, by omega, rfl, hl⟩
theorem nam_c (n : NetD) (c : Int) (hrw : Rows n.nx) : CT Tryd.prog 14 [] [netA n, .int .i64 c] [] (.tup [.str (namZ n c), .int .i64 (ckE n c)]) := by
  refine nam_ct n c ([], _) (.val ?_)
  unfold namEn namZ
  rw [gu_t hrw]
  by_cases h : ckE n c = 0
  · obtain ⟨hv, h0, h1⟩ := ckE_ok h
    have hce := hv.cel
    rw [br_f (by rw [h]; rfl), gu_t hv, gu_t (by omega), if_pos h]
    cases hp : plF n c with
    | some i =>
      obtain ⟨g1, g2, g3, g4, g5⟩ := pl_slot hv hp
      have hs := getE s0 g5
      have z1 := nm_size (hv.spu i _ hs).nm
      have z2 := dig_size (plJ n c).toNat
      have z3 : ((n.ss.getD i s0).nm ++ (⟨#[47]⟩ : ByteArray)).size = (n.ss.getD i s0).nm.size + 1 := by rw [ByteArray.size_append]; rfl
      rw [br_f (dec_f (by omega)), g4, gu_t (by omega), Int.toNat_natCast, el_t hs, gu_t (show Nat.le _ _ from (show (n.ss.getD i s0).nm.size + 1 ≤ 9223372036854775807 by omega)), gu_t ⟨g1, g2⟩, gu_t (show Nat.le _ _ from (show ((n.ss.getD i s0).nm ++ (⟨#[47]⟩ : ByteArray)).size + (digB (plJ n c).toNat).size ≤ 9223372036854775807 by omega)), h]
    | none =>
      have hb := plF_block hv h0 h1 hp
      rw [plI_none hp, br_t (by rfl), gu_t h0, el_t (getE ⟨⟨#[]⟩, 0, 0⟩ (show c.toNat < n.bs.length by omega)), h]
  · rw [br_t (bne_iff_ne.2 h), if_neg h]
theorem ex9_exP : ∃ n : NetD, n = ⟨[⟨⟨#[97]⟩, 0, 0⟩, ⟨⟨#[98]⟩, 0, 0⟩], [[1], [0]], [⟨⟨#[100]⟩, true, 0, 1, 2, 2⟩], [3], 4, 2, 1, 8⟩ := ⟨_, rfl⟩
@[irreducible] noncomputable def exN : NetD := Classical.choose ex9_exP
theorem exN_eq : exN = ⟨[⟨⟨#[97]⟩, 0, 0⟩, ⟨⟨#[98]⟩, 0, 0⟩], [[1], [0]], [⟨⟨#[100]⟩, true, 0, 1, 2, 2⟩], [3], 4, 2, 1, 8⟩ := by unfold exN; exact Classical.choose_spec ex9_exP
theorem ex9_c : CT Tryd.prog 30 [] [] [] (netA exN) := by
  rw [exN_eq]
  exact ex9_ct _ (.val (show ex9En = some (.inr _) by unfold ex9En; exact rfl))
theorem exN_rows : Rows exN.nx := by
  rw [exN_eq]
  intro v hv
  match v, hv with
  | 0, _ => decide
  | 1, _ => decide
  | v + 2, hv => simp at hv; try omega
theorem exN_ok : ValidN exN := by
  rw [exN_eq]
  refine ⟨by decide +kernel, rfl, by decide, by decide, by decide +kernel, ?_, ?_, ?_, ?_, ?_⟩
  · intro i b h
    match i, h with
    | 0, h => cases h; exact ⟨by decide +kernel, by decide +kernel, by decide +kernel, by decide +kernel⟩
    | 1, h => cases h; exact ⟨by decide +kernel, by decide +kernel, by decide +kernel, by decide +kernel⟩
    | i + 2, h => simp at h
  · intro i s h
    match i, h with
    | 0, h => cases h; exact ⟨by decide +kernel, by decide +kernel, by decide +kernel, by decide +kernel, by decide +kernel⟩
    | i + 1, h => simp at h
  · decide +kernel
  · exact ⟨2, ⟨⟨#[100]⟩, true, 0, 1, 2, 2⟩, by simp, rfl, by decide, by decide⟩
  · intro i c h
    match i, h with
    | 0, h => cases h; exact ⟨⟨⟨⟨#[100]⟩, true, 0, 1, 2, 2⟩, by simp, rfl, by decide, by decide⟩, by simp⟩
    | i + 1, h => simp at h
theorem exN_cel : celN exN = 4 := by rw [exN_eq]; decide +kernel
theorem exN_ck (c : Int) (h : 0 ≤ c ∧ c < 4) : ckE exN c = 0 := ckE_of exN_ok h.1 (by rw [exN_cel]; exact h.2)
theorem nxK0_c : CT Tryd.prog 11 [] [netA exN, .int .i64 0] [] (.tup [lI [1, 2], .int .i64 0]) := by
  have h := cnext_c exN 0 exN_rows
  have e : nxO exN 0 = [1, 2] := by unfold nxO; rw [if_pos (exN_ck 0 (by omega)), exN_eq]; decide +kernel
  rwa [e, exN_ck 0 (by omega)] at h
theorem nxK3_c : CT Tryd.prog 11 [] [netA exN, .int .i64 3] [] (.tup [lI [1], .int .i64 0]) := by
  have h := cnext_c exN 3 exN_rows
  have e : nxO exN 3 = [1] := by unfold nxO; rw [if_pos (exN_ck 3 (by omega)), exN_eq]; decide +kernel
  rwa [e, exN_ck 3 (by omega)] at h
theorem cntK_c : CT Tryd.prog 10 [] [netA exN] [] (.tup [.int .i64 4, .int .i64 0]) := by
  have h := cnt_c exN_rows
  have e : cntZ exN = 4 := by unfold cntZ; rw [if_pos (valB_iff.2 exN_ok), exN_cel]; rfl
  have e2 : cntE exN = 0 := by unfold cntE; rw [if_pos (valB_iff.2 exN_ok)]
  rwa [e, e2] at h
theorem namK_c : CT Tryd.prog 14 [] [netA exN, .int .i64 3] [] (.tup [.str ⟨#[100, 47, 50]⟩, .int .i64 0]) := by
  have h := nam_c exN 3 exN_rows
  have e : namZ exN 3 = ⟨#[100, 47, 50]⟩ := by unfold namZ; rw [if_pos (exN_ck 3 (by omega)), exN_eq]; decide +kernel
  rwa [e, exN_ck 3 (by omega)] at h
theorem folK_c : CT Tryd.prog 12 [] [netA exN, .int .i64 2, .int .i64 3] [] (.bool true) := by
  have h := cfol_c exN 2 3 exN_rows
  have e : folB exN 2 3 = true := by
    have e1 : nxO exN 2 = [3] := by unfold nxO; rw [if_pos (exN_ck 2 (by omega)), exN_eq]; decide +kernel
    unfold folB; rw [e1]; decide +kernel
  rwa [e] at h
theorem si12_c : CT Tryd.prog 17 [] [lI [1, 2], lI [1, 2]] [] (.bool true) := sameInts_ct [1, 2] (by decide)
theorem si1_c : CT Tryd.prog 17 [] [lI [1], lI [1]] [] (.bool true) := sameInts_ct [1] (by decide)
noncomputable def kn9St : Empty → St
  | x => x.elim
def kn9Hd : Empty → Nat
  | x => x.elim
noncomputable def kn9En : Option (Empty ⊕ Ret) :=
  some (.inr ([], AV.bool true))
noncomputable def kn9Step : Empty → Option (Empty ⊕ Ret)
  | x => x.elim
theorem kn9En_ok (o : Empty ⊕ Ret) (h : kn9En = some o) : Arr Tryd.prog Tryd.f8 0 (kn9St) kn9Hd (bodyOf Tryd.f8) [] { n := Tryd.f8.ntmps, fr := enumF 0 ([]), hp := ([]) } o :=
 Scr.ok h mix (
 have c0 := ex9_c;
 have c1 := nxK0_c;
 have c2 := nxK3_c;
 have c3 := cntK_c;
 have c4 := namK_c;
 have c5 := si12_c;
 have c6 := si1_c;
 have c7 := folK_c;
 .rt [] [] [(10, hK c0 [] []), (13, hK c1 [] []), (18, hK c2 [] []), (23, hK c3 [] []), (28, hK c4 [] []), (48, hK c5 [] [1]), (53, hK c6 [] [2]), (65, hK c7 [] [])] [] [] [] (aj (u2 (aj (aj (al (c0)) (ak (al (k2 n11)))) (aj (u2 (aj (ak (aj t9 (ak (al (c1))))) (u2 (u2 (u2 (u2 s2)))))) (aj (u2 (aj (ak (aj t9 (ak (al (c2))))) (u2 (u2 (u2 (u2 s2)))))) (aj (u2 (aj (ak (aj t9 (al (c3)))) (u2 (u2 (u2 (u2 s2)))))) (aj (u2 (aj (ak (aj t9 (ak (al (c4))))) (u2 (u2 (u2 (u2 s2)))))) (al (u2 (u2 (u2 (aj t3 (aj t3 (aj t3 (u2 (aj t3 (aj t3 (aj t3 (u2 (aj t3 (aj t3 (aj t3 (u2 (aj t3 (u2 (aj (ak (k3 (aj (show nat_lit 2 = nat_lit 2 from rfl) (aj (c5) (show ∀ (blk : Blk), blk ∈ [] → ImmB blk from (by intro _ h; cases h)))))) (aj t3 (u2 (aj t3 (u2 (aj (ak (k3 (aj (show nat_lit 1 = nat_lit 1 from rfl) (aj (c6) (show ∀ (blk : Blk), blk ∈ [] → ImmB blk from (by intro _ h; cases h)))))) (aj t3 (u2 (aj t3 (aj t3 (aj t3 (u2 (aj t3 (aj t3 (aj t3 (u2 (aj t3 (aj (k2 (aj t9 (k2 (al (c7))))) (aj t3 s2))))))))))))))))))))))))))))))))))))))))))) t2)) (by kernel_rfl)
theorem kn9_ct (r : Ret) (h : MReach (kn9Step) (kn9En) r) : CT Tryd.prog 8 ([]) ([]) r.1 r.2 :=
  CT.mach (fn := Tryd.f8) (c := bodyOf Tryd.f8) (S := kn9St) (hd := kn9Hd) Tryd.func8 (by kernel_rfl) (Nat.le_of_ble_eq_true rfl)
    (fun s o ho => match s, ho with
      | x, _ => x.elim)
    (fun o ho => kn9En_ok o ho) h
theorem kn9_c : CT Tryd.prog 8 [] [] [] (.bool true) := by
  refine kn9_ct ([], _) (.val ?_)
  unfold kn9En
  rfl
inductive ceBPc where
  | l0 (v0 : Int)
  | l1 (v0 : Int) (v1 : List Int) (v2 : Int) (v3 : Int) (v4 : Int) (v5 : Bool)
  | l2 (v0 : Int) (v1 : List Int) (v2 : Int) (v3 : Int) (v4 : Bool)
  | l3 (v0 : Int) (v1 : List Int) (v2 : Int) (v3 : Int) (v4 : Bool)
noncomputable def ceBSt (ls : List Int) : ceBPc → St
  | .l0 v0 => St.mk 99 [(3, AV.ptr 0 0 0), (4, iv (cntZ (looM ls 0 8))), (5, iv (cntE (looM ls 0 8))), (6, iv v0)] [some (Blk.mk [netA (looM ls 0 8)] 8 true true none)]
  | .l1 v0 v1 v2 v3 v4 v5 => St.mk 99 [(3, AV.ptr 0 0 0), (4, iv (cntZ (looM ls 0 8))), (5, iv (cntE (looM ls 0 8))), (6, iv v0), (7, AV.lst (List.map (iv) v1)), (9, iv v2), (10, iv v3), (40, iv v4), (41, AV.bool v5)] [some (Blk.mk [netA (looM ls 0 8)] 8 true true none)]
  | .l2 v0 v1 v2 v3 v4 => St.mk 99 [(3, AV.ptr 0 0 0), (4, iv (cntZ (looM ls 0 8))), (5, iv (cntE (looM ls 0 8))), (6, iv v0), (7, AV.lst (List.map (iv) v1)), (11, iv v2), (40, iv v3), (41, AV.bool v4)] [some (Blk.mk [netA (looM ls 0 8)] 8 true true none)]
  | .l3 v0 v1 v2 v3 v4 => St.mk 99 [(3, AV.ptr 0 0 0), (4, iv (cntZ (looM ls 0 8))), (5, iv (cntE (looM ls 0 8))), (6, iv v0), (7, AV.lst (List.map (iv) v1)), (12, iv v2), (40, iv v3), (41, AV.bool v4)] [some (Blk.mk [netA (looM ls 0 8)] 8 true true none)]
def ceBHd : ceBPc → Nat
  | .l0 _ => 0
  | .l1 _ _ _ _ _ _ => 1
  | .l2 _ _ _ _ _ => 2
  | .l3 _ _ _ _ _ => 3
noncomputable def ceBEn (ls : List Int) : Option (ceBPc ⊕ Ret) :=
  gu (Rows (looM ls 0 8).nx) <|
  some (.inl (.l0 ((0 : Int))))
noncomputable def ceBS0 (ls : List Int) (v0 : Int) : Option (ceBPc ⊕ Ret) :=
  br (decide (v0 < iN (List.map bA (looM ls 0 8).bs).length))
  (gu (Rows (looM ls 0 8).nx) <|
   br (cntE (looM ls 0 8) != 0)
   (some (.inr ([], AV.bool false)))
   (br (ckE (looM ls 0 8) v0 != 0)
    (some (.inr ([], AV.bool false)))
    (gu (0 ≤ v0) <|
     el ((looM ls 0 8).nx) (v0.toNat) fun (x46 : List Int) =>
     some (.inl (.l1 (v0) (nxO (looM ls 0 8) v0) (iN (List.map (AV.int IntKind.i64) x46).length) ((0 : Int)) (ckE (looM ls 0 8) v0) (ckE (looM ls 0 8) v0 != 0))))))
  (some (.inr ([], AV.bool true)))
noncomputable def ceBS1 (ls : List Int) (v0 : Int) (v1 : List Int) (v2 : Int) (v3 : Int) (v4 : Int) (v5 : Bool) : Option (ceBPc ⊕ Ret) :=
  br (decide (v3 < iN (List.map sA (looM ls 0 8).ss).length))
  (gu (0 ≤ v3) <|
   el ((looM ls 0 8).ss) (v3.toNat) fun (x59 : SpuD) =>
   br (x59.i == v0)
   (some (.inl (.l1 (v0) (v1) (IntKind.i64.wrap (v2 + 1)) (IntKind.i64.wrap (v3 + 1)) (v4) (v5))))
   (some (.inl (.l1 (v0) (v1) (v2) (IntKind.i64.wrap (v3 + 1)) (v4) (v5)))))
  (br (iN (List.map (AV.int IntKind.i64) v1).length != v2)
   (some (.inr ([], AV.bool false)))
   (some (.inl (.l2 (v0) (v1) ((0 : Int)) (v4) (v5)))))
noncomputable def ceBS2 (ls : List Int) (v0 : Int) (v1 : List Int) (v2 : Int) (v3 : Int) (v4 : Bool) : Option (ceBPc ⊕ Ret) :=
  br (decide (v2 < cntZ (looM ls 0 8)))
  (gu (Rows (looM ls 0 8).nx) <|
   gu (v1.length ≤ 1000000) <|
   br (!folB (looM ls 0 8) v0 v2 == hasZ v1 v2)
   (some (.inr ([], AV.bool false)))
   (some (.inl (.l2 (v0) (v1) (IntKind.i64.wrap (v2 + 1)) (v3) (v4)))))
  (some (.inl (.l3 (v0) (v1) ((1 : Int)) (v3) (v4))))
noncomputable def ceBS3 (ls : List Int) (v0 : Int) (v1 : List Int) (v2 : Int) (v3 : Int) (v4 : Bool) : Option (ceBPc ⊕ Ret) :=
  br (decide (v2 < iN (List.map (AV.int IntKind.i64) v1).length))
  (gu (0 ≤ v2) <|
   el (v1) (v2.toNat) fun (x91 : Int) =>
   gu (0 ≤ IntKind.i64.wrap (v2 - 1)) <|
   el (v1) ((IntKind.i64.wrap (v2 - 1)).toNat) fun (x96 : Int) =>
   br (decide (x91 ≤ x96))
   (some (.inr ([], AV.bool false)))
   (some (.inl (.l3 (v0) (v1) (IntKind.i64.wrap (v2 + 1)) (v3) (v4)))))
  (some (.inl (.l0 (IntKind.i64.wrap (v0 + 1)))))
noncomputable def ceBStep (ls : List Int) : ceBPc → Option (ceBPc ⊕ Ret)
  | .l0 v0 => ceBS0 ls v0
  | .l1 v0 v1 v2 v3 v4 v5 => ceBS1 ls v0 v1 v2 v3 v4 v5
  | .l2 v0 v1 v2 v3 v4 => ceBS2 ls v0 v1 v2 v3 v4
  | .l3 v0 v1 v2 v3 v4 => ceBS3 ls v0 v1 v2 v3 v4
theorem ceBEn_ok (ls : List Int) (o : ceBPc ⊕ Ret) (h : ceBEn ls = some o) : Arr Tryd.prog Tryd.f3 0 (ceBSt ls) ceBHd (bodyOf Tryd.f3) [] { n := Tryd.f3.ntmps, fr := enumF 0 ([lI ls]), hp := ([]) } o :=
 Scr.ok h mix (
 have c0 := kn9_c;
 have c1 := loose_ct (ls) (0) (8) (show nat_lit 0 ≤ (5000 : Nat) from (by first | exact Nat.le_of_ble_eq_true rfl | decide)) (show (1 : Int) ≤ (8 : Int) ∧ (8 : Int) ≤ (20 : Int) from ⟨(by first | exact Nat.le_of_ble_eq_true rfl | decide), (by first | exact Nat.le_of_ble_eq_true rfl | decide)⟩);
 .rn 2 [] [] [(13, hK c0 [] []), (18, hK c1 [0] [])] [] (u2 (aj (aj (al (c0)) s2) (ak (al (u2 (u2 (u2 (aj (ak (k3 (al (c1)))) (ak (al (k2 n11))))))))))) <|
 .gu fun a0 =>
 have c2 := cnt_c a0;
 .lp [] [] [(21, hK c2 [] [])] [] [] [1] [3, 4, 5, 6] (aj (aj (u2 (aj (ak (aj t9 (al (c2)))) (u2 (u2 (u2 (u2 s2)))))) s2) t6)) (by kernel_rfl)
theorem ceBS0_ok (ls : List Int) (v0 : Int) (o : ceBPc ⊕ Ret) (h : ceBS0 ls v0 = some o) : Arr Tryd.prog Tryd.f3 0 (ceBSt ls) ceBHd (headC Tryd.f3 0) (.rnd (headC Tryd.f3 0) :: headK Tryd.f3 0) (ceBSt ls (.l0 v0)) o :=
 Scr.ok h mix (
 .rn 0 [] [] [] [] (al (u2 (u2 (u2 (u2 (al t3)))))) <|
 .br (fun a0 =>
 .gu fun a1 =>
 have c0 := cnext_c (looM ls 0 8) (v0) a1;
 .rn 0 [57] [] [(34, hK c0 [] [])] [] (aj a0 (al (u2 (u2 (aj (k2 (aj t9 (ak (al (c0))))) (u2 (u2 (u2 (u2 s2))))))))) <|
 .br (fun a2 =>
  .rt [79] [] [] [] [] [] (aj (aj (u2 (u2 (u2 (aj a2 (aj a2 (al (aj a2 t2))))))) (ak s2)) t2))
 (fun a2 =>
  .rn 0 [78] [] [] [] (al (u2 (u2 (u2 (ag a2 (ag a2 (al (aj a2 t2)))))))) <|
  .br (fun a3 =>
  .rt [78, 85] [] [] [] [] [] (aj (aj a3 s2) t2))
  (fun a3 =>
  .gu fun a4 =>
  .el fun x46 a5 =>
  .lp [78, 84] [(46, lI x46)] [] [] [] [0] [3, 4, 5, 6, 7, 9, 10, 40, 41] (aj (aj a3 (aj (u2 (u2 (u2 (aj (k2 (aj a4 (getMap (f := lI) a5))) (u2 (u2 s2)))))) s2)) (k2 t9)))))
 (fun a0 =>
 .rt [56] [] [] [] [] [] (aj (aj a0 s2) t2))) (by kernel_rfl)
theorem ceBS1_ok (ls : List Int) (v0 : Int) (v1 : List Int) (v2 : Int) (v3 : Int) (v4 : Int) (v5 : Bool) (o : ceBPc ⊕ Ret) (h : ceBS1 ls v0 v1 v2 v3 v4 v5 = some o) : Arr Tryd.prog Tryd.f3 0 (ceBSt ls) ceBHd (headC Tryd.f3 1) (.rnd (headC Tryd.f3 1) :: headK Tryd.f3 1) (ceBSt ls (.l1 v0 v1 v2 v3 v4 v5)) o :=
 Scr.ok h mix (
 .rn 0 [] [] [] [] (al (u2 (u2 (u2 (u2 (al t3)))))) <|
 .br (fun a0 =>
 .gu fun a1 =>
 .el fun x59 a2 =>
 .rn 0 [107] [(59, sA x59)] [] [] (aj a0 (al (u2 (u2 (u2 (aj (k2 (aj a1 (getMap (f := sA) a2))) (u2 (u2 (u2 (al t3)))))))))) <|
 .br (fun a3 =>
  .lp [127] [] [] [] [] [0] [3, 4, 5, 6, 7, 9, 10, 40, 41] (aj (aj a3 (aj (u2 (u2 s2)) (al (u2 (u2 s2))))) (k2 t9)))
 (fun a3 =>
  .lp [126] [] [] [] [] [0] [3, 4, 5, 6, 7, 9, 10, 40, 41] (aj (aj a3 (al (u2 (u2 s2)))) (k2 t9))))
 (fun a0 =>
 .rn 0 [106] [] [] [] (aj a0 (al (u2 (u2 (u2 (al t3)))))) <|
 .br (fun a1 =>
  .rt [139] [] [] [] [] [] (aj (aj a1 s2) t2))
 (fun a1 =>
  .lp [138] [] [] [] [] [0] [3, 4, 5, 6, 7, 11, 40, 41] (aj (aj a1 s2) (ak t9))))) (by kernel_rfl)
theorem ceBS2_ok (ls : List Int) (v0 : Int) (v1 : List Int) (v2 : Int) (v3 : Int) (v4 : Bool) (o : ceBPc ⊕ Ret) (h : ceBS2 ls v0 v1 v2 v3 v4 = some o) : Arr Tryd.prog Tryd.f3 0 (ceBSt ls) ceBHd (headC Tryd.f3 2) (.rnd (headC Tryd.f3 2) :: headK Tryd.f3 2) (ceBSt ls (.l2 v0 v1 v2 v3 v4)) o :=
 Scr.ok h mix (
 .rn 0 [] [] [] [] (al (u2 (u2 (al t3)))) <|
 .br (fun a0 =>
 .gu fun a1 =>
 .gu fun a2 =>
 have c0 := cfol_c (looM ls 0 8) (v0) (v2) a1;
 have c1 := has_ct (v1) (v2) a2;
 .rn 0 [145] [] [(78, hK c0 [] []), (81, hK c1 [] [])] [] (aj a0 (al (u2 (u2 (u2 (aj (k3 (aj t9 (k2 (al (c0))))) (u2 (u2 (aj (ak (k3 (al (c1)))) (al t3)))))))))) <|
 .br (fun a3 =>
  .rt [165] [] [] [] [] [] (aj (aj a3 s2) t2))
 (fun a3 =>
  .lp [164] [] [] [] [] [0] [3, 4, 5, 6, 7, 11, 40, 41] (aj (aj a3 (al (u2 (u2 s2)))) (ak t9))))
 (fun a0 =>
 .lp [144] [] [] [] [] [0] [3, 4, 5, 6, 7, 12, 40, 41] (aj (aj a0 s2) (ak t9)))) (by kernel_rfl)
theorem ceBS3_ok (ls : List Int) (v0 : Int) (v1 : List Int) (v2 : Int) (v3 : Int) (v4 : Bool) (o : ceBPc ⊕ Ret) (h : ceBS3 ls v0 v1 v2 v3 v4 = some o) : Arr Tryd.prog Tryd.f3 0 (ceBSt ls) ceBHd (headC Tryd.f3 3) (.rnd (headC Tryd.f3 3) :: headK Tryd.f3 3) (ceBSt ls (.l3 v0 v1 v2 v3 v4)) o :=
 Scr.ok h mix (
 .rn 0 [] [] [] [] (al (u2 (u2 (u2 (al t3))))) <|
 .br (fun a0 =>
 .gu fun a1 =>
 .el fun x91 a2 =>
 .gu fun a3 =>
 .el fun x96 a4 =>
 .rn 0 [173] [(91, iv x91), (96, iv x96)] [] [] (aj a0 (al (u2 (u2 (aj (k2 (aj a1 (getMap (f := iv) a2))) (u2 (u2 (u2 (u2 (aj (k2 (aj a3 (getMap (f := iv) a4))) (u2 (al t3)))))))))))) <|
 .br (fun a5 =>
  .rt [197] [] [] [] [] [] (aj (aj a5 s2) t2))
 (fun a5 =>
  .lp [196] [] [] [] [] [0] [3, 4, 5, 6, 7, 12, 40, 41] (aj (aj a5 (al (u2 (u2 s2)))) (ak t9))))
 (fun a0 =>
 .lp [172] [] [] [] [] [0] [3, 4, 5, 6] (aj (aj a0 (al (u2 (u2 s2)))) t6))) (by kernel_rfl)
theorem ceB_ct (ls : List Int) (r : Ret) (h : MReach (ceBStep ls) (ceBEn ls) r) : CT Tryd.prog 3 ([]) ([lI ls]) r.1 r.2 :=
  CT.mach (fn := Tryd.f3) (c := bodyOf Tryd.f3) (S := ceBSt ls) (hd := ceBHd) Tryd.func3 (by kernel_rfl) (Nat.le_of_ble_eq_true rfl)
    (fun s o ho => match s, ho with
      | .l0 v0, ho => ceBS0_ok ls v0 o ho
      | .l1 v0 v1 v2 v3 v4 v5, ho => ceBS1_ok ls v0 v1 v2 v3 v4 v5 o ho
      | .l2 v0 v1 v2 v3 v4, ho => ceBS2_ok ls v0 v1 v2 v3 v4 o ho
      | .l3 v0 v1 v2 v3 v4, ho => ceBS3_ok ls v0 v1 v2 v3 v4 o ho
    )
    (fun o ho => ceBEn_ok ls o ho) h
theorem plF_low {n : NetD} (hv : ValidN n) {c : Int} (h : c < (n.bs.length : Int)) : plF n c = none := by
  cases hp : plF n c with
  | none => rfl
  | some j =>
    obtain ⟨t, ht, _, g1, g2, hl⟩ := plF_some hp
    have := (hv.sb ht).2.2.2.2
    have := (hv.bd j).1
    omega
theorem nbb (b : Bool) : (!b == b) = false := by cases b <;> rfl
theorem row_asc {n : NetD} (hrw : Rows n.nx) (hv : ValidN n) {v : Nat} (h : v < n.bs.length) : (n.nx.getD v []).Pairwise (· < ·) := by
  obtain ⟨hg, ha⟩ := chk4_ok hrw hv.chk
  have hl := hv.nx
  have hs := ha v (by omega)
  generalize n.nx.getD v [] = r at hs
  rw [List.pairwise_iff_getElem]
  intro i j hi hj hij
  obtain ⟨k, rfl⟩ : ∃ k, j = i + k + 1 := ⟨j - i - 1, by omega⟩
  have := asc_lt hs k i hj
  rwa [List.getD_eq_getElem?_getD, List.getD_eq_getElem?_getD, List.getElem?_eq_getElem hi, List.getElem?_eq_getElem hj] at this
theorem bases_asc {n : NetD} (hv : ValidN n) : (n.ss.map fun s => s.b).Pairwise (· < ·) := by
  rw [List.pairwise_iff_getElem]
  intro i j hi hj hij
  rw [List.length_map] at hi hj
  rw [List.getElem_map, List.getElem_map]
  have a := hv.sb (List.getElem?_eq_getElem hi)
  have b := hv.sb (List.getElem?_eq_getElem hj)
  have e := baseN_succ (List.getElem?_eq_getElem hi)
  have := baseN_mono hv (i := i + 1) (j := j) (by omega) (by omega)
  omega
theorem block_next {n : NetD} (hv : ValidN n) {b : Nat} (h : b < n.bs.length) : ckE n (b : Int) = 0 ∧ nxO n (b : Int) = n.nx.getD b [] ++ (n.ss.filter fun s => s.i == (b : Int)).map fun s => s.b := by
  have hce := hv.cel
  have hk := ckE_of hv (show (0 : Int) ≤ b by omega) (show (b : Int) < (celN n : Int) by omega)
  refine ⟨hk, ?_⟩
  unfold nxO nxtL
  rw [if_pos hk, plF_low hv (by omega)]; rfl
theorem next_asc {n : NetD} (hrw : Rows n.nx) (hv : ValidN n) {b : Nat} (h : b < n.bs.length) : (nxO n (b : Int)).Pairwise (· < ·) := by
  rw [(block_next hv h).2, List.pairwise_append]
  refine ⟨row_asc hrw hv h, (bases_asc hv).sublist (List.Sublist.map _ List.filter_sublist), fun x hx y hy => ?_⟩
  have h1 := (hv.lanes hrw h).1 x hx
  obtain ⟨s, hs, rfl⟩ := List.mem_map.1 hy
  obtain ⟨i, hi⟩ := List.getElem?_of_mem (List.mem_filter.1 hs).1
  have := (hv.sb hi).2.2.2.2
  have := (hv.bd i).1
  omega
theorem cnt_valid {n : NetD} (hv : ValidN n) : cntZ n = (celN n : Int) ∧ cntE n = 0 := by
  unfold cntZ cntE; rw [if_pos (valB_iff.2 hv), if_pos (valB_iff.2 hv)]; exact ⟨rfl, rfl⟩
theorem ceB_run (ls : List Int) : CT Tryd.prog 3 [] [lI ls] [] (.bool true) := by
  refine ceB_ct ls ([], .bool true) ?_
  have hl := (loo_spec (L := ls) (kk := 0) (most := 8) (by omega) (by omega)).1
  have hv := hl.v
  have ns := hv.ns
  have nb := hv.nb24
  have hce := hv.cel
  have hcn := cnt_valid hv
  unfold ceBEn
  rw [gu_t hl.rows]
  refine loop_up (fun i => ceBPc.l0 (i : Int)) (looM ls 0 8).bs.length (fun b hb hr => ?_) (.to (show ceBS0 ls _ = _ from ?_) (.ret _))
  · obtain ⟨k1, k2⟩ := block_next hv hb
    have hasc := next_asc hl.rows hv hb
    have hlen := nxO_len hl.rows (b : Int)
    have hrow := (hv.lanes hl.rows hb).2
    have hnx := hv.nx
    -- the rounds of the last loop
    have l3 : MReach (ceBStep ls) (some (.inl (.l3 (b : Int) (nxO (looM ls 0 8) (b : Int)) 1 0 false))) (([], .bool true) : Ret) := by
      have key : ∀ (m k : Nat), 1 ≤ k → ((nxO (looM ls 0 8) (b : Int)).length ≤ k + m) → MReach (ceBStep ls) (some (.inl (.l3 (b : Int) (nxO (looM ls 0 8) (b : Int)) (k : Int) 0 false))) (([], .bool true) : Ret) := by
        intro m
        induction m with
        | zero =>
          intro k h1 h2
          refine .to (show ceBS3 ls b _ k 0 false = _ from ?_) hr
          unfold ceBS3
          rw [br_f (dec_f (by simp only [iN, List.length_map]; omega)), wrap_nat b (by omega)]
        | succ m ih =>
          intro k h1 h2
          by_cases hk : k < (nxO (looM ls 0 8) (b : Int)).length
          · refine .to (show ceBS3 ls b _ k 0 false = _ from ?_) (ih (k + 1) (by omega) (by omega))
            have w : IntKind.i64.wrap ((k : Int) - 1) = ((k - 1 : Nat) : Int) := by rw [wrap_in (by omega) (by omega)]; omega
            have lt := List.pairwise_iff_getElem.1 hasc (k - 1) k (by omega) hk (by omega)
            unfold ceBS3
            rw [br_t (dec_t (by simp only [iN, List.length_map]; omega)), gu_t (by omega), Int.toNat_natCast, el_t (List.getElem?_eq_getElem hk), w, gu_t (by omega), Int.toNat_natCast, el_t (List.getElem?_eq_getElem (show k - 1 < (nxO (looM ls 0 8) (b : Int)).length by omega)), br_f (dec_f (by omega)), wrap_nat k (by omega)]
          · refine .to (show ceBS3 ls b _ k 0 false = _ from ?_) hr
            unfold ceBS3
            rw [br_f (dec_f (by simp only [iN, List.length_map]; omega)), wrap_nat b (by omega)]
      exact key _ 1 (by omega) (Nat.le_add_left _ _)
    have l2 : MReach (ceBStep ls) (some (.inl (.l2 (b : Int) (nxO (looM ls 0 8) (b : Int)) 0 0 false))) (([], .bool true) : Ret) := by
      refine loop_up (fun x => ceBPc.l2 (b : Int) (nxO (looM ls 0 8) (b : Int)) (x : Int) 0 false) (celN (looM ls 0 8)) (fun x hx hr2 => .to (show ceBS2 ls b _ x 0 false = _ from ?_) hr2) (.to (show ceBS2 ls b _ _ 0 false = _ from ?_) l3)
      · unfold ceBS2
        rw [br_t (dec_t (by rw [hcn.1]; omega)), gu_t hl.rows, gu_t (by omega), br_f (show (!folB (looM ls 0 8) (b : Int) (x : Int) == hasZ (nxO (looM ls 0 8) (b : Int)) (x : Int)) = false from nbb _), wrap_nat x (by omega)]
      · unfold ceBS2
        rw [br_f (dec_f (by rw [hcn.1]; omega))]
    have hx : (looM ls 0 8).nx[b]? = some ((looM ls 0 8).nx.getD b []) := getE [] (by omega)
    refine .to (show ceBS0 ls b = _ from ?_) (?_ : MReach _ (some (.inl (.l1 (b : Int) (nxO (looM ls 0 8) (b : Int)) (((looM ls 0 8).nx.getD b []).length : Int) 0 0 false))) _)
    · unfold ceBS0
      rw [br_t (rngB hb), gu_t hl.rows, hcn.2, br_f (by rfl), k1, br_f (by rfl), gu_t (by omega), Int.toNat_natCast, el_t hx, List.length_map]; rfl
    · have key := loop_up (step := ceBStep ls) (r := (([], .bool true) : Ret)) (fun i => ceBPc.l1 (b : Int) (nxO (looM ls 0 8) (b : Int)) ((((looM ls 0 8).nx.getD b []).length + (((looM ls 0 8).ss.take i).filter fun s => s.i == (b : Int)).length : Nat) : Int) (i : Int) 0 false) (looM ls 0 8).ss.length (fun i hi hr2 => ?_) (.to (show ceBS1 ls b _ _ _ 0 false = _ from ?_) l2)
      · simpa using key
      · refine .to (show ceBS1 ls b _ _ i 0 false = _ from ?_) hr2
        have hs := getE s0 hi
        have hf := List.length_filter_le (fun s : SpuD => s.i == (b : Int)) ((looM ls 0 8).ss.take i)
        have hf2 : ((looM ls 0 8).ss.take i).length ≤ 6 := by rw [List.length_take]; omega
        unfold ceBS1
        rw [br_t (rngB hi), gu_t (by omega), Int.toNat_natCast, el_t hs, wrap_nat i (by omega), List.take_add_one, hs, Option.toList_some, List.filter_append, List.length_append]
        cases hc : ((looM ls 0 8).ss.getD i s0).i == (b : Int) with
        | true =>
          rw [br_t rfl, wrap_in (by omega) (by omega), List.filter_cons, hc, if_pos rfl]
          simp only [List.filter_nil, List.length_singleton]
          rfl
        | false =>
          rw [br_f rfl, List.filter_cons, hc, if_neg (by simp)]; rfl
      · unfold ceBS1
        rw [rngE, br_f (by rw [k2, List.take_length]; simp [iN])]
  · unfold ceBS0
    rw [rngE]
theorem rdInts {n : Nat} {es : List AV} (h : ∀ x ∈ es, ShV Tryd.prog n 3 x) : ∃ L : List Int, es = L.map (AV.int .i64) := by
  induction es with
  | nil => exact ⟨[], rfl⟩
  | cons x es ih =>
    obtain ⟨L, rfl⟩ := ih fun y hy => h y (List.mem_cons_of_mem _ hy)
    obtain ⟨i, _, rfl⟩ := (h x (by simp)).intD Tryd.underlying3
    exact ⟨i :: L, rfl⟩
theorem cellsBlocks_row (avs : List AV) (h : ShVs Tryd.prog 6 Tryd.f3.params.toList avs) : CT Tryd.prog 3 [] avs [] (.bool true) := by
  rw [Tryd.params3] at h
  obtain ⟨a, _, rfl, ka, h⟩ := h.consD
  obtain rfl := h.nilD
  obtain ⟨_, _, he, rfl⟩ := ka.sliceD Tryd.underlying22
  obtain ⟨l, rfl⟩ := rdInts he
  exact ceB_run l
end Go.Proofs.YtlogjpmajgbgaaaDoor

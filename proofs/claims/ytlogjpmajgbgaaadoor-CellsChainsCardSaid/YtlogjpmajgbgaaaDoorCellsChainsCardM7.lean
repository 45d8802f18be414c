/- Parts of the proof: Ce3m, CeD, Da1m, DaA, Da2m, DaB, Da3m, DaC, Da4m, DaD, Da5m, Da6m, DaE, Da7m, DaF, Db3m, Db2m, Db1m, DbA, DbB, DbC, DbD, DbE, DbF. -/
import Derived.Test.YtlogjpmajgbgaaaDoorProg
import Derived.KernelRfl
import Derived.Test.YtlogjpmajgbgaaaDoorCellsChainsCardM6
open Go Go.AX Go.Proofs
set_option maxRecDepth 100000
set_option maxHeartbeats 4000000
set_option linter.unusedVariables false
set_option linter.unusedSimpArgs false
namespace Go.Proofs.YtlogjpmajgbgaaaDoor
inductive folPc where
  | l0 (v0 : Int)
noncomputable def folSt (n : NetD) (q w : Int) : folPc → St
  | .l0 v0 => St.mk 27 [(2, iv w), (17, AV.lst (List.map (iv) (nxO n q))), (18, iv (iN (List.map (iv) (nxO n q)).length)), (19, iv v0)] []
def folHd : folPc → Nat
  | .l0 _ => 0
noncomputable def folEn (n : NetD) (q w : Int) : Option (folPc ⊕ Ret) :=
  gu (Rows n.nx) <|
  some (.inl (.l0 ((0 : Int))))
noncomputable def folS0 (n : NetD) (q w : Int) (v0 : Int) : Option (folPc ⊕ Ret) :=
  br (decide (v0 < iN (List.map (AV.int IntKind.i64) (nxO n q)).length))
  (gu (0 ≤ v0) <|
   el (nxO n q) (v0.toNat) fun (x21 : Int) =>
   br (x21 == w)
   (some (.inr ([], AV.bool true)))
   (some (.inl (.l0 (IntKind.i64.wrap (v0 + 1))))))
  (some (.inr ([], AV.bool false)))
noncomputable def folStep (n : NetD) (q w : Int) : folPc → Option (folPc ⊕ Ret)
  | .l0 v0 => folS0 n q w v0
theorem folEn_ok (n : NetD) (q w : Int) (o : folPc ⊕ Ret) (h : folEn n q w = some o) : Arr Tryd.prog Tryd.f12 0 (folSt n q w) folHd (bodyOf Tryd.f12) [] { n := Tryd.f12.ntmps, fr := enumF 0 ([netA n, .int .i64 q, .int .i64 w]), hp := ([]) } o :=
 Scr.ok h mix (
 .rn 0 [] [] [] [] (al (u2 t2)) <|
 .gu fun a0 =>
 have c0 := cnext_c (n) (q) a0;
 .lp [] [] [(14, hK c0 [] [])] [] [] [] [2, 17, 18, 19] (aj (aj (u2 (u2 (aj (k2 (aj t9 (ak (al (c0))))) (u2 (u2 (u2 (u2 s2))))))) (al (u2 (u2 t2)))) t5)) (by kernel_rfl)
theorem folS0_ok (n : NetD) (q w : Int) (v0 : Int) (o : folPc ⊕ Ret) (h : folS0 n q w v0 = some o) : Arr Tryd.prog Tryd.f12 0 (folSt n q w) folHd (headC Tryd.f12 0) (.rnd (headC Tryd.f12 0) :: headK Tryd.f12 0) (folSt n q w (.l0 v0)) o :=
 Scr.ok h mix (
 .rn 0 [] [] [] [] (al (al t3)) <|
 .br (fun a0 =>
 .gu fun a1 =>
 .el fun x21 a2 =>
 .rn 1 [41] [(21, iv x21)] [] [] (aj a0 (aj (aj (k2 (aj a1 (getMap (f := iv) a2))) (u2 s2)) (al (u2 (u2 (al t3)))))) <|
 .br (fun a3 =>
  .rt [51] [] [] [] [] [] (aj (aj a3 s2) t2))
 (fun a3 =>
  .lp [50] [] [] [] [] [] [2, 17, 18, 19] (aj (aj a3 (al (u2 s2))) t5)))
 (fun a0 =>
 .rt [40] [] [] [] [] [] (aj (aj a0 s2) t2))) (by kernel_rfl)
theorem fol_ct (n : NetD) (q w : Int) (r : Ret) (h : MReach (folStep n q w) (folEn n q w) r) : CT Tryd.prog 12 ([]) ([netA n, .int .i64 q, .int .i64 w]) r.1 r.2 :=
  CT.mach (fn := Tryd.f12) (c := bodyOf Tryd.f12) (S := folSt n q w) (hd := folHd) Tryd.func12 (by kernel_rfl) (Nat.le_of_ble_eq_true rfl)
    (fun s o ho => match s, ho with
      | .l0 v0, ho => folS0_ok n q w v0 o ho
    )
    (fun o ho => folEn_ok n q w o ho) h
end Go.Proofs.YtlogjpmajgbgaaaDoor
namespace Go.Proofs.YtlogjpmajgbgaaaDoor
theorem cfol_c (n : NetD) (q w : Int) (hrw : Rows n.nx) : CT Tryd.prog 12 [] [netA n, .int .i64 q, .int .i64 w] [] (.bool (folB n q w)) := by
  refine fol_ct n q w ([], _) ?_
  have hl := nxO_len hrw q
  unfold folEn
  rw [gu_t hrw]
  refine (loop_fnd (fun i => folPc.l0 (i : Int)) (nxO n q).length (fun i => (nxO n q).getD i 0 == w) (rF := fun _ => ([], .bool true)) (r := ([], .bool false)) (fun i hi hp => ?_) (fun i r hi hp hr => ?_) (fun _ => ?_)).res ?_
  · refine .to (show folS0 n q w i = _ from ?_) (.ret _)
    unfold folS0
    rw [rngG 0 hi, br_t hp]
  · refine .to (show folS0 n q w i = _ from ?_) hr
    unfold folS0
    rw [rngG 0 hi, br_f hp, wrap_nat i (by omega)]
  · refine .to (show folS0 n q w (nxO n q).length = _ from ?_) (.ret _)
    unfold folS0; rw [rngE]
  · unfold folB hasZ
    cases fnd (fun i => (nxO n q).getD i 0 == w) 0 (nxO n q).length <;> rfl
noncomputable def ckSSt (n : NetD) (sp : Int) : Empty → St
  | x => x.elim
def ckSHd : Empty → Nat
  | x => x.elim
noncomputable def ckSEn (n : NetD) (sp : Int) : Option (Empty ⊕ Ret) :=
  gu (Rows n.nx) <|
  br (!valB n)
  (some (.inr ([], AV.int IntKind.i64 20)))
  (br (decide (sp < 0))
   (some (.inr ([], AV.int IntKind.i64 19)))
   (br (decide (iN (List.map sA n.ss).length ≤ sp))
    (some (.inr ([], AV.int IntKind.i64 19)))
    (some (.inr ([], AV.int IntKind.i64 0)))))
noncomputable def ckSStep (n : NetD) (sp : Int) : Empty → Option (Empty ⊕ Ret)
  | x => x.elim
theorem ckSEn_ok (n : NetD) (sp : Int) (o : Empty ⊕ Ret) (h : ckSEn n sp = some o) : Arr Tryd.prog Tryd.f37 0 (ckSSt n sp) ckSHd (bodyOf Tryd.f37) [] { n := Tryd.f37.ntmps, fr := enumF 0 ([netA n, .int .i64 sp]), hp := ([]) } o :=
 Scr.ok h mix (
 .rn 0 [] [] [] [] (al (u2 t2)) <|
 .gu fun a0 =>
 have c0 := valid_net_ct a0;
 .rn 0 [] [] [(7, hK c0 [] [])] [] (al (u2 (aj (ak (aj t9 (al (c0)))) (u2 s2)))) <|
 .br (fun a1 =>
 .rt [11] [] [] [] [] [] (aj (aj a1 s2) t2))
 (fun a1 =>
 .br (fun a2 =>
  .rt [10, 25] [] [] [] [] [] (aj (aj a1 (aj (u2 (u2 (u2 (aj a2 (aj a2 (aj a2 (aj a2 (aj a2 (ag a2 s2))))))))) (ak s2))) t2))
 (fun a2 =>
  .rn 0 [10, 24] [] [] [] (aj a1 (al (u2 (u2 (u2 (ag a2 (ag a2 (ag a2 (ag a2 (aj (aj a2 t3) (ag a2 s2))))))))))) <|
  .br (fun a3 =>
  .rt [24, 19] [] [] [] [] [] (aj (aj a3 s2) t2))
  (fun a3 =>
  .rt [24, 18] [] [] [] [] [] (aj (aj a3 s2) t2))))) (by kernel_rfl)
theorem ckS_ct (n : NetD) (sp : Int) (r : Ret) (h : MReach (ckSStep n sp) (ckSEn n sp) r) : CT Tryd.prog 37 ([]) ([netA n, .int .i64 sp]) r.1 r.2 :=
  CT.mach (fn := Tryd.f37) (c := bodyOf Tryd.f37) (S := ckSSt n sp) (hd := ckSHd) Tryd.func37 (by kernel_rfl) (Nat.le_of_ble_eq_true rfl)
    (fun s o ho => match s, ho with
      | x, _ => x.elim)
    (fun o ho => ckSEn_ok n sp o ho) h
noncomputable def cntSt (n : NetD) : Empty → St
  | x => x.elim
def cntHd : Empty → Nat
  | x => x.elim
noncomputable def cntEn (n : NetD) : Option (Empty ⊕ Ret) :=
  gu (Rows n.nx) <|
  br (!valB n)
  (some (.inr ([], AV.tup [AV.int IntKind.i64 0, AV.int IntKind.i64 20])))
  (gu (ValidN n) <|
   some (.inr ([], AV.tup [AV.int IntKind.i64 (iN (celN n)), AV.int IntKind.i64 0])))
noncomputable def cntStep (n : NetD) : Empty → Option (Empty ⊕ Ret)
  | x => x.elim
theorem cntEn_ok (n : NetD) (o : Empty ⊕ Ret) (h : cntEn n = some o) : Arr Tryd.prog Tryd.f10 0 (cntSt n) cntHd (bodyOf Tryd.f10) [] { n := Tryd.f10.ntmps, fr := enumF 0 ([netA n]), hp := ([]) } o :=
 Scr.ok h mix (
 .rn 0 [] [] [] [] (al (u2 t3)) <|
 .gu fun a0 =>
 have c0 := valid_net_ct a0;
 .rn 0 [] [] [(5, hK c0 [] [])] [] (al (u2 (aj (ak (aj t9 (al (c0)))) s2))) <|
 .br (fun a1 =>
 .rt [13] [] [] [] [] [] (aj (aj a1 (al t3)) (al t3)))
 (fun a1 =>
 .gu fun a2 =>
 have c1 := ccount_ct a2;
 .rt [12] [] [(8, hK c1 [] [])] [] [] [] (aj (aj a1 (al (u2 (aj (ak (aj t9 (al (c1)))) (u2 t2))))) (al t3)))) (by kernel_rfl)
theorem cnt_ct (n : NetD) (r : Ret) (h : MReach (cntStep n) (cntEn n) r) : CT Tryd.prog 10 ([]) ([netA n]) r.1 r.2 :=
  CT.mach (fn := Tryd.f10) (c := bodyOf Tryd.f10) (S := cntSt n) (hd := cntHd) Tryd.func10 (by kernel_rfl) (Nat.le_of_ble_eq_true rfl)
    (fun s o ho => match s, ho with
      | x, _ => x.elim)
    (fun o ho => cntEn_ok n o ho) h
noncomputable def plcSt (n : NetD) (c : Int) : Empty → St
  | x => x.elim
def plcHd : Empty → Nat
  | x => x.elim
noncomputable def plcEn (n : NetD) (c : Int) : Option (Empty ⊕ Ret) :=
  gu (Rows n.nx) <|
  br (ckE n c != 0)
  (some (.inr ([], AV.tup [AV.int IntKind.i64 0, AV.int IntKind.i64 0, AV.int IntKind.i64 (ckE n c)])))
  (gu (ValidN n) <|
   gu (-1000 ≤ c ∧ c ≤ 1000) <|
   some (.inr ([], AV.tup [AV.int IntKind.i64 (plI n c), AV.int IntKind.i64 (plJ n c), AV.int IntKind.i64 0])))
noncomputable def plcStep (n : NetD) (c : Int) : Empty → Option (Empty ⊕ Ret)
  | x => x.elim
theorem plcEn_ok (n : NetD) (c : Int) (o : Empty ⊕ Ret) (h : plcEn n c = some o) : Arr Tryd.prog Tryd.f16 0 (plcSt n c) plcHd (bodyOf Tryd.f16) [] { n := Tryd.f16.ntmps, fr := enumF 0 ([netA n, .int .i64 c]), hp := ([]) } o :=
 Scr.ok h mix (
 .rn 0 [] [] [] [] (al (u2 t4)) <|
 .gu fun a0 =>
 have c0 := ck_c (n) (c) a0;
 .rn 1 [] [] [(12, hK c0 [] [])] [] (aj (u2 (u2 (aj (k2 (aj t9 (ak (al (c0))))) s2))) (al (u2 s2))) <|
 .br (fun a1 =>
 .rt [29] [] [] [] [] [] (aj (aj a1 (al (u2 (k2 s2)))) (al t4)))
 (fun a1 =>
 .gu fun a2 =>
 .gu fun a3 =>
 have c1 := place_ct a2 (c) a3;
 .rt [28] [] [(19, hK c1 [] [])] [] [] [] (aj (aj a1 (aj (u2 (u2 (aj (k2 (aj t9 (ak (al (c1))))) (u2 (u2 (u2 (u2 s2))))))) (al (u2 (u2 (u2 (u2 t2))))))) (al t4)))) (by kernel_rfl)
theorem plc_ct (n : NetD) (c : Int) (r : Ret) (h : MReach (plcStep n c) (plcEn n c) r) : CT Tryd.prog 16 ([]) ([netA n, .int .i64 c]) r.1 r.2 :=
  CT.mach (fn := Tryd.f16) (c := bodyOf Tryd.f16) (S := plcSt n c) (hd := plcHd) Tryd.func16 (by kernel_rfl) (Nat.le_of_ble_eq_true rfl)
    (fun s o ho => match s, ho with
      | x, _ => x.elim)
    (fun o ho => plcEn_ok n c o ho) h
noncomputable def sm1St : Empty → St
  | x => x.elim
def sm1Hd : Empty → Nat
  | x => x.elim
noncomputable def sm1En : Option (Empty ⊕ Ret) :=
  some (.inr ([], AV.str ((ByteArray.mk #[48, 49, 50, 51, 52, 53, 54, 55, 56, 57, 97, 98, 99, 100, 101, 102, 103, 104, 105, 106, 107, 108, 109, 110, 111, 112, 113, 114, 115, 116, 117, 118, 119, 120, 121, 122]).extract (Int.toNat 1) (Int.toNat 2))))
noncomputable def sm1Step : Empty → Option (Empty ⊕ Ret)
  | x => x.elim
theorem sm1En_ok (o : Empty ⊕ Ret) (h : sm1En = some o) : Arr Tryd.prog Tryd.f63 0 (sm1St) sm1Hd (bodyOf Tryd.f63) [] { n := Tryd.f63.ntmps, fr := enumF 0 ([.int .i64 1]), hp := ([]) } o :=
 Scr.ok h mix (
 .rt [] [] [] [] [] [] (aj (u2 (aj (u2 s2) (ak (al (u2 (u2 (u2 (aj (k2 (aj (show (0 : Int) ≤ (1 : Int) from (by first | exact Nat.le_of_ble_eq_true rfl | decide)) (aj (show (1 : Int) ≤ (2 : Int) from (by first | exact Nat.le_of_ble_eq_true rfl | decide)) (show (2 : Int) ≤ (36 : Int) from (by first | exact Nat.le_of_ble_eq_true rfl | decide))))) s2)))))))) t2)) (by kernel_rfl)
theorem sm1_ct (r : Ret) (h : MReach (sm1Step) (sm1En) r) : CT Tryd.prog 63 ([]) ([.int .i64 1]) r.1 r.2 :=
  CT.mach (fn := Tryd.f63) (c := bodyOf Tryd.f63) (S := sm1St) (hd := sm1Hd) Tryd.func63 (by kernel_rfl) (Nat.le_of_ble_eq_true rfl)
    (fun s o ho => match s, ho with
      | x, _ => x.elim)
    (fun o ho => sm1En_ok o ho) h
noncomputable def sm2St : Empty → St
  | x => x.elim
def sm2Hd : Empty → Nat
  | x => x.elim
noncomputable def sm2En : Option (Empty ⊕ Ret) :=
  some (.inr ([], AV.str ((ByteArray.mk #[48, 49, 50, 51, 52, 53, 54, 55, 56, 57, 97, 98, 99, 100, 101, 102, 103, 104, 105, 106, 107, 108, 109, 110, 111, 112, 113, 114, 115, 116, 117, 118, 119, 120, 121, 122]).extract (Int.toNat 2) (Int.toNat 3))))
noncomputable def sm2Step : Empty → Option (Empty ⊕ Ret)
  | x => x.elim
theorem sm2En_ok (o : Empty ⊕ Ret) (h : sm2En = some o) : Arr Tryd.prog Tryd.f63 0 (sm2St) sm2Hd (bodyOf Tryd.f63) [] { n := Tryd.f63.ntmps, fr := enumF 0 ([.int .i64 2]), hp := ([]) } o :=
 Scr.ok h mix (
 .rt [] [] [] [] [] [] (aj (u2 (aj (u2 s2) (ak (al (u2 (u2 (u2 (aj (k2 (aj (show (0 : Int) ≤ (2 : Int) from (by first | exact Nat.le_of_ble_eq_true rfl | decide)) (aj (show (2 : Int) ≤ (3 : Int) from (by first | exact Nat.le_of_ble_eq_true rfl | decide)) (show (3 : Int) ≤ (36 : Int) from (by first | exact Nat.le_of_ble_eq_true rfl | decide))))) s2)))))))) t2)) (by kernel_rfl)
theorem sm2_ct (r : Ret) (h : MReach (sm2Step) (sm2En) r) : CT Tryd.prog 63 ([]) ([.int .i64 2]) r.1 r.2 :=
  CT.mach (fn := Tryd.f63) (c := bodyOf Tryd.f63) (S := sm2St) (hd := sm2Hd) Tryd.func63 (by kernel_rfl) (Nat.le_of_ble_eq_true rfl)
    (fun s o ho => match s, ho with
      | x, _ => x.elim)
    (fun o ho => sm2En_ok o ho) h
noncomputable def sm3St : Empty → St
  | x => x.elim
def sm3Hd : Empty → Nat
  | x => x.elim
noncomputable def sm3En : Option (Empty ⊕ Ret) :=
  some (.inr ([], AV.str ((ByteArray.mk #[48, 49, 50, 51, 52, 53, 54, 55, 56, 57, 97, 98, 99, 100, 101, 102, 103, 104, 105, 106, 107, 108, 109, 110, 111, 112, 113, 114, 115, 116, 117, 118, 119, 120, 121, 122]).extract (Int.toNat 3) (Int.toNat 4))))
noncomputable def sm3Step : Empty → Option (Empty ⊕ Ret)
  | x => x.elim
theorem sm3En_ok (o : Empty ⊕ Ret) (h : sm3En = some o) : Arr Tryd.prog Tryd.f63 0 (sm3St) sm3Hd (bodyOf Tryd.f63) [] { n := Tryd.f63.ntmps, fr := enumF 0 ([.int .i64 3]), hp := ([]) } o :=
 Scr.ok h mix (
 .rt [] [] [] [] [] [] (aj (u2 (aj (u2 s2) (ak (al (u2 (u2 (u2 (aj (k2 (aj (show (0 : Int) ≤ (3 : Int) from (by first | exact Nat.le_of_ble_eq_true rfl | decide)) (aj (show (3 : Int) ≤ (4 : Int) from (by first | exact Nat.le_of_ble_eq_true rfl | decide)) (show (4 : Int) ≤ (36 : Int) from (by first | exact Nat.le_of_ble_eq_true rfl | decide))))) s2)))))))) t2)) (by kernel_rfl)
theorem sm3_ct (r : Ret) (h : MReach (sm3Step) (sm3En) r) : CT Tryd.prog 63 ([]) ([.int .i64 3]) r.1 r.2 :=
  CT.mach (fn := Tryd.f63) (c := bodyOf Tryd.f63) (S := sm3St) (hd := sm3Hd) Tryd.func63 (by kernel_rfl) (Nat.le_of_ble_eq_true rfl)
    (fun s o ho => match s, ho with
      | x, _ => x.elim)
    (fun o ho => sm3En_ok o ho) h
noncomputable def sm4St : Empty → St
  | x => x.elim
def sm4Hd : Empty → Nat
  | x => x.elim
noncomputable def sm4En : Option (Empty ⊕ Ret) :=
  some (.inr ([], AV.str ((ByteArray.mk #[48, 49, 50, 51, 52, 53, 54, 55, 56, 57, 97, 98, 99, 100, 101, 102, 103, 104, 105, 106, 107, 108, 109, 110, 111, 112, 113, 114, 115, 116, 117, 118, 119, 120, 121, 122]).extract (Int.toNat 4) (Int.toNat 5))))
noncomputable def sm4Step : Empty → Option (Empty ⊕ Ret)
  | x => x.elim
theorem sm4En_ok (o : Empty ⊕ Ret) (h : sm4En = some o) : Arr Tryd.prog Tryd.f63 0 (sm4St) sm4Hd (bodyOf Tryd.f63) [] { n := Tryd.f63.ntmps, fr := enumF 0 ([.int .i64 4]), hp := ([]) } o :=
 Scr.ok h mix (
 .rt [] [] [] [] [] [] (aj (u2 (aj (u2 s2) (ak (al (u2 (u2 (u2 (aj (k2 (aj (show (0 : Int) ≤ (4 : Int) from (by first | exact Nat.le_of_ble_eq_true rfl | decide)) (aj (show (4 : Int) ≤ (5 : Int) from (by first | exact Nat.le_of_ble_eq_true rfl | decide)) (show (5 : Int) ≤ (36 : Int) from (by first | exact Nat.le_of_ble_eq_true rfl | decide))))) s2)))))))) t2)) (by kernel_rfl)
theorem sm4_ct (r : Ret) (h : MReach (sm4Step) (sm4En) r) : CT Tryd.prog 63 ([]) ([.int .i64 4]) r.1 r.2 :=
  CT.mach (fn := Tryd.f63) (c := bodyOf Tryd.f63) (S := sm4St) (hd := sm4Hd) Tryd.func63 (by kernel_rfl) (Nat.le_of_ble_eq_true rfl)
    (fun s o ho => match s, ho with
      | x, _ => x.elim)
    (fun o ho => sm4En_ok o ho) h
noncomputable def csE (n : NetD) (sp : Int) : Int := if valB n = true then (if sp < 0 ∨ (n.ss.length : Int) ≤ sp then 19 else 0) else 20
theorem checkSpur_ct {n : NetD} (hrw : Rows n.nx) (sp : Int) : CT Tryd.prog 37 [] [netA n, .int .i64 sp] [] (.int .i64 (csE n sp)) := by
  refine ckS_ct n sp ([], _) (.val ?_)
  unfold ckSEn csE
  rw [gu_t hrw]
  cases hv : valB n with
  | false => rfl
  | true =>
    rw [br_f (by rfl), if_pos rfl]
    by_cases h0 : sp < 0
    · rw [br_t (dec_t h0), if_pos (.inl h0)]
    by_cases h1 : (n.ss.length : Int) ≤ sp
    · rw [br_f (dec_f h0), br_t (dec_t (by simpa [iN] using h1)), if_pos (.inr h1)]
    · rw [br_f (dec_f h0), br_f (dec_f (by simpa [iN] using h1)), if_neg (by omega)]
noncomputable def cntZ (n : NetD) : Int := if valB n = true then (celN n : Int) else 0
noncomputable def cntE (n : NetD) : Int := if valB n = true then 0 else 20
theorem cnt_c {n : NetD} (hrw : Rows n.nx) : CT Tryd.prog 10 [] [netA n] [] (.tup [.int .i64 (cntZ n), .int .i64 (cntE n)]) := by
  refine cnt_ct n ([], _) (.val ?_)
  unfold cntEn cntZ cntE
  rw [gu_t hrw]
  cases hv : valB n with
  | false => rfl
  | true => rw [br_f (by rfl), gu_t (valB_iff.1 hv)]; rfl
noncomputable def pliZ (n : NetD) (c : Int) : Int := if ckE n c = 0 then plI n c else 0
noncomputable def pljZ (n : NetD) (c : Int) : Int := if ckE n c = 0 then plJ n c else 0
theorem plc_c (n : NetD) (c : Int) (hrw : Rows n.nx) : CT Tryd.prog 16 [] [netA n, .int .i64 c] [] (.tup [.int .i64 (pliZ n c), .int .i64 (pljZ n c), .int .i64 (ckE n c)]) := by
  refine plc_ct n c ([], _) (.val ?_)
  unfold plcEn pliZ pljZ
  rw [gu_t hrw]
  by_cases h : ckE n c = 0
  · obtain ⟨hv, h0, h1⟩ := ckE_ok h
    have := hv.cel
    rw [br_f (by rw [h]; rfl), gu_t hv, gu_t (by omega), if_pos h, if_pos h, h]
  · rw [br_t (bne_iff_ne.2 h), if_neg h, if_neg h]
noncomputable def hdZ (n : NetD) (q : Int) : Int := if csE n q = 0 then headS (n.ss.getD q.toNat s0) else 0
theorem csE_zero {n : NetD} {sp : Int} (h : csE n sp = 0) : ValidN n ∧ 0 ≤ sp ∧ sp < n.ss.length := by
  unfold csE at h
  split at h
  · rename_i hv
    split at h
    · omega
    · exact ⟨valB_iff.1 hv, by omega, by omega⟩
  · omega
theorem sml_c (k : Nat) (h : 1 ≤ k ∧ k ≤ 4) : CT Tryd.prog 63 [] [.int .i64 (iN k)] [] (.str (digB k)) := by
  obtain rfl | rfl | rfl | rfl : k = 1 ∨ k = 2 ∨ k = 3 ∨ k = 4 := by omega
  · exact sm1_ct ([], _) (.val (show sm1En = _ by unfold sm1En; first | rfl | decide +kernel))
  · exact sm2_ct ([], _) (.val (show sm2En = _ by unfold sm2En; first | rfl | decide +kernel))
  · exact sm3_ct ([], _) (.val (show sm3En = _ by unfold sm3En; first | rfl | decide +kernel))
  · exact sm4_ct ([], _) (.val (show sm4En = _ by unfold sm4En; first | rfl | decide +kernel))
theorem sm1_c : CT Tryd.prog 63 [] [.int .i64 1] [] (.str (digB 1)) := sml_c 1 (by omega)
theorem sm2_c : CT Tryd.prog 63 [] [.int .i64 2] [] (.str (digB 2)) := sml_c 2 (by omega)
theorem sm3_c : CT Tryd.prog 63 [] [.int .i64 3] [] (.str (digB 3)) := sml_c 3 (by omega)
theorem sm4_c : CT Tryd.prog 63 [] [.int .i64 4] [] (.str (digB 4)) := sml_c 4 (by omega)
noncomputable def hd9St (n : NetD) (q : Int) : Empty → St
  | x => x.elim
def hd9Hd : Empty → Nat
  | x => x.elim
noncomputable def hd9En (n : NetD) (q : Int) : Option (Empty ⊕ Ret) :=
  gu (Rows n.nx) <|
  br (csE n q != 0)
  (some (.inr ([], AV.tup [AV.int IntKind.i64 0, AV.int IntKind.i64 (csE n q)])))
  (gu (0 ≤ q) <|
   el (n.ss) (q.toNat) fun (x16 : SpuD) =>
   el (n.ss) (q.toNat) fun (x22 : SpuD) =>
   some (.inr ([], AV.tup [AV.int IntKind.i64 (IntKind.i64.wrap (IntKind.i64.wrap (x16.b + x22.k) - 1)), AV.int IntKind.i64 0])))
noncomputable def hd9Step (n : NetD) (q : Int) : Empty → Option (Empty ⊕ Ret)
  | x => x.elim
theorem hd9En_ok (n : NetD) (q : Int) (o : Empty ⊕ Ret) (h : hd9En n q = some o) : Arr Tryd.prog Tryd.f15 0 (hd9St n q) hd9Hd (bodyOf Tryd.f15) [] { n := Tryd.f15.ntmps, fr := enumF 0 ([netA n, .int .i64 q]), hp := ([]) } o :=
 Scr.ok h mix (
 .rn 0 [] [] [] [] (al (u2 t3)) <|
 .gu fun a0 =>
 have c0 := checkSpur_ct a0 (q);
 .rn 1 [] [] [(9, hK c0 [] [])] [] (aj (u2 (u2 (aj (k2 (aj t9 (ak (al (c0))))) s2))) (al (u2 s2))) <|
 .br (fun a1 =>
 .rt [23] [] [] [] [] [] (aj (aj a1 (al (u2 (ak s2)))) (al t3)))
 (fun a1 =>
 .gu fun a2 =>
 .el fun x16 a3 =>
 .el fun x22 a4 =>
 .rt [22] [(16, sA x16), (22, sA x22)] [] [] [] [] (aj (aj a1 (al (u2 (u2 (u2 (aj (k2 (aj a2 (getMap (f := sA) a3))) (u2 (u2 (u2 (u2 (u2 (aj (k2 (aj a2 (getMap (f := sA) a4))) (u2 (u2 (aj t3 (u2 (u2 t2))))))))))))))))) (al t3)))) (by kernel_rfl)
theorem hd9_ct (n : NetD) (q : Int) (r : Ret) (h : MReach (hd9Step n q) (hd9En n q) r) : CT Tryd.prog 15 ([]) ([netA n, .int .i64 q]) r.1 r.2 :=
  CT.mach (fn := Tryd.f15) (c := bodyOf Tryd.f15) (S := hd9St n q) (hd := hd9Hd) Tryd.func15 (by kernel_rfl) (Nat.le_of_ble_eq_true rfl)
    (fun s o ho => match s, ho with
      | x, _ => x.elim)
    (fun o ho => hd9En_ok n q o ho) h
noncomputable def ex9St : Empty → St
  | x => x.elim
def ex9Hd : Empty → Nat
  | x => x.elim
noncomputable def ex9En : Option (Empty ⊕ Ret) :=
  some (.inr ([], AV.agg [AV.lst [AV.agg [AV.str (ByteArray.mk #[97]), AV.int IntKind.i64 0, AV.int IntKind.i64 0], AV.agg [AV.str (ByteArray.mk #[98]), AV.int IntKind.i64 0, AV.int IntKind.i64 0]], AV.lst [AV.lst [AV.int IntKind.i64 1], AV.lst [AV.int IntKind.i64 0]], AV.lst [AV.agg [AV.str (ByteArray.mk #[100]), AV.bool true, AV.int IntKind.i64 0, AV.int IntKind.i64 1, AV.int IntKind.i64 2, AV.int IntKind.i64 2]], AV.lst [AV.int IntKind.i64 3], AV.int IntKind.i64 4, AV.int IntKind.i64 2, AV.int IntKind.i64 1, AV.int IntKind.i64 8]))
noncomputable def ex9Step : Empty → Option (Empty ⊕ Ret)
  | x => x.elim
theorem ex9En_ok (o : Empty ⊕ Ret) (h : ex9En = some o) : Arr Tryd.prog Tryd.f30 0 (ex9St) ex9Hd (bodyOf Tryd.f30) [] { n := Tryd.f30.ntmps, fr := enumF 0 ([]), hp := ([]) } o :=
 Scr.ok h mix (
 .rt [] [(3, AV.lst []), (4, AV.lst []), (5, AV.lst []), (6, AV.lst []), (8, AV.lst []), (9, AV.lst [])] [] [] [] [] (aj (u2 (al (k2 (aj t3 (k2 (aj t3 (ak (u2 (k2 (aj t6 (al (k2 n11)))))))))))) (al t9))) (by kernel_rfl)
theorem ex9_ct (r : Ret) (h : MReach (ex9Step) (ex9En) r) : CT Tryd.prog 30 ([]) ([]) r.1 r.2 :=
  CT.mach (fn := Tryd.f30) (c := bodyOf Tryd.f30) (S := ex9St) (hd := ex9Hd) Tryd.func30 (by kernel_rfl) (Nat.le_of_ble_eq_true rfl)
    (fun s o ho => match s, ho with
      | x, _ => x.elim)
    (fun o ho => ex9En_ok o ho) h
noncomputable def fi1St : Empty → St
  | x => x.elim
def fi1Hd : Empty → Nat
  | x => x.elim
noncomputable def fi1En : Option (Empty ⊕ Ret) :=
  some (.inr ([], AV.str (digB 1)))
noncomputable def fi1Step : Empty → Option (Empty ⊕ Ret)
  | x => x.elim
theorem fi1En_ok (o : Empty ⊕ Ret) (h : fi1En = some o) : Arr Tryd.prog Tryd.f59 0 (fi1St) fi1Hd (bodyOf Tryd.f59) [] { n := Tryd.f59.ntmps, fr := enumF 0 ([.int .i64 1, .int .i64 10]), hp := ([]) } o :=
 Scr.ok h mix (
 have c0 := sm1_c;
 .rt [] [] [(19, hK c0 [] [])] [] [] [] (aj (u2 (aj (u2 s2) (ak (aj (u2 (u2 (u2 (aj t3 (aj t3 (al t3)))))) (ak (al (u2 (aj (k2 (al (c0))) s2)))))))) t2)) (by kernel_rfl)
theorem fi1_ct (r : Ret) (h : MReach (fi1Step) (fi1En) r) : CT Tryd.prog 59 ([]) ([.int .i64 1, .int .i64 10]) r.1 r.2 :=
  CT.mach (fn := Tryd.f59) (c := bodyOf Tryd.f59) (S := fi1St) (hd := fi1Hd) Tryd.func59 (by kernel_rfl) (Nat.le_of_ble_eq_true rfl)
    (fun s o ho => match s, ho with
      | x, _ => x.elim)
    (fun o ho => fi1En_ok o ho) h
noncomputable def fi2St : Empty → St
  | x => x.elim
def fi2Hd : Empty → Nat
  | x => x.elim
noncomputable def fi2En : Option (Empty ⊕ Ret) :=
  some (.inr ([], AV.str (digB 2)))
noncomputable def fi2Step : Empty → Option (Empty ⊕ Ret)
  | x => x.elim
theorem fi2En_ok (o : Empty ⊕ Ret) (h : fi2En = some o) : Arr Tryd.prog Tryd.f59 0 (fi2St) fi2Hd (bodyOf Tryd.f59) [] { n := Tryd.f59.ntmps, fr := enumF 0 ([.int .i64 2, .int .i64 10]), hp := ([]) } o :=
 Scr.ok h mix (
 have c0 := sm2_c;
 .rt [] [] [(19, hK c0 [] [])] [] [] [] (aj (u2 (aj (u2 s2) (ak (aj (u2 (u2 (u2 (aj t3 (aj t3 (al t3)))))) (ak (al (u2 (aj (k2 (al (c0))) s2)))))))) t2)) (by kernel_rfl)
theorem fi2_ct (r : Ret) (h : MReach (fi2Step) (fi2En) r) : CT Tryd.prog 59 ([]) ([.int .i64 2, .int .i64 10]) r.1 r.2 :=
  CT.mach (fn := Tryd.f59) (c := bodyOf Tryd.f59) (S := fi2St) (hd := fi2Hd) Tryd.func59 (by kernel_rfl) (Nat.le_of_ble_eq_true rfl)
    (fun s o ho => match s, ho with
      | x, _ => x.elim)
    (fun o ho => fi2En_ok o ho) h
noncomputable def fi3St : Empty → St
  | x => x.elim
def fi3Hd : Empty → Nat
  | x => x.elim
noncomputable def fi3En : Option (Empty ⊕ Ret) :=
  some (.inr ([], AV.str (digB 3)))
noncomputable def fi3Step : Empty → Option (Empty ⊕ Ret)
  | x => x.elim
theorem fi3En_ok (o : Empty ⊕ Ret) (h : fi3En = some o) : Arr Tryd.prog Tryd.f59 0 (fi3St) fi3Hd (bodyOf Tryd.f59) [] { n := Tryd.f59.ntmps, fr := enumF 0 ([.int .i64 3, .int .i64 10]), hp := ([]) } o :=
 Scr.ok h mix (
 have c0 := sm3_c;
 .rt [] [] [(19, hK c0 [] [])] [] [] [] (aj (u2 (aj (u2 s2) (ak (aj (u2 (u2 (u2 (aj t3 (aj t3 (al t3)))))) (ak (al (u2 (aj (k2 (al (c0))) s2)))))))) t2)) (by kernel_rfl)
theorem fi3_ct (r : Ret) (h : MReach (fi3Step) (fi3En) r) : CT Tryd.prog 59 ([]) ([.int .i64 3, .int .i64 10]) r.1 r.2 :=
  CT.mach (fn := Tryd.f59) (c := bodyOf Tryd.f59) (S := fi3St) (hd := fi3Hd) Tryd.func59 (by kernel_rfl) (Nat.le_of_ble_eq_true rfl)
    (fun s o ho => match s, ho with
      | x, _ => x.elim)
    (fun o ho => fi3En_ok o ho) h
noncomputable def fi4St : Empty → St
  | x => x.elim
def fi4Hd : Empty → Nat
  | x => x.elim
noncomputable def fi4En : Option (Empty ⊕ Ret) :=
  some (.inr ([], AV.str (digB 4)))
noncomputable def fi4Step : Empty → Option (Empty ⊕ Ret)
  | x => x.elim
theorem fi4En_ok (o : Empty ⊕ Ret) (h : fi4En = some o) : Arr Tryd.prog Tryd.f59 0 (fi4St) fi4Hd (bodyOf Tryd.f59) [] { n := Tryd.f59.ntmps, fr := enumF 0 ([.int .i64 4, .int .i64 10]), hp := ([]) } o :=
 Scr.ok h mix (
 have c0 := sm4_c;
 .rt [] [] [(19, hK c0 [] [])] [] [] [] (aj (u2 (aj (u2 s2) (ak (aj (u2 (u2 (u2 (aj t3 (aj t3 (al t3)))))) (ak (al (u2 (aj (k2 (al (c0))) s2)))))))) t2)) (by kernel_rfl)
theorem fi4_ct (r : Ret) (h : MReach (fi4Step) (fi4En) r) : CT Tryd.prog 59 ([]) ([.int .i64 4, .int .i64 10]) r.1 r.2 :=
  CT.mach (fn := Tryd.f59) (c := bodyOf Tryd.f59) (S := fi4St) (hd := fi4Hd) Tryd.func59 (by kernel_rfl) (Nat.le_of_ble_eq_true rfl)
    (fun s o ho => match s, ho with
      | x, _ => x.elim)
    (fun o ho => fi4En_ok o ho) h
theorem hd9_c (n : NetD) (q : Int) (hrw : Rows n.nx) : CT Tryd.prog 15 [] [netA n, .int .i64 q] [] (.tup [.int .i64 (hdZ n q), .int .i64 (csE n q)]) := by
  refine hd9_ct n q ([], _) (.val ?_)
  unfold hd9En hdZ
  rw [gu_t hrw]
  by_cases h : csE n q = 0
  · obtain ⟨hv, h0, h1⟩ := csE_zero h
    have hs := getE s0 (show q.toNat < n.ss.length by omega)
    have hb := hv.sb hs
    rw [br_f (by rw [h]; rfl), gu_t h0, el_t hs, el_t hs, if_pos h, h]
    unfold headS
    generalize n.ss.getD q.toNat s0 = s at hb
    have w1 : IntKind.i64.wrap (s.b + s.k) = s.b + s.k := wrap_in (by omega) (by omega)
    have w2 : IntKind.i64.wrap (s.b + s.k - 1) = s.b + s.k - 1 := wrap_in (by omega) (by omega)
    rw [w1, w2]
  · rw [br_t (bne_iff_ne.2 h), if_neg h]
theorem fi1_c : CT Tryd.prog 59 [] [.int .i64 1, .int .i64 10] [] (.str (digB 1)) := fi1_ct ([], _) (.val (show fi1En = _ by unfold fi1En; rfl))
theorem fi2_c : CT Tryd.prog 59 [] [.int .i64 2, .int .i64 10] [] (.str (digB 2)) := fi2_ct ([], _) (.val (show fi2En = _ by unfold fi2En; rfl))
theorem fi3_c : CT Tryd.prog 59 [] [.int .i64 3, .int .i64 10] [] (.str (digB 3)) := fi3_ct ([], _) (.val (show fi3En = _ by unfold fi3En; rfl))
theorem fi4_c : CT Tryd.prog 59 [] [.int .i64 4, .int .i64 10] [] (.str (digB 4)) := fi4_ct ([], _) (.val (show fi4En = _ by unfold fi4En; rfl))
noncomputable def ii1St : Empty → St
  | x => x.elim
def ii1Hd : Empty → Nat
  | x => x.elim
noncomputable def ii1En : Option (Empty ⊕ Ret) :=
  some (.inr ([], AV.str (digB 1)))
noncomputable def ii1Step : Empty → Option (Empty ⊕ Ret)
  | x => x.elim
theorem ii1En_ok (o : Empty ⊕ Ret) (h : ii1En = some o) : Arr Tryd.prog Tryd.f51 0 (ii1St) ii1Hd (bodyOf Tryd.f51) [] { n := Tryd.f51.ntmps, fr := enumF 0 ([.int .i64 1]), hp := ([]) } o :=
 Scr.ok h mix (
 have c0 := fi1_c;
 .rt [] [] [(4, hK c0 [] [])] [] [] [] (aj (u2 (al (u2 (aj (k3 (al (c0))) s2)))) t2)) (by kernel_rfl)
theorem ii1_ct (r : Ret) (h : MReach (ii1Step) (ii1En) r) : CT Tryd.prog 51 ([]) ([.int .i64 1]) r.1 r.2 :=
  CT.mach (fn := Tryd.f51) (c := bodyOf Tryd.f51) (S := ii1St) (hd := ii1Hd) Tryd.func51 (by kernel_rfl) (Nat.le_of_ble_eq_true rfl)
    (fun s o ho => match s, ho with
      | x, _ => x.elim)
    (fun o ho => ii1En_ok o ho) h
noncomputable def ii2St : Empty → St
  | x => x.elim
def ii2Hd : Empty → Nat
  | x => x.elim
noncomputable def ii2En : Option (Empty ⊕ Ret) :=
  some (.inr ([], AV.str (digB 2)))
noncomputable def ii2Step : Empty → Option (Empty ⊕ Ret)
  | x => x.elim
theorem ii2En_ok (o : Empty ⊕ Ret) (h : ii2En = some o) : Arr Tryd.prog Tryd.f51 0 (ii2St) ii2Hd (bodyOf Tryd.f51) [] { n := Tryd.f51.ntmps, fr := enumF 0 ([.int .i64 2]), hp := ([]) } o :=
 Scr.ok h mix (
 have c0 := fi2_c;
 .rt [] [] [(4, hK c0 [] [])] [] [] [] (aj (u2 (al (u2 (aj (k3 (al (c0))) s2)))) t2)) (by kernel_rfl)
theorem ii2_ct (r : Ret) (h : MReach (ii2Step) (ii2En) r) : CT Tryd.prog 51 ([]) ([.int .i64 2]) r.1 r.2 :=
  CT.mach (fn := Tryd.f51) (c := bodyOf Tryd.f51) (S := ii2St) (hd := ii2Hd) Tryd.func51 (by kernel_rfl) (Nat.le_of_ble_eq_true rfl)
    (fun s o ho => match s, ho with
      | x, _ => x.elim)
    (fun o ho => ii2En_ok o ho) h
noncomputable def ii3St : Empty → St
  | x => x.elim
def ii3Hd : Empty → Nat
  | x => x.elim
noncomputable def ii3En : Option (Empty ⊕ Ret) :=
  some (.inr ([], AV.str (digB 3)))
noncomputable def ii3Step : Empty → Option (Empty ⊕ Ret)
  | x => x.elim
theorem ii3En_ok (o : Empty ⊕ Ret) (h : ii3En = some o) : Arr Tryd.prog Tryd.f51 0 (ii3St) ii3Hd (bodyOf Tryd.f51) [] { n := Tryd.f51.ntmps, fr := enumF 0 ([.int .i64 3]), hp := ([]) } o :=
 Scr.ok h mix (
 have c0 := fi3_c;
 .rt [] [] [(4, hK c0 [] [])] [] [] [] (aj (u2 (al (u2 (aj (k3 (al (c0))) s2)))) t2)) (by kernel_rfl)
theorem ii3_ct (r : Ret) (h : MReach (ii3Step) (ii3En) r) : CT Tryd.prog 51 ([]) ([.int .i64 3]) r.1 r.2 :=
  CT.mach (fn := Tryd.f51) (c := bodyOf Tryd.f51) (S := ii3St) (hd := ii3Hd) Tryd.func51 (by kernel_rfl) (Nat.le_of_ble_eq_true rfl)
    (fun s o ho => match s, ho with
      | x, _ => x.elim)
    (fun o ho => ii3En_ok o ho) h
noncomputable def ii4St : Empty → St
  | x => x.elim
def ii4Hd : Empty → Nat
  | x => x.elim
noncomputable def ii4En : Option (Empty ⊕ Ret) :=
  some (.inr ([], AV.str (digB 4)))
noncomputable def ii4Step : Empty → Option (Empty ⊕ Ret)
  | x => x.elim
theorem ii4En_ok (o : Empty ⊕ Ret) (h : ii4En = some o) : Arr Tryd.prog Tryd.f51 0 (ii4St) ii4Hd (bodyOf Tryd.f51) [] { n := Tryd.f51.ntmps, fr := enumF 0 ([.int .i64 4]), hp := ([]) } o :=
 Scr.ok h mix (
 have c0 := fi4_c;
 .rt [] [] [(4, hK c0 [] [])] [] [] [] (aj (u2 (al (u2 (aj (k3 (al (c0))) s2)))) t2)) (by kernel_rfl)
theorem ii4_ct (r : Ret) (h : MReach (ii4Step) (ii4En) r) : CT Tryd.prog 51 ([]) ([.int .i64 4]) r.1 r.2 :=
  CT.mach (fn := Tryd.f51) (c := bodyOf Tryd.f51) (S := ii4St) (hd := ii4Hd) Tryd.func51 (by kernel_rfl) (Nat.le_of_ble_eq_true rfl)
    (fun s o ho => match s, ho with
      | x, _ => x.elim)
    (fun o ho => ii4En_ok o ho) h
theorem ii1_c : CT Tryd.prog 51 [] [.int .i64 1] [] (.str (digB 1)) := ii1_ct ([], _) (.val (show ii1En = _ by unfold ii1En; rfl))
theorem ii2_c : CT Tryd.prog 51 [] [.int .i64 2] [] (.str (digB 2)) := ii2_ct ([], _) (.val (show ii2En = _ by unfold ii2En; rfl))
theorem ii3_c : CT Tryd.prog 51 [] [.int .i64 3] [] (.str (digB 3)) := ii3_ct ([], _) (.val (show ii3En = _ by unfold ii3En; rfl))
theorem ii4_c : CT Tryd.prog 51 [] [.int .i64 4] [] (.str (digB 4)) := ii4_ct ([], _) (.val (show ii4En = _ by unfold ii4En; rfl))
noncomputable def it1St : Empty → St
  | x => x.elim
def it1Hd : Empty → Nat
  | x => x.elim
noncomputable def it1En : Option (Empty ⊕ Ret) :=
  some (.inr ([], AV.str (digB 1)))
noncomputable def it1Step : Empty → Option (Empty ⊕ Ret)
  | x => x.elim
theorem it1En_ok (o : Empty ⊕ Ret) (h : it1En = some o) : Arr Tryd.prog Tryd.f36 0 (it1St) it1Hd (bodyOf Tryd.f36) [] { n := Tryd.f36.ntmps, fr := enumF 0 ([.int .i64 1]), hp := ([]) } o :=
 Scr.ok h mix (
 have c0 := ii1_c;
 .rt [] [] [(4, hK c0 [] [])] [] [] [] (aj (u2 (al (u2 (aj (k2 (al (c0))) s2)))) t2)) (by kernel_rfl)
theorem it1_ct (r : Ret) (h : MReach (it1Step) (it1En) r) : CT Tryd.prog 36 ([]) ([.int .i64 1]) r.1 r.2 :=
  CT.mach (fn := Tryd.f36) (c := bodyOf Tryd.f36) (S := it1St) (hd := it1Hd) Tryd.func36 (by kernel_rfl) (Nat.le_of_ble_eq_true rfl)
    (fun s o ho => match s, ho with
      | x, _ => x.elim)
    (fun o ho => it1En_ok o ho) h
noncomputable def it2St : Empty → St
  | x => x.elim
def it2Hd : Empty → Nat
  | x => x.elim
noncomputable def it2En : Option (Empty ⊕ Ret) :=
  some (.inr ([], AV.str (digB 2)))
noncomputable def it2Step : Empty → Option (Empty ⊕ Ret)
  | x => x.elim
theorem it2En_ok (o : Empty ⊕ Ret) (h : it2En = some o) : Arr Tryd.prog Tryd.f36 0 (it2St) it2Hd (bodyOf Tryd.f36) [] { n := Tryd.f36.ntmps, fr := enumF 0 ([.int .i64 2]), hp := ([]) } o :=
 Scr.ok h mix (
 have c0 := ii2_c;
 .rt [] [] [(4, hK c0 [] [])] [] [] [] (aj (u2 (al (u2 (aj (k2 (al (c0))) s2)))) t2)) (by kernel_rfl)
theorem it2_ct (r : Ret) (h : MReach (it2Step) (it2En) r) : CT Tryd.prog 36 ([]) ([.int .i64 2]) r.1 r.2 :=
  CT.mach (fn := Tryd.f36) (c := bodyOf Tryd.f36) (S := it2St) (hd := it2Hd) Tryd.func36 (by kernel_rfl) (Nat.le_of_ble_eq_true rfl)
    (fun s o ho => match s, ho with
      | x, _ => x.elim)
    (fun o ho => it2En_ok o ho) h
noncomputable def it3St : Empty → St
  | x => x.elim
def it3Hd : Empty → Nat
  | x => x.elim
noncomputable def it3En : Option (Empty ⊕ Ret) :=
  some (.inr ([], AV.str (digB 3)))
noncomputable def it3Step : Empty → Option (Empty ⊕ Ret)
  | x => x.elim
theorem it3En_ok (o : Empty ⊕ Ret) (h : it3En = some o) : Arr Tryd.prog Tryd.f36 0 (it3St) it3Hd (bodyOf Tryd.f36) [] { n := Tryd.f36.ntmps, fr := enumF 0 ([.int .i64 3]), hp := ([]) } o :=
 Scr.ok h mix (
 have c0 := ii3_c;
 .rt [] [] [(4, hK c0 [] [])] [] [] [] (aj (u2 (al (u2 (aj (k2 (al (c0))) s2)))) t2)) (by kernel_rfl)
theorem it3_ct (r : Ret) (h : MReach (it3Step) (it3En) r) : CT Tryd.prog 36 ([]) ([.int .i64 3]) r.1 r.2 :=
  CT.mach (fn := Tryd.f36) (c := bodyOf Tryd.f36) (S := it3St) (hd := it3Hd) Tryd.func36 (by kernel_rfl) (Nat.le_of_ble_eq_true rfl)
    (fun s o ho => match s, ho with
      | x, _ => x.elim)
    (fun o ho => it3En_ok o ho) h
noncomputable def it4St : Empty → St
  | x => x.elim
def it4Hd : Empty → Nat
  | x => x.elim
noncomputable def it4En : Option (Empty ⊕ Ret) :=
  some (.inr ([], AV.str (digB 4)))
noncomputable def it4Step : Empty → Option (Empty ⊕ Ret)
  | x => x.elim
theorem it4En_ok (o : Empty ⊕ Ret) (h : it4En = some o) : Arr Tryd.prog Tryd.f36 0 (it4St) it4Hd (bodyOf Tryd.f36) [] { n := Tryd.f36.ntmps, fr := enumF 0 ([.int .i64 4]), hp := ([]) } o :=
 Scr.ok h mix (
 have c0 := ii4_c;
 .rt [] [] [(4, hK c0 [] [])] [] [] [] (aj (u2 (al (u2 (aj (k2 (al (c0))) s2)))) t2)) (by kernel_rfl)
theorem it4_ct (r : Ret) (h : MReach (it4Step) (it4En) r) : CT Tryd.prog 36 ([]) ([.int .i64 4]) r.1 r.2 :=
  CT.mach (fn := Tryd.f36) (c := bodyOf Tryd.f36) (S := it4St) (hd := it4Hd) Tryd.func36 (by kernel_rfl) (Nat.le_of_ble_eq_true rfl)
    (fun s o ho => match s, ho with
      | x, _ => x.elim)
    (fun o ho => it4En_ok o ho) h
theorem it1_c : CT Tryd.prog 36 [] [.int .i64 1] [] (.str (digB 1)) := it1_ct ([], _) (.val (show it1En = _ by unfold it1En; rfl))
theorem it2_c : CT Tryd.prog 36 [] [.int .i64 2] [] (.str (digB 2)) := it2_ct ([], _) (.val (show it2En = _ by unfold it2En; rfl))
theorem it3_c : CT Tryd.prog 36 [] [.int .i64 3] [] (.str (digB 3)) := it3_ct ([], _) (.val (show it3En = _ by unfold it3En; rfl))
theorem it4_c : CT Tryd.prog 36 [] [.int .i64 4] [] (.str (digB 4)) := it4_ct ([], _) (.val (show it4En = _ by unfold it4En; rfl))
theorem it_c (k : Int) (h : 1 ≤ k ∧ k ≤ 4) : CT Tryd.prog 36 [] [.int .i64 k] [] (.str (digB k.toNat)) := by
  obtain rfl | rfl | rfl | rfl : k = 1 ∨ k = 2 ∨ k = 3 ∨ k = 4 := by omega
  · exact it1_c
  · exact it2_c
  · exact it3_c
  · exact it4_c
noncomputable def namSt (n : NetD) (c : Int) : Empty → St
  | x => x.elim
def namHd : Empty → Nat
  | x => x.elim
noncomputable def namEn (n : NetD) (c : Int) : Option (Empty ⊕ Ret) :=
  gu (Rows n.nx) <|
  br (ckE n c != 0)
  (some (.inr ([], AV.tup [AV.str (ByteArray.mk #[]), AV.int IntKind.i64 (ckE n c)])))
  (gu (ValidN n) <|
   gu (-1000 ≤ c ∧ c ≤ 1000) <|
   br (decide (plI n c < 0))
   (gu (0 ≤ c) <|
    el (n.bs) (c.toNat) fun (x26 : BlkD) =>
    some (.inr ([], AV.tup [AV.str x26.nm, AV.int IntKind.i64 0])))
   (gu (0 ≤ plI n c) <|
    el (n.ss) ((plI n c).toNat) fun (x32 : SpuD) =>
    gu ((x32.nm.size + 1).le 9223372036854775807) <|
    gu (1 ≤ plJ n c ∧ plJ n c ≤ 4) <|
    gu (((x32.nm ++ ByteArray.mk #[47]).size + (digB (plJ n c).toNat).size).le 9223372036854775807) <|
    some (.inr ([], AV.tup [AV.str (x32.nm ++ ByteArray.mk #[47] ++ digB (plJ n c).toNat), AV.int IntKind.i64 0]))))
noncomputable def namStep (n : NetD) (c : Int) : Empty → Option (Empty ⊕ Ret)
  | x => x.elim
theorem namEn_ok (n : NetD) (c : Int) (o : Empty ⊕ Ret) (h : namEn n c = some o) : Arr Tryd.prog Tryd.f14 0 (namSt n c) namHd (bodyOf Tryd.f14) [] { n := Tryd.f14.ntmps, fr := enumF 0 ([netA n, .int .i64 c]), hp := ([]) } o :=
 Scr.ok h mix (
 .rn 0 [] [] [] [] (al (u2 t3)) <|
 .gu fun a0 =>
 have c0 := ck_c (n) (c) a0;
 .rn 1 [] [] [(11, hK c0 [] [])] [] (aj (u2 (u2 (aj (k2 (aj t9 (ak (al (c0))))) s2))) (al (u2 s2))) <|
 .br (fun a1 =>
 .rt [27] [] [] [] [] [] (aj (aj a1 (al (u2 (ak s2)))) (al t3)))
 (fun a1 =>
 .gu fun a2 =>
 .gu fun a3 =>
 have c1 := place_ct a2 (c) a3;
 .rn 1 [26] [] [(18, hK c1 [] [])] [] (aj a1 (aj (u2 (u2 (aj (k2 (aj t9 (ak (al (c1))))) (u2 (u2 (u2 (u2 s2))))))) (al (u2 s2)))) <|
 .br (fun a4 =>
  .gu fun a5 =>
  .el fun x26 a6 =>
  .rt [45] [(26, bA x26)] [] [] [] [] (aj (aj a4 (al (u2 (u2 (u2 (aj (k2 (aj a5 (getMap (f := bA) a6))) (u2 (u2 (u2 t2))))))))) (al t3)))
 (fun a4 =>
  .gu fun a5 =>
  .el fun x32 a6 =>
  .gu fun a7 =>
  .gu fun a8 =>
  .gu fun a9 =>
  have c2 := it_c (plJ n c) a8;
  .rt [44] [(32, sA x32)] [(37, hK c2 [] [])] [] [] [] (aj (aj a4 (al (u2 (u2 (u2 (aj (k2 (aj a5 (getMap (f := sA) a6))) (u2 (u2 (aj (ak a7) (u2 (aj (k2 (al (c2))) (aj (k2 a9) (u2 t2))))))))))))) (al t3))))) (by kernel_rfl)
theorem nam_ct (n : NetD) (c : Int) (r : Ret) (h : MReach (namStep n c) (namEn n c) r) : CT Tryd.prog 14 ([]) ([netA n, .int .i64 c]) r.1 r.2 :=
  CT.mach (fn := Tryd.f14) (c := bodyOf Tryd.f14) (S := namSt n c) (hd := namHd) Tryd.func14 (by kernel_rfl) (Nat.le_of_ble_eq_true rfl)
    (fun s o ho => match s, ho with
      | x, _ => x.elim)
    (fun o ho => namEn_ok n c o ho) h
inductive sinPc where
  | l0 (v0 : Int)
noncomputable def sinSt (l q : List Int) : sinPc → St
  | .l0 v0 => St.mk 26 [(0, AV.lst (List.map (iv) l)), (1, AV.lst (List.map (iv) q)), (5, iv v0)] []
def sinHd : sinPc → Nat
  | .l0 _ => 0
noncomputable def sinEn (l q : List Int) : Option (sinPc ⊕ Ret) :=
  br (iN (List.map (AV.int IntKind.i64) l).length != iN (List.map (AV.int IntKind.i64) q).length)
  (some (.inr ([], AV.bool false)))
  (some (.inl (.l0 ((0 : Int)))))
noncomputable def sinS0 (l q : List Int) (v0 : Int) : Option (sinPc ⊕ Ret) :=
  br (decide (v0 < iN (List.map (AV.int IntKind.i64) l).length))
  (gu (0 ≤ v0) <|
   el (l) (v0.toNat) fun (x19 : Int) =>
   el (q) (v0.toNat) fun (x23 : Int) =>
   br (x19 != x23)
   (some (.inr ([], AV.bool false)))
   (some (.inl (.l0 (IntKind.i64.wrap (v0 + 1))))))
  (some (.inr ([], AV.bool true)))
noncomputable def sinStep (l q : List Int) : sinPc → Option (sinPc ⊕ Ret)
  | .l0 v0 => sinS0 l q v0
theorem sinEn_ok (l q : List Int) (o : sinPc ⊕ Ret) (h : sinEn l q = some o) : Arr Tryd.prog Tryd.f17 0 (sinSt l q) sinHd (bodyOf Tryd.f17) [] { n := Tryd.f17.ntmps, fr := enumF 0 ([lI l, lI q]), hp := ([]) } o :=
 Scr.ok h mix (
 .rn 1 [] [] [] [] (u2 (al (u2 (u2 (u2 (u2 (al t3))))))) <|
 .br (fun a0 =>
 .rt [21] [] [] [] [] [] (aj (aj a0 s2) t2))
 (fun a0 =>
 .lp [20] [] [] [] [] [] [0, 1, 5] (aj (aj a0 s2) t4))) (by kernel_rfl)
theorem sinS0_ok (l q : List Int) (v0 : Int) (o : sinPc ⊕ Ret) (h : sinS0 l q v0 = some o) : Arr Tryd.prog Tryd.f17 0 (sinSt l q) sinHd (headC Tryd.f17 0) (.rnd (headC Tryd.f17 0) :: headK Tryd.f17 0) (sinSt l q (.l0 v0)) o :=
 Scr.ok h mix (
 .rn 0 [] [] [] [] (al (u2 (u2 (u2 (al t3))))) <|
 .br (fun a0 =>
 .gu fun a1 =>
 .el fun x19 a2 =>
 .el fun x23 a3 =>
 .rn 0 [29] [(19, iv x19), (23, iv x23)] [] [] (aj a0 (al (u2 (u2 (aj (k2 (aj a1 (getMap (f := iv) a2))) (u2 (u2 (u2 (aj (k2 (aj a1 (getMap (f := iv) a3))) (u2 (al t3))))))))))) <|
 .br (fun a4 =>
  .rt [51] [] [] [] [] [] (aj (aj a4 s2) t2))
 (fun a4 =>
  .lp [50] [] [] [] [] [] [0, 1, 5] (aj (aj a4 (al (u2 (u2 s2)))) t4)))
 (fun a0 =>
 .rt [28] [] [] [] [] [] (aj (aj a0 s2) t2))) (by kernel_rfl)
theorem sin_ct (l q : List Int) (r : Ret) (h : MReach (sinStep l q) (sinEn l q) r) : CT Tryd.prog 17 ([]) ([lI l, lI q]) r.1 r.2 :=
  CT.mach (fn := Tryd.f17) (c := bodyOf Tryd.f17) (S := sinSt l q) (hd := sinHd) Tryd.func17 (by kernel_rfl) (Nat.le_of_ble_eq_true rfl)
    (fun s o ho => match s, ho with
      | .l0 v0, ho => sinS0_ok l q v0 o ho
    )
    (fun o ho => sinEn_ok l q o ho) h
noncomputable def namZ (n : NetD) (c : Int) : ByteArray := if ckE n c = 0 then (match plF n c with | some i => (n.ss.getD i s0).nm ++ ⟨#[47]⟩ ++ digB (plJ n c).toNat | none => (n.bs.getD c.toNat ⟨⟨#[]⟩, 0, 0⟩).nm) else ⟨#[]⟩
theorem nm_size {s : ByteArray} (h : nmB s = true) : s.size ≤ 12 := by
  unfold nmB at h
  simp only [Bool.and_eq_true, Bool.not_eq_true', decide_eq_false_iff_not, iN] at h
  omega
theorem dig_size (k : Nat) : (digB k).size ≤ 2 := by unfold digB; split <;> exact Nat.le_of_ble_eq_true rfl
theorem pl_slot {n : NetD} (hv : ValidN n) {c : Int} {i : Nat} (h : plF n c = some i) : 1 ≤ plJ n c ∧ plJ n c ≤ 4 ∧ 0 ≤ plI n c ∧ plI n c = (i : Int) ∧ i < n.ss.length := by
  obtain ⟨s, hs, hg, g1, g2, hl⟩ := plF_some h
  obtain ⟨e1, e2⟩ := plI_some h
  have := hv.sb hs
  rw [e1, e2, hg]; exact ⟨by omega, by omega, by omega, rfl, hl⟩
theorem nam_c (n : NetD) (c : Int) (hrw : Rows n.nx) : CT Tryd.prog 14 [] [netA n, .int .i64 c] [] (.tup [.str (namZ n c), .int .i64 (ckE n c)]) := by
  refine nam_ct n c ([], _) (.val ?_)
  unfold namEn namZ
  rw [gu_t hrw]
  by_cases h : ckE n c = 0
  · obtain ⟨hv, h0, h1⟩ := ckE_ok h
    have hce := hv.cel
    rw [br_f (by rw [h]; rfl), gu_t hv, gu_t (by omega), if_pos h]
    cases hp : plF n c with
    | some i =>
      obtain ⟨g1, g2, g3, g4, g5⟩ := pl_slot hv hp
      have hs := getE s0 g5
      have z1 := nm_size (hv.spu i _ hs).nm
      have z2 := dig_size (plJ n c).toNat
      have z3 : ((n.ss.getD i s0).nm ++ (⟨#[47]⟩ : ByteArray)).size = (n.ss.getD i s0).nm.size + 1 := by rw [ByteArray.size_append]; rfl
      rw [br_f (dec_f (by omega)), g4, gu_t (by omega), Int.toNat_natCast, el_t hs, gu_t (show Nat.le _ _ from (show (n.ss.getD i s0).nm.size + 1 ≤ 9223372036854775807 by omega)), gu_t ⟨g1, g2⟩, gu_t (show Nat.le _ _ from (show ((n.ss.getD i s0).nm ++ (⟨#[47]⟩ : ByteArray)).size + (digB (plJ n c).toNat).size ≤ 9223372036854775807 by omega)), h]
    | none =>
      have hb := plF_block hv h0 h1 hp
      rw [plI_none hp, br_t (by rfl), gu_t h0, el_t (getE ⟨⟨#[]⟩, 0, 0⟩ (show c.toNat < n.bs.length by omega)), h]
  · rw [br_t (bne_iff_ne.2 h), if_neg h]
theorem sin_c (l q : List Int) (hl : l.length ≤ 1000000) : CT Tryd.prog 17 [] [lI l, lI q] [] (.bool (decide (l = q))) := by
  refine sin_ct l q ([], _) ?_
  unfold sinEn
  by_cases hlen : l.length = q.length
  · rw [br_f (by simp [iN, hlen])]
    refine (loop_fnd (fun i => sinPc.l0 (i : Int)) l.length (fun i => l.getD i 0 != q.getD i 0) (rF := fun i => ([], .bool false)) (r := ([], .bool true)) (fun i hi hp => ?_) (fun i r hi hp hr => ?_) (fun _ => ?_)).res ?_
    · refine .to (show sinS0 l q i = _ from ?_) (.ret _)
      unfold sinS0
      rw [rngG 0 hi, elG 0 (show i < q.length by omega), br_t hp]
    · refine .to (show sinS0 l q i = _ from ?_) hr
      unfold sinS0
      rw [rngG 0 hi, elG 0 (show i < q.length by omega), br_f hp, wrap_nat i (by omega)]
    · refine .to (show sinS0 l q l.length = _ from ?_) (.ret _)
      unfold sinS0; rw [rngE]
    · cases hf : fnd (fun i => l.getD i 0 != q.getD i 0) 0 l.length with
      | some i =>
        obtain ⟨h, _, _⟩ := fnd_some hf
        rw [dec_f]
        rintro rfl
        simp at h
      | none =>
        rw [dec_t]
        apply List.ext_getElem? fun i => ?_
        by_cases hi : i < l.length
        · have := fnd_none hf i (by omega) (by omega)
          rw [getE 0 hi, getE 0 (show i < q.length by omega)]
          simpa using this
        · rw [List.getElem?_eq_none (by omega), List.getElem?_eq_none (by omega)]
  · rw [br_t (by simp [iN]; omega), dec_f (fun h => hlen (by rw [h]))]; exact .ret _
theorem ex9_exP : ∃ n : NetD, n = ⟨[⟨⟨#[97]⟩, 0, 0⟩, ⟨⟨#[98]⟩, 0, 0⟩], [[1], [0]], [⟨⟨#[100]⟩, true, 0, 1, 2, 2⟩], [3], 4, 2, 1, 8⟩ := ⟨_, rfl⟩
@[irreducible] noncomputable def exN : NetD := Classical.choose ex9_exP
theorem exN_eq : exN = ⟨[⟨⟨#[97]⟩, 0, 0⟩, ⟨⟨#[98]⟩, 0, 0⟩], [[1], [0]], [⟨⟨#[100]⟩, true, 0, 1, 2, 2⟩], [3], 4, 2, 1, 8⟩ := by unfold exN; exact Classical.choose_spec ex9_exP
theorem ex9_c : CT Tryd.prog 30 [] [] [] (netA exN) := by
  rw [exN_eq]
  exact ex9_ct _ (.val (show ex9En = some (.inr _) by unfold ex9En; exact rfl))
theorem exN_rows : Rows exN.nx := by
  rw [exN_eq]
  intro v hv
  match v, hv with
  | 0, _ => decide
  | 1, _ => decide
  | v + 2, hv => simp at hv; try omega
theorem exN_ok : ValidN exN := by
  rw [exN_eq]
  refine ⟨by decide +kernel, rfl, by decide, by decide, by decide +kernel, ?_, ?_, ?_, ?_, ?_⟩
  · intro i b h
    match i, h with
    | 0, h => cases h; exact ⟨by decide +kernel, by decide +kernel, by decide +kernel, by decide +kernel⟩
    | 1, h => cases h; exact ⟨by decide +kernel, by decide +kernel, by decide +kernel, by decide +kernel⟩
    | i + 2, h => simp at h
  · intro i s h
    match i, h with
    | 0, h => cases h; exact ⟨by decide +kernel, by decide +kernel, by decide +kernel, by decide +kernel, by decide +kernel⟩
    | i + 1, h => simp at h
  · decide +kernel
  · exact ⟨2, ⟨⟨#[100]⟩, true, 0, 1, 2, 2⟩, by simp, rfl, by decide, by decide⟩
  · intro i c h
    match i, h with
    | 0, h => cases h; exact ⟨⟨⟨⟨#[100]⟩, true, 0, 1, 2, 2⟩, by simp, rfl, by decide, by decide⟩, by simp⟩
    | i + 1, h => simp at h
theorem exN_cel : celN exN = 4 := by rw [exN_eq]; decide +kernel
theorem exN_ck (c : Int) (h : 0 ≤ c ∧ c < 4) : ckE exN c = 0 := ckE_of exN_ok h.1 (by rw [exN_cel]; exact h.2)
theorem nxK0_c : CT Tryd.prog 11 [] [netA exN, .int .i64 0] [] (.tup [lI [1, 2], .int .i64 0]) := by
  have h := cnext_c exN 0 exN_rows
  have e : nxO exN 0 = [1, 2] := by unfold nxO; rw [if_pos (exN_ck 0 (by omega)), exN_eq]; decide +kernel
  rwa [e, exN_ck 0 (by omega)] at h
theorem nxK3_c : CT Tryd.prog 11 [] [netA exN, .int .i64 3] [] (.tup [lI [1], .int .i64 0]) := by
  have h := cnext_c exN 3 exN_rows
  have e : nxO exN 3 = [1] := by unfold nxO; rw [if_pos (exN_ck 3 (by omega)), exN_eq]; decide +kernel
  rwa [e, exN_ck 3 (by omega)] at h
theorem cntK_c : CT Tryd.prog 10 [] [netA exN] [] (.tup [.int .i64 4, .int .i64 0]) := by
  have h := cnt_c exN_rows
  have e : cntZ exN = 4 := by unfold cntZ; rw [if_pos (valB_iff.2 exN_ok), exN_cel]; rfl
  have e2 : cntE exN = 0 := by unfold cntE; rw [if_pos (valB_iff.2 exN_ok)]
  rwa [e, e2] at h
theorem namK_c : CT Tryd.prog 14 [] [netA exN, .int .i64 3] [] (.tup [.str ⟨#[100, 47, 50]⟩, .int .i64 0]) := by
  have h := nam_c exN 3 exN_rows
  have e : namZ exN 3 = ⟨#[100, 47, 50]⟩ := by unfold namZ; rw [if_pos (exN_ck 3 (by omega)), exN_eq]; decide +kernel
  rwa [e, exN_ck 3 (by omega)] at h
theorem folK_c : CT Tryd.prog 12 [] [netA exN, .int .i64 2, .int .i64 3] [] (.bool true) := by
  have h := cfol_c exN 2 3 exN_rows
  have e : folB exN 2 3 = true := by
    have e1 : nxO exN 2 = [3] := by unfold nxO; rw [if_pos (exN_ck 2 (by omega)), exN_eq]; decide +kernel
    unfold folB; rw [e1]; decide +kernel
  rwa [e] at h
theorem si12_c : CT Tryd.prog 17 [] [lI [1, 2], lI [1, 2]] [] (.bool true) := sameInts_ct [1, 2] (by decide)
theorem si1_c : CT Tryd.prog 17 [] [lI [1], lI [1]] [] (.bool true) := sameInts_ct [1] (by decide)
noncomputable def kn9St : Empty → St
  | x => x.elim
def kn9Hd : Empty → Nat
  | x => x.elim
noncomputable def kn9En : Option (Empty ⊕ Ret) :=
  some (.inr ([], AV.bool true))
noncomputable def kn9Step : Empty → Option (Empty ⊕ Ret)
  | x => x.elim
theorem kn9En_ok (o : Empty ⊕ Ret) (h : kn9En = some o) : Arr Tryd.prog Tryd.f8 0 (kn9St) kn9Hd (bodyOf Tryd.f8) [] { n := Tryd.f8.ntmps, fr := enumF 0 ([]), hp := ([]) } o :=
 Scr.ok h mix (
 have c0 := ex9_c;
 have c1 := nxK0_c;
 have c2 := nxK3_c;
 have c3 := cntK_c;
 have c4 := namK_c;
 have c5 := si12_c;
 have c6 := si1_c;
 have c7 := folK_c;
 .rt [] [] [(10, hK c0 [] []), (13, hK c1 [] []), (18, hK c2 [] []), (23, hK c3 [] []), (28, hK c4 [] []), (48, hK c5 [] [1]), (53, hK c6 [] [2]), (65, hK c7 [] [])] [] [] [] (aj (u2 (aj (aj (al (c0)) (ak (al (k2 n11)))) (aj (u2 (aj (ak (aj t9 (ak (al (c1))))) (u2 (u2 (u2 (u2 s2)))))) (aj (u2 (aj (ak (aj t9 (ak (al (c2))))) (u2 (u2 (u2 (u2 s2)))))) (aj (u2 (aj (ak (aj t9 (al (c3)))) (u2 (u2 (u2 (u2 s2)))))) (aj (u2 (aj (ak (aj t9 (ak (al (c4))))) (u2 (u2 (u2 (u2 s2)))))) (al (u2 (u2 (u2 (aj t3 (aj t3 (aj t3 (u2 (aj t3 (aj t3 (aj t3 (u2 (aj t3 (aj t3 (aj t3 (u2 (aj t3 (u2 (aj (ak (k3 (aj (show nat_lit 2 = nat_lit 2 from rfl) (aj (c5) (show ∀ (blk : Blk), blk ∈ [] → ImmB blk from (by intro _ h; cases h)))))) (aj t3 (u2 (aj t3 (u2 (aj (ak (k3 (aj (show nat_lit 1 = nat_lit 1 from rfl) (aj (c6) (show ∀ (blk : Blk), blk ∈ [] → ImmB blk from (by intro _ h; cases h)))))) (aj t3 (u2 (aj t3 (aj t3 (aj t3 (u2 (aj t3 (aj t3 (aj t3 (u2 (aj t3 (aj (k2 (aj t9 (k2 (al (c7))))) (aj t3 s2))))))))))))))))))))))))))))))))))))))))))) t2)) (by kernel_rfl)
theorem kn9_ct (r : Ret) (h : MReach (kn9Step) (kn9En) r) : CT Tryd.prog 8 ([]) ([]) r.1 r.2 :=
  CT.mach (fn := Tryd.f8) (c := bodyOf Tryd.f8) (S := kn9St) (hd := kn9Hd) Tryd.func8 (by kernel_rfl) (Nat.le_of_ble_eq_true rfl)
    (fun s o ho => match s, ho with
      | x, _ => x.elim)
    (fun o ho => kn9En_ok o ho) h
theorem kn9_c : CT Tryd.prog 8 [] [] [] (.bool true) := by
  refine kn9_ct ([], _) (.val ?_)
  unfold kn9En
  rfl
inductive ceCPc where
  | l0 (v0 : Int)
  | l1 (v0 : Int) (v1 : Int) (v2 : Int) (v3 : SpuD) (v4 : Int) (v5 : Int) (v6 : Bool) (v7 : Bool) (v8 : Bool)
noncomputable def ceCSt (ls : List Int) : ceCPc → St
  | .l0 v0 => St.mk 114 [(3, AV.ptr 0 0 0), (4, iv v0)] [some (Blk.mk [netA (looM ls 0 8)] 8 true true none)]
  | .l1 v0 v1 v2 v3 v4 v5 v6 v7 v8 => St.mk 114 [(3, AV.ptr 0 0 0), (4, iv v0), (5, AV.ptr 1 0 0), (6, iv v1), (8, iv v2), (42, iv v1), (43, AV.ptr 1 0 5), (44, iv v3.b), (45, AV.ptr 1 0 4), (46, iv v3.k), (47, iv v4), (48, iv v5), (49, AV.bool v6), (52, netA (looM ls 0 8)), (53, AV.ptr 1 0 2), (54, iv v3.i), (55, AV.ptr 1 0 5), (56, iv v3.b), (57, AV.bool v7), (58, AV.bool v8)] [some (Blk.mk [netA (looM ls 0 8)] 8 true true none), some (Blk.mk [sA v3] 6 true true none)]
def ceCHd : ceCPc → Nat
  | .l0 _ => 0
  | .l1 _ _ _ _ _ _ _ _ _ => 1
noncomputable def ceCEn (ls : List Int) : Option (ceCPc ⊕ Ret) :=
  some (.inl (.l0 ((0 : Int))))
noncomputable def ceCS0 (ls : List Int) (v0 : Int) : Option (ceCPc ⊕ Ret) :=
  br (decide (v0 < iN (List.map sA (looM ls 0 8).ss).length))
  (gu (0 ≤ v0) <|
   el ((looM ls 0 8).ss) (v0.toNat) fun (x31 : SpuD) =>
   gu (Rows (looM ls 0 8).nx) <|
   br (csE (looM ls 0 8) v0 != 0)
   (some (.inr ([], AV.bool false)))
   (br (hdZ (looM ls 0 8) v0 != IntKind.i64.wrap (IntKind.i64.wrap (x31.b + x31.k) - 1))
    (some (.inr ([], AV.bool false)))
    (br (!folB (looM ls 0 8) x31.i x31.b)
     (some (.inr ([], AV.bool false)))
     (some (.inl (.l1 (v0) (hdZ (looM ls 0 8) v0) (x31.b) (x31) (IntKind.i64.wrap (x31.b + x31.k)) (IntKind.i64.wrap (IntKind.i64.wrap (x31.b + x31.k) - 1)) (hdZ (looM ls 0 8) v0 != IntKind.i64.wrap (IntKind.i64.wrap (x31.b + x31.k) - 1)) (folB (looM ls 0 8) x31.i x31.b) (!folB (looM ls 0 8) x31.i x31.b)))))))
  (some (.inr ([], AV.bool true)))
noncomputable def ceCS1 (ls : List Int) (v0 : Int) (v1 : Int) (v2 : Int) (v3 : SpuD) (v4 : Int) (v5 : Int) (v6 : Bool) (v7 : Bool) (v8 : Bool) : Option (ceCPc ⊕ Ret) :=
  br (decide (v2 ≤ v1))
  (gu (Rows (looM ls 0 8).nx) <|
   br (v2 == v1)
   (br (ckE (looM ls 0 8) v2 != 0)
    (some (.inr ([], AV.bool false)))
    (gu ((nxO (looM ls 0 8) v2).length ≤ 1000000) <|
     br (!decide (nxO (looM ls 0 8) v2 = [v3.o]))
     (some (.inr ([], AV.bool false)))
     (br (pliZ (looM ls 0 8) v2 != v0)
      (some (.inr ([], AV.bool false)))
      (br (pljZ (looM ls 0 8) v2 != IntKind.i64.wrap (IntKind.i64.wrap (v2 - v3.b) + 1))
       (some (.inr ([], AV.bool false)))
       (some (.inl (.l1 (v0) (v1) (IntKind.i64.wrap (v2 + 1)) (v3) (v4) (v5) (v6) (v7) (v8))))))))
   (br (ckE (looM ls 0 8) v2 != 0)
    (some (.inr ([], AV.bool false)))
    (gu ((nxO (looM ls 0 8) v2).length ≤ 1000000) <|
     br (!decide (nxO (looM ls 0 8) v2 = [IntKind.i64.wrap (v2 + 1)]))
     (some (.inr ([], AV.bool false)))
     (br (pliZ (looM ls 0 8) v2 != v0)
      (some (.inr ([], AV.bool false)))
      (br (pljZ (looM ls 0 8) v2 != IntKind.i64.wrap (IntKind.i64.wrap (v2 - v3.b) + 1))
       (some (.inr ([], AV.bool false)))
       (some (.inl (.l1 (v0) (v1) (IntKind.i64.wrap (v2 + 1)) (v3) (v4) (v5) (v6) (v7) (v8)))))))))
  (some (.inl (.l0 (IntKind.i64.wrap (v0 + 1)))))
noncomputable def ceCStep (ls : List Int) : ceCPc → Option (ceCPc ⊕ Ret)
  | .l0 v0 => ceCS0 ls v0
  | .l1 v0 v1 v2 v3 v4 v5 v6 v7 v8 => ceCS1 ls v0 v1 v2 v3 v4 v5 v6 v7 v8
theorem ceCEn_ok (ls : List Int) (o : ceCPc ⊕ Ret) (h : ceCEn ls = some o) : Arr Tryd.prog Tryd.f5 0 (ceCSt ls) ceCHd (bodyOf Tryd.f5) [] { n := Tryd.f5.ntmps, fr := enumF 0 ([lI ls]), hp := ([]) } o :=
 Scr.ok h mix (
 have c0 := kn9_c;
 have c1 := loose_ct (ls) (0) (8) (show nat_lit 0 ≤ (5000 : Nat) from (by first | exact Nat.le_of_ble_eq_true rfl | decide)) (show (1 : Int) ≤ (8 : Int) ∧ (8 : Int) ≤ (20 : Int) from ⟨(by first | exact Nat.le_of_ble_eq_true rfl | decide), (by first | exact Nat.le_of_ble_eq_true rfl | decide)⟩);
 .lp [] [] [(15, hK c0 [] []), (20, hK c1 [0] [])] [] [] [1] [3, 4] (aj (u2 (aj (aj (al (c0)) s2) (ak (aj (u2 (u2 (u2 (aj (ak (k3 (al (c1)))) (ak (al (k2 n11))))))) s2)))) t4)) (by kernel_rfl)
theorem ceCS0_ok (ls : List Int) (v0 : Int) (o : ceCPc ⊕ Ret) (h : ceCS0 ls v0 = some o) : Arr Tryd.prog Tryd.f5 0 (ceCSt ls) ceCHd (headC Tryd.f5 0) (.rnd (headC Tryd.f5 0) :: headK Tryd.f5 0) (ceCSt ls (.l0 v0)) o :=
 Scr.ok h mix (
 .rn 0 [] [] [] [] (al (u2 (u2 (u2 (u2 (al t3)))))) <|
 .br (fun a0 =>
 .gu fun a1 =>
 .el fun x31 a2 =>
 .rn 0 [51] [(31, sA x31)] [] [] (aj a0 (al (u2 (u2 (u2 (aj (k2 (aj a1 (getMap (f := sA) a2))) (u2 (ak (al (k2 n11)))))))))) <|
 .gu fun a3 =>
 have c0 := hd9_c (looM ls 0 8) (v0) a3;
 .rn 0 [] [] [(36, hK c0 [] [])] [] (al (u2 (u2 (aj (k2 (aj t9 (ak (al (c0))))) (u2 (u2 (u2 (u2 s2)))))))) <|
 .br (fun a4 =>
  .rt [83] [] [] [] [] [] (aj (aj (u2 (u2 (u2 (aj a4 (aj a4 (aj a4 (aj a4 (aj a4 (aj a4 (aj a4 (aj a4 (ag a4 (u2 (k2 (k5 (al t3)))))))))))))))) (ak s2)) t2))
 (fun a4 =>
  .br (fun a5 =>
  .rt [82, 103] [] [] [] [] [] (aj (aj (u2 (u2 (u2 (ag a4 (ag a4 (ag a4 (ag a4 (ag a4 (aj (aj a4 t3) (ag a4 (aj (aj a4 t3) (ag a4 (u2 (aj a5 (aj a5 (aj a5 (aj a5 (aj a5 (aj a5 (aj a5 (al (aj a5 t2)))))))))))))))))))))) (ak s2)) t2))
  (fun a5 =>
  have c1 := cfol_c (looM ls 0 8) (x31.i) (x31.b) a3;
  .rn 0 [82, 102] [] [(57, hK c1 [] [])] [] (al (u2 (u2 (u2 (ag a4 (ag a4 (ag a4 (ag a4 (ag a4 (aj (aj a4 t3) (ag a4 (aj (aj a4 t3) (ag a4 (u2 (ag a5 (ag a5 (ag a5 (ag a5 (ag a5 (aj (aj a5 (k3 (aj t9 (k2 (al (c1)))))) (ag a5 (al (aj a5 t2))))))))))))))))))))))) <|
  .br (fun a6 =>
   .rt [82, 102, 119] [] [] [] [] [] (aj (aj a6 s2) t2))
  (fun a6 =>
   .lp [82, 102, 118] [] [] [] [] [0, 1] [3, 4, 5, 6, 8, 42, 43, 44, 45, 46, 47, 48, 49, 52, 53, 54, 55, 56, 57, 58] (aj (aj a6 (al (u2 (u2 s2)))) (k3 (k5 (k5 (aj t9 t9)))))))))
 (fun a0 =>
 .rt [50] [] [] [] [] [] (aj (aj a0 s2) t2))) (by kernel_rfl)
theorem ceCS1_ok (ls : List Int) (v0 : Int) (v1 : Int) (v2 : Int) (v3 : SpuD) (v4 : Int) (v5 : Int) (v6 : Bool) (v7 : Bool) (v8 : Bool) (o : ceCPc ⊕ Ret) (h : ceCS1 ls v0 v1 v2 v3 v4 v5 v6 v7 v8 = some o) : Arr Tryd.prog Tryd.f5 0 (ceCSt ls) ceCHd (headC Tryd.f5 1) (.rnd (headC Tryd.f5 1) :: headK Tryd.f5 1) (ceCSt ls (.l1 v0 v1 v2 v3 v4 v5 v6 v7 v8)) o :=
 Scr.ok h mix (
 .rn 0 [] [] [] [] (al (u2 (u2 (al t3)))) <|
 .br (fun a0 =>
 .gu fun a1 =>
 have c0 := cnext_c (looM ls 0 8) (v2) a1;
 have c1 := plc_c (looM ls 0 8) (v2) a1;
 .rn 3 [129] [] [(70, hK c0 [] []), (76, hK c1 [] [])] [] (aj a0 (aj (u2 (u2 (aj (k2 (aj t9 (ak (al (c0))))) (u2 (u2 (u2 (u2 s2))))))) (aj (u2 (u2 (aj (k2 (aj t9 (ak (al (c1))))) (u2 (u2 (u2 (u2 (u2 (u2 s2))))))))) (aj (u2 (u2 s2)) (al (u2 (u2 (al t3)))))))) <|
 .br (fun a2 =>
  .rn 0 [169] [] [] [] (aj a2 (al (u2 (u2 s2)))) <|
  .br (fun a3 =>
  .rt [179] [] [] [] [] [] (aj (aj (u2 (u2 (u2 (aj a3 (aj a3 (ag a3 (u2 (k5 (aj t3 (u2 (k3 (aj t3 (u2 (k2 (k5 (al t3)))))))))))))))) (ak s2)) t2))
  (fun a3 =>
  .gu fun a4 =>
  .br (fun a5 =>
   have c2 := sin_c (nxO (looM ls 0 8) v2) ([v3.o]) a4;
   .rt [178, 186, 201] [] [(97, hK c2 [] [2])] [] [] [] (aj (aj (u2 (u2 (u2 (ag a3 (ag a3 (ag a3 (u2 (ag a3 (ag a3 (ag a3 (aj (aj a3 (k3 (aj (show 1 = [iv v3.o].length by simp) (aj (c2) (show ∀ (blk : Blk), blk ∈ [] → ImmB blk from (by intro _ h; cases h)))))) (ag a3 (ag a3 (u2 (aj a5 (aj a5 (aj a5 (ag a5 (u2 (k2 (k5 (al t3)))))))))))))))))))))) (ak s2)) t2))
  (fun a5 =>
   .br (fun a6 =>
   have c2 := sin_c (nxO (looM ls 0 8) v2) ([v3.o]) a4;
   .rt [178, 186, 200, 211] [] [(97, hK c2 [] [2])] [] [] [] (aj (aj (u2 (u2 (u2 (ag a3 (ag a3 (ag a3 (u2 (ag a3 (ag a3 (ag a3 (aj (aj a3 (k3 (aj (show 1 = [iv v3.o].length by simp) (aj (c2) (show ∀ (blk : Blk), blk ∈ [] → ImmB blk from (by intro _ h; cases h)))))) (ag a3 (ag a3 (u2 (ag a5 (ag a5 (aj (aj a5 t3) (ag a5 (u2 (aj a6 (aj a6 (aj a6 (aj a6 (aj a6 (aj a6 (aj a6 (al (aj a6 t2)))))))))))))))))))))))))))) (ak s2)) t2))
   (fun a6 =>
   have c2 := sin_c (nxO (looM ls 0 8) v2) ([v3.o]) a4;
   .rn 0 [178, 186, 200, 210] [] [(97, hK c2 [] [2])] [] (al (u2 (u2 (u2 (ag a3 (ag a3 (ag a3 (u2 (ag a3 (ag a3 (ag a3 (aj (aj a3 (k3 (aj (show 1 = [iv v3.o].length by simp) (aj (c2) (show ∀ (blk : Blk), blk ∈ [] → ImmB blk from (by intro _ h; cases h)))))) (ag a3 (ag a3 (u2 (ag a5 (ag a5 (aj (aj a5 t3) (ag a5 (u2 (ag a6 (ag a6 (ag a6 (ag a6 (aj (aj a6 t3) (ag a6 (aj (aj a6 t3) (al (aj a6 t2))))))))))))))))))))))))))))) <|
   .br (fun a7 =>
    .rt [178, 186, 200, 210, 227] [] [] [] [] [] (aj (aj a7 s2) t2))
   (fun a7 =>
    .lp [178, 186, 200, 210, 226] [] [] [] [] [0, 1] [3, 4, 5, 6, 8, 42, 43, 44, 45, 46, 47, 48, 49, 52, 53, 54, 55, 56, 57, 58] (aj (aj a7 (al (u2 (u2 s2)))) (k3 (k5 (k5 (aj t9 t9))))))))))
 (fun a2 =>
  .br (fun a3 =>
  .rt [168, 179] [] [] [] [] [] (aj (aj a2 (aj (u2 (u2 (u2 (aj a3 (aj a3 (ag a3 (u2 (k5 (aj t3 (u2 (k3 (aj t3 (u2 (k2 (k5 (al t3)))))))))))))))) (ak s2))) t2))
  (fun a3 =>
  .gu fun a4 =>
  .br (fun a5 =>
   have c2 := sin_c (nxO (looM ls 0 8) v2) ([IntKind.i64.wrap (v2 + 1)]) a4;
   .rt [168, 178, 186, 201] [] [(97, hK c2 [] [2])] [] [] [] (aj (aj a2 (aj (u2 (u2 (u2 (ag a3 (ag a3 (ag a3 (u2 (ag a3 (ag a3 (ag a3 (aj (aj a3 (k3 (aj (show 1 = [iv (IntKind.i64.wrap (v2 + 1))].length by simp) (aj (c2) (show ∀ (blk : Blk), blk ∈ [] → ImmB blk from (by intro _ h; cases h)))))) (ag a3 (ag a3 (u2 (aj a5 (aj a5 (aj a5 (ag a5 (u2 (k2 (k5 (al t3)))))))))))))))))))))) (ak s2))) t2))
  (fun a5 =>
   .br (fun a6 =>
   have c2 := sin_c (nxO (looM ls 0 8) v2) ([IntKind.i64.wrap (v2 + 1)]) a4;
   .rt [168, 178, 186, 200, 211] [] [(97, hK c2 [] [2])] [] [] [] (aj (aj a2 (aj (u2 (u2 (u2 (ag a3 (ag a3 (ag a3 (u2 (ag a3 (ag a3 (ag a3 (aj (aj a3 (k3 (aj (show 1 = [iv (IntKind.i64.wrap (v2 + 1))].length by simp) (aj (c2) (show ∀ (blk : Blk), blk ∈ [] → ImmB blk from (by intro _ h; cases h)))))) (ag a3 (ag a3 (u2 (ag a5 (ag a5 (aj (aj a5 t3) (ag a5 (u2 (aj a6 (aj a6 (aj a6 (aj a6 (aj a6 (aj a6 (aj a6 (al (aj a6 t2)))))))))))))))))))))))))))) (ak s2))) t2))
   (fun a6 =>
   have c2 := sin_c (nxO (looM ls 0 8) v2) ([IntKind.i64.wrap (v2 + 1)]) a4;
   .rn 0 [168, 178, 186, 200, 210] [] [(97, hK c2 [] [2])] [] (aj a2 (al (u2 (u2 (u2 (ag a3 (ag a3 (ag a3 (u2 (ag a3 (ag a3 (ag a3 (aj (aj a3 (k3 (aj (show 1 = [iv (IntKind.i64.wrap (v2 + 1))].length by simp) (aj (c2) (show ∀ (blk : Blk), blk ∈ [] → ImmB blk from (by intro _ h; cases h)))))) (ag a3 (ag a3 (u2 (ag a5 (ag a5 (aj (aj a5 t3) (ag a5 (u2 (ag a6 (ag a6 (ag a6 (ag a6 (aj (aj a6 t3) (ag a6 (aj (aj a6 t3) (al (aj a6 t2)))))))))))))))))))))))))))))) <|
   .br (fun a7 =>
    .rt [178, 186, 200, 210, 227] [] [] [] [] [] (aj (aj a7 s2) t2))
   (fun a7 =>
    .lp [178, 186, 200, 210, 226] [] [] [] [] [0, 1] [3, 4, 5, 6, 8, 42, 43, 44, 45, 46, 47, 48, 49, 52, 53, 54, 55, 56, 57, 58] (aj (aj a7 (al (u2 (u2 s2)))) (k3 (k5 (k5 (aj t9 t9)))))))))))
 (fun a0 =>
 .lp [128] [] [] [] [] [0] [3, 4] (aj (aj a0 (al (u2 (u2 s2)))) t4))) (by kernel_rfl)
theorem ceC_ct (ls : List Int) (r : Ret) (h : MReach (ceCStep ls) (ceCEn ls) r) : CT Tryd.prog 5 ([]) ([lI ls]) r.1 r.2 :=
  CT.mach (fn := Tryd.f5) (c := bodyOf Tryd.f5) (S := ceCSt ls) (hd := ceCHd) Tryd.func5 (by kernel_rfl) (Nat.le_of_ble_eq_true rfl)
    (fun s o ho => match s, ho with
      | .l0 v0, ho => ceCS0_ok ls v0 o ho
      | .l1 v0 v1 v2 v3 v4 v5 v6 v7 v8, ho => ceCS1_ok ls v0 v1 v2 v3 v4 v5 v6 v7 v8 o ho
    )
    (fun o ho => ceCEn_ok ls o ho) h
theorem plF_at {n : NetD} (hv : ValidN n) {c : Int} {i : Nat} {s : SpuD} (hs : n.ss[i]? = some s) (h0 : s.b ≤ c) (h1 : c < s.b + s.k) : plF n c = some i := by
  have hil := (List.getElem?_eq_some_iff.1 hs).1
  cases hp : plF n c with
  | none => exact absurd ⟨h0, h1⟩ (plF_none hp hs)
  | some j =>
    obtain ⟨t, ht, _, g1, g2, hl⟩ := plF_some hp
    have a := hv.sb hs
    have b := hv.sb ht
    have e1 := baseN_succ hs
    have e2 := baseN_succ ht
    rcases Nat.lt_trichotomy i j with h | h | h
    · have := baseN_mono hv (i := i + 1) (j := j) (by omega) (by omega); omega
    · rw [h]
    · have := baseN_mono hv (i := j + 1) (j := i) (by omega) (by omega); omega
theorem plF_low {n : NetD} (hv : ValidN n) {c : Int} (h : c < (n.bs.length : Int)) : plF n c = none := by
  cases hp : plF n c with
  | none => rfl
  | some j =>
    obtain ⟨t, ht, _, g1, g2, hl⟩ := plF_some hp
    have := (hv.sb ht).2.2.2.2
    have := (hv.bd j).1
    omega
theorem cs_ok {n : NetD} (hv : ValidN n) {i : Nat} (hi : i < n.ss.length) : csE n (i : Int) = 0 := by
  unfold csE; rw [if_pos (valB_iff.2 hv), if_neg (by omega)]
theorem hd_at {n : NetD} (hv : ValidN n) {i : Nat} {s : SpuD} (hs : n.ss[i]? = some s) : hdZ n (i : Int) = s.b + s.k - 1 := by
  have hil := (List.getElem?_eq_some_iff.1 hs).1
  unfold hdZ
  rw [if_pos (cs_ok hv hil), Int.toNat_natCast, List.getD_eq_getElem?_getD, hs]; rfl
theorem in_follows {n : NetD} (hv : ValidN n) {i : Nat} {s : SpuD} (hs : n.ss[i]? = some s) : folB n s.i s.b = true := by
  have g := hv.goodT i s hs
  have e := hv.ends hs
  unfold folB nxO
  rw [if_pos (ckE_of hv e.1 e.2.1)]
  refine hasZ_mem.2 ?_
  unfold nxtL
  rw [plF_low hv g.hi.2]
  refine List.mem_append_right _ (List.mem_map.2 ⟨s, List.mem_filter.2 ⟨List.mem_of_getElem? hs, by simp⟩, rfl⟩)
theorem slot_next {n : NetD} (hv : ValidN n) {c : Int} {i : Nat} {s : SpuD} (hs : n.ss[i]? = some s) (h0 : s.b ≤ c) (h1 : c < s.b + s.k) :
    ckE n c = 0 ∧ nxO n c = [if c = s.b + s.k - 1 then s.o else c + 1] ∧ pliZ n c = (i : Int) ∧ pljZ n c = c - s.b + 1 := by
  have e := hv.ends hs
  have sb := hv.sb hs
  have hk := ckE_of hv (show 0 ≤ c by omega) (show c < (celN n : Int) by omega)
  have hp := plF_at hv hs h0 h1
  have hg : n.ss.getD i s0 = s := by rw [List.getD_eq_getElem?_getD, hs]; rfl
  obtain ⟨a1, a2⟩ := plI_some hp
  refine ⟨hk, ?_, ?_, ?_⟩
  · unfold nxO nxtL
    rw [if_pos hk, hp]
    simp only [hg]
    unfold headS
    split <;> rfl
  · unfold pliZ; rw [if_pos hk, a1]
  · unfold pljZ; rw [if_pos hk, a2, hg]
theorem ceC_run (ls : List Int) : CT Tryd.prog 5 [] [lI ls] [] (.bool true) := by
  refine ceC_ct ls ([], .bool true) ?_
  have hl := (loo_spec (L := ls) (kk := 0) (most := 8) (by omega) (by omega)).1
  have hv := hl.v
  have ns := hv.ns
  unfold ceCEn
  refine loop_up (fun i => ceCPc.l0 (i : Int)) (looM ls 0 8).ss.length (fun i hi hr => ?_) (.to (show ceCS0 ls _ = _ from ?_) (.ret _))
  · have hs := getE s0 hi
    generalize (looM ls 0 8).ss.getD i s0 = s at hs
    have sb := hv.sb hs
    have w1 : IntKind.i64.wrap (s.b + s.k) = s.b + s.k := wrap_in (by omega) (by omega)
    have w2 : IntKind.i64.wrap (s.b + s.k - 1) = s.b + s.k - 1 := wrap_in (by omega) (by omega)
    have hd := hd_at hv hs
    refine .to (show ceCS0 ls i = _ from ?_) (?_ : MReach _ (some (.inl (.l1 (i : Int) (s.b + s.k - 1) s.b s (s.b + s.k) (s.b + s.k - 1) false true false))) _)
    · unfold ceCS0
      rw [br_t (rngB hi), gu_t (by omega), Int.toNat_natCast, el_t hs, gu_t hl.rows, br_f (by rw [cs_ok hv hi]; rfl), w1, w2, hd, br_f (bne_self_eq_false _), in_follows hv hs, br_f (by rfl)]
      simp
    · have inner : ∀ (m : Nat) (c : Int), s.b ≤ c → c + m = s.b + s.k → MReach (ceCStep ls) (some (.inl (.l1 (i : Int) (s.b + s.k - 1) c s (s.b + s.k) (s.b + s.k - 1) false true false))) (([], .bool true) : Ret) := by
        intro m
        induction m with
        | zero =>
          intro c h0 h1
          refine .to (show ceCS1 ls i _ c s _ _ _ _ _ = _ from ?_) hr
          unfold ceCS1
          rw [br_f (dec_f (by omega)), wrap_nat i (by omega)]
        | succ m ih =>
          intro c h0 h1
          obtain ⟨a1, a2, a3, a4⟩ := slot_next hv hs h0 (by omega)
          have w3 : IntKind.i64.wrap (c - s.b) = c - s.b := wrap_in (by omega) (by omega)
          have w4 : IntKind.i64.wrap (c - s.b + 1) = c - s.b + 1 := wrap_in (by omega) (by omega)
          have w5 : IntKind.i64.wrap (c + 1) = c + 1 := wrap_in (by omega) (by omega)
          refine .to (show ceCS1 ls i _ c s _ _ _ _ _ = _ from ?_) (ih (c + 1) (by omega) (by omega))
          unfold ceCS1
          rw [br_t (dec_t (by omega)), gu_t hl.rows, a1, a2, a3, a4, w3, w4, w5]
          by_cases hc : c = s.b + s.k - 1
          · rw [br_t (beq_iff_eq.2 hc), br_f (by rfl), gu_t (by simp), if_pos hc, br_f (by simp), br_f (bne_self_eq_false _), br_f (bne_self_eq_false _)]
          · rw [br_f (beq_eq_false_iff_ne.2 hc), br_f (by rfl), gu_t (by simp), if_neg hc, br_f (by simp), br_f (bne_self_eq_false _), br_f (bne_self_eq_false _)]
      exact inner s.k.toNat s.b (by omega) (by omega)
  · unfold ceCS0
    rw [rngE]
theorem rdInts {n : Nat} {es : List AV} (h : ∀ x ∈ es, ShV Tryd.prog n 3 x) : ∃ L : List Int, es = L.map (AV.int .i64) := by
  induction es with
  | nil => exact ⟨[], rfl⟩
  | cons x es ih =>
    obtain ⟨L, rfl⟩ := ih fun y hy => h y (List.mem_cons_of_mem _ hy)
    obtain ⟨i, _, rfl⟩ := (h x (by simp)).intD Tryd.underlying3
    exact ⟨i :: L, rfl⟩
theorem cellsChains_row (avs : List AV) (h : ShVs Tryd.prog 6 Tryd.f5.params.toList avs) : CT Tryd.prog 5 [] avs [] (.bool true) := by
  rw [Tryd.params5] at h
  obtain ⟨a, _, rfl, ka, h⟩ := h.consD
  obtain rfl := h.nilD
  obtain ⟨_, _, he, rfl⟩ := ka.sliceD Tryd.underlying22
  obtain ⟨l, rfl⟩ := rdInts he
  exact ceC_run l
end Go.Proofs.YtlogjpmajgbgaaaDoor

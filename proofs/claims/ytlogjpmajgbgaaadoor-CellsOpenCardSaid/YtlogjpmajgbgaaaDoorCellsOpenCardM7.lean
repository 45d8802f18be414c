/- Parts of the proof: Ce3m, CeD, Da1m, DaA, Da2m, DaB, Da3m, DaC, Da4m, DaD, Da5m, Da6m, DaE, Da7m, DaF, Db3m, Db2m, Db1m, DbA, DbB, DbC, DbD, DbE, DbF. -/
import Derived.Test.YtlogjpmajgbgaaaDoorProg
import Derived.KernelRfl
import Derived.Test.YtlogjpmajgbgaaaDoorCellsOpenCardM6
open Go Go.AX Go.Proofs
set_option maxRecDepth 100000
set_option maxHeartbeats 4000000
set_option linter.unusedVariables false
set_option linter.unusedSimpArgs false
namespace Go.Proofs.YtlogjpmajgbgaaaDoor
inductive folPc where
  | l0 (v0 : Int)
noncomputable def folSt (n : NetD) (q w : Int) : folPc → St
  | .l0 v0 => St.mk 27 [(2, iv w), (17, AV.lst (List.map (iv) (nxO n q))), (18, iv (iN (List.map (iv) (nxO n q)).length)), (19, iv v0)] []
def folHd : folPc → Nat
  | .l0 _ => 0
noncomputable def folEn (n : NetD) (q w : Int) : Option (folPc ⊕ Ret) :=
  gu (Rows n.nx) <|
  some (.inl (.l0 ((0 : Int))))
noncomputable def folS0 (n : NetD) (q w : Int) (v0 : Int) : Option (folPc ⊕ Ret) :=
  br (decide (v0 < iN (List.map (AV.int IntKind.i64) (nxO n q)).length))
  (gu (0 ≤ v0) <|
   el (nxO n q) (v0.toNat) fun (x21 : Int) =>
   br (x21 == w)
   (some (.inr ([], AV.bool true)))
   (some (.inl (.l0 (IntKind.i64.wrap (v0 + 1))))))
  (some (.inr ([], AV.bool false)))
noncomputable def folStep (n : NetD) (q w : Int) : folPc → Option (folPc ⊕ Ret)
  | .l0 v0 => folS0 n q w v0
theorem folEn_ok (n : NetD) (q w : Int) (o : folPc ⊕ Ret) (h : folEn n q w = some o) : Arr Tryd.prog Tryd.f12 0 (folSt n q w) folHd (bodyOf Tryd.f12) [] { n := Tryd.f12.ntmps, fr := enumF 0 ([netA n, .int .i64 q, .int .i64 w]), hp := ([]) } o :=
 Scr.ok h mix (
 .rn 0 [] [] [] [] (al (u2 t2)) <|
 .gu fun a0 =>
 have c0 := cnext_c (n) (q) a0;
 .lp [] [] [(14, hK c0 [] [])] [] [] [] [2, 17, 18, 19] (aj (aj (u2 (u2 (aj (k2 (aj t9 (ak (al (c0))))) (u2 (u2 (u2 (u2 s2))))))) (al (u2 (u2 t2)))) t5)) (by kernel_rfl)
theorem folS0_ok (n : NetD) (q w : Int) (v0 : Int) (o : folPc ⊕ Ret) (h : folS0 n q w v0 = some o) : Arr Tryd.prog Tryd.f12 0 (folSt n q w) folHd (headC Tryd.f12 0) (.rnd (headC Tryd.f12 0) :: headK Tryd.f12 0) (folSt n q w (.l0 v0)) o :=
 Scr.ok h mix (
 .rn 0 [] [] [] [] (al (al t3)) <|
 .br (fun a0 =>
 .gu fun a1 =>
 .el fun x21 a2 =>
 .rn 1 [41] [(21, iv x21)] [] [] (aj a0 (aj (aj (k2 (aj a1 (getMap (f := iv) a2))) (u2 s2)) (al (u2 (u2 (al t3)))))) <|
 .br (fun a3 =>
  .rt [51] [] [] [] [] [] (aj (aj a3 s2) t2))
 (fun a3 =>
  .lp [50] [] [] [] [] [] [2, 17, 18, 19] (aj (aj a3 (al (u2 s2))) t5)))
 (fun a0 =>
 .rt [40] [] [] [] [] [] (aj (aj a0 s2) t2))) (by kernel_rfl)
theorem fol_ct (n : NetD) (q w : Int) (r : Ret) (h : MReach (folStep n q w) (folEn n q w) r) : CT Tryd.prog 12 ([]) ([netA n, .int .i64 q, .int .i64 w]) r.1 r.2 :=
  CT.mach (fn := Tryd.f12) (c := bodyOf Tryd.f12) (S := folSt n q w) (hd := folHd) Tryd.func12 (by kernel_rfl) (Nat.le_of_ble_eq_true rfl)
    (fun s o ho => match s, ho with
      | .l0 v0, ho => folS0_ok n q w v0 o ho
    )
    (fun o ho => folEn_ok n q w o ho) h
end Go.Proofs.YtlogjpmajgbgaaaDoor
namespace Go.Proofs.YtlogjpmajgbgaaaDoor
theorem cfol_c (n : NetD) (q w : Int) (hrw : Rows n.nx) : CT Tryd.prog 12 [] [netA n, .int .i64 q, .int .i64 w] [] (.bool (folB n q w)) := by
  refine fol_ct n q w ([], _) ?_
  have hl := nxO_len hrw q
  unfold folEn
  rw [gu_t hrw]
  refine (loop_fnd (fun i => folPc.l0 (i : Int)) (nxO n q).length (fun i => (nxO n q).getD i 0 == w) (rF := fun _ => ([], .bool true)) (r := ([], .bool false)) (fun i hi hp => ?_) (fun i r hi hp hr => ?_) (fun _ => ?_)).res ?_
  · refine .to (show folS0 n q w i = _ from ?_) (.ret _)
    unfold folS0
    rw [rngG 0 hi, br_t hp]
  · refine .to (show folS0 n q w i = _ from ?_) hr
    unfold folS0
    rw [rngG 0 hi, br_f hp, wrap_nat i (by omega)]
  · refine .to (show folS0 n q w (nxO n q).length = _ from ?_) (.ret _)
    unfold folS0; rw [rngE]
  · unfold folB hasZ
    cases fnd (fun i => (nxO n q).getD i 0 == w) 0 (nxO n q).length <;> rfl
noncomputable def ckSSt (n : NetD) (sp : Int) : Empty → St
  | x => x.elim
def ckSHd : Empty → Nat
  | x => x.elim
noncomputable def ckSEn (n : NetD) (sp : Int) : Option (Empty ⊕ Ret) :=
  gu (Rows n.nx) <|
  br (!valB n)
  (some (.inr ([], AV.int IntKind.i64 20)))
  (br (decide (sp < 0))
   (some (.inr ([], AV.int IntKind.i64 19)))
   (br (decide (iN (List.map sA n.ss).length ≤ sp))
    (some (.inr ([], AV.int IntKind.i64 19)))
    (some (.inr ([], AV.int IntKind.i64 0)))))
noncomputable def ckSStep (n : NetD) (sp : Int) : Empty → Option (Empty ⊕ Ret)
  | x => x.elim
theorem ckSEn_ok (n : NetD) (sp : Int) (o : Empty ⊕ Ret) (h : ckSEn n sp = some o) : Arr Tryd.prog Tryd.f37 0 (ckSSt n sp) ckSHd (bodyOf Tryd.f37) [] { n := Tryd.f37.ntmps, fr := enumF 0 ([netA n, .int .i64 sp]), hp := ([]) } o :=
 Scr.ok h mix (
 .rn 0 [] [] [] [] (al (u2 t2)) <|
 .gu fun a0 =>
 have c0 := valid_net_ct a0;
 .rn 0 [] [] [(7, hK c0 [] [])] [] (al (u2 (aj (ak (aj t9 (al (c0)))) (u2 s2)))) <|
 .br (fun a1 =>
 .rt [11] [] [] [] [] [] (aj (aj a1 s2) t2))
 (fun a1 =>
 .br (fun a2 =>
  .rt [10, 25] [] [] [] [] [] (aj (aj a1 (aj (u2 (u2 (u2 (aj a2 (aj a2 (aj a2 (aj a2 (aj a2 (ag a2 s2))))))))) (ak s2))) t2))
 (fun a2 =>
  .rn 0 [10, 24] [] [] [] (aj a1 (al (u2 (u2 (u2 (ag a2 (ag a2 (ag a2 (ag a2 (aj (aj a2 t3) (ag a2 s2))))))))))) <|
  .br (fun a3 =>
  .rt [24, 19] [] [] [] [] [] (aj (aj a3 s2) t2))
  (fun a3 =>
  .rt [24, 18] [] [] [] [] [] (aj (aj a3 s2) t2))))) (by kernel_rfl)
theorem ckS_ct (n : NetD) (sp : Int) (r : Ret) (h : MReach (ckSStep n sp) (ckSEn n sp) r) : CT Tryd.prog 37 ([]) ([netA n, .int .i64 sp]) r.1 r.2 :=
  CT.mach (fn := Tryd.f37) (c := bodyOf Tryd.f37) (S := ckSSt n sp) (hd := ckSHd) Tryd.func37 (by kernel_rfl) (Nat.le_of_ble_eq_true rfl)
    (fun s o ho => match s, ho with
      | x, _ => x.elim)
    (fun o ho => ckSEn_ok n sp o ho) h
noncomputable def cntSt (n : NetD) : Empty → St
  | x => x.elim
def cntHd : Empty → Nat
  | x => x.elim
noncomputable def cntEn (n : NetD) : Option (Empty ⊕ Ret) :=
  gu (Rows n.nx) <|
  br (!valB n)
  (some (.inr ([], AV.tup [AV.int IntKind.i64 0, AV.int IntKind.i64 20])))
  (gu (ValidN n) <|
   some (.inr ([], AV.tup [AV.int IntKind.i64 (iN (celN n)), AV.int IntKind.i64 0])))
noncomputable def cntStep (n : NetD) : Empty → Option (Empty ⊕ Ret)
  | x => x.elim
theorem cntEn_ok (n : NetD) (o : Empty ⊕ Ret) (h : cntEn n = some o) : Arr Tryd.prog Tryd.f10 0 (cntSt n) cntHd (bodyOf Tryd.f10) [] { n := Tryd.f10.ntmps, fr := enumF 0 ([netA n]), hp := ([]) } o :=
 Scr.ok h mix (
 .rn 0 [] [] [] [] (al (u2 t3)) <|
 .gu fun a0 =>
 have c0 := valid_net_ct a0;
 .rn 0 [] [] [(5, hK c0 [] [])] [] (al (u2 (aj (ak (aj t9 (al (c0)))) s2))) <|
 .br (fun a1 =>
 .rt [13] [] [] [] [] [] (aj (aj a1 (al t3)) (al t3)))
 (fun a1 =>
 .gu fun a2 =>
 have c1 := ccount_ct a2;
 .rt [12] [] [(8, hK c1 [] [])] [] [] [] (aj (aj a1 (al (u2 (aj (ak (aj t9 (al (c1)))) (u2 t2))))) (al t3)))) (by kernel_rfl)
theorem cnt_ct (n : NetD) (r : Ret) (h : MReach (cntStep n) (cntEn n) r) : CT Tryd.prog 10 ([]) ([netA n]) r.1 r.2 :=
  CT.mach (fn := Tryd.f10) (c := bodyOf Tryd.f10) (S := cntSt n) (hd := cntHd) Tryd.func10 (by kernel_rfl) (Nat.le_of_ble_eq_true rfl)
    (fun s o ho => match s, ho with
      | x, _ => x.elim)
    (fun o ho => cntEn_ok n o ho) h
noncomputable def sm1St : Empty → St
  | x => x.elim
def sm1Hd : Empty → Nat
  | x => x.elim
noncomputable def sm1En : Option (Empty ⊕ Ret) :=
  some (.inr ([], AV.str ((ByteArray.mk #[48, 49, 50, 51, 52, 53, 54, 55, 56, 57, 97, 98, 99, 100, 101, 102, 103, 104, 105, 106, 107, 108, 109, 110, 111, 112, 113, 114, 115, 116, 117, 118, 119, 120, 121, 122]).extract (Int.toNat 1) (Int.toNat 2))))
noncomputable def sm1Step : Empty → Option (Empty ⊕ Ret)
  | x => x.elim
theorem sm1En_ok (o : Empty ⊕ Ret) (h : sm1En = some o) : Arr Tryd.prog Tryd.f63 0 (sm1St) sm1Hd (bodyOf Tryd.f63) [] { n := Tryd.f63.ntmps, fr := enumF 0 ([.int .i64 1]), hp := ([]) } o :=
 Scr.ok h mix (
 .rt [] [] [] [] [] [] (aj (u2 (aj (u2 s2) (ak (al (u2 (u2 (u2 (aj (k2 (aj (show (0 : Int) ≤ (1 : Int) from (by first | exact Nat.le_of_ble_eq_true rfl | decide)) (aj (show (1 : Int) ≤ (2 : Int) from (by first | exact Nat.le_of_ble_eq_true rfl | decide)) (show (2 : Int) ≤ (36 : Int) from (by first | exact Nat.le_of_ble_eq_true rfl | decide))))) s2)))))))) t2)) (by kernel_rfl)
theorem sm1_ct (r : Ret) (h : MReach (sm1Step) (sm1En) r) : CT Tryd.prog 63 ([]) ([.int .i64 1]) r.1 r.2 :=
  CT.mach (fn := Tryd.f63) (c := bodyOf Tryd.f63) (S := sm1St) (hd := sm1Hd) Tryd.func63 (by kernel_rfl) (Nat.le_of_ble_eq_true rfl)
    (fun s o ho => match s, ho with
      | x, _ => x.elim)
    (fun o ho => sm1En_ok o ho) h
noncomputable def sm2St : Empty → St
  | x => x.elim
def sm2Hd : Empty → Nat
  | x => x.elim
noncomputable def sm2En : Option (Empty ⊕ Ret) :=
  some (.inr ([], AV.str ((ByteArray.mk #[48, 49, 50, 51, 52, 53, 54, 55, 56, 57, 97, 98, 99, 100, 101, 102, 103, 104, 105, 106, 107, 108, 109, 110, 111, 112, 113, 114, 115, 116, 117, 118, 119, 120, 121, 122]).extract (Int.toNat 2) (Int.toNat 3))))
noncomputable def sm2Step : Empty → Option (Empty ⊕ Ret)
  | x => x.elim
theorem sm2En_ok (o : Empty ⊕ Ret) (h : sm2En = some o) : Arr Tryd.prog Tryd.f63 0 (sm2St) sm2Hd (bodyOf Tryd.f63) [] { n := Tryd.f63.ntmps, fr := enumF 0 ([.int .i64 2]), hp := ([]) } o :=
 Scr.ok h mix (
 .rt [] [] [] [] [] [] (aj (u2 (aj (u2 s2) (ak (al (u2 (u2 (u2 (aj (k2 (aj (show (0 : Int) ≤ (2 : Int) from (by first | exact Nat.le_of_ble_eq_true rfl | decide)) (aj (show (2 : Int) ≤ (3 : Int) from (by first | exact Nat.le_of_ble_eq_true rfl | decide)) (show (3 : Int) ≤ (36 : Int) from (by first | exact Nat.le_of_ble_eq_true rfl | decide))))) s2)))))))) t2)) (by kernel_rfl)
theorem sm2_ct (r : Ret) (h : MReach (sm2Step) (sm2En) r) : CT Tryd.prog 63 ([]) ([.int .i64 2]) r.1 r.2 :=
  CT.mach (fn := Tryd.f63) (c := bodyOf Tryd.f63) (S := sm2St) (hd := sm2Hd) Tryd.func63 (by kernel_rfl) (Nat.le_of_ble_eq_true rfl)
    (fun s o ho => match s, ho with
      | x, _ => x.elim)
    (fun o ho => sm2En_ok o ho) h
noncomputable def sm3St : Empty → St
  | x => x.elim
def sm3Hd : Empty → Nat
  | x => x.elim
noncomputable def sm3En : Option (Empty ⊕ Ret) :=
  some (.inr ([], AV.str ((ByteArray.mk #[48, 49, 50, 51, 52, 53, 54, 55, 56, 57, 97, 98, 99, 100, 101, 102, 103, 104, 105, 106, 107, 108, 109, 110, 111, 112, 113, 114, 115, 116, 117, 118, 119, 120, 121, 122]).extract (Int.toNat 3) (Int.toNat 4))))
noncomputable def sm3Step : Empty → Option (Empty ⊕ Ret)
  | x => x.elim
theorem sm3En_ok (o : Empty ⊕ Ret) (h : sm3En = some o) : Arr Tryd.prog Tryd.f63 0 (sm3St) sm3Hd (bodyOf Tryd.f63) [] { n := Tryd.f63.ntmps, fr := enumF 0 ([.int .i64 3]), hp := ([]) } o :=
 Scr.ok h mix (
 .rt [] [] [] [] [] [] (aj (u2 (aj (u2 s2) (ak (al (u2 (u2 (u2 (aj (k2 (aj (show (0 : Int) ≤ (3 : Int) from (by first | exact Nat.le_of_ble_eq_true rfl | decide)) (aj (show (3 : Int) ≤ (4 : Int) from (by first | exact Nat.le_of_ble_eq_true rfl | decide)) (show (4 : Int) ≤ (36 : Int) from (by first | exact Nat.le_of_ble_eq_true rfl | decide))))) s2)))))))) t2)) (by kernel_rfl)
theorem sm3_ct (r : Ret) (h : MReach (sm3Step) (sm3En) r) : CT Tryd.prog 63 ([]) ([.int .i64 3]) r.1 r.2 :=
  CT.mach (fn := Tryd.f63) (c := bodyOf Tryd.f63) (S := sm3St) (hd := sm3Hd) Tryd.func63 (by kernel_rfl) (Nat.le_of_ble_eq_true rfl)
    (fun s o ho => match s, ho with
      | x, _ => x.elim)
    (fun o ho => sm3En_ok o ho) h
noncomputable def sm4St : Empty → St
  | x => x.elim
def sm4Hd : Empty → Nat
  | x => x.elim
noncomputable def sm4En : Option (Empty ⊕ Ret) :=
  some (.inr ([], AV.str ((ByteArray.mk #[48, 49, 50, 51, 52, 53, 54, 55, 56, 57, 97, 98, 99, 100, 101, 102, 103, 104, 105, 106, 107, 108, 109, 110, 111, 112, 113, 114, 115, 116, 117, 118, 119, 120, 121, 122]).extract (Int.toNat 4) (Int.toNat 5))))
noncomputable def sm4Step : Empty → Option (Empty ⊕ Ret)
  | x => x.elim
theorem sm4En_ok (o : Empty ⊕ Ret) (h : sm4En = some o) : Arr Tryd.prog Tryd.f63 0 (sm4St) sm4Hd (bodyOf Tryd.f63) [] { n := Tryd.f63.ntmps, fr := enumF 0 ([.int .i64 4]), hp := ([]) } o :=
 Scr.ok h mix (
 .rt [] [] [] [] [] [] (aj (u2 (aj (u2 s2) (ak (al (u2 (u2 (u2 (aj (k2 (aj (show (0 : Int) ≤ (4 : Int) from (by first | exact Nat.le_of_ble_eq_true rfl | decide)) (aj (show (4 : Int) ≤ (5 : Int) from (by first | exact Nat.le_of_ble_eq_true rfl | decide)) (show (5 : Int) ≤ (36 : Int) from (by first | exact Nat.le_of_ble_eq_true rfl | decide))))) s2)))))))) t2)) (by kernel_rfl)
theorem sm4_ct (r : Ret) (h : MReach (sm4Step) (sm4En) r) : CT Tryd.prog 63 ([]) ([.int .i64 4]) r.1 r.2 :=
  CT.mach (fn := Tryd.f63) (c := bodyOf Tryd.f63) (S := sm4St) (hd := sm4Hd) Tryd.func63 (by kernel_rfl) (Nat.le_of_ble_eq_true rfl)
    (fun s o ho => match s, ho with
      | x, _ => x.elim)
    (fun o ho => sm4En_ok o ho) h
noncomputable def csE (n : NetD) (sp : Int) : Int := if valB n = true then (if sp < 0 ∨ (n.ss.length : Int) ≤ sp then 19 else 0) else 20
theorem checkSpur_ct {n : NetD} (hrw : Rows n.nx) (sp : Int) : CT Tryd.prog 37 [] [netA n, .int .i64 sp] [] (.int .i64 (csE n sp)) := by
  refine ckS_ct n sp ([], _) (.val ?_)
  unfold ckSEn csE
  rw [gu_t hrw]
  cases hv : valB n with
  | false => rfl
  | true =>
    rw [br_f (by rfl), if_pos rfl]
    by_cases h0 : sp < 0
    · rw [br_t (dec_t h0), if_pos (.inl h0)]
    by_cases h1 : (n.ss.length : Int) ≤ sp
    · rw [br_f (dec_f h0), br_t (dec_t (by simpa [iN] using h1)), if_pos (.inr h1)]
    · rw [br_f (dec_f h0), br_f (dec_f (by simpa [iN] using h1)), if_neg (by omega)]
def opB (n : NetD) (sh : List Bool) (sp : Int) : Bool := match n.ss[sp.toNat]? with | some s => openB sh s | none => false
noncomputable def cntZ (n : NetD) : Int := if valB n = true then (celN n : Int) else 0
noncomputable def cntE (n : NetD) : Int := if valB n = true then 0 else 20
theorem cnt_c {n : NetD} (hrw : Rows n.nx) : CT Tryd.prog 10 [] [netA n] [] (.tup [.int .i64 (cntZ n), .int .i64 (cntE n)]) := by
  refine cnt_ct n ([], _) (.val ?_)
  unfold cntEn cntZ cntE
  rw [gu_t hrw]
  cases hv : valB n with
  | false => rfl
  | true => rw [br_f (by rfl), gu_t (valB_iff.1 hv)]; rfl
theorem csE_zero {n : NetD} {sp : Int} (h : csE n sp = 0) : ValidN n ∧ 0 ≤ sp ∧ sp < n.ss.length := by
  unfold csE at h
  split at h
  · rename_i hv
    split at h
    · omega
    · exact ⟨valB_iff.1 hv, by omega, by omega⟩
  · omega
theorem sml_c (k : Nat) (h : 1 ≤ k ∧ k ≤ 4) : CT Tryd.prog 63 [] [.int .i64 (iN k)] [] (.str (digB k)) := by
  obtain rfl | rfl | rfl | rfl : k = 1 ∨ k = 2 ∨ k = 3 ∨ k = 4 := by omega
  · exact sm1_ct ([], _) (.val (show sm1En = _ by unfold sm1En; first | rfl | decide +kernel))
  · exact sm2_ct ([], _) (.val (show sm2En = _ by unfold sm2En; first | rfl | decide +kernel))
  · exact sm3_ct ([], _) (.val (show sm3En = _ by unfold sm3En; first | rfl | decide +kernel))
  · exact sm4_ct ([], _) (.val (show sm4En = _ by unfold sm4En; first | rfl | decide +kernel))
theorem sm1_c : CT Tryd.prog 63 [] [.int .i64 1] [] (.str (digB 1)) := sml_c 1 (by omega)
theorem sm2_c : CT Tryd.prog 63 [] [.int .i64 2] [] (.str (digB 2)) := sml_c 2 (by omega)
theorem sm3_c : CT Tryd.prog 63 [] [.int .i64 3] [] (.str (digB 3)) := sml_c 3 (by omega)
theorem sm4_c : CT Tryd.prog 63 [] [.int .i64 4] [] (.str (digB 4)) := sml_c 4 (by omega)
inductive cOpPc where
  | l0 (v0 : Bool) (v1 : SpuD) (v2 : Int)
noncomputable def cOpSt (n : NetD) (sh : List Bool) (sp : Int) : cOpPc → St
  | .l0 v0 v1 v2 => St.mk 62 [(1, AV.lst (boL sh)), (9, AV.ptr 0 0 0), (10, AV.bool v0), (45, iv v1.k), (46, iv v2)] [some (Blk.mk [sA v1] 6 true true none)]
def cOpHd : cOpPc → Nat
  | .l0 _ _ _ => 0
noncomputable def cOpEn (n : NetD) (sh : List Bool) (sp : Int) : Option (cOpPc ⊕ Ret) :=
  gu (Rows n.nx) <|
  br (csE n sp != 0)
  (some (.inr ([], AV.tup [AV.bool false, AV.int IntKind.i64 (csE n sp)])))
  (gu (ValidN n) <|
   br (iN (boL sh).length != iN (celN n))
   (some (.inr ([], AV.tup [AV.bool false, AV.int IntKind.i64 19])))
   (gu (0 ≤ sp) <|
    el (n.ss) (sp.toNat) fun (x28 : SpuD) =>
    gu (0 ≤ x28.i) <|
    el (sh) (x28.i.toNat) fun (x33 : Bool) =>
    br (!x33)
    (gu (0 ≤ x28.o) <|
     el (sh) (x28.o.toNat) fun (x40 : Bool) =>
     some (.inl (.l0 (!x40) (x28) ((0 : Int)))))
    (some (.inl (.l0 (false) (x28) ((0 : Int)))))))
noncomputable def cOpS0 (n : NetD) (sh : List Bool) (sp : Int) (v0 : Bool) (v1 : SpuD) (v2 : Int) : Option (cOpPc ⊕ Ret) :=
  br (decide (v2 < v1.k))
  (br (v0)
   (gu (0 ≤ IntKind.i64.wrap (v1.b + v2)) <|
    el (sh) ((IntKind.i64.wrap (v1.b + v2)).toNat) fun (x56 : Bool) =>
    some (.inl (.l0 (!x56) (v1) (IntKind.i64.wrap (v2 + 1)))))
   (some (.inl (.l0 (false) (v1) (IntKind.i64.wrap (v2 + 1))))))
  (some (.inr ([], AV.tup [AV.bool v0, AV.int IntKind.i64 0])))
noncomputable def cOpStep (n : NetD) (sh : List Bool) (sp : Int) : cOpPc → Option (cOpPc ⊕ Ret)
  | .l0 v0 v1 v2 => cOpS0 n sh sp v0 v1 v2
theorem cOpEn_ok (n : NetD) (sh : List Bool) (sp : Int) (o : cOpPc ⊕ Ret) (h : cOpEn n sh sp = some o) : Arr Tryd.prog Tryd.f19 0 (cOpSt n sh sp) cOpHd (bodyOf Tryd.f19) [] { n := Tryd.f19.ntmps, fr := enumF 0 ([netA n, .lst (boL sh), .int .i64 sp]), hp := ([]) } o :=
 Scr.ok h mix (
 .rn 0 [] [] [] [] (al (u2 t3)) <|
 .gu fun a0 =>
 have c0 := checkSpur_ct a0 (sp);
 .rn 1 [] [] [(14, hK c0 [] [])] [] (aj (u2 (u2 (aj (k2 (aj t9 (ak (al (c0))))) s2))) (al (u2 (u2 s2)))) <|
 .br (fun a1 =>
 .rt [31] [] [] [] [] [] (aj (aj a1 (al (u2 (ak s2)))) (al t3)))
 (fun a1 =>
 .gu fun a2 =>
 have c1 := ccount_ct a2;
 .rn 0 [30] [] [(23, hK c1 [] [])] [] (aj a1 (al (u2 (u2 (u2 (aj (ak (aj t9 (al (c1)))) (aj t3 s2))))))) <|
 .br (fun a3 =>
  .rt [39] [] [] [] [] [] (aj (aj a3 (al t3)) (al t3)))
 (fun a3 =>
  .gu fun a4 =>
  .el fun x28 a5 =>
  .rn 0 [38] [(28, sA x28)] [] [] (aj a3 (al (u2 (u2 (u2 (aj (k2 (aj a4 (getMap (f := sA) a5))) (u2 (ak (al (k2 n11)))))))))) <|
  .gu fun a6 =>
  .el fun x33 a7 =>
  .br (fun a8 =>
  .gu fun a9 =>
  .el fun x40 a10 =>
  .lp [73] [(33, AV.bool x33), (40, AV.bool x40)] [] [] [] [1] [1, 9, 10, 45, 46] (aj (aj (u2 (u2 (u2 (aj (k2 (aj a6 (getMap (f := AV.bool) a7))) (u2 (u2 (u2 (ag a8 (ag a8 (ag a8 (aj (aj a8 (k2 (aj a9 (getMap (f := AV.bool) a10)))) (ag a8 (ag a8 (ag a8 s2)))))))))))))) (al (u2 (u2 t2)))) t7))
  (fun a8 =>
  .lp [72] [(33, AV.bool x33)] [] [] [] [1] [1, 9, 10, 45, 46] (aj (aj (u2 (u2 (u2 (aj (k2 (aj a6 (getMap (f := AV.bool) a7))) (u2 (u2 (u2 (aj a8 (aj a8 (aj a8 (aj a8 (aj a8 (aj a8 (ag a8 s2)))))))))))))) (al (u2 (u2 t2)))) t7))))) (by kernel_rfl)
theorem cOpS0_ok (n : NetD) (sh : List Bool) (sp : Int) (v0 : Bool) (v1 : SpuD) (v2 : Int) (o : cOpPc ⊕ Ret) (h : cOpS0 n sh sp v0 v1 v2 = some o) : Arr Tryd.prog Tryd.f19 0 (cOpSt n sh sp) cOpHd (headC Tryd.f19 0) (.rnd (headC Tryd.f19 0) :: headK Tryd.f19 0) (cOpSt n sh sp (.l0 v0 v1 v2)) o :=
 Scr.ok h mix (
 .rn 0 [] [] [] [] (al (al t3)) <|
 .br (fun a0 =>
 .rn 0 [95] [] [] [] (aj a0 (al (u2 s2))) <|
 .br (fun a1 =>
  .gu fun a2 =>
  .el fun x56 a3 =>
  .lp [101] [(56, AV.bool x56)] [] [] [] [0] [1, 9, 10, 45, 46] (aj (aj (u2 (u2 (ag a1 (ag a1 (ag a1 (ag a1 (aj (aj a1 t3) (aj (aj a1 (k2 (aj a2 (getMap (f := AV.bool) a3)))) (ag a1 (ag a1 (ag a1 s2))))))))))) (al (u2 s2))) t7))
 (fun a1 =>
  .lp [100] [] [] [] [] [0] [1, 9, 10, 45, 46] (aj (aj (u2 (u2 (aj a1 (aj a1 (aj a1 (aj a1 (aj a1 (aj a1 (aj a1 (aj a1 (ag a1 s2))))))))))) (al (u2 s2))) t7)))
 (fun a0 =>
 .rt [94] [] [] [] [] [] (aj (aj a0 (al (u2 (u2 t2)))) (al t3)))) (by kernel_rfl)
theorem cOp_ct (n : NetD) (sh : List Bool) (sp : Int) (r : Ret) (h : MReach (cOpStep n sh sp) (cOpEn n sh sp) r) : CT Tryd.prog 19 ([]) ([netA n, .lst (boL sh), .int .i64 sp]) r.1 r.2 :=
  CT.mach (fn := Tryd.f19) (c := bodyOf Tryd.f19) (S := cOpSt n sh sp) (hd := cOpHd) Tryd.func19 (by kernel_rfl) (Nat.le_of_ble_eq_true rfl)
    (fun s o ho => match s, ho with
      | .l0 v0 v1 v2, ho => cOpS0_ok n sh sp v0 v1 v2 o ho
    )
    (fun o ho => cOpEn_ok n sh sp o ho) h
noncomputable def ex9St : Empty → St
  | x => x.elim
def ex9Hd : Empty → Nat
  | x => x.elim
noncomputable def ex9En : Option (Empty ⊕ Ret) :=
  some (.inr ([], AV.agg [AV.lst [AV.agg [AV.str (ByteArray.mk #[97]), AV.int IntKind.i64 0, AV.int IntKind.i64 0], AV.agg [AV.str (ByteArray.mk #[98]), AV.int IntKind.i64 0, AV.int IntKind.i64 0]], AV.lst [AV.lst [AV.int IntKind.i64 1], AV.lst [AV.int IntKind.i64 0]], AV.lst [AV.agg [AV.str (ByteArray.mk #[100]), AV.bool true, AV.int IntKind.i64 0, AV.int IntKind.i64 1, AV.int IntKind.i64 2, AV.int IntKind.i64 2]], AV.lst [AV.int IntKind.i64 3], AV.int IntKind.i64 4, AV.int IntKind.i64 2, AV.int IntKind.i64 1, AV.int IntKind.i64 8]))
noncomputable def ex9Step : Empty → Option (Empty ⊕ Ret)
  | x => x.elim
theorem ex9En_ok (o : Empty ⊕ Ret) (h : ex9En = some o) : Arr Tryd.prog Tryd.f30 0 (ex9St) ex9Hd (bodyOf Tryd.f30) [] { n := Tryd.f30.ntmps, fr := enumF 0 ([]), hp := ([]) } o :=
 Scr.ok h mix (
 .rt [] [(3, AV.lst []), (4, AV.lst []), (5, AV.lst []), (6, AV.lst []), (8, AV.lst []), (9, AV.lst [])] [] [] [] [] (aj (u2 (al (k2 (aj t3 (k2 (aj t3 (ak (u2 (k2 (aj t6 (al (k2 n11)))))))))))) (al t9))) (by kernel_rfl)
theorem ex9_ct (r : Ret) (h : MReach (ex9Step) (ex9En) r) : CT Tryd.prog 30 ([]) ([]) r.1 r.2 :=
  CT.mach (fn := Tryd.f30) (c := bodyOf Tryd.f30) (S := ex9St) (hd := ex9Hd) Tryd.func30 (by kernel_rfl) (Nat.le_of_ble_eq_true rfl)
    (fun s o ho => match s, ho with
      | x, _ => x.elim)
    (fun o ho => ex9En_ok o ho) h
noncomputable def fi1St : Empty → St
  | x => x.elim
def fi1Hd : Empty → Nat
  | x => x.elim
noncomputable def fi1En : Option (Empty ⊕ Ret) :=
  some (.inr ([], AV.str (digB 1)))
noncomputable def fi1Step : Empty → Option (Empty ⊕ Ret)
  | x => x.elim
theorem fi1En_ok (o : Empty ⊕ Ret) (h : fi1En = some o) : Arr Tryd.prog Tryd.f59 0 (fi1St) fi1Hd (bodyOf Tryd.f59) [] { n := Tryd.f59.ntmps, fr := enumF 0 ([.int .i64 1, .int .i64 10]), hp := ([]) } o :=
 Scr.ok h mix (
 have c0 := sm1_c;
 .rt [] [] [(19, hK c0 [] [])] [] [] [] (aj (u2 (aj (u2 s2) (ak (aj (u2 (u2 (u2 (aj t3 (aj t3 (al t3)))))) (ak (al (u2 (aj (k2 (al (c0))) s2)))))))) t2)) (by kernel_rfl)
theorem fi1_ct (r : Ret) (h : MReach (fi1Step) (fi1En) r) : CT Tryd.prog 59 ([]) ([.int .i64 1, .int .i64 10]) r.1 r.2 :=
  CT.mach (fn := Tryd.f59) (c := bodyOf Tryd.f59) (S := fi1St) (hd := fi1Hd) Tryd.func59 (by kernel_rfl) (Nat.le_of_ble_eq_true rfl)
    (fun s o ho => match s, ho with
      | x, _ => x.elim)
    (fun o ho => fi1En_ok o ho) h
noncomputable def fi2St : Empty → St
  | x => x.elim
def fi2Hd : Empty → Nat
  | x => x.elim
noncomputable def fi2En : Option (Empty ⊕ Ret) :=
  some (.inr ([], AV.str (digB 2)))
noncomputable def fi2Step : Empty → Option (Empty ⊕ Ret)
  | x => x.elim
theorem fi2En_ok (o : Empty ⊕ Ret) (h : fi2En = some o) : Arr Tryd.prog Tryd.f59 0 (fi2St) fi2Hd (bodyOf Tryd.f59) [] { n := Tryd.f59.ntmps, fr := enumF 0 ([.int .i64 2, .int .i64 10]), hp := ([]) } o :=
 Scr.ok h mix (
 have c0 := sm2_c;
 .rt [] [] [(19, hK c0 [] [])] [] [] [] (aj (u2 (aj (u2 s2) (ak (aj (u2 (u2 (u2 (aj t3 (aj t3 (al t3)))))) (ak (al (u2 (aj (k2 (al (c0))) s2)))))))) t2)) (by kernel_rfl)
theorem fi2_ct (r : Ret) (h : MReach (fi2Step) (fi2En) r) : CT Tryd.prog 59 ([]) ([.int .i64 2, .int .i64 10]) r.1 r.2 :=
  CT.mach (fn := Tryd.f59) (c := bodyOf Tryd.f59) (S := fi2St) (hd := fi2Hd) Tryd.func59 (by kernel_rfl) (Nat.le_of_ble_eq_true rfl)
    (fun s o ho => match s, ho with
      | x, _ => x.elim)
    (fun o ho => fi2En_ok o ho) h
noncomputable def fi3St : Empty → St
  | x => x.elim
def fi3Hd : Empty → Nat
  | x => x.elim
noncomputable def fi3En : Option (Empty ⊕ Ret) :=
  some (.inr ([], AV.str (digB 3)))
noncomputable def fi3Step : Empty → Option (Empty ⊕ Ret)
  | x => x.elim
theorem fi3En_ok (o : Empty ⊕ Ret) (h : fi3En = some o) : Arr Tryd.prog Tryd.f59 0 (fi3St) fi3Hd (bodyOf Tryd.f59) [] { n := Tryd.f59.ntmps, fr := enumF 0 ([.int .i64 3, .int .i64 10]), hp := ([]) } o :=
 Scr.ok h mix (
 have c0 := sm3_c;
 .rt [] [] [(19, hK c0 [] [])] [] [] [] (aj (u2 (aj (u2 s2) (ak (aj (u2 (u2 (u2 (aj t3 (aj t3 (al t3)))))) (ak (al (u2 (aj (k2 (al (c0))) s2)))))))) t2)) (by kernel_rfl)
theorem fi3_ct (r : Ret) (h : MReach (fi3Step) (fi3En) r) : CT Tryd.prog 59 ([]) ([.int .i64 3, .int .i64 10]) r.1 r.2 :=
  CT.mach (fn := Tryd.f59) (c := bodyOf Tryd.f59) (S := fi3St) (hd := fi3Hd) Tryd.func59 (by kernel_rfl) (Nat.le_of_ble_eq_true rfl)
    (fun s o ho => match s, ho with
      | x, _ => x.elim)
    (fun o ho => fi3En_ok o ho) h
noncomputable def fi4St : Empty → St
  | x => x.elim
def fi4Hd : Empty → Nat
  | x => x.elim
noncomputable def fi4En : Option (Empty ⊕ Ret) :=
  some (.inr ([], AV.str (digB 4)))
noncomputable def fi4Step : Empty → Option (Empty ⊕ Ret)
  | x => x.elim
theorem fi4En_ok (o : Empty ⊕ Ret) (h : fi4En = some o) : Arr Tryd.prog Tryd.f59 0 (fi4St) fi4Hd (bodyOf Tryd.f59) [] { n := Tryd.f59.ntmps, fr := enumF 0 ([.int .i64 4, .int .i64 10]), hp := ([]) } o :=
 Scr.ok h mix (
 have c0 := sm4_c;
 .rt [] [] [(19, hK c0 [] [])] [] [] [] (aj (u2 (aj (u2 s2) (ak (aj (u2 (u2 (u2 (aj t3 (aj t3 (al t3)))))) (ak (al (u2 (aj (k2 (al (c0))) s2)))))))) t2)) (by kernel_rfl)
theorem fi4_ct (r : Ret) (h : MReach (fi4Step) (fi4En) r) : CT Tryd.prog 59 ([]) ([.int .i64 4, .int .i64 10]) r.1 r.2 :=
  CT.mach (fn := Tryd.f59) (c := bodyOf Tryd.f59) (S := fi4St) (hd := fi4Hd) Tryd.func59 (by kernel_rfl) (Nat.le_of_ble_eq_true rfl)
    (fun s o ho => match s, ho with
      | x, _ => x.elim)
    (fun o ho => fi4En_ok o ho) h
noncomputable def cOB (n : NetD) (sh : List Bool) (sp : Int) : Bool := valB n && decide (0 ≤ sp) && decide (sp < n.ss.length) && decide (sh.length = celN n) && opB n sh sp
noncomputable def cOE (n : NetD) (sh : List Bool) (sp : Int) : Int := if csE n sp = 0 then (if sh.length = celN n then 0 else 19) else csE n sp
def shB (sh : List Bool) (s : SpuD) (j : Nat) : Bool := sh.getD (s.b + (j : Int)).toNat false
theorem fnd_or {p : Nat → Bool} : ∀ (k i : Nat), (fnd p i (k + 1)).isSome = ((fnd p i k).isSome || p (i + k)) := by
  intro k
  induction k with
  | zero => intro i; simp only [fnd, Nat.add_zero]; cases p i <;> rfl
  | succ k ih =>
    intro i
    have h := ih (i + 1)
    rw [show i + (k + 1) = i + 1 + k by omega]
    show (fnd p i ((k + 1) + 1)).isSome = ((fnd p i (k + 1)).isSome || p (i + 1 + k))
    unfold fnd
    cases p i with
    | true => rfl
    | false => exact h
def opJ (sh : List Bool) (s : SpuD) (j : Nat) : Bool := !(sh.getD s.i.toNat false) && !(sh.getD s.o.toNat false) && !(fnd (shB sh s) 0 j).isSome
theorem opJ_succ (sh : List Bool) (s : SpuD) (j : Nat) : opJ sh s (j + 1) = (opJ sh s j && !shB sh s j) := by
  unfold opJ
  rw [fnd_or, Nat.zero_add]
  cases sh.getD s.i.toNat false <;> cases sh.getD s.o.toNat false <;> cases (fnd (shB sh s) 0 j).isSome <;> cases shB sh s j <;> rfl
theorem opJ_end (sh : List Bool) (s : SpuD) : opJ sh s s.k.toNat = openB sh s := rfl
theorem get_sh {sh : List Bool} {c : Int} (h0 : 0 ≤ c) (h1 : c < sh.length) : sh[c.toNat]? = some (sh.getD c.toNat false) := by
  have hl : c.toNat < sh.length := by omega
  rw [List.getD_eq_getElem?_getD, List.getElem?_eq_getElem hl]; rfl
theorem cOpen_ct {n : NetD} (hrw : Rows n.nx) (sh : List Bool) (sp : Int) : CT Tryd.prog 19 [] [netA n, .lst (boL sh), .int .i64 sp] [] (.tup [.bool (cOB n sh sp), .int .i64 (cOE n sh sp)]) := by
  refine cOp_ct n sh sp ([], _) ?_
  unfold cOpEn cOB cOE
  rw [gu_t hrw]
  by_cases h : csE n sp = 0
  · obtain ⟨hv, h0, h1⟩ := csE_zero h
    obtain ⟨i, rfl⟩ : ∃ i : Nat, sp = i := ⟨sp.toNat, by omega⟩
    obtain ⟨s, hs⟩ : ∃ s, n.ss[i]? = some s := ⟨_, List.getElem?_eq_getElem (by omega)⟩
    have e := hv.ends hs
    have sb := hv.sb hs
    rw [br_f (by simp [h]), gu_t hv, if_pos h, valB_iff.2 hv, dec_t h0, dec_t h1]
    by_cases hl : sh.length = celN n
    · rw [br_f (by simp [iN, boL, hl]), gu_t h0, Int.toNat_natCast, el_t hs, gu_t e.1, el_t (get_sh e.1 (by omega)), dec_t hl, if_pos hl]
      have ho : opB n sh (i : Int) = openB sh s := by unfold opB; rw [Int.toNat_natCast, hs]
      rw [ho, ← opJ_end]
      simp only [Bool.true_and]
      have loop : MReach (cOpStep n sh (i : Int)) (some (.inl (.l0 (opJ sh s 0) s 0))) (([], .tup [.bool (opJ sh s s.k.toNat), .int .i64 0]) : Ret) := by
        refine loop_up (fun j => cOpPc.l0 (opJ sh s j) s (j : Int)) s.k.toNat (fun j hj hr => .to ?_ hr) (.to ?_ (.ret _))
        · show cOpS0 n sh i _ s j = _
          unfold cOpS0
          rw [br_t (dec_t (by omega)), opJ_succ, wrapS (s.b + (j : Int)) (by omega) (by omega), wrap_nat j (by omega)]
          cases opJ sh s j with
          | false => rfl
          | true =>
            rw [br_t rfl, gu_t (by omega), el_t (get_sh (by omega) (by omega))]; rfl
        · show cOpS0 n sh i _ s _ = _
          unfold cOpS0
          rw [br_f (dec_f (by omega))]
      have z : opJ sh s 0 = (!(sh.getD s.i.toNat false) && !(sh.getD s.o.toNat false)) := by unfold opJ; simp [fnd]
      rw [z] at loop
      cases h3 : sh.getD s.i.toNat false with
      | true => rw [h3] at loop; exact loop
      | false =>
        rw [h3] at loop
        rw [br_t (by rfl), gu_t (by omega), el_t (get_sh e.2.2.1 (by omega))]
        exact loop
    · rw [br_t (by simp [iN, boL]; omega), dec_f hl, if_neg hl]; simp; exact .ret _
  · rw [br_t (by simpa using h), if_neg h]
    have : (valB n && decide (0 ≤ sp) && decide (sp < n.ss.length)) = false := by
      cases hv : valB n with
      | false => rfl
      | true =>
        unfold csE at h
        rw [if_pos hv] at h
        by_cases a : 0 ≤ sp
        · by_cases b : sp < n.ss.length
          · rw [if_neg (by omega)] at h; exact absurd rfl h
          · simp [b]
        · simp [a]
    rw [this]; exact .ret _
theorem fi1_c : CT Tryd.prog 59 [] [.int .i64 1, .int .i64 10] [] (.str (digB 1)) := fi1_ct ([], _) (.val (show fi1En = _ by unfold fi1En; rfl))
theorem fi2_c : CT Tryd.prog 59 [] [.int .i64 2, .int .i64 10] [] (.str (digB 2)) := fi2_ct ([], _) (.val (show fi2En = _ by unfold fi2En; rfl))
theorem fi3_c : CT Tryd.prog 59 [] [.int .i64 3, .int .i64 10] [] (.str (digB 3)) := fi3_ct ([], _) (.val (show fi3En = _ by unfold fi3En; rfl))
theorem fi4_c : CT Tryd.prog 59 [] [.int .i64 4, .int .i64 10] [] (.str (digB 4)) := fi4_ct ([], _) (.val (show fi4En = _ by unfold fi4En; rfl))
noncomputable def ii1St : Empty → St
  | x => x.elim
def ii1Hd : Empty → Nat
  | x => x.elim
noncomputable def ii1En : Option (Empty ⊕ Ret) :=
  some (.inr ([], AV.str (digB 1)))
noncomputable def ii1Step : Empty → Option (Empty ⊕ Ret)
  | x => x.elim
theorem ii1En_ok (o : Empty ⊕ Ret) (h : ii1En = some o) : Arr Tryd.prog Tryd.f51 0 (ii1St) ii1Hd (bodyOf Tryd.f51) [] { n := Tryd.f51.ntmps, fr := enumF 0 ([.int .i64 1]), hp := ([]) } o :=
 Scr.ok h mix (
 have c0 := fi1_c;
 .rt [] [] [(4, hK c0 [] [])] [] [] [] (aj (u2 (al (u2 (aj (k3 (al (c0))) s2)))) t2)) (by kernel_rfl)
theorem ii1_ct (r : Ret) (h : MReach (ii1Step) (ii1En) r) : CT Tryd.prog 51 ([]) ([.int .i64 1]) r.1 r.2 :=
  CT.mach (fn := Tryd.f51) (c := bodyOf Tryd.f51) (S := ii1St) (hd := ii1Hd) Tryd.func51 (by kernel_rfl) (Nat.le_of_ble_eq_true rfl)
    (fun s o ho => match s, ho with
      | x, _ => x.elim)
    (fun o ho => ii1En_ok o ho) h
noncomputable def ii2St : Empty → St
  | x => x.elim
def ii2Hd : Empty → Nat
  | x => x.elim
noncomputable def ii2En : Option (Empty ⊕ Ret) :=
  some (.inr ([], AV.str (digB 2)))
noncomputable def ii2Step : Empty → Option (Empty ⊕ Ret)
  | x => x.elim
theorem ii2En_ok (o : Empty ⊕ Ret) (h : ii2En = some o) : Arr Tryd.prog Tryd.f51 0 (ii2St) ii2Hd (bodyOf Tryd.f51) [] { n := Tryd.f51.ntmps, fr := enumF 0 ([.int .i64 2]), hp := ([]) } o :=
 Scr.ok h mix (
 have c0 := fi2_c;
 .rt [] [] [(4, hK c0 [] [])] [] [] [] (aj (u2 (al (u2 (aj (k3 (al (c0))) s2)))) t2)) (by kernel_rfl)
theorem ii2_ct (r : Ret) (h : MReach (ii2Step) (ii2En) r) : CT Tryd.prog 51 ([]) ([.int .i64 2]) r.1 r.2 :=
  CT.mach (fn := Tryd.f51) (c := bodyOf Tryd.f51) (S := ii2St) (hd := ii2Hd) Tryd.func51 (by kernel_rfl) (Nat.le_of_ble_eq_true rfl)
    (fun s o ho => match s, ho with
      | x, _ => x.elim)
    (fun o ho => ii2En_ok o ho) h
noncomputable def ii3St : Empty → St
  | x => x.elim
def ii3Hd : Empty → Nat
  | x => x.elim
noncomputable def ii3En : Option (Empty ⊕ Ret) :=
  some (.inr ([], AV.str (digB 3)))
noncomputable def ii3Step : Empty → Option (Empty ⊕ Ret)
  | x => x.elim
theorem ii3En_ok (o : Empty ⊕ Ret) (h : ii3En = some o) : Arr Tryd.prog Tryd.f51 0 (ii3St) ii3Hd (bodyOf Tryd.f51) [] { n := Tryd.f51.ntmps, fr := enumF 0 ([.int .i64 3]), hp := ([]) } o :=
 Scr.ok h mix (
 have c0 := fi3_c;
 .rt [] [] [(4, hK c0 [] [])] [] [] [] (aj (u2 (al (u2 (aj (k3 (al (c0))) s2)))) t2)) (by kernel_rfl)
theorem ii3_ct (r : Ret) (h : MReach (ii3Step) (ii3En) r) : CT Tryd.prog 51 ([]) ([.int .i64 3]) r.1 r.2 :=
  CT.mach (fn := Tryd.f51) (c := bodyOf Tryd.f51) (S := ii3St) (hd := ii3Hd) Tryd.func51 (by kernel_rfl) (Nat.le_of_ble_eq_true rfl)
    (fun s o ho => match s, ho with
      | x, _ => x.elim)
    (fun o ho => ii3En_ok o ho) h
noncomputable def ii4St : Empty → St
  | x => x.elim
def ii4Hd : Empty → Nat
  | x => x.elim
noncomputable def ii4En : Option (Empty ⊕ Ret) :=
  some (.inr ([], AV.str (digB 4)))
noncomputable def ii4Step : Empty → Option (Empty ⊕ Ret)
  | x => x.elim
theorem ii4En_ok (o : Empty ⊕ Ret) (h : ii4En = some o) : Arr Tryd.prog Tryd.f51 0 (ii4St) ii4Hd (bodyOf Tryd.f51) [] { n := Tryd.f51.ntmps, fr := enumF 0 ([.int .i64 4]), hp := ([]) } o :=
 Scr.ok h mix (
 have c0 := fi4_c;
 .rt [] [] [(4, hK c0 [] [])] [] [] [] (aj (u2 (al (u2 (aj (k3 (al (c0))) s2)))) t2)) (by kernel_rfl)
theorem ii4_ct (r : Ret) (h : MReach (ii4Step) (ii4En) r) : CT Tryd.prog 51 ([]) ([.int .i64 4]) r.1 r.2 :=
  CT.mach (fn := Tryd.f51) (c := bodyOf Tryd.f51) (S := ii4St) (hd := ii4Hd) Tryd.func51 (by kernel_rfl) (Nat.le_of_ble_eq_true rfl)
    (fun s o ho => match s, ho with
      | x, _ => x.elim)
    (fun o ho => ii4En_ok o ho) h
theorem ii1_c : CT Tryd.prog 51 [] [.int .i64 1] [] (.str (digB 1)) := ii1_ct ([], _) (.val (show ii1En = _ by unfold ii1En; rfl))
theorem ii2_c : CT Tryd.prog 51 [] [.int .i64 2] [] (.str (digB 2)) := ii2_ct ([], _) (.val (show ii2En = _ by unfold ii2En; rfl))
theorem ii3_c : CT Tryd.prog 51 [] [.int .i64 3] [] (.str (digB 3)) := ii3_ct ([], _) (.val (show ii3En = _ by unfold ii3En; rfl))
theorem ii4_c : CT Tryd.prog 51 [] [.int .i64 4] [] (.str (digB 4)) := ii4_ct ([], _) (.val (show ii4En = _ by unfold ii4En; rfl))
noncomputable def it1St : Empty → St
  | x => x.elim
def it1Hd : Empty → Nat
  | x => x.elim
noncomputable def it1En : Option (Empty ⊕ Ret) :=
  some (.inr ([], AV.str (digB 1)))
noncomputable def it1Step : Empty → Option (Empty ⊕ Ret)
  | x => x.elim
theorem it1En_ok (o : Empty ⊕ Ret) (h : it1En = some o) : Arr Tryd.prog Tryd.f36 0 (it1St) it1Hd (bodyOf Tryd.f36) [] { n := Tryd.f36.ntmps, fr := enumF 0 ([.int .i64 1]), hp := ([]) } o :=
 Scr.ok h mix (
 have c0 := ii1_c;
 .rt [] [] [(4, hK c0 [] [])] [] [] [] (aj (u2 (al (u2 (aj (k2 (al (c0))) s2)))) t2)) (by kernel_rfl)
theorem it1_ct (r : Ret) (h : MReach (it1Step) (it1En) r) : CT Tryd.prog 36 ([]) ([.int .i64 1]) r.1 r.2 :=
  CT.mach (fn := Tryd.f36) (c := bodyOf Tryd.f36) (S := it1St) (hd := it1Hd) Tryd.func36 (by kernel_rfl) (Nat.le_of_ble_eq_true rfl)
    (fun s o ho => match s, ho with
      | x, _ => x.elim)
    (fun o ho => it1En_ok o ho) h
noncomputable def it2St : Empty → St
  | x => x.elim
def it2Hd : Empty → Nat
  | x => x.elim
noncomputable def it2En : Option (Empty ⊕ Ret) :=
  some (.inr ([], AV.str (digB 2)))
noncomputable def it2Step : Empty → Option (Empty ⊕ Ret)
  | x => x.elim
theorem it2En_ok (o : Empty ⊕ Ret) (h : it2En = some o) : Arr Tryd.prog Tryd.f36 0 (it2St) it2Hd (bodyOf Tryd.f36) [] { n := Tryd.f36.ntmps, fr := enumF 0 ([.int .i64 2]), hp := ([]) } o :=
 Scr.ok h mix (
 have c0 := ii2_c;
 .rt [] [] [(4, hK c0 [] [])] [] [] [] (aj (u2 (al (u2 (aj (k2 (al (c0))) s2)))) t2)) (by kernel_rfl)
theorem it2_ct (r : Ret) (h : MReach (it2Step) (it2En) r) : CT Tryd.prog 36 ([]) ([.int .i64 2]) r.1 r.2 :=
  CT.mach (fn := Tryd.f36) (c := bodyOf Tryd.f36) (S := it2St) (hd := it2Hd) Tryd.func36 (by kernel_rfl) (Nat.le_of_ble_eq_true rfl)
    (fun s o ho => match s, ho with
      | x, _ => x.elim)
    (fun o ho => it2En_ok o ho) h
noncomputable def it3St : Empty → St
  | x => x.elim
def it3Hd : Empty → Nat
  | x => x.elim
noncomputable def it3En : Option (Empty ⊕ Ret) :=
  some (.inr ([], AV.str (digB 3)))
noncomputable def it3Step : Empty → Option (Empty ⊕ Ret)
  | x => x.elim
theorem it3En_ok (o : Empty ⊕ Ret) (h : it3En = some o) : Arr Tryd.prog Tryd.f36 0 (it3St) it3Hd (bodyOf Tryd.f36) [] { n := Tryd.f36.ntmps, fr := enumF 0 ([.int .i64 3]), hp := ([]) } o :=
 Scr.ok h mix (
 have c0 := ii3_c;
 .rt [] [] [(4, hK c0 [] [])] [] [] [] (aj (u2 (al (u2 (aj (k2 (al (c0))) s2)))) t2)) (by kernel_rfl)
theorem it3_ct (r : Ret) (h : MReach (it3Step) (it3En) r) : CT Tryd.prog 36 ([]) ([.int .i64 3]) r.1 r.2 :=
  CT.mach (fn := Tryd.f36) (c := bodyOf Tryd.f36) (S := it3St) (hd := it3Hd) Tryd.func36 (by kernel_rfl) (Nat.le_of_ble_eq_true rfl)
    (fun s o ho => match s, ho with
      | x, _ => x.elim)
    (fun o ho => it3En_ok o ho) h
noncomputable def it4St : Empty → St
  | x => x.elim
def it4Hd : Empty → Nat
  | x => x.elim
noncomputable def it4En : Option (Empty ⊕ Ret) :=
  some (.inr ([], AV.str (digB 4)))
noncomputable def it4Step : Empty → Option (Empty ⊕ Ret)
  | x => x.elim
theorem it4En_ok (o : Empty ⊕ Ret) (h : it4En = some o) : Arr Tryd.prog Tryd.f36 0 (it4St) it4Hd (bodyOf Tryd.f36) [] { n := Tryd.f36.ntmps, fr := enumF 0 ([.int .i64 4]), hp := ([]) } o :=
 Scr.ok h mix (
 have c0 := ii4_c;
 .rt [] [] [(4, hK c0 [] [])] [] [] [] (aj (u2 (al (u2 (aj (k2 (al (c0))) s2)))) t2)) (by kernel_rfl)
theorem it4_ct (r : Ret) (h : MReach (it4Step) (it4En) r) : CT Tryd.prog 36 ([]) ([.int .i64 4]) r.1 r.2 :=
  CT.mach (fn := Tryd.f36) (c := bodyOf Tryd.f36) (S := it4St) (hd := it4Hd) Tryd.func36 (by kernel_rfl) (Nat.le_of_ble_eq_true rfl)
    (fun s o ho => match s, ho with
      | x, _ => x.elim)
    (fun o ho => it4En_ok o ho) h
theorem it1_c : CT Tryd.prog 36 [] [.int .i64 1] [] (.str (digB 1)) := it1_ct ([], _) (.val (show it1En = _ by unfold it1En; rfl))
theorem it2_c : CT Tryd.prog 36 [] [.int .i64 2] [] (.str (digB 2)) := it2_ct ([], _) (.val (show it2En = _ by unfold it2En; rfl))
theorem it3_c : CT Tryd.prog 36 [] [.int .i64 3] [] (.str (digB 3)) := it3_ct ([], _) (.val (show it3En = _ by unfold it3En; rfl))
theorem it4_c : CT Tryd.prog 36 [] [.int .i64 4] [] (.str (digB 4)) := it4_ct ([], _) (.val (show it4En = _ by unfold it4En; rfl))
theorem it_c (k : Int) (h : 1 ≤ k ∧ k ≤ 4) : CT Tryd.prog 36 [] [.int .i64 k] [] (.str (digB k.toNat)) := by
  obtain rfl | rfl | rfl | rfl : k = 1 ∨ k = 2 ∨ k = 3 ∨ k = 4 := by omega
  · exact it1_c
  · exact it2_c
  · exact it3_c
  · exact it4_c
noncomputable def namSt (n : NetD) (c : Int) : Empty → St
  | x => x.elim
def namHd : Empty → Nat
  | x => x.elim
noncomputable def namEn (n : NetD) (c : Int) : Option (Empty ⊕ Ret) :=
  gu (Rows n.nx) <|
  br (ckE n c != 0)
  (some (.inr ([], AV.tup [AV.str (ByteArray.mk #[]), AV.int IntKind.i64 (ckE n c)])))
  (gu (ValidN n) <|
   gu (-1000 ≤ c ∧ c ≤ 1000) <|
   br (decide (plI n c < 0))
   (gu (0 ≤ c) <|
    el (n.bs) (c.toNat) fun (x26 : BlkD) =>
    some (.inr ([], AV.tup [AV.str x26.nm, AV.int IntKind.i64 0])))
   (gu (0 ≤ plI n c) <|
    el (n.ss) ((plI n c).toNat) fun (x32 : SpuD) =>
    gu ((x32.nm.size + 1).le 9223372036854775807) <|
    gu (1 ≤ plJ n c ∧ plJ n c ≤ 4) <|
    gu (((x32.nm ++ ByteArray.mk #[47]).size + (digB (plJ n c).toNat).size).le 9223372036854775807) <|
    some (.inr ([], AV.tup [AV.str (x32.nm ++ ByteArray.mk #[47] ++ digB (plJ n c).toNat), AV.int IntKind.i64 0]))))
noncomputable def namStep (n : NetD) (c : Int) : Empty → Option (Empty ⊕ Ret)
  | x => x.elim
theorem namEn_ok (n : NetD) (c : Int) (o : Empty ⊕ Ret) (h : namEn n c = some o) : Arr Tryd.prog Tryd.f14 0 (namSt n c) namHd (bodyOf Tryd.f14) [] { n := Tryd.f14.ntmps, fr := enumF 0 ([netA n, .int .i64 c]), hp := ([]) } o :=
 Scr.ok h mix (
 .rn 0 [] [] [] [] (al (u2 t3)) <|
 .gu fun a0 =>
 have c0 := ck_c (n) (c) a0;
 .rn 1 [] [] [(11, hK c0 [] [])] [] (aj (u2 (u2 (aj (k2 (aj t9 (ak (al (c0))))) s2))) (al (u2 s2))) <|
 .br (fun a1 =>
 .rt [27] [] [] [] [] [] (aj (aj a1 (al (u2 (ak s2)))) (al t3)))
 (fun a1 =>
 .gu fun a2 =>
 .gu fun a3 =>
 have c1 := place_ct a2 (c) a3;
 .rn 1 [26] [] [(18, hK c1 [] [])] [] (aj a1 (aj (u2 (u2 (aj (k2 (aj t9 (ak (al (c1))))) (u2 (u2 (u2 (u2 s2))))))) (al (u2 s2)))) <|
 .br (fun a4 =>
  .gu fun a5 =>
  .el fun x26 a6 =>
  .rt [45] [(26, bA x26)] [] [] [] [] (aj (aj a4 (al (u2 (u2 (u2 (aj (k2 (aj a5 (getMap (f := bA) a6))) (u2 (u2 (u2 t2))))))))) (al t3)))
 (fun a4 =>
  .gu fun a5 =>
  .el fun x32 a6 =>
  .gu fun a7 =>
  .gu fun a8 =>
  .gu fun a9 =>
  have c2 := it_c (plJ n c) a8;
  .rt [44] [(32, sA x32)] [(37, hK c2 [] [])] [] [] [] (aj (aj a4 (al (u2 (u2 (u2 (aj (k2 (aj a5 (getMap (f := sA) a6))) (u2 (u2 (aj (ak a7) (u2 (aj (k2 (al (c2))) (aj (k2 a9) (u2 t2))))))))))))) (al t3))))) (by kernel_rfl)
theorem nam_ct (n : NetD) (c : Int) (r : Ret) (h : MReach (namStep n c) (namEn n c) r) : CT Tryd.prog 14 ([]) ([netA n, .int .i64 c]) r.1 r.2 :=
  CT.mach (fn := Tryd.f14) (c := bodyOf Tryd.f14) (S := namSt n c) (hd := namHd) Tryd.func14 (by kernel_rfl) (Nat.le_of_ble_eq_true rfl)
    (fun s o ho => match s, ho with
      | x, _ => x.elim)
    (fun o ho => namEn_ok n c o ho) h
noncomputable def namZ (n : NetD) (c : Int) : ByteArray := if ckE n c = 0 then (match plF n c with | some i => (n.ss.getD i s0).nm ++ ⟨#[47]⟩ ++ digB (plJ n c).toNat | none => (n.bs.getD c.toNat ⟨⟨#[]⟩, 0, 0⟩).nm) else ⟨#[]⟩
theorem nm_size {s : ByteArray} (h : nmB s = true) : s.size ≤ 12 := by
  unfold nmB at h
  simp only [Bool.and_eq_true, Bool.not_eq_true', decide_eq_false_iff_not, iN] at h
  omega
theorem dig_size (k : Nat) : (digB k).size ≤ 2 := by unfold digB; split <;> exact Nat.le_of_ble_eq_true rfl
theorem pl_slot {n : NetD} (hv : ValidN n) {c : Int} {i : Nat} (h : plF n c = some i) : 1 ≤ plJ n c ∧ plJ n c ≤ 4 ∧ 0 ≤ plI n c ∧ plI n c = (i : Int) ∧ i < n.ss.length := by
  obtain ⟨s, hs, hg, g1, g2, hl⟩ := plF_some h
  obtain ⟨e1, e2⟩ := plI_some h
  have := hv.sb hs
  rw [e1, e2, hg]; exact ⟨by omega, by omega, by omega, rfl, hl⟩
theorem nam_c (n : NetD) (c : Int) (hrw : Rows n.nx) : CT Tryd.prog 14 [] [netA n, .int .i64 c] [] (.tup [.str (namZ n c), .int .i64 (ckE n c)]) := by
  refine nam_ct n c ([], _) (.val ?_)
  unfold namEn namZ
  rw [gu_t hrw]
  by_cases h : ckE n c = 0
  · obtain ⟨hv, h0, h1⟩ := ckE_ok h
    have hce := hv.cel
    rw [br_f (by rw [h]; rfl), gu_t hv, gu_t (by omega), if_pos h]
    cases hp : plF n c with
    | some i =>
      obtain ⟨g1, g2, g3, g4, g5⟩ := pl_slot hv hp
      have hs := getE s0 g5
      have z1 := nm_size (hv.spu i _ hs).nm
      have z2 := dig_size (plJ n c).toNat
      have z3 : ((n.ss.getD i s0).nm ++ (⟨#[47]⟩ : ByteArray)).size = (n.ss.getD i s0).nm.size + 1 := by rw [ByteArray.size_append]; rfl
      rw [br_f (dec_f (by omega)), g4, gu_t (by omega), Int.toNat_natCast, el_t hs, gu_t (show Nat.le _ _ from (show (n.ss.getD i s0).nm.size + 1 ≤ 9223372036854775807 by omega)), gu_t ⟨g1, g2⟩, gu_t (show Nat.le _ _ from (show ((n.ss.getD i s0).nm ++ (⟨#[47]⟩ : ByteArray)).size + (digB (plJ n c).toNat).size ≤ 9223372036854775807 by omega)), h]
    | none =>
      have hb := plF_block hv h0 h1 hp
      rw [plI_none hp, br_t (by rfl), gu_t h0, el_t (getE ⟨⟨#[]⟩, 0, 0⟩ (show c.toNat < n.bs.length by omega)), h]
  · rw [br_t (bne_iff_ne.2 h), if_neg h]
theorem ex9_exP : ∃ n : NetD, n = ⟨[⟨⟨#[97]⟩, 0, 0⟩, ⟨⟨#[98]⟩, 0, 0⟩], [[1], [0]], [⟨⟨#[100]⟩, true, 0, 1, 2, 2⟩], [3], 4, 2, 1, 8⟩ := ⟨_, rfl⟩
@[irreducible] noncomputable def exN : NetD := Classical.choose ex9_exP
theorem exN_eq : exN = ⟨[⟨⟨#[97]⟩, 0, 0⟩, ⟨⟨#[98]⟩, 0, 0⟩], [[1], [0]], [⟨⟨#[100]⟩, true, 0, 1, 2, 2⟩], [3], 4, 2, 1, 8⟩ := by unfold exN; exact Classical.choose_spec ex9_exP
theorem ex9_c : CT Tryd.prog 30 [] [] [] (netA exN) := by
  rw [exN_eq]
  exact ex9_ct _ (.val (show ex9En = some (.inr _) by unfold ex9En; exact rfl))
theorem exN_rows : Rows exN.nx := by
  rw [exN_eq]
  intro v hv
  match v, hv with
  | 0, _ => decide
  | 1, _ => decide
  | v + 2, hv => simp at hv; try omega
theorem exN_ok : ValidN exN := by
  rw [exN_eq]
  refine ⟨by decide +kernel, rfl, by decide, by decide, by decide +kernel, ?_, ?_, ?_, ?_, ?_⟩
  · intro i b h
    match i, h with
    | 0, h => cases h; exact ⟨by decide +kernel, by decide +kernel, by decide +kernel, by decide +kernel⟩
    | 1, h => cases h; exact ⟨by decide +kernel, by decide +kernel, by decide +kernel, by decide +kernel⟩
    | i + 2, h => simp at h
  · intro i s h
    match i, h with
    | 0, h => cases h; exact ⟨by decide +kernel, by decide +kernel, by decide +kernel, by decide +kernel, by decide +kernel⟩
    | i + 1, h => simp at h
  · decide +kernel
  · exact ⟨2, ⟨⟨#[100]⟩, true, 0, 1, 2, 2⟩, by simp, rfl, by decide, by decide⟩
  · intro i c h
    match i, h with
    | 0, h => cases h; exact ⟨⟨⟨⟨#[100]⟩, true, 0, 1, 2, 2⟩, by simp, rfl, by decide, by decide⟩, by simp⟩
    | i + 1, h => simp at h
theorem exN_cel : celN exN = 4 := by rw [exN_eq]; decide +kernel
theorem exN_ck (c : Int) (h : 0 ≤ c ∧ c < 4) : ckE exN c = 0 := ckE_of exN_ok h.1 (by rw [exN_cel]; exact h.2)
theorem nxK0_c : CT Tryd.prog 11 [] [netA exN, .int .i64 0] [] (.tup [lI [1, 2], .int .i64 0]) := by
  have h := cnext_c exN 0 exN_rows
  have e : nxO exN 0 = [1, 2] := by unfold nxO; rw [if_pos (exN_ck 0 (by omega)), exN_eq]; decide +kernel
  rwa [e, exN_ck 0 (by omega)] at h
theorem nxK3_c : CT Tryd.prog 11 [] [netA exN, .int .i64 3] [] (.tup [lI [1], .int .i64 0]) := by
  have h := cnext_c exN 3 exN_rows
  have e : nxO exN 3 = [1] := by unfold nxO; rw [if_pos (exN_ck 3 (by omega)), exN_eq]; decide +kernel
  rwa [e, exN_ck 3 (by omega)] at h
theorem cntK_c : CT Tryd.prog 10 [] [netA exN] [] (.tup [.int .i64 4, .int .i64 0]) := by
  have h := cnt_c exN_rows
  have e : cntZ exN = 4 := by unfold cntZ; rw [if_pos (valB_iff.2 exN_ok), exN_cel]; rfl
  have e2 : cntE exN = 0 := by unfold cntE; rw [if_pos (valB_iff.2 exN_ok)]
  rwa [e, e2] at h
theorem namK_c : CT Tryd.prog 14 [] [netA exN, .int .i64 3] [] (.tup [.str ⟨#[100, 47, 50]⟩, .int .i64 0]) := by
  have h := nam_c exN 3 exN_rows
  have e : namZ exN 3 = ⟨#[100, 47, 50]⟩ := by unfold namZ; rw [if_pos (exN_ck 3 (by omega)), exN_eq]; decide +kernel
  rwa [e, exN_ck 3 (by omega)] at h
theorem folK_c : CT Tryd.prog 12 [] [netA exN, .int .i64 2, .int .i64 3] [] (.bool true) := by
  have h := cfol_c exN 2 3 exN_rows
  have e : folB exN 2 3 = true := by
    have e1 : nxO exN 2 = [3] := by unfold nxO; rw [if_pos (exN_ck 2 (by omega)), exN_eq]; decide +kernel
    unfold folB; rw [e1]; decide +kernel
  rwa [e] at h
theorem si12_c : CT Tryd.prog 17 [] [lI [1, 2], lI [1, 2]] [] (.bool true) := sameInts_ct [1, 2] (by decide)
theorem si1_c : CT Tryd.prog 17 [] [lI [1], lI [1]] [] (.bool true) := sameInts_ct [1] (by decide)
noncomputable def kn9St : Empty → St
  | x => x.elim
def kn9Hd : Empty → Nat
  | x => x.elim
noncomputable def kn9En : Option (Empty ⊕ Ret) :=
  some (.inr ([], AV.bool true))
noncomputable def kn9Step : Empty → Option (Empty ⊕ Ret)
  | x => x.elim
theorem kn9En_ok (o : Empty ⊕ Ret) (h : kn9En = some o) : Arr Tryd.prog Tryd.f8 0 (kn9St) kn9Hd (bodyOf Tryd.f8) [] { n := Tryd.f8.ntmps, fr := enumF 0 ([]), hp := ([]) } o :=
 Scr.ok h mix (
 have c0 := ex9_c;
 have c1 := nxK0_c;
 have c2 := nxK3_c;
 have c3 := cntK_c;
 have c4 := namK_c;
 have c5 := si12_c;
 have c6 := si1_c;
 have c7 := folK_c;
 .rt [] [] [(10, hK c0 [] []), (13, hK c1 [] []), (18, hK c2 [] []), (23, hK c3 [] []), (28, hK c4 [] []), (48, hK c5 [] [1]), (53, hK c6 [] [2]), (65, hK c7 [] [])] [] [] [] (aj (u2 (aj (aj (al (c0)) (ak (al (k2 n11)))) (aj (u2 (aj (ak (aj t9 (ak (al (c1))))) (u2 (u2 (u2 (u2 s2)))))) (aj (u2 (aj (ak (aj t9 (ak (al (c2))))) (u2 (u2 (u2 (u2 s2)))))) (aj (u2 (aj (ak (aj t9 (al (c3)))) (u2 (u2 (u2 (u2 s2)))))) (aj (u2 (aj (ak (aj t9 (ak (al (c4))))) (u2 (u2 (u2 (u2 s2)))))) (al (u2 (u2 (u2 (aj t3 (aj t3 (aj t3 (u2 (aj t3 (aj t3 (aj t3 (u2 (aj t3 (aj t3 (aj t3 (u2 (aj t3 (u2 (aj (ak (k3 (aj (show nat_lit 2 = nat_lit 2 from rfl) (aj (c5) (show ∀ (blk : Blk), blk ∈ [] → ImmB blk from (by intro _ h; cases h)))))) (aj t3 (u2 (aj t3 (u2 (aj (ak (k3 (aj (show nat_lit 1 = nat_lit 1 from rfl) (aj (c6) (show ∀ (blk : Blk), blk ∈ [] → ImmB blk from (by intro _ h; cases h)))))) (aj t3 (u2 (aj t3 (aj t3 (aj t3 (u2 (aj t3 (aj t3 (aj t3 (u2 (aj t3 (aj (k2 (aj t9 (k2 (al (c7))))) (aj t3 s2))))))))))))))))))))))))))))))))))))))))))) t2)) (by kernel_rfl)
theorem kn9_ct (r : Ret) (h : MReach (kn9Step) (kn9En) r) : CT Tryd.prog 8 ([]) ([]) r.1 r.2 :=
  CT.mach (fn := Tryd.f8) (c := bodyOf Tryd.f8) (S := kn9St) (hd := kn9Hd) Tryd.func8 (by kernel_rfl) (Nat.le_of_ble_eq_true rfl)
    (fun s o ho => match s, ho with
      | x, _ => x.elim)
    (fun o ho => kn9En_ok o ho) h
theorem kn9_c : CT Tryd.prog 8 [] [] [] (.bool true) := by
  refine kn9_ct ([], _) (.val ?_)
  unfold kn9En
  rfl
inductive ceOPc where
  | l0 (v0 : Int)
  | l1 (v0 : Int) (v1 : Bool) (v2 : Int) (v3 : SpuD)
noncomputable def ceOSt (ls : List Int) (q : Int) : ceOPc → St
  | .l0 v0 => St.mk 113 [(5, AV.ptr 0 0 0), (6, iv (cntZ (looM ls 0 8))), (8, AV.sl 1 0 ((List.replicate (cntZ (looM ls 0 8)).toNat false).set (0 + (cutZ q (cntZ (looM ls 0 8))).toNat) true).length), (9, iv v0)] [some (Blk.mk [netA (looM ls 0 8)] 8 true true none), some (Blk.mk ((List.replicate (cntZ (looM ls 0 8)).toNat (AV.bool false)).set (0 + (cutZ q (cntZ (looM ls 0 8))).toNat) (AV.bool true)) 1 true true none)]
  | .l1 v0 v1 v2 v3 => St.mk 113 [(5, AV.ptr 0 0 0), (6, iv (cntZ (looM ls 0 8))), (8, AV.sl 1 0 ((List.replicate (cntZ (looM ls 0 8)).toNat false).set (0 + (cutZ q (cntZ (looM ls 0 8))).toNat) true).length), (9, iv v0), (10, AV.ptr 2 0 0), (11, AV.bool v1), (12, iv v2)] [some (Blk.mk [netA (looM ls 0 8)] 8 true true none), some (Blk.mk ((List.replicate (cntZ (looM ls 0 8)).toNat (AV.bool false)).set (0 + (cutZ q (cntZ (looM ls 0 8))).toNat) (AV.bool true)) 1 true true none), some (Blk.mk [sA v3] 6 true true none)]
def ceOHd : ceOPc → Nat
  | .l0 _ => 0
  | .l1 _ _ _ _ => 1
noncomputable def ceOEn (ls : List Int) (q : Int) : Option (ceOPc ⊕ Ret) :=
  gu (Rows (looM ls 0 8).nx) <|
  br (cntE (looM ls 0 8) != 0)
  (some (.inr ([], AV.bool false)))
  (br (decide (cntZ (looM ls 0 8) < 1))
   (some (.inr ([], AV.bool false)))
   (gu (0 ≤ cntZ (looM ls 0 8)) <|
    gu (1 * cntZ (looM ls 0 8) ≤ 281474976710656) <|
    gu (cntZ (looM ls 0 8) ≤ 9223372036854775807) <|
    gu (0 ≤ cutZ q (cntZ (looM ls 0 8))) <|
    gu (cutZ q (cntZ (looM ls 0 8)) < iN (cntZ (looM ls 0 8)).toNat) <|
    gu ((0 + (cutZ q (cntZ (looM ls 0 8))).toNat).succ.le (List.replicate (cntZ (looM ls 0 8)).toNat (AV.bool false)).length) <|
    some (.inl (.l0 ((0 : Int))))))
noncomputable def ceOS0 (ls : List Int) (q : Int) (v0 : Int) : Option (ceOPc ⊕ Ret) :=
  br (decide (v0 < iN (List.map sA (looM ls 0 8).ss).length))
  (gu (0 ≤ v0) <|
   el ((looM ls 0 8).ss) (v0.toNat) fun (x51 : SpuD) =>
   gu (0 ≤ x51.i) <|
   gu (x51.i < iN ((List.replicate (cntZ (looM ls 0 8)).toNat false).set (0 + (cutZ q (cntZ (looM ls 0 8))).toNat) true).length) <|
   el ((List.replicate (cntZ (looM ls 0 8)).toNat false).set (0 + (cutZ q (cntZ (looM ls 0 8))).toNat) true) (0 + x51.i.toNat) fun (x57 : Bool) =>
   br (x57)
   (some (.inl (.l1 (v0) (true) (x51.b) (x51))))
   (gu (0 ≤ x51.o) <|
    gu (x51.o < iN ((List.replicate (cntZ (looM ls 0 8)).toNat false).set (0 + (cutZ q (cntZ (looM ls 0 8))).toNat) true).length) <|
    el ((List.replicate (cntZ (looM ls 0 8)).toNat false).set (0 + (cutZ q (cntZ (looM ls 0 8))).toNat) true) (0 + x51.o.toNat) fun (x63 : Bool) =>
    some (.inl (.l1 (v0) (x63) (x51.b) (x51)))))
  (some (.inr ([], AV.bool true)))
noncomputable def ceOS1 (ls : List Int) (q : Int) (v0 : Int) (v1 : Bool) (v2 : Int) (v3 : SpuD) : Option (ceOPc ⊕ Ret) :=
  br (decide (v2 < IntKind.i64.wrap (v3.b + v3.k)))
  (br (v1)
   (some (.inl (.l1 (v0) (true) (IntKind.i64.wrap (v2 + 1)) (v3))))
   (gu (0 ≤ v2) <|
    gu (v2 < iN ((List.replicate (cntZ (looM ls 0 8)).toNat false).set (0 + (cutZ q (cntZ (looM ls 0 8))).toNat) true).length) <|
    el ((List.replicate (cntZ (looM ls 0 8)).toNat false).set (0 + (cutZ q (cntZ (looM ls 0 8))).toNat) true) (0 + v2.toNat) fun (x81 : Bool) =>
    some (.inl (.l1 (v0) (x81) (IntKind.i64.wrap (v2 + 1)) (v3)))))
  (gu (0 ≤ cntZ (looM ls 0 8)) <|
   gu (1 * cntZ (looM ls 0 8) ≤ 281474976710656) <|
   gu (cntZ (looM ls 0 8) ≤ 9223372036854775807) <|
   gu (Rows (looM ls 0 8).nx) <|
   br (cOE (looM ls 0 8) (List.replicate (cntZ (looM ls 0 8)).toNat false) v0 != 0)
   (some (.inr ([], AV.bool false)))
   (br (cOE (looM ls 0 8) ((List.replicate (cntZ (looM ls 0 8)).toNat false).set (0 + (cutZ q (cntZ (looM ls 0 8))).toNat) true) v0 != 0)
    (some (.inr ([], AV.bool false)))
    (br (!cOB (looM ls 0 8) (List.replicate (cntZ (looM ls 0 8)).toNat false) v0)
     (some (.inr ([], AV.bool false)))
     (br (cOB (looM ls 0 8) ((List.replicate (cntZ (looM ls 0 8)).toNat false).set (0 + (cutZ q (cntZ (looM ls 0 8))).toNat) true) v0 == v1)
      (some (.inr ([], AV.bool false)))
      (some (.inl (.l0 (IntKind.i64.wrap (v0 + 1)))))))))
noncomputable def ceOStep (ls : List Int) (q : Int) : ceOPc → Option (ceOPc ⊕ Ret)
  | .l0 v0 => ceOS0 ls q v0
  | .l1 v0 v1 v2 v3 => ceOS1 ls q v0 v1 v2 v3
theorem ceOEn_ok (ls : List Int) (q : Int) (o : ceOPc ⊕ Ret) (h : ceOEn ls q = some o) : Arr Tryd.prog Tryd.f6 0 (ceOSt ls q) ceOHd (bodyOf Tryd.f6) [] { n := Tryd.f6.ntmps, fr := enumF 0 ([lI ls, .int .i64 q]), hp := ([]) } o :=
 Scr.ok h mix (
 have c0 := kn9_c;
 have c1 := loose_ct (ls) (0) (8) (show nat_lit 0 ≤ (5000 : Nat) from (by first | exact Nat.le_of_ble_eq_true rfl | decide)) (show (1 : Int) ≤ (8 : Int) ∧ (8 : Int) ≤ (20 : Int) from ⟨(by first | exact Nat.le_of_ble_eq_true rfl | decide), (by first | exact Nat.le_of_ble_eq_true rfl | decide)⟩);
 .rn 2 [] [] [(17, hK c0 [] []), (22, hK c1 [0] [])] [] (u2 (aj (aj (al (c0)) s2) (ak (al (u2 (u2 (u2 (aj (ak (k3 (al (c1)))) (ak (al (k2 n11))))))))))) <|
 .gu fun a0 =>
 have c2 := cnt_c a0;
 .rn 0 [] [] [(25, hK c2 [] [])] [] (al (u2 (aj (ak (aj t9 (al (c2)))) (u2 (u2 (u2 (u2 s2))))))) <|
 .br (fun a1 =>
 .rt [61] [] [] [] [] [] (aj (aj (u2 (u2 (u2 (aj a1 (aj a1 (al (aj a1 t2))))))) (ak s2)) t2))
 (fun a1 =>
 .rn 0 [60] [] [] [] (al (u2 (u2 (u2 (ag a1 (ag a1 (al (aj a1 t2)))))))) <|
 .br (fun a2 =>
  .rt [60, 67] [] [] [] [] [] (aj (aj a2 s2) t2))
 (fun a2 =>
  .gu fun a3 =>
  .gu fun a4 =>
  .gu fun a5 =>
  .rn 0 [60, 66] [] [] [] (aj a2 (al (u2 (aj (k2 (aj a3 (aj (show cntZ (looM ls 0 8) ≤ cntZ (looM ls 0 8) by omega) (aj a4 a5)))) s2)))) <|
  .gu fun a6 =>
  .gu fun a7 =>
  .gu fun a8 =>
  have c3 := cut_ct (q) (cntZ (looM ls 0 8));
  .lq [60] [] [(39, hK c3 [] [])] [] [] [1, 2] [5, 6, 8, 9] (up [(8, AV.sl 1 0 (cntZ (looM ls 0 8)).toNat)] [] (ceOSt ls q (.l0 ((0 : Int))))) (aj (aj (u2 (u2 (u2 (aj (ak (k3 (al (c3)))) (aj (k2 (aj a6 a7)) (al (ak a8))))))) s2) t7) (by simp [up, upF, upV, upH, upB, ceOSt, gL, boL, lI, sA, bA])))) (by kernel_rfl)
theorem ceOS0_ok (ls : List Int) (q : Int) (v0 : Int) (o : ceOPc ⊕ Ret) (h : ceOS0 ls q v0 = some o) : Arr Tryd.prog Tryd.f6 0 (ceOSt ls q) ceOHd (headC Tryd.f6 0) (.rnd (headC Tryd.f6 0) :: headK Tryd.f6 0) (ceOSt ls q (.l0 v0)) o :=
 Scr.ok h mix (
 .rn 0 [] [] [] [] (al (u2 (u2 (u2 (u2 (al t3)))))) <|
 .br (fun a0 =>
 .gu fun a1 =>
 .el fun x51 a2 =>
 .rn 0 [91] [(51, sA x51)] [] [] (aj a0 (al (u2 (u2 (u2 (aj (k2 (aj a1 (getMap (f := sA) a2))) (u2 (ak (al (k2 n11)))))))))) <|
 .gu fun a3 =>
 .gu fun a4 =>
 .el fun x57 a5 =>
 .br (fun a6 =>
  .lp [117] [(57, AV.bool x57)] [] [] [] [0, 1, 2] [5, 6, 8, 9, 10, 11, 12] (aj (aj (u2 (u2 (u2 (aj (k2 (aj a3 a4)) (aj (ak (show ((List.replicate (cntZ (looM ls 0 8)).toNat (AV.bool false)).set (0 + (cutZ q (cntZ (looM ls 0 8))).toNat) (AV.bool true))[0 + x51.i.toNat]? = some (AV.bool x57) from getMapE (f := AV.bool) a5 (by first | (simp [gL, boL, lI, sA, bA]; done) | (simp [gL, boL, lI, sA, bA]; rfl) | (simp only [netA, List.map_append, List.map_set, List.map_cons, List.map_nil]; rfl)))) (u2 (aj a6 (aj a6 (aj a6 (aj a6 (aj a6 (ag a6 s2)))))))))))) (al (u2 (u2 s2)))) (k2 t9)))
 (fun a6 =>
  .gu fun a7 =>
  .gu fun a8 =>
  .el fun x63 a9 =>
  .lp [116] [(57, AV.bool x57), (63, AV.bool x63)] [] [] [] [0, 1, 2] [5, 6, 8, 9, 10, 11, 12] (aj (aj (u2 (u2 (u2 (aj (k2 (aj a3 a4)) (aj (ak (show ((List.replicate (cntZ (looM ls 0 8)).toNat (AV.bool false)).set (0 + (cutZ q (cntZ (looM ls 0 8))).toNat) (AV.bool true))[0 + x51.i.toNat]? = some (AV.bool x57) from getMapE (f := AV.bool) a5 (by first | (simp [gL, boL, lI, sA, bA]; done) | (simp [gL, boL, lI, sA, bA]; rfl) | (simp only [netA, List.map_append, List.map_set, List.map_cons, List.map_nil]; rfl)))) (u2 (ag a6 (ag a6 (ag a6 (aj (aj a6 (k2 (aj a7 a8))) (aj (aj a6 (ak (show ((List.replicate (cntZ (looM ls 0 8)).toNat (AV.bool false)).set (0 + (cutZ q (cntZ (looM ls 0 8))).toNat) (AV.bool true))[0 + x51.o.toNat]? = some (AV.bool x63) from getMapE (f := AV.bool) a9 (by first | (simp [gL, boL, lI, sA, bA]; done) | (simp [gL, boL, lI, sA, bA]; rfl) | (simp only [netA, List.map_append, List.map_set, List.map_cons, List.map_nil]; rfl))))) (ag a6 s2)))))))))))) (al (u2 (u2 s2)))) (k2 t9))))
 (fun a0 =>
 .rt [90] [] [] [] [] [] (aj (aj a0 s2) t2))) (by kernel_rfl)
theorem ceOS1_ok (ls : List Int) (q : Int) (v0 : Int) (v1 : Bool) (v2 : Int) (v3 : SpuD) (o : ceOPc ⊕ Ret) (h : ceOS1 ls q v0 v1 v2 v3 = some o) : Arr Tryd.prog Tryd.f6 0 (ceOSt ls q) ceOHd (headC Tryd.f6 1) (.rnd (headC Tryd.f6 1) :: headK Tryd.f6 1) (ceOSt ls q (.l1 v0 v1 v2 v3)) o :=
 Scr.ok h mix (
 .rn 0 [] [] [] [] (al (u2 (u2 (u2 (u2 (u2 (aj t3 (al t3)))))))) <|
 .br (fun a0 =>
 .br (fun a1 =>
  .lp [147, 155] [] [] [] [] [0, 1, 2] [5, 6, 8, 9, 10, 11, 12] (aj (aj a0 (aj (u2 (u2 (aj a1 (aj a1 (aj a1 (aj a1 (ag a1 s2))))))) (al (u2 (u2 s2))))) (k2 t9)))
 (fun a1 =>
  .gu fun a2 =>
  .gu fun a3 =>
  .el fun x81 a4 =>
  .lp [147, 154] [(81, AV.bool x81)] [] [] [] [0, 1, 2] [5, 6, 8, 9, 10, 11, 12] (aj (aj a0 (aj (u2 (u2 (ag a1 (ag a1 (aj (aj a1 (k2 (aj a2 a3))) (aj (aj a1 (ak (show ((List.replicate (cntZ (looM ls 0 8)).toNat (AV.bool false)).set (0 + (cutZ q (cntZ (looM ls 0 8))).toNat) (AV.bool true))[0 + v2.toNat]? = some (AV.bool x81) from getMapE (f := AV.bool) a4 (by first | (simp [gL, boL, lI, sA, bA]; done) | (simp [gL, boL, lI, sA, bA]; rfl) | (simp only [netA, List.map_append, List.map_set, List.map_cons, List.map_nil]; rfl))))) (ag a1 s2))))))) (al (u2 (u2 s2))))) (k2 t9))))
 (fun a0 =>
 .gu fun a1 =>
 .gu fun a2 =>
 .gu fun a3 =>
 .gu fun a4 =>
 have c0 := cOpen_ct a4 (List.replicate (cntZ (looM ls 0 8)).toNat false) (v0);
 have c1 := cOpen_ct a4 ((List.replicate (cntZ (looM ls 0 8)).toNat false).set (0 + (cutZ q (cntZ (looM ls 0 8))).toNat) true) (v0);
 .rn 1 [146] [] [(88, hK c0 [] [3]), (95, hK c1 [] [1])] [] (aj a0 (aj (u2 (u2 (aj (k2 (aj a1 (aj (show cntZ (looM ls 0 8) ≤ cntZ (looM ls 0 8) by omega) (aj a2 a3)))) (u2 (aj (k3 (aj t9 (aj (show (cntZ (looM ls 0 8)).toNat = (List.replicate (cntZ (looM ls 0 8)).toNat (AV.bool false)).length by simp) (ak (aj (show CT Tryd.prog 19 [] [AV.agg [AV.lst (List.map bA (looM ls 0 8).bs), AV.lst (gL (looM ls 0 8).nx), AV.lst (List.map sA (looM ls 0 8).ss), AV.lst (List.map (iv) (looM ls 0 8).rs), iv (looM ls 0 8).q, iv (looM ls 0 8).a, iv (looM ls 0 8).d, iv (looM ls 0 8).p], AV.lst (List.replicate (cntZ (looM ls 0 8)).toNat (AV.bool false)), iv v0] [] (AV.tup [AV.bool (cOB (looM ls 0 8) (List.replicate (cntZ (looM ls 0 8)).toNat false) v0), iv (cOE (looM ls 0 8) (List.replicate (cntZ (looM ls 0 8)).toNat false) v0)]) from CT.eqs (c0) (by first | (simp [gL, boL, lI, sA, bA]; done) | (simp [gL, boL, lI, sA, bA]; rfl) | (simp only [netA, List.map_append, List.map_set, List.map_cons, List.map_nil]; rfl)) (by first | (simp [gL, boL, lI, sA, bA]; done) | (simp [gL, boL, lI, sA, bA]; rfl) | (simp only [netA, List.map_append, List.map_set, List.map_cons, List.map_nil]; rfl))) (show ∀ (blk : Blk), blk ∈ [] → ImmB blk from (by intro _ h; cases h))))))) (u2 (u2 (u2 (u2 s2))))))))) (al (u2 (u2 (u2 (aj (k3 (aj t9 (aj (show ((List.replicate (cntZ (looM ls 0 8)).toNat false).set (0 + (cutZ q (cntZ (looM ls 0 8))).toNat) true).length = ((List.replicate (cntZ (looM ls 0 8)).toNat (AV.bool false)).set (0 + (cutZ q (cntZ (looM ls 0 8))).toNat) (AV.bool true)).length by simp) (ak (aj (show CT Tryd.prog 19 [] [AV.agg [AV.lst (List.map bA (looM ls 0 8).bs), AV.lst (gL (looM ls 0 8).nx), AV.lst (List.map sA (looM ls 0 8).ss), AV.lst (List.map (iv) (looM ls 0 8).rs), iv (looM ls 0 8).q, iv (looM ls 0 8).a, iv (looM ls 0 8).d, iv (looM ls 0 8).p], AV.lst ((List.replicate (cntZ (looM ls 0 8)).toNat (AV.bool false)).set (0 + (cutZ q (cntZ (looM ls 0 8))).toNat) (AV.bool true)), iv v0] [] (AV.tup [AV.bool (cOB (looM ls 0 8) ((List.replicate (cntZ (looM ls 0 8)).toNat false).set (0 + (cutZ q (cntZ (looM ls 0 8))).toNat) true) v0), iv (cOE (looM ls 0 8) ((List.replicate (cntZ (looM ls 0 8)).toNat false).set (0 + (cutZ q (cntZ (looM ls 0 8))).toNat) true) v0)]) from CT.eqs (c1) (by first | (simp [gL, boL, lI, sA, bA]; done) | (simp [gL, boL, lI, sA, bA]; rfl) | (simp only [netA, List.map_append, List.map_set, List.map_cons, List.map_nil]; rfl)) (by first | (simp [gL, boL, lI, sA, bA]; done) | (simp [gL, boL, lI, sA, bA]; rfl) | (simp only [netA, List.map_append, List.map_set, List.map_cons, List.map_nil]; rfl))) (show ∀ (blk : Blk), blk ∈ [] → ImmB blk from (by intro _ h; cases h))))))) (u2 (u2 (u2 (u2 s2))))))))))) <|
 .br (fun a5 =>
  .rt [201] [] [] [] [] [] (aj (aj (u2 (u2 (u2 (aj a5 (aj a5 (ag a5 (u2 (k2 (aj t3 (u2 (k3 (al t3)))))))))))) (ak s2)) t2))
 (fun a5 =>
  .br (fun a6 =>
  .rt [200, 209] [] [] [] [] [] (aj (aj (u2 (u2 (u2 (ag a5 (ag a5 (ag a5 (u2 (aj a6 (aj a6 (ag a6 (u2 (k3 (al t3))))))))))))) (ak s2)) t2))
  (fun a6 =>
  .br (fun a7 =>
   .rt [200, 208, 217] [] [] [] [] [] (aj (aj (u2 (u2 (u2 (ag a5 (ag a5 (ag a5 (u2 (ag a6 (ag a6 (ag a6 (u2 (aj a7 (aj a7 (aj a7 (al (aj a7 t2)))))))))))))))) (ak s2)) t2))
  (fun a7 =>
   .rn 0 [200, 208, 216] [] [] [] (al (u2 (u2 (u2 (ag a5 (ag a5 (ag a5 (u2 (ag a6 (ag a6 (ag a6 (u2 (ag a7 (ag a7 (aj (aj a7 t3) (al (aj a7 t2))))))))))))))))) <|
   .br (fun a8 =>
   .rt [200, 208, 216, 225] [] [] [] [] [] (aj (aj a8 s2) t2))
   (fun a8 =>
   .lp [200, 208, 216, 224] [] [] [] [] [0, 1] [5, 6, 8, 9] (aj (aj a8 (al (u2 (u2 s2)))) t7))))))) (by kernel_rfl)
theorem ceO_ct (ls : List Int) (q : Int) (r : Ret) (h : MReach (ceOStep ls q) (ceOEn ls q) r) : CT Tryd.prog 6 ([]) ([lI ls, .int .i64 q]) r.1 r.2 :=
  CT.mach (fn := Tryd.f6) (c := bodyOf Tryd.f6) (S := ceOSt ls q) (hd := ceOHd) Tryd.func6 (by kernel_rfl) (Nat.le_of_ble_eq_true rfl)
    (fun s o ho => match s, ho with
      | .l0 v0, ho => ceOS0_ok ls q v0 o ho
      | .l1 v0 v1 v2 v3, ho => ceOS1_ok ls q v0 v1 v2 v3 o ho
    )
    (fun o ho => ceOEn_ok ls q o ho) h
theorem cs_ok {n : NetD} (hv : ValidN n) {i : Nat} (hi : i < n.ss.length) : csE n (i : Int) = 0 := by
  unfold csE; rw [if_pos (valB_iff.2 hv), if_neg (by omega)]
theorem cnt_valid {n : NetD} (hv : ValidN n) : cntZ n = (celN n : Int) ∧ cntE n = 0 := by
  unfold cntZ cntE; rw [if_pos (valB_iff.2 hv), if_pos (valB_iff.2 hv)]; exact ⟨rfl, rfl⟩
theorem opO_rep (c : Nat) (s : SpuD) : openB (List.replicate c false) s = true := by
  have h : ∀ i : Nat, (List.replicate c false).getD i false = false := fun i => by
    rw [List.getD_eq_getElem?_getD, List.getElem?_replicate]; split <;> rfl
  unfold openB
  rw [h, h, fnd_false (fun i _ _ => h _)]; rfl
theorem cOB_at {n : NetD} (hv : ValidN n) {sh : List Bool} (hsh : sh.length = celN n) {i : Nat} {s : SpuD} (hs : n.ss[i]? = some s) : cOB n sh (i : Int) = openB sh s ∧ cOE n sh (i : Int) = 0 := by
  have hil := (List.getElem?_eq_some_iff.1 hs).1
  unfold cOB cOE opB
  rw [valB_iff.2 hv, dec_t (show (0 : Int) ≤ i by omega), dec_t (show (i : Int) < n.ss.length by omega), dec_t hsh, Int.toNat_natCast, hs, if_pos (cs_ok hv hil), if_pos hsh]
  exact ⟨rfl, rfl⟩
theorem opJ_not (sh : List Bool) (s : SpuD) (j : Nat) : (!opJ sh s (j + 1)) = ((!opJ sh s j) || shB sh s j) := by
  rw [opJ_succ]; cases opJ sh s j <;> cases shB sh s j <;> rfl
theorem cutZ_rng (v n : Int) (h1 : 1 ≤ n) (h2 : n ≤ 100000) : 0 ≤ cutZ v n ∧ cutZ v n < n := by
  unfold cutZ
  split
  · omega
  · have ha := Int.tmod_lt_of_pos v (show 0 < n by omega)
    have hb := Int.lt_tmod_of_pos v (show 0 < n by omega)
    split
    · rw [wrapS _ (by omega) (by omega)]; omega
    · omega
theorem ceO_run (ls : List Int) (q : Int) : CT Tryd.prog 6 [] [lI ls, .int .i64 q] [] (.bool true) := by
  refine ceO_ct ls q ([], .bool true) ?_
  have hl := (loo_spec (L := ls) (kk := 0) (most := 8) (by omega) (by omega)).1
  have hv := hl.v
  have ns := hv.ns
  have nb := hv.nb24
  have hce := hv.cel
  have hcn := cnt_valid hv
  have hS0 : ∀ v, ceOStep ls q (.l0 v) = ceOS0 ls q v := fun _ => rfl
  have hS1 : ∀ a b c d, ceOStep ls q (.l1 a b c d) = ceOS1 ls q a b c d := fun _ _ _ _ => rfl
  have hc := cutZ_rng q (cntZ (looM ls 0 8)) (by rw [hcn.1]; omega) (by rw [hcn.1]; omega)
  unfold ceOEn
  unfold ceOS0 at hS0
  unfold ceOS1 at hS1
  rw [hcn.1] at hc
  rw [hcn.2, hcn.1]
  simp only [hcn.1, Int.toNat_natCast] at hS0 hS1
  generalize hX : cutZ q (celN (looM ls 0 8) : Int) = X at *
  have e0 : (celN (looM ls 0 8) : Int).toNat = celN (looM ls 0 8) := Int.toNat_natCast _
  rw [e0]
  have hone : ∀ b, ((List.replicate (celN (looM ls 0 8)) false).set (0 + X.toNat) b).length = celN (looM ls 0 8) := fun b => by simp
  generalize hO : (List.replicate (celN (looM ls 0 8)) false).set (0 + X.toNat) true = one at *
  have h1 : one.length = celN (looM ls 0 8) := by rw [← hO]; simp
  rw [gu_t hl.rows, br_f (by rfl), br_f (dec_f (by omega)), gu_t (by omega), gu_t (by omega), gu_t (by omega), gu_t hc.1, gu_t (by simp only [iN]; omega), gu_t (show Nat.le _ _ from (show 0 + X.toNat + 1 ≤ _ by rw [List.length_replicate]; omega))]
  refine loop_up (fun i => ceOPc.l0 (i : Int)) (looM ls 0 8).ss.length (fun i hi hr => ?_) (.to ((hS0 _).trans ?_) (.ret _))
  · have hs := getE s0 hi
    generalize (looM ls 0 8).ss.getD i s0 = s at hs
    have sb := hv.sb hs
    have en := hv.ends hs
    have gx : ∀ c : Int, 0 ≤ c → c < (celN (looM ls 0 8) : Int) → one[0 + c.toNat]? = some (one.getD c.toNat false) := fun c h0 h2 => by rw [Nat.zero_add]; exact get_sh h0 (by omega)
    have w1 : IntKind.i64.wrap (s.b + s.k) = s.b + s.k := wrap_in (by omega) (by omega)
    have hh : opJ one s 0 = (!(one.getD s.i.toNat false) && !(one.getD s.o.toNat false)) := by unfold opJ; simp [fnd]
    have inner : MReach (ceOStep ls q) (some (.inl (.l1 (i : Int) (!opJ one s 0) s.b s))) (([], .bool true) : Ret) := by
      have key := loop_up (step := ceOStep ls q) (r := (([], .bool true) : Ret)) (fun j => ceOPc.l1 (i : Int) (!opJ one s j) (s.b + (j : Int)) s) s.k.toNat (fun j hj hr2 => ?_) ?_
      · simpa using key
      · have w2 : IntKind.i64.wrap (s.b + (j : Int) + 1) = s.b + ((j + 1 : Nat) : Int) := by rw [wrap_in (by omega) (by omega)]; omega
        have hg := gx (s.b + (j : Int)) (by omega) (by omega)
        refine .to ((hS1 _ _ _ _).trans ?_) hr2
        rw [w1, br_t (dec_t (by omega)), w2, opJ_not]
        cases opJ one s j with
        | false => rw [br_t (by rfl)]; rfl
        | true => rw [br_f (by rfl), gu_t (by omega), gu_t (by simp only [iN]; omega), el_t hg]; rfl
      · have a := cOB_at hv (sh := List.replicate (celN (looM ls 0 8)) false) (by simp) hs
        have b := cOB_at hv (sh := one) h1 hs
        refine .to ((hS1 _ _ _ _).trans ?_) hr
        rw [w1, br_f (dec_f (by omega)), gu_t (by omega), gu_t (by omega), gu_t (by omega), gu_t hl.rows, a.2, br_f (by rfl), b.2, br_f (by rfl), a.1, opO_rep, br_f (by rfl), b.1, ← opJ_end, br_f (by cases opJ one s s.k.toNat <;> rfl), wrap_nat i (by omega)]
    refine .to ((hS0 _).trans ?_) inner
    rw [br_t (rngB hi), gu_t (by omega), Int.toNat_natCast, el_t hs, gu_t en.1, gu_t (by simp only [iN]; omega), el_t (gx s.i en.1 en.2.1), hh]
    cases one.getD s.i.toNat false with
    | true => rw [br_t rfl]; rfl
    | false =>
      rw [br_f rfl, gu_t en.2.2.1, gu_t (by simp only [iN]; omega), el_t (gx s.o en.2.2.1 en.2.2.2.1)]
      cases one.getD s.o.toNat false <;> rfl
  · rw [rngE]
theorem rdInts {n : Nat} {es : List AV} (h : ∀ x ∈ es, ShV Tryd.prog n 3 x) : ∃ L : List Int, es = L.map (AV.int .i64) := by
  induction es with
  | nil => exact ⟨[], rfl⟩
  | cons x es ih =>
    obtain ⟨L, rfl⟩ := ih fun y hy => h y (List.mem_cons_of_mem _ hy)
    obtain ⟨i, _, rfl⟩ := (h x (by simp)).intD Tryd.underlying3
    exact ⟨i :: L, rfl⟩
theorem cellsOpen_row (avs : List AV) (h : ShVs Tryd.prog 6 Tryd.f6.params.toList avs) : CT Tryd.prog 6 [] avs [] (.bool true) := by
  rw [Tryd.params6] at h
  obtain ⟨a, _, rfl, ka, h⟩ := h.consD
  obtain ⟨b, _, rfl, kb, h⟩ := h.consD
  obtain rfl := h.nilD
  obtain ⟨_, _, he, rfl⟩ := ka.sliceD Tryd.underlying22
  obtain ⟨l, rfl⟩ := rdInts he
  obtain ⟨x, _, rfl⟩ := kb.intD Tryd.underlying3
  exact ceO_run l x
end Go.Proofs.YtlogjpmajgbgaaaDoor

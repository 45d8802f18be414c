/- Parts of the proof: Pl5m, PlF, Pl6m, PlG, Qa1m, QaA, Qa2m, QaB, Qa3m, QaC, Qa4m, QaD, Qa5m, QaE, Qa6m, QaF, Qa7m, QaG, Qb3m, Qb2m, Qb1m, QbA, QbB, QbC, QbD. -/
import Derived.Test.YtlogjpmajgbgaaaProg
import Derived.KernelRfl
import Derived.Test.YtlogjpmajgbgaaaPlantActsM6
open Go Go.AX Go.Proofs
set_option maxRecDepth 100000
set_option maxHeartbeats 4000000
set_option linter.unusedVariables false
set_option linter.unusedSimpArgs false
namespace Go.Proofs.Ytlogjpmajgbgaaa
noncomputable def puSt (l : List BdD) (q c : Int) : Empty → St
  | x => x.elim
def puHd : Empty → Nat
  | x => x.elim
noncomputable def puEn (l : List BdD) (q c : Int) : Option (Empty ⊕ Ret) :=
  br (!(decide (0 ≤ c) && decide (c < 48)))
  (some (.inr ([], AV.tup [AV.nils, AV.int IntKind.i64 19])))
  (gu (l.length ≤ 5864062014634) <|
   some (.inr ([some (Blk.mk (List.map bdA (doX l q fun x => if (!onF x) = true then some (BdD.mk c (-1) false false) else none).fst) 4 true true none)], AV.tup [AV.sl 0 0 (doX l q fun x => if (!onF x) = true then some (BdD.mk c (-1) false false) else none).fst.length, AV.int IntKind.i64 (doX l q fun x => if (!onF x) = true then some (BdD.mk c (-1) false false) else none).snd])))
noncomputable def puStep (l : List BdD) (q c : Int) : Empty → Option (Empty ⊕ Ret)
  | x => x.elim
theorem puEn_ok (l : List BdD) (q c : Int) (o : Empty ⊕ Ret) (h : puEn l q c = some o) : Arr Try.prog Try.f13 0 (puSt l q c) puHd (bodyOf Try.f13) [] { n := Try.f13.ntmps, fr := enumF 0 ([.lst (l.map bdA), .int .i64 q, .int .i64 c]), hp := ([]) } o :=
 Scr.ok h mix (
 have c0 := wn_c (c);
 .rn 1 [] [] [(9, hK c0 [] [])] [] (aj (u2 t3) (al (u2 (aj (k2 (al (c0))) s2)))) <|
 .br (fun a0 =>
 .rt [21] [] [] [] [] [] (aj (aj a0 (al t3)) (al t3)))
 (fun a0 =>
 .gu fun a1 =>
 have c1 := hP_c (l) (q) (c) a1;
 .rt [20] [] [(14, hK c1 [0] [])] [] [1] [] (aj (aj a0 (al (u2 (u2 (u2 (aj (ak (k5 (u2 (ak (al (c1)))))) (u2 (u2 (u2 s2))))))))) (aj t3 t2)))) (by kernel_rfl)
theorem pu_ct (l : List BdD) (q c : Int) (r : Ret) (h : MReach (puStep l q c) (puEn l q c) r) : CT Try.prog 13 ([]) ([.lst (l.map bdA), .int .i64 q, .int .i64 c]) r.1 r.2 :=
  CT.mach (fn := Try.f13) (c := bodyOf Try.f13) (S := puSt l q c) (hd := puHd) Try.func13 (by kernel_rfl) (Nat.le_of_ble_eq_true rfl)
    (fun s o ho => match s, ho with
      | x, _ => x.elim)
    (fun o ho => puEn_ok l q c o ho) h
noncomputable def bgSt (n : NetD) (l : List BdD) (q c : Int) : Empty → St
  | x => x.elim
def bgHd : Empty → Nat
  | x => x.elim
noncomputable def bgEn (n : NetD) (l : List BdD) (q c : Int) : Option (Empty ⊕ Ret) :=
  br (!(decide (0 ≤ c) && decide (c < 48)))
  (some (.inr ([], AV.tup [AV.nils, AV.int IntKind.i64 19])))
  (gu (l.length ≤ 5864062014634) <|
   gu (Rows n.nx) <|
   some (.inr ([some (Blk.mk (List.map bdA (doX l q fun x => if (atR x && folB n x.c c) = true then some (BdD.mk x.c c x.s x.f) else none).fst) 4 true true none)], AV.tup [AV.sl 0 0 (doX l q fun x => if (atR x && folB n x.c c) = true then some (BdD.mk x.c c x.s x.f) else none).fst.length, AV.int IntKind.i64 (doX l q fun x => if (atR x && folB n x.c c) = true then some (BdD.mk x.c c x.s x.f) else none).snd])))
noncomputable def bgStep (n : NetD) (l : List BdD) (q c : Int) : Empty → Option (Empty ⊕ Ret)
  | x => x.elim
theorem bgEn_ok (n : NetD) (l : List BdD) (q c : Int) (o : Empty ⊕ Ret) (h : bgEn n l q c = some o) : Arr Try.prog Try.f16 0 (bgSt n l q c) bgHd (bodyOf Try.f16) [] { n := Try.f16.ntmps, fr := enumF 0 ([netA n, .lst (l.map bdA), .int .i64 q, .int .i64 c]), hp := ([]) } o :=
 Scr.ok h mix (
 have c0 := wn_c (c);
 .rn 1 [] [] [(11, hK c0 [] [])] [] (aj (u2 (u2 t3)) (al (u2 (aj (k2 (al (c0))) s2)))) <|
 .br (fun a0 =>
 .rt [25] [] [] [] [] [] (aj (aj a0 (al t3)) (al t3)))
 (fun a0 =>
 .gu fun a1 =>
 .gu fun a2 =>
 have c1 := hG_c (n) (l) (q) (c) a1 a2;
 .rt [24] [] [(17, hK c1 [0, 1] [])] [] [2] [] (aj (aj a0 (al (u2 (u2 (aj t3 (u2 (aj (ak (k5 (aj t3 (u2 (k2 (al (c1))))))) (u2 (u2 (u2 s2)))))))))) (aj t3 t2)))) (by kernel_rfl)
theorem bg_ct (n : NetD) (l : List BdD) (q c : Int) (r : Ret) (h : MReach (bgStep n l q c) (bgEn n l q c) r) : CT Try.prog 16 ([]) ([netA n, .lst (l.map bdA), .int .i64 q, .int .i64 c]) r.1 r.2 :=
  CT.mach (fn := Try.f16) (c := bodyOf Try.f16) (S := bgSt n l q c) (hd := bgHd) Try.func16 (by kernel_rfl) (Nat.le_of_ble_eq_true rfl)
    (fun s o ho => match s, ho with
      | x, _ => x.elim)
    (fun o ho => bgEn_ok n l q c o ho) h
noncomputable def enSt (l : List BdD) (q : Int) : Empty → St
  | x => x.elim
def enHd : Empty → Nat
  | x => x.elim
noncomputable def enEn (l : List BdD) (q : Int) : Option (Empty ⊕ Ret) :=
  gu (l.length ≤ 5864062014634) <|
  some (.inr ([some (Blk.mk (List.map bdA (doX l q fun x => if (onF x && (x.t != -1 && !x.f)) = true then some (BdD.mk x.t (-1) x.s x.f) else none).fst) 4 true true none)], AV.tup [AV.sl 0 0 (doX l q fun x => if (onF x && (x.t != -1 && !x.f)) = true then some (BdD.mk x.t (-1) x.s x.f) else none).fst.length, AV.int IntKind.i64 (doX l q fun x => if (onF x && (x.t != -1 && !x.f)) = true then some (BdD.mk x.t (-1) x.s x.f) else none).snd]))
noncomputable def enStep (l : List BdD) (q : Int) : Empty → Option (Empty ⊕ Ret)
  | x => x.elim
theorem enEn_ok (l : List BdD) (q : Int) (o : Empty ⊕ Ret) (h : enEn l q = some o) : Arr Try.prog Try.f19 0 (enSt l q) enHd (bodyOf Try.f19) [] { n := Try.f19.ntmps, fr := enumF 0 ([.lst (l.map bdA), .int .i64 q]), hp := ([]) } o :=
 Scr.ok h mix (
 .rn 0 [] [] [] [] (al t3) <|
 .gu fun a0 =>
 have c0 := hE_c (l) (q) a0;
 .rt [] [] [(8, hK c0 [] [])] [] [0] [] (aj (al (u2 (u2 (aj (ak (k5 (al (c0)))) (u2 (u2 (u2 s2))))))) (aj t3 t2))) (by kernel_rfl)
theorem en_ct (l : List BdD) (q : Int) (r : Ret) (h : MReach (enStep l q) (enEn l q) r) : CT Try.prog 19 ([]) ([.lst (l.map bdA), .int .i64 q]) r.1 r.2 :=
  CT.mach (fn := Try.f19) (c := bodyOf Try.f19) (S := enSt l q) (hd := enHd) Try.func19 (by kernel_rfl) (Nat.le_of_ble_eq_true rfl)
    (fun s o ho => match s, ho with
      | x, _ => x.elim)
    (fun o ho => enEn_ok l q o ho) h
noncomputable def wkSt (l : List BdD) (q : Int) : Empty → St
  | x => x.elim
def wkHd : Empty → Nat
  | x => x.elim
noncomputable def wkEn (l : List BdD) (q : Int) : Option (Empty ⊕ Ret) :=
  gu (l.length ≤ 5864062014634) <|
  some (.inr ([some (Blk.mk (List.map bdA (doX l q fun x => if atR x = true then some (BdD.mk x.c x.t true x.f) else none).fst) 4 true true none)], AV.tup [AV.sl 0 0 (doX l q fun x => if atR x = true then some (BdD.mk x.c x.t true x.f) else none).fst.length, AV.int IntKind.i64 (doX l q fun x => if atR x = true then some (BdD.mk x.c x.t true x.f) else none).snd]))
noncomputable def wkStep (l : List BdD) (q : Int) : Empty → Option (Empty ⊕ Ret)
  | x => x.elim
theorem wkEn_ok (l : List BdD) (q : Int) (o : Empty ⊕ Ret) (h : wkEn l q = some o) : Arr Try.prog Try.f55 0 (wkSt l q) wkHd (bodyOf Try.f55) [] { n := Try.f55.ntmps, fr := enumF 0 ([.lst (l.map bdA), .int .i64 q]), hp := ([]) } o :=
 Scr.ok h mix (
 .rn 0 [] [] [] [] (al t3) <|
 .gu fun a0 =>
 have c0 := hW_c (l) (q) a0;
 .rt [] [] [(8, hK c0 [] [])] [] [0] [] (aj (al (u2 (u2 (aj (ak (k5 (al (c0)))) (u2 (u2 (u2 s2))))))) (aj t3 t2))) (by kernel_rfl)
theorem wk_ct (l : List BdD) (q : Int) (r : Ret) (h : MReach (wkStep l q) (wkEn l q) r) : CT Try.prog 55 ([]) ([.lst (l.map bdA), .int .i64 q]) r.1 r.2 :=
  CT.mach (fn := Try.f55) (c := bodyOf Try.f55) (S := wkSt l q) (hd := wkHd) Try.func55 (by kernel_rfl) (Nat.le_of_ble_eq_true rfl)
    (fun s o ho => match s, ho with
      | x, _ => x.elim)
    (fun o ho => wkEn_ok l q o ho) h
noncomputable def fnSt (l : List BdD) (q : Int) : Empty → St
  | x => x.elim
def fnHd : Empty → Nat
  | x => x.elim
noncomputable def fnEn (l : List BdD) (q : Int) : Option (Empty ⊕ Ret) :=
  gu (l.length ≤ 5864062014634) <|
  some (.inr ([some (Blk.mk (List.map bdA (doX l q fun x => if (onF x && (x.s && !x.f)) = true then some (BdD.mk x.c x.t false x.f) else none).fst) 4 true true none)], AV.tup [AV.sl 0 0 (doX l q fun x => if (onF x && (x.s && !x.f)) = true then some (BdD.mk x.c x.t false x.f) else none).fst.length, AV.int IntKind.i64 (doX l q fun x => if (onF x && (x.s && !x.f)) = true then some (BdD.mk x.c x.t false x.f) else none).snd]))
noncomputable def fnStep (l : List BdD) (q : Int) : Empty → Option (Empty ⊕ Ret)
  | x => x.elim
theorem fnEn_ok (l : List BdD) (q : Int) (o : Empty ⊕ Ret) (h : fnEn l q = some o) : Arr Try.prog Try.f56 0 (fnSt l q) fnHd (bodyOf Try.f56) [] { n := Try.f56.ntmps, fr := enumF 0 ([.lst (l.map bdA), .int .i64 q]), hp := ([]) } o :=
 Scr.ok h mix (
 .rn 0 [] [] [] [] (al t3) <|
 .gu fun a0 =>
 have c0 := hF_c (l) (q) a0;
 .rt [] [] [(8, hK c0 [] [])] [] [0] [] (aj (al (u2 (u2 (aj (ak (k5 (al (c0)))) (u2 (u2 (u2 s2))))))) (aj t3 t2))) (by kernel_rfl)
theorem fn_ct (l : List BdD) (q : Int) (r : Ret) (h : MReach (fnStep l q) (fnEn l q) r) : CT Try.prog 56 ([]) ([.lst (l.map bdA), .int .i64 q]) r.1 r.2 :=
  CT.mach (fn := Try.f56) (c := bodyOf Try.f56) (S := fnSt l q) (hd := fnHd) Try.func56 (by kernel_rfl) (Nat.le_of_ble_eq_true rfl)
    (fun s o ho => match s, ho with
      | x, _ => x.elim)
    (fun o ho => fnEn_ok l q o ho) h
noncomputable def faSt (l : List BdD) (q : Int) : Empty → St
  | x => x.elim
def faHd : Empty → Nat
  | x => x.elim
noncomputable def faEn (l : List BdD) (q : Int) : Option (Empty ⊕ Ret) :=
  gu (l.length ≤ 5864062014634) <|
  some (.inr ([some (Blk.mk (List.map bdA (doX l q fun x => if onF x = true then some (BdD.mk x.c x.t x.s true) else none).fst) 4 true true none)], AV.tup [AV.sl 0 0 (doX l q fun x => if onF x = true then some (BdD.mk x.c x.t x.s true) else none).fst.length, AV.int IntKind.i64 (doX l q fun x => if onF x = true then some (BdD.mk x.c x.t x.s true) else none).snd]))
noncomputable def faStep (l : List BdD) (q : Int) : Empty → Option (Empty ⊕ Ret)
  | x => x.elim
theorem faEn_ok (l : List BdD) (q : Int) (o : Empty ⊕ Ret) (h : faEn l q = some o) : Arr Try.prog Try.f25 0 (faSt l q) faHd (bodyOf Try.f25) [] { n := Try.f25.ntmps, fr := enumF 0 ([.lst (l.map bdA), .int .i64 q]), hp := ([]) } o :=
 Scr.ok h mix (
 .rn 0 [] [] [] [] (al t3) <|
 .gu fun a0 =>
 have c0 := hA_c (l) (q) a0;
 .rt [] [] [(8, hK c0 [] [])] [] [0] [] (aj (al (u2 (u2 (aj (ak (k5 (al (c0)))) (u2 (u2 (u2 s2))))))) (aj t3 t2))) (by kernel_rfl)
theorem fa_ct (l : List BdD) (q : Int) (r : Ret) (h : MReach (faStep l q) (faEn l q) r) : CT Try.prog 25 ([]) ([.lst (l.map bdA), .int .i64 q]) r.1 r.2 :=
  CT.mach (fn := Try.f25) (c := bodyOf Try.f25) (S := faSt l q) (hd := faHd) Try.func25 (by kernel_rfl) (Nat.le_of_ble_eq_true rfl)
    (fun s o ho => match s, ho with
      | x, _ => x.elim)
    (fun o ho => faEn_ok l q o ho) h
noncomputable def lfSt (l : List BdD) (q : Int) : Empty → St
  | x => x.elim
def lfHd : Empty → Nat
  | x => x.elim
noncomputable def lfEn (l : List BdD) (q : Int) : Option (Empty ⊕ Ret) :=
  gu (l.length ≤ 5864062014634) <|
  some (.inr ([some (Blk.mk (List.map bdA (doX l q fun x => if (onF x && (atR x || x.f)) = true then some (BdD.mk (-1) (-1) false false) else none).fst) 4 true true none)], AV.tup [AV.sl 0 0 (doX l q fun x => if (onF x && (atR x || x.f)) = true then some (BdD.mk (-1) (-1) false false) else none).fst.length, AV.int IntKind.i64 (doX l q fun x => if (onF x && (atR x || x.f)) = true then some (BdD.mk (-1) (-1) false false) else none).snd]))
noncomputable def lfStep (l : List BdD) (q : Int) : Empty → Option (Empty ⊕ Ret)
  | x => x.elim
theorem lfEn_ok (l : List BdD) (q : Int) (o : Empty ⊕ Ret) (h : lfEn l q = some o) : Arr Try.prog Try.f26 0 (lfSt l q) lfHd (bodyOf Try.f26) [] { n := Try.f26.ntmps, fr := enumF 0 ([.lst (l.map bdA), .int .i64 q]), hp := ([]) } o :=
 Scr.ok h mix (
 .rn 0 [] [] [] [] (al t3) <|
 .gu fun a0 =>
 have c0 := hL_c (l) (q) a0;
 .rt [] [] [(8, hK c0 [] [])] [] [0] [] (aj (al (u2 (u2 (aj (ak (k5 (al (c0)))) (u2 (u2 (u2 s2))))))) (aj t3 t2))) (by kernel_rfl)
theorem lf_ct (l : List BdD) (q : Int) (r : Ret) (h : MReach (lfStep l q) (lfEn l q) r) : CT Try.prog 26 ([]) ([.lst (l.map bdA), .int .i64 q]) r.1 r.2 :=
  CT.mach (fn := Try.f26) (c := bodyOf Try.f26) (S := lfSt l q) (hd := lfHd) Try.func26 (by kernel_rfl) (Nat.le_of_ble_eq_true rfl)
    (fun s o ho => match s, ho with
      | x, _ => x.elim)
    (fun o ho => lfEn_ok l q o ho) h
noncomputable def rcgSt (n : NetD) (x : BdD) (q c : Int) : Empty → St
  | x => x.elim
def rcgHd : Empty → Nat
  | x => x.elim
noncomputable def rcgEn (n : NetD) (x : BdD) (q c : Int) : Option (Empty ⊕ Ret) :=
  br (q == 0)
  (some (.inr ([], AV.tup [AV.agg [AV.int IntKind.i64 c, AV.int IntKind.i64 (-1), AV.bool false, AV.bool false], AV.bool !x.c != -1])))
  (br (q == 1)
   (br (atR x)
    (gu (Rows n.nx) <|
     some (.inr ([], AV.tup [AV.agg [AV.int IntKind.i64 x.c, AV.int IntKind.i64 c, AV.bool x.s, AV.bool x.f], AV.bool (folB n x.c c)])))
    (some (.inr ([], AV.tup [AV.agg [AV.int IntKind.i64 x.c, AV.int IntKind.i64 c, AV.bool x.s, AV.bool x.f], AV.bool false]))))
   (br (q == 2)
    (br (x.c != -1)
     (br (x.t != -1)
      (some (.inr ([], AV.tup [AV.agg [AV.int IntKind.i64 x.t, AV.int IntKind.i64 (-1), AV.bool x.s, AV.bool x.f], AV.bool !x.f])))
      (some (.inr ([], AV.tup [AV.agg [AV.int IntKind.i64 x.t, AV.int IntKind.i64 (-1), AV.bool x.s, AV.bool x.f], AV.bool false]))))
     (some (.inr ([], AV.tup [AV.agg [AV.int IntKind.i64 x.t, AV.int IntKind.i64 (-1), AV.bool x.s, AV.bool x.f], AV.bool false]))))
    (br (q == 3)
     (some (.inr ([], AV.tup [AV.agg [AV.int IntKind.i64 x.c, AV.int IntKind.i64 x.t, AV.bool true, AV.bool x.f], AV.bool (atR x)])))
     (br (q == 4)
      (br (x.c != -1)
       (br (x.s)
        (some (.inr ([], AV.tup [AV.agg [AV.int IntKind.i64 x.c, AV.int IntKind.i64 x.t, AV.bool false, AV.bool x.f], AV.bool !x.f])))
        (some (.inr ([], AV.tup [AV.agg [AV.int IntKind.i64 x.c, AV.int IntKind.i64 x.t, AV.bool false, AV.bool x.f], AV.bool false]))))
       (some (.inr ([], AV.tup [AV.agg [AV.int IntKind.i64 x.c, AV.int IntKind.i64 x.t, AV.bool false, AV.bool x.f], AV.bool false]))))
      (br (q == 5)
       (some (.inr ([], AV.tup [AV.agg [AV.int IntKind.i64 x.c, AV.int IntKind.i64 x.t, AV.bool x.s, AV.bool true], AV.bool (x.c != -1)])))
       (br (x.c != -1)
        (br (atR x)
         (some (.inr ([], AV.tup [AV.agg [AV.int IntKind.i64 (-1), AV.int IntKind.i64 (-1), AV.bool false, AV.bool false], AV.bool true])))
         (some (.inr ([], AV.tup [AV.agg [AV.int IntKind.i64 (-1), AV.int IntKind.i64 (-1), AV.bool false, AV.bool false], AV.bool x.f]))))
        (some (.inr ([], AV.tup [AV.agg [AV.int IntKind.i64 (-1), AV.int IntKind.i64 (-1), AV.bool false, AV.bool false], AV.bool false])))))))))
noncomputable def rcgStep (n : NetD) (x : BdD) (q c : Int) : Empty → Option (Empty ⊕ Ret)
  | x => x.elim
theorem rcgEn_ok (n : NetD) (x : BdD) (q c : Int) (o : Empty ⊕ Ret) (h : rcgEn n x q c = some o) : Arr Try.prog Try.f57 0 (rcgSt n x q c) rcgHd (bodyOf Try.f57) [] { n := Try.f57.ntmps, fr := enumF 0 ([netA n, bdA x, .int .i64 q, .int .i64 c]), hp := ([]) } o :=
 Scr.ok h mix (
 .rn 3 [] [] [] [] (aj (u2 (u2 t3)) (aj (u2 (u2 (u2 s2))) (aj s2 (al (u2 s2))))) <|
 .br (fun a0 =>
 .rt [39] [] [] [] [] [] (aj (aj a0 (al (u2 (u2 (u2 (u2 (aj (k2 n11) s2))))))) (al (aj t5 t2))))
 (fun a0 =>
 .rn 0 [38] [] [] [] (aj a0 (al (u2 s2))) <|
 .br (fun a1 =>
  .br (fun a2 =>
  .gu fun a3 =>
  have c0 := rat_c (x);
  have c1 := rfol_c (n) (x.c) (c) a3;
  .rt [51, 59] [] [(28, hK c0 [] []), (34, hK c1 [] [])] [] [] [] (aj (aj a1 (aj (u2 (aj (ak (aj t5 (al (c0)))) (u2 (ag a2 (ag a2 (ag a2 (ag a2 (aj (aj a2 (k3 (aj t9 (k2 (al (c1)))))) (ag a2 s2))))))))) (aj (u2 (u2 (al t3))) (al (u2 (u2 (aj (k2 n11) s2))))))) (al (aj t5 t2))))
  (fun a2 =>
  have c0 := rat_c (x);
  .rt [51, 58] [] [(28, hK c0 [] [])] [] [] [] (aj (aj a1 (aj (u2 (aj (ak (aj t5 (al (c0)))) (u2 (aj a2 (aj a2 (aj a2 (aj a2 (aj a2 (ag a2 s2))))))))) (aj (u2 (u2 (al t3))) (al (u2 (u2 (aj (k2 n11) s2))))))) (al (aj t5 t2)))))
 (fun a1 =>
  .rn 0 [50] [] [] [] (aj a1 (al (u2 s2))) <|
  .br (fun a2 =>
  .br (fun a3 =>
   .br (fun a4 =>
   .rt [81, 87, 97] [] [] [] [] [] (aj (aj a2 (aj (u2 (u2 (ag a3 (ag a3 (ag a3 (ag a3 (u2 (ag a4 (ag a4 (ag a4 (ag a4 s2))))))))))) (aj (u2 (u2 (u2 (aj t3 (u2 s2))))) (al (u2 (u2 (aj (k2 n11) s2))))))) (al (aj t5 t2))))
   (fun a4 =>
   .rt [81, 87, 96] [] [] [] [] [] (aj (aj a2 (aj (u2 (u2 (ag a3 (ag a3 (ag a3 (ag a3 (u2 (aj a4 (aj a4 (aj a4 (ag a4 s2))))))))))) (aj (u2 (u2 (u2 (aj t3 (u2 s2))))) (al (u2 (u2 (aj (k2 n11) s2))))))) (al (aj t5 t2)))))
  (fun a3 =>
   .rt [81, 86] [] [] [] [] [] (aj (aj a2 (aj (u2 (u2 (aj a3 (aj a3 (aj a3 (ag a3 (u2 (k3 (aj t3 s2))))))))) (aj (u2 (u2 (u2 (aj t3 (u2 s2))))) (al (u2 (u2 (aj (k2 n11) s2))))))) (al (aj t5 t2)))))
  (fun a2 =>
  .rn 0 [80] [] [] [] (aj a2 (al (u2 s2))) <|
  .br (fun a3 =>
   have c0 := rat_c (x);
   .rt [119] [] [(62, hK c0 [] [])] [] [] [] (aj (aj a3 (aj (u2 (aj (ak (aj t5 (al (c0)))) s2)) (aj (u2 s2) (al (u2 (u2 (aj (k2 n11) s2))))))) (al (aj t5 t2))))
  (fun a3 =>
   .rn 0 [118] [] [] [] (aj a3 (al (u2 s2))) <|
   .br (fun a4 =>
   .br (fun a5 =>
    .br (fun a6 =>
    .rt [133, 139, 147] [] [] [] [] [] (aj (aj a4 (aj (u2 (u2 (ag a5 (ag a5 (ag a5 (u2 (ag a6 (ag a6 (ag a6 (ag a6 s2)))))))))) (aj (u2 s2) (al (u2 (u2 (aj (k2 n11) s2))))))) (al (aj t5 t2))))
    (fun a6 =>
    .rt [133, 139, 146] [] [] [] [] [] (aj (aj a4 (aj (u2 (u2 (ag a5 (ag a5 (ag a5 (u2 (aj a6 (aj a6 (aj a6 (ag a6 s2)))))))))) (aj (u2 s2) (al (u2 (u2 (aj (k2 n11) s2))))))) (al (aj t5 t2)))))
   (fun a5 =>
    .rt [133, 138] [] [] [] [] [] (aj (aj a4 (aj (u2 (u2 (aj a5 (aj a5 (ag a5 (u2 (k3 (aj t3 s2)))))))) (aj (u2 s2) (al (u2 (u2 (aj (k2 n11) s2))))))) (al (aj t5 t2)))))
   (fun a4 =>
   .rn 0 [132] [] [] [] (aj a4 (al (u2 s2))) <|
   .br (fun a5 =>
    .rt [163] [] [] [] [] [] (aj (aj a5 (aj (u2 s2) (al (u2 (u2 (aj (k2 n11) s2)))))) (al (aj t5 t2))))
   (fun a5 =>
    .br (fun a6 =>
    .br (fun a7 =>
     have c0 := rat_c (x);
     .rt [162, 177, 183] [] [(90, hK c0 [] [])] [] [] [] (aj (aj a5 (al (ak (u2 (u2 (ag a6 (aj (aj a6 (ak (aj t5 (al (c0))))) (ag a6 (aj a7 (aj a7 (aj (aj a6 (aj a7 t2)) (ag a6 (aj (k2 n11) s2))))))))))))) (al (aj t5 t2))))
    (fun a7 =>
     have c0 := rat_c (x);
     .rt [162, 177, 182] [] [(90, hK c0 [] [])] [] [] [] (aj (aj a5 (al (ak (u2 (u2 (ag a6 (aj (aj a6 (ak (aj t5 (al (c0))))) (ag a6 (ag a7 (ag a7 (aj (aj a6 (aj a7 t2)) (ag a6 (aj (k2 n11) s2))))))))))))) (al (aj t5 t2)))))
    (fun a6 =>
    .rt [162, 176] [] [] [] [] [] (aj (aj a5 (al (ak (u2 (u2 (aj a6 (aj a6 (aj a6 (k2 (aj a6 (ag a6 (aj (k2 n11) s2)))))))))))) (al (aj t5 t2))))))))))) (by kernel_rfl)
theorem rcg_ct (n : NetD) (x : BdD) (q c : Int) (r : Ret) (h : MReach (rcgStep n x q c) (rcgEn n x q c) r) : CT Try.prog 57 ([]) ([netA n, bdA x, .int .i64 q, .int .i64 c]) r.1 r.2 :=
  CT.mach (fn := Try.f57) (c := bodyOf Try.f57) (S := rcgSt n x q c) (hd := rcgHd) Try.func57 (by kernel_rfl) (Nat.le_of_ble_eq_true rfl)
    (fun s o ho => match s, ho with
      | x, _ => x.elim)
    (fun o ho => rcgEn_ok n x q c o ho) h
noncomputable def fpSt (x : BdD) : Empty → St
  | x => x.elim
def fpHd : Empty → Nat
  | x => x.elim
noncomputable def fpEn (x : BdD) : Option (Empty ⊕ Ret) :=
  br (!onF x)
  (some (.inr ([], AV.nils)))
  (br (!(onF x && x.t != -1))
   (some (.inr ([], AV.lst [AV.int IntKind.i64 x.c])))
   (br (x.t == x.c)
    (some (.inr ([], AV.lst [AV.int IntKind.i64 x.c])))
    (some (.inr ([], AV.lst [AV.int IntKind.i64 (if x.t < x.c then x.t else x.c), AV.int IntKind.i64 (if x.c < x.t then x.t else x.c)])))))
noncomputable def fpStep (x : BdD) : Empty → Option (Empty ⊕ Ret)
  | x => x.elim
theorem fpEn_ok (x : BdD) (o : Empty ⊕ Ret) (h : fpEn x = some o) : Arr Try.prog Try.f18 0 (fpSt x) fpHd (bodyOf Try.f18) [] { n := Try.f18.ntmps, fr := enumF 0 ([bdA x]), hp := ([]) } o :=
 Scr.ok h mix (
 have c0 := onf_c (x);
 .rn 1 [] [] [(5, hK c0 [] [])] [] (ag t2 (al (u2 (aj (ak (aj t5 (al (c0)))) (u2 s2))))) <|
 .br (fun a0 =>
 .rt [7] [] [] [] [] [] (aj (aj a0 s2) t2))
 (fun a0 =>
 .br (fun a1 =>
  have c1 := inr_c (x);
  .rt [6, 23] [] [(9, hK c1 [] [])] [] [] [1] (aj (aj a0 (aj (u2 (aj (ak (aj t5 (al (c1)))) (u2 (u2 (aj a1 (aj a1 (aj a1 (aj a1 (aj a1 (ag a1 s2)))))))))) (ak (al (u2 (u2 (u2 s2))))))) (al (show 1 = [iv x.c].length by simp))))
 (fun a1 =>
  have c1 := inr_c (x);
  .rn 0 [6, 22] [] [(9, hK c1 [] [])] [] (aj a0 (al (u2 (aj (ak (aj t5 (al (c1)))) (u2 (u2 (ag a1 (ag a1 (ag a1 (ag a1 (aj (aj a1 t3) (ag a1 s2)))))))))))) <|
  .br (fun a2 =>
  .rt [22, 15] [] [] [] [] [1] (aj (aj a2 (al (u2 (u2 (u2 s2))))) (al (show 1 = [iv x.c].length by simp))))
  (fun a2 =>
  .rt [22, 14] [] [] [] [] [1] (aj (aj a2 (al (u2 (u2 (u2 (u2 (aj t3 (u2 (u2 (u2 (u2 (aj t3 (aj t3 s2))))))))))))) (al (show 2 = [iv (if x.t < x.c then x.t else x.c), iv (if x.c < x.t then x.t else x.c)].length by simp))))))) (by kernel_rfl)
theorem fp_ct (x : BdD) (r : Ret) (h : MReach (fpStep x) (fpEn x) r) : CT Try.prog 18 ([]) ([bdA x]) r.1 r.2 :=
  CT.mach (fn := Try.f18) (c := bodyOf Try.f18) (S := fpSt x) (hd := fpHd) Try.func18 (by kernel_rfl) (Nat.le_of_ble_eq_true rfl)
    (fun s o ho => match s, ho with
      | x, _ => x.elim)
    (fun o ho => fpEn_ok x o ho) h
noncomputable def bdySt (L : List Int) (kk : Nat) (n : Int) : Empty → St
  | x => x.elim
def bdyHd : Empty → Nat
  | x => x.elim
noncomputable def bdyEn (L : List Int) (kk : Nat) (n : Int) : Option (Empty ⊕ Ret) :=
  gu (kk < 9223372036854775807) <|
  gu (kk + 1 < 9223372036854775807) <|
  gu (kk + 1 + 1 < 9223372036854775807) <|
  gu (kk + 1 + 1 + 1 < 9223372036854775807) <|
  br (nextZ L (kk + 1 + 1 + 1) 3 == 0)
  (gu (kk + 1 + 1 + 1 + 1 < 9223372036854775807) <|
   some (.inr ([some (Blk.mk [AV.agg [AV.lst (List.map (AV.int IntKind.i64) L), AV.int IntKind.i64 (iN (kk + 1 + 1 + 1 + 1 + 1))]] 2 true true none)], AV.agg [AV.int IntKind.i64 (IntKind.i64.wrap (nextZ L kk (IntKind.i64.wrap (n + 1)) - 1)), AV.int IntKind.i64 (nextZ L (kk + 1 + 1 + 1 + 1) n), AV.bool (nextZ L (kk + 1) 4 == 0), AV.bool (nextZ L (kk + 1 + 1) 5 == 0)])))
  (some (.inr ([some (Blk.mk [AV.agg [AV.lst (List.map (AV.int IntKind.i64) L), AV.int IntKind.i64 (iN (kk + 1 + 1 + 1 + 1))]] 2 true true none)], AV.agg [AV.int IntKind.i64 (IntKind.i64.wrap (nextZ L kk (IntKind.i64.wrap (n + 1)) - 1)), AV.int IntKind.i64 (-1), AV.bool (nextZ L (kk + 1) 4 == 0), AV.bool (nextZ L (kk + 1 + 1) 5 == 0)])))
noncomputable def bdyStep (L : List Int) (kk : Nat) (n : Int) : Empty → Option (Empty ⊕ Ret)
  | x => x.elim
theorem bdyEn_ok (L : List Int) (kk : Nat) (n : Int) (o : Empty ⊕ Ret) (h : bdyEn L kk n = some o) : Arr Try.prog Try.f20 1 (bdySt L kk n) bdyHd (bodyOf Try.f20) [] { n := Try.f20.ntmps, fr := enumF 0 ([.ptr 0 0 0, .int .i64 n]), hp := ([some (tapeB L kk)]) } o :=
 Scr.ok h mix (
 .rn 0 [] [] [] [] s2 <|
 .gu fun a0 =>
 .gu fun a1 =>
 .gu fun a2 =>
 have c0 := next_ct (L) (kk) (IntKind.i64.wrap (n + 1)) a0;
 have c1 := next_ct (L) (kk + 1) (4) a1;
 have c2 := next_ct (L) (kk + 1 + 1) (5) a2;
 .rn 0 [] [] [(9, hK c0 [0] []), (12, hK c1 [0] []), (15, hK c2 [0] [])] [] (al (u2 (u2 (u2 (aj (k5 (al (c0))) (u2 (u2 (aj (ak (k3 (al (c1)))) (u2 (u2 (aj (ak (k3 (al (c2)))) (u2 (aj t4 (ak (al (k2 n11)))))))))))))))) <|
 .gu fun a3 =>
 have c3 := next_ct (L) (kk + 1 + 1 + 1) (3) a3;
 .rn 0 [] [] [(19, hK c3 [0] [])] [] (al (u2 (aj (ak (k3 (al (c3)))) s2))) <|
 .br (fun a4 =>
 .gu fun a5 =>
 have c4 := next_ct (L) (kk + 1 + 1 + 1 + 1) (n) a5;
 .rt [41] [] [(23, hK c4 [0] [])] [] [0] [] (aj (aj a4 (aj (u2 (u2 (aj (k5 (al (c4))) (u2 (al t3))))) (al (u2 (al (k2 n11)))))) (aj t5 t2)))
 (fun a4 =>
 .rt [40] [] [] [] [0] [] (aj (aj a4 (al (u2 (al (k2 n11))))) (aj t5 t2)))) (by kernel_rfl)
theorem bdy_ct (L : List Int) (kk : Nat) (n : Int) (r : Ret) (h : MReach (bdyStep L kk n) (bdyEn L kk n) r) : CT Try.prog 20 ([some (tapeB L kk)]) ([.ptr 0 0 0, .int .i64 n]) r.1 r.2 :=
  CT.mach (fn := Try.f20) (c := bodyOf Try.f20) (S := bdySt L kk n) (hd := bdyHd) Try.func20 (by kernel_rfl) (Nat.le_of_ble_eq_true rfl)
    (fun s o ho => match s, ho with
      | x, _ => x.elim)
    (fun o ho => bdyEn_ok L kk n o ho) h
end Go.Proofs.Ytlogjpmajgbgaaa
namespace Go.Proofs.Ytlogjpmajgbgaaa
noncomputable def putO (l : List BdD) (q c : Int) : List BdD × Int := if c < 0 ∨ 48 ≤ c then ([], 19) else doX l q fun x => if (!onF x) = true then some (BdD.mk c (-1) false false) else none
noncomputable def bgO (n : NetD) (l : List BdD) (q c : Int) : List BdD × Int := if c < 0 ∨ 48 ≤ c then ([], 19) else doX l q fun x => if (atR x && folB n x.c c) = true then some (BdD.mk x.c c x.s x.f) else none
noncomputable def enO (l : List BdD) (q : Int) : List BdD × Int := doX l q fun x => if (onF x && (x.t != -1 && !x.f)) = true then some (BdD.mk x.t (-1) x.s x.f) else none
noncomputable def wkO (l : List BdD) (q : Int) : List BdD × Int := doX l q fun x => if atR x = true then some (BdD.mk x.c x.t true x.f) else none
noncomputable def fnO (l : List BdD) (q : Int) : List BdD × Int := doX l q fun x => if (onF x && (x.s && !x.f)) = true then some (BdD.mk x.c x.t false x.f) else none
noncomputable def faO (l : List BdD) (q : Int) : List BdD × Int := doX l q fun x => if onF x = true then some (BdD.mk x.c x.t x.s true) else none
noncomputable def lfO (l : List BdD) (q : Int) : List BdD × Int := doX l q fun x => if (onF x && (atR x || x.f)) = true then some (BdD.mk (-1) (-1) false false) else none
theorem wnB {c : Int} : (!(decide (0 ≤ c) && decide (c < 48))) = decide (c < 0 ∨ 48 ≤ c) := by
  by_cases h0 : c < 0
  · rw [dec_f (show ¬ 0 ≤ c by omega), decide_eq_true (show c < 0 ∨ 48 ≤ c from .inl h0)]; rfl
  · by_cases h1 : 48 ≤ c
    · rw [dec_t (show 0 ≤ c by omega), dec_f (show ¬ c < 48 by omega), decide_eq_true (show c < 0 ∨ 48 ≤ c from .inr h1)]; rfl
    · rw [dec_t (show 0 ≤ c by omega), dec_t (show c < 48 by omega), decide_eq_false (show ¬ (c < 0 ∨ 48 ≤ c) by omega)]; rfl
theorem pu_c (l : List BdD) (q c : Int) (hl : l.length ≤ 5864062014634) : CT Try.prog 13 [] [.lst (l.map bdA), .int .i64 q, .int .i64 c] [some (Blk.mk ((putO l q c).1.map bdA) 4 true true none)] (.tup [.sl 0 0 (putO l q c).1.length, .int .i64 (putO l q c).2]) := by
  unfold putO
  by_cases h : c < 0 ∨ 48 ≤ c
  · rw [if_pos h]
    exact virtTup 4 (pu_ct l q c ([], _) (.val (show puEn l q c = _ by unfold puEn; rw [wnB, br_t (decide_eq_true h)])))
  · rw [if_neg h]
    exact pu_ct l q c ([_], _) (.val (show puEn l q c = _ by unfold puEn; rw [wnB, br_f (decide_eq_false h), gu_t hl]))
theorem bg_c (n : NetD) (l : List BdD) (q c : Int) (hl : l.length ≤ 5864062014634) (hrw : Rows n.nx) : CT Try.prog 16 [] [netA n, .lst (l.map bdA), .int .i64 q, .int .i64 c] [some (Blk.mk ((bgO n l q c).1.map bdA) 4 true true none)] (.tup [.sl 0 0 (bgO n l q c).1.length, .int .i64 (bgO n l q c).2]) := by
  unfold bgO
  by_cases h : c < 0 ∨ 48 ≤ c
  · rw [if_pos h]
    exact virtTup 4 (bg_ct n l q c ([], _) (.val (show bgEn n l q c = _ by unfold bgEn; rw [wnB, br_t (decide_eq_true h)])))
  · rw [if_neg h]
    exact bg_ct n l q c ([_], _) (.val (show bgEn n l q c = _ by unfold bgEn; rw [wnB, br_f (decide_eq_false h), gu_t hl, gu_t hrw]))
theorem en_c (l : List BdD) (q : Int) (hl : l.length ≤ 5864062014634) : CT Try.prog 19 [] [.lst (l.map bdA), .int .i64 q] [some (Blk.mk ((enO l q).1.map bdA) 4 true true none)] (.tup [.sl 0 0 (enO l q).1.length, .int .i64 (enO l q).2]) := by
  unfold enO
  exact en_ct l q ([_], _) (.val (show enEn l q = _ by unfold enEn; rw [gu_t hl]))
theorem wk_c (l : List BdD) (q : Int) (hl : l.length ≤ 5864062014634) : CT Try.prog 55 [] [.lst (l.map bdA), .int .i64 q] [some (Blk.mk ((wkO l q).1.map bdA) 4 true true none)] (.tup [.sl 0 0 (wkO l q).1.length, .int .i64 (wkO l q).2]) := by
  unfold wkO
  exact wk_ct l q ([_], _) (.val (show wkEn l q = _ by unfold wkEn; rw [gu_t hl]))
theorem fn_c (l : List BdD) (q : Int) (hl : l.length ≤ 5864062014634) : CT Try.prog 56 [] [.lst (l.map bdA), .int .i64 q] [some (Blk.mk ((fnO l q).1.map bdA) 4 true true none)] (.tup [.sl 0 0 (fnO l q).1.length, .int .i64 (fnO l q).2]) := by
  unfold fnO
  exact fn_ct l q ([_], _) (.val (show fnEn l q = _ by unfold fnEn; rw [gu_t hl]))
theorem fa_c (l : List BdD) (q : Int) (hl : l.length ≤ 5864062014634) : CT Try.prog 25 [] [.lst (l.map bdA), .int .i64 q] [some (Blk.mk ((faO l q).1.map bdA) 4 true true none)] (.tup [.sl 0 0 (faO l q).1.length, .int .i64 (faO l q).2]) := by
  unfold faO
  exact fa_ct l q ([_], _) (.val (show faEn l q = _ by unfold faEn; rw [gu_t hl]))
theorem lf_c (l : List BdD) (q : Int) (hl : l.length ≤ 5864062014634) : CT Try.prog 26 [] [.lst (l.map bdA), .int .i64 q] [some (Blk.mk ((lfO l q).1.map bdA) 4 true true none)] (.tup [.sl 0 0 (lfO l q).1.length, .int .i64 (lfO l q).2]) := by
  unfold lfO
  exact lf_ct l q ([_], _) (.val (show lfEn l q = _ by unfold lfEn; rw [gu_t hl]))
noncomputable def chP (n : NetD) (w c : Int) (x : BdD) : Bool := if w = 0 then !onF x else if w = 1 then atR x && folB n x.c c else if w = 2 then onF x && (x.t != -1 && !x.f) else if w = 3 then atR x else if w = 4 then onF x && (x.s && !x.f) else if w = 5 then onF x else onF x && (atR x || x.f)
def chF (w c : Int) (x : BdD) : BdD := if w = 0 then ⟨c, -1, false, false⟩ else if w = 1 then ⟨x.c, c, x.s, x.f⟩ else if w = 2 then ⟨x.t, -1, x.s, x.f⟩ else if w = 3 then ⟨x.c, x.t, true, x.f⟩ else if w = 4 then ⟨x.c, x.t, false, x.f⟩ else if w = 5 then ⟨x.c, x.t, x.s, true⟩ else ⟨-1, -1, false, false⟩
noncomputable def dooO (n : NetD) (l : List BdD) (q w c : Int) : List BdD × Int := if c < 0 ∨ 48 ≤ c then ([], 19) else doX l q fun x => if chP n w c x = true then some (chF w c x) else none
noncomputable def actO (n : NetD) (l : List BdD) (q w c : Int) : List BdD × Int := if w = 0 then putO l q c else if w = 1 then bgO n l q c else if w = 2 then enO l q else if w = 3 then wkO l q else if w = 4 then fnO l q else if w = 5 then faO l q else lfO l q
theorem act_doo (n : NetD) (l : List BdD) (q w c : Int) (h : w = 0 ∨ w = 1 ∨ (0 ≤ c ∧ c < 48)) : actO n l q w c = dooO n l q w c := by
  unfold actO dooO chP chF
  by_cases h0 : w = 0
  · simp only [h0, if_true]; rfl
  by_cases h1 : w = 1
  · simp only [h1, if_true, show ((1 : Int) = 0) = False from by simp, if_false]; rfl
  simp only [if_neg h0, if_neg h1, if_neg (show ¬ (c < 0 ∨ 48 ≤ c) by omega)]
  by_cases h2 : w = 2
  · simp only [if_pos h2]; rfl
  simp only [if_neg h2]
  by_cases h3 : w = 3
  · simp only [if_pos h3]; rfl
  simp only [if_neg h3]
  by_cases h4 : w = 4
  · simp only [if_pos h4]; rfl
  simp only [if_neg h4]
  by_cases h5 : w = 5
  · simp only [if_pos h5]; rfl
  simp only [if_neg h5]; rfl
theorem rcg_c (n : NetD) (x : BdD) (q c : Int) (hrw : Rows n.nx) : CT Try.prog 57 [] [netA n, bdA x, .int .i64 q, .int .i64 c] [] (.tup [bdA (chF q c x), .bool (chP n q c x)]) := by
  refine rcg_ct n x q c ([], _) (.val ?_)
  unfold rcgEn chF chP
  by_cases h0 : q = 0
  · rw [br_t (beq_iff_eq.2 h0), if_pos h0, if_pos h0]; rfl
  rw [br_f (beq_eq_false_iff_ne.2 h0), if_neg h0, if_neg h0]
  by_cases h1 : q = 1
  · rw [br_t (beq_iff_eq.2 h1), if_pos h1, if_pos h1, gu_t hrw]; cases atR x <;> rfl
  rw [br_f (beq_eq_false_iff_ne.2 h1), if_neg h1, if_neg h1]
  by_cases h2 : q = 2
  · rw [br_t (beq_iff_eq.2 h2), if_pos h2, if_pos h2]; unfold onF; cases x.c != -1 <;> cases x.t != -1 <;> rfl
  rw [br_f (beq_eq_false_iff_ne.2 h2), if_neg h2, if_neg h2]
  by_cases h3 : q = 3
  · rw [br_t (beq_iff_eq.2 h3), if_pos h3, if_pos h3]; rfl
  rw [br_f (beq_eq_false_iff_ne.2 h3), if_neg h3, if_neg h3]
  by_cases h4 : q = 4
  · rw [br_t (beq_iff_eq.2 h4), if_pos h4, if_pos h4]; unfold onF; cases x.c != -1 <;> cases x.s <;> rfl
  rw [br_f (beq_eq_false_iff_ne.2 h4), if_neg h4, if_neg h4]
  by_cases h5 : q = 5
  · rw [br_t (beq_iff_eq.2 h5), if_pos h5, if_pos h5]; rfl
  rw [br_f (beq_eq_false_iff_ne.2 h5), if_neg h5, if_neg h5]
  unfold onF; cases x.c != -1 <;> cases atR x <;> rfl
def fpL (x : BdD) : List Int := if onF x = false then [] else if (onF x && x.t != -1) = false ∨ x.t = x.c then [x.c] else [if x.t < x.c then x.t else x.c, if x.c < x.t then x.t else x.c]
theorem fp_c (x : BdD) : CT Try.prog 18 [] [bdA x] [] (lI (fpL x)) := by
  unfold fpL
  cases h0 : onF x with
  | false => exact (fp_ct x ([], _) (.val (show fpEn x = _ by unfold fpEn; rw [h0, br_t (by rfl)]))).to rfl rfl
  | true =>
    rw [if_neg (by simp)]
    refine fp_ct x ([], _) (.val ?_)
    unfold fpEn
    rw [h0, br_f (by rfl), Bool.true_and]
    cases h1 : x.t != -1 with
    | false => rw [br_t (by rfl), if_pos (.inl rfl)]; rfl
    | true =>
      rw [br_f (by rfl)]
      by_cases h2 : x.t = x.c
      · rw [br_t (beq_iff_eq.2 h2), if_pos (.inr h2)]; rfl
      · rw [br_f (beq_eq_false_iff_ne.2 h2), if_neg (show ¬ (true = false ∨ x.t = x.c) from fun e => e.elim (fun e => by cases e) h2)]; rfl
noncomputable def bdyM (L : List Int) (kk : Nat) (n : Int) : BdD := ⟨nextZ L kk (n + 1) - 1, if nextZ L (kk + 1 + 1 + 1) 3 = 0 then nextZ L (kk + 1 + 1 + 1 + 1) n else -1, nextZ L (kk + 1) 4 == 0, nextZ L (kk + 1 + 1) 5 == 0⟩
noncomputable def bdyK (L : List Int) (kk : Nat) : Nat := if nextZ L (kk + 1 + 1 + 1) 3 = 0 then kk + 5 else kk + 4
theorem bdy_c (L : List Int) (kk : Nat) (n : Int) (hk : kk ≤ 100000) (hn : 0 ≤ n ∧ n ≤ 50000) : CT Try.prog 20 [some (tapeB L kk)] [.ptr 0 0 0, .int .i64 n] [some (tapeB L (bdyK L kk))] (bdA (bdyM L kk n)) := by
  have w1 : IntKind.i64.wrap (n + 1) = n + 1 := wrap_in (by omega) (by omega)
  have r := nextZ_rng L kk (n + 1) (by omega) (by omega)
  have w2 : IntKind.i64.wrap (nextZ L kk (n + 1) - 1) = nextZ L kk (n + 1) - 1 := wrap_in (by omega) (by omega)
  refine bdy_ct L kk n ([_], _) (.val ?_)
  unfold bdyEn bdyM bdyK
  rw [gu_t (by omega), gu_t (by omega), gu_t (by omega), gu_t (by omega), w1, w2]
  by_cases h : nextZ L (kk + 1 + 1 + 1) 3 = 0
  · rw [br_t (beq_iff_eq.2 h), gu_t (by omega), if_pos h, if_pos h]; rfl
  · rw [br_f (beq_eq_false_iff_ne.2 h), if_neg h, if_neg h]; rfl
noncomputable def actSt (n : NetD) (l : List BdD) (q w c : Int) : Empty → St
  | x => x.elim
def actHd : Empty → Nat
  | x => x.elim
noncomputable def actEn (n : NetD) (l : List BdD) (q w c : Int) : Option (Empty ⊕ Ret) :=
  br (w == 0)
  (gu (l.length ≤ 5864062014634) <|
   some (.inr ([some (Blk.mk (List.map bdA (putO l q c).fst) 4 true true none)], AV.tup [AV.sl 0 0 (putO l q c).fst.length, AV.int IntKind.i64 (putO l q c).snd])))
  (br (w == 1)
   (gu (l.length ≤ 5864062014634) <|
    gu (Rows n.nx) <|
    some (.inr ([some (Blk.mk (List.map bdA (bgO n l q c).fst) 4 true true none)], AV.tup [AV.sl 0 0 (bgO n l q c).fst.length, AV.int IntKind.i64 (bgO n l q c).snd])))
   (br (w == 2)
    (gu (l.length ≤ 5864062014634) <|
     some (.inr ([some (Blk.mk (List.map bdA (enO l q).fst) 4 true true none)], AV.tup [AV.sl 0 0 (enO l q).fst.length, AV.int IntKind.i64 (enO l q).snd])))
    (br (w == 3)
     (gu (l.length ≤ 5864062014634) <|
      some (.inr ([some (Blk.mk (List.map bdA (wkO l q).fst) 4 true true none)], AV.tup [AV.sl 0 0 (wkO l q).fst.length, AV.int IntKind.i64 (wkO l q).snd])))
     (br (w == 4)
      (gu (l.length ≤ 5864062014634) <|
       some (.inr ([some (Blk.mk (List.map bdA (fnO l q).fst) 4 true true none)], AV.tup [AV.sl 0 0 (fnO l q).fst.length, AV.int IntKind.i64 (fnO l q).snd])))
      (br (w == 5)
       (gu (l.length ≤ 5864062014634) <|
        some (.inr ([some (Blk.mk (List.map bdA (faO l q).fst) 4 true true none)], AV.tup [AV.sl 0 0 (faO l q).fst.length, AV.int IntKind.i64 (faO l q).snd])))
       (gu (l.length ≤ 5864062014634) <|
        some (.inr ([some (Blk.mk (List.map bdA (lfO l q).fst) 4 true true none)], AV.tup [AV.sl 0 0 (lfO l q).fst.length, AV.int IntKind.i64 (lfO l q).snd]))))))))
noncomputable def actStep (n : NetD) (l : List BdD) (q w c : Int) : Empty → Option (Empty ⊕ Ret)
  | x => x.elim
theorem actEn_ok (n : NetD) (l : List BdD) (q w c : Int) (o : Empty ⊕ Ret) (h : actEn n l q w c = some o) : Arr Try.prog Try.f22 0 (actSt n l q w c) actHd (bodyOf Try.f22) [] { n := Try.f22.ntmps, fr := enumF 0 ([netA n, .lst (l.map bdA), .int .i64 q, .int .i64 w, .int .i64 c]), hp := ([]) } o :=
 Scr.ok h mix (
 .rn 2 [] [] [] [] (aj (u2 t3) (aj s2 (al (u2 s2)))) <|
 .br (fun a0 =>
 .gu fun a1 =>
 have c0 := pu_c (l) (q) (c) a1;
 .rt [27] [] [(18, hK c0 [] [])] [] [1] [] (aj (aj a0 (al (u2 (u2 (u2 (aj (ak (k5 (al (c0)))) (u2 (u2 (u2 s2))))))))) (aj t3 t2)))
 (fun a0 =>
 .rn 0 [26] [] [] [] (aj a0 (al (u2 s2))) <|
 .br (fun a1 =>
  .gu fun a2 =>
  .gu fun a3 =>
  have c0 := bg_c (n) (l) (q) (c) a2 a3;
  .rt [43] [] [(27, hK c0 [] [])] [] [1] [] (aj (aj a1 (al (u2 (u2 (u2 (u2 (aj (ak (k3 (aj t9 (k3 (al (c0)))))) (u2 (u2 (u2 s2)))))))))) (aj t3 t2)))
 (fun a1 =>
  .rn 0 [42] [] [] [] (aj a1 (al (u2 s2))) <|
  .br (fun a2 =>
  .gu fun a3 =>
  have c0 := en_c (l) (q) a3;
  .rt [61] [] [(34, hK c0 [] [])] [] [1] [] (aj (aj a2 (al (u2 (u2 (aj (ak (k3 (al (c0)))) (u2 (u2 (u2 s2)))))))) (aj t3 t2)))
  (fun a2 =>
  .rn 0 [60] [] [] [] (aj a2 (al (u2 s2))) <|
  .br (fun a3 =>
   .gu fun a4 =>
   have c0 := wk_c (l) (q) a4;
   .rt [75] [] [(41, hK c0 [] [])] [] [1] [] (aj (aj a3 (al (u2 (u2 (aj (ak (k3 (al (c0)))) (u2 (u2 (u2 s2)))))))) (aj t3 t2)))
  (fun a3 =>
   .rn 0 [74] [] [] [] (aj a3 (al (u2 s2))) <|
   .br (fun a4 =>
   .gu fun a5 =>
   have c0 := fn_c (l) (q) a5;
   .rt [89] [] [(48, hK c0 [] [])] [] [1] [] (aj (aj a4 (al (u2 (u2 (aj (ak (k3 (al (c0)))) (u2 (u2 (u2 s2)))))))) (aj t3 t2)))
   (fun a4 =>
   .rn 0 [88] [] [] [] (aj a4 (al (u2 s2))) <|
   .br (fun a5 =>
    .gu fun a6 =>
    have c0 := fa_c (l) (q) a6;
    .rt [103] [] [(55, hK c0 [] [])] [] [1] [] (aj (aj a5 (al (u2 (u2 (aj (ak (k3 (al (c0)))) (u2 (u2 (u2 s2)))))))) (aj t3 t2)))
   (fun a5 =>
    .gu fun a6 =>
    have c0 := lf_c (l) (q) a6;
    .rt [102] [] [(60, hK c0 [] [])] [] [1] [] (aj (aj a5 (al (u2 (u2 (aj (ak (k3 (al (c0)))) (u2 (u2 (u2 s2)))))))) (aj t3 t2))))))))) (by kernel_rfl)
theorem act_ct (n : NetD) (l : List BdD) (q w c : Int) (r : Ret) (h : MReach (actStep n l q w c) (actEn n l q w c) r) : CT Try.prog 22 ([]) ([netA n, .lst (l.map bdA), .int .i64 q, .int .i64 w, .int .i64 c]) r.1 r.2 :=
  CT.mach (fn := Try.f22) (c := bodyOf Try.f22) (S := actSt n l q w c) (hd := actHd) Try.func22 (by kernel_rfl) (Nat.le_of_ble_eq_true rfl)
    (fun s o ho => match s, ho with
      | x, _ => x.elim)
    (fun o ho => actEn_ok n l q w c o ho) h
noncomputable def dooSt (n : NetD) (l : List BdD) (q w c : Int) : Empty → St
  | x => x.elim
def dooHd : Empty → Nat
  | x => x.elim
noncomputable def dooEn (n : NetD) (l : List BdD) (q w c : Int) : Option (Empty ⊕ Ret) :=
  br (decide (q < 0))
  (some (.inr ([], AV.tup [AV.nils, AV.int IntKind.i64 19])))
  (br (decide (iN (List.map bdA l).length ≤ q))
   (some (.inr ([], AV.tup [AV.nils, AV.int IntKind.i64 19])))
   (br (decide (c < 0))
    (some (.inr ([], AV.tup [AV.nils, AV.int IntKind.i64 19])))
    (br (decide (48 ≤ c))
     (some (.inr ([], AV.tup [AV.nils, AV.int IntKind.i64 19])))
     (gu (0 ≤ q) <|
      el (l) (q.toNat) fun (x35 : BdD) =>
      gu (Rows n.nx) <|
      br (!chP n w c x35)
      (some (.inr ([], AV.tup [AV.nils, AV.int IntKind.i64 24])))
      (gu (∀ (e : AV), e ∈ List.map bdA l → e.cells.length = 4) <|
       gu ((List.map bdA l).length ≤ 9223372036854775807) <|
       gu ((List.map bdA l).length * 24 ≤ 140737488355328) <|
       gu (q < iN (List.map bdA l).length) <|
       gu ((0 + q.toNat).succ.le (List.map bdA l).length) <|
       some (.inr ([some (Blk.mk ((List.map bdA l).set (0 + q.toNat) (AV.agg [AV.int IntKind.i64 (chF w c x35).c, AV.int IntKind.i64 (chF w c x35).t, AV.bool (chF w c x35).s, AV.bool (chF w c x35).f])) 4 true true none)], AV.tup [AV.sl 0 0 (List.map bdA l).length, AV.int IntKind.i64 0])))))))
noncomputable def dooStep (n : NetD) (l : List BdD) (q w c : Int) : Empty → Option (Empty ⊕ Ret)
  | x => x.elim
theorem dooEn_ok (n : NetD) (l : List BdD) (q w c : Int) (o : Empty ⊕ Ret) (h : dooEn n l q w c = some o) : Arr Try.prog Try.f23 0 (dooSt n l q w c) dooHd (bodyOf Try.f23) [] { n := Try.f23.ntmps, fr := enumF 0 ([netA n, .lst (l.map bdA), .int .i64 q, .int .i64 w, .int .i64 c]), hp := ([]) } o :=
 Scr.ok h mix (
 .rn 0 [] [] [] [] (al (u2 t3)) <|
 .br (fun a0 =>
 .rt [35] [] [] [] [] [] (aj (aj (u2 (u2 (u2 (aj a0 (aj a0 (aj a0 (aj a0 (ag a0 (u2 (k2 (aj t3 (u2 (k2 (al t3)))))))))))))) (ak (al t3))) (al t3)))
 (fun a0 =>
 .br (fun a1 =>
  .rt [34, 47] [] [] [] [] [] (aj (aj (u2 (u2 (u2 (ag a0 (ag a0 (ag a0 (aj (aj a0 t3) (ag a0 (u2 (aj a1 (aj a1 (ag a1 (u2 (k2 (al t3))))))))))))))) (ak (al t3))) (al t3)))
 (fun a1 =>
  .br (fun a2 =>
  .rt [34, 46, 55] [] [] [] [] [] (aj (aj (u2 (u2 (u2 (ag a0 (ag a0 (ag a0 (aj (aj a0 t3) (ag a0 (u2 (ag a1 (ag a1 (ag a1 (u2 (aj a2 (aj a2 (al (aj a2 t2))))))))))))))))) (ak (al t3))) (al t3)))
  (fun a2 =>
  .rn 0 [34, 46, 54] [] [] [] (al (u2 (u2 (u2 (ag a0 (ag a0 (ag a0 (aj (aj a0 t3) (ag a0 (u2 (ag a1 (ag a1 (ag a1 (u2 (ag a2 (ag a2 (al (aj a2 t2)))))))))))))))))) <|
  .br (fun a3 =>
   .rt [34, 46, 54, 61] [] [] [] [] [] (aj (aj a3 (al t3)) (al t3)))
  (fun a3 =>
   .gu fun a4 =>
   .el fun x35 a5 =>
   .gu fun a6 =>
   have c0 := rcg_c (n) (x35) (w) (c) a6;
   .rn 1 [34, 46, 54, 60] [(35, bdA x35)] [(39, hK c0 [] [])] [] (aj a3 (aj (u2 (u2 (u2 (aj (k2 (aj a4 (getMap (f := bdA) a5))) (u2 (u2 (u2 (aj (ak (k3 (aj t9 (aj t5 (k2 (al (c0))))))) (u2 (u2 (u2 (ak (aj (k2 n11) s2))))))))))))) (al (u2 s2)))) <|
   .br (fun a7 =>
   .rt [34, 46, 54, 87] [] [] [] [] [] (aj (aj a7 (al t3)) (al t3)))
   (fun a7 =>
   .gu fun a8 =>
   .gu fun a9 =>
   .gu fun a10 =>
   .rn 0 [34, 46, 54, 86] [] [] [] (aj a7 (al (u2 (aj (ak (aj a8 (aj a9 a10))) s2)))) <|
   .gu fun a11 =>
   .gu fun a12 =>
   .rt [34, 46, 54] [] [] [] [2] [] (aj (aj (u2 (u2 (u2 (aj (k2 (aj a4 a11)) (al (k2 a12)))))) (al (u2 (u2 t2)))) (aj t3 t2)))))))) (by kernel_rfl)
theorem doo_ct (n : NetD) (l : List BdD) (q w c : Int) (r : Ret) (h : MReach (dooStep n l q w c) (dooEn n l q w c) r) : CT Try.prog 23 ([]) ([netA n, .lst (l.map bdA), .int .i64 q, .int .i64 w, .int .i64 c]) r.1 r.2 :=
  CT.mach (fn := Try.f23) (c := bodyOf Try.f23) (S := dooSt n l q w c) (hd := dooHd) Try.func23 (by kernel_rfl) (Nat.le_of_ble_eq_true rfl)
    (fun s o ho => match s, ho with
      | x, _ => x.elim)
    (fun o ho => dooEn_ok n l q w c o ho) h
theorem act_c (n : NetD) (l : List BdD) (q w c : Int) (hl : l.length ≤ 5864062014634) (hrw : Rows n.nx) : CT Try.prog 22 [] [netA n, .lst (l.map bdA), .int .i64 q, .int .i64 w, .int .i64 c] [some (Blk.mk ((actO n l q w c).1.map bdA) 4 true true none)] (.tup [.sl 0 0 (actO n l q w c).1.length, .int .i64 (actO n l q w c).2]) := by
  refine act_ct n l q w c ([_], _) (.val ?_)
  unfold actEn actO
  by_cases h0 : w = 0
  · rw [br_t (beq_iff_eq.2 h0), gu_t hl, if_pos h0]
  rw [br_f (beq_eq_false_iff_ne.2 h0), if_neg h0]
  by_cases h1 : w = 1
  · rw [br_t (beq_iff_eq.2 h1), gu_t hl, gu_t hrw, if_pos h1]
  rw [br_f (beq_eq_false_iff_ne.2 h1), if_neg h1]
  by_cases h2 : w = 2
  · rw [br_t (beq_iff_eq.2 h2), gu_t hl, if_pos h2]
  rw [br_f (beq_eq_false_iff_ne.2 h2), if_neg h2]
  by_cases h3 : w = 3
  · rw [br_t (beq_iff_eq.2 h3), gu_t hl, if_pos h3]
  rw [br_f (beq_eq_false_iff_ne.2 h3), if_neg h3]
  by_cases h4 : w = 4
  · rw [br_t (beq_iff_eq.2 h4), gu_t hl, if_pos h4]
  rw [br_f (beq_eq_false_iff_ne.2 h4), if_neg h4]
  by_cases h5 : w = 5
  · rw [br_t (beq_iff_eq.2 h5), gu_t hl, if_pos h5]
  rw [br_f (beq_eq_false_iff_ne.2 h5), if_neg h5, gu_t hl]
theorem doo_c (n : NetD) (l : List BdD) (q w c : Int) (hl : l.length ≤ 5864062014634) (hrw : Rows n.nx) : CT Try.prog 23 [] [netA n, .lst (l.map bdA), .int .i64 q, .int .i64 w, .int .i64 c] [some (Blk.mk ((dooO n l q w c).1.map bdA) 4 true true none)] (.tup [.sl 0 0 (dooO n l q w c).1.length, .int .i64 (dooO n l q w c).2]) := by
  have hL : (List.map bdA l).length = l.length := List.length_map _
  unfold dooO doX
  by_cases hr : q < 0 ∨ (l.length : Int) ≤ q
  · have e : doo_ct = doo_ct := rfl
    have k : CT Try.prog 23 [] [netA n, .lst (l.map bdA), .int .i64 q, .int .i64 w, .int .i64 c] [] (.tup [.nils, .int .i64 19]) := doo_ct n l q w c ([], _) (.val (show dooEn n l q w c = _ by
      unfold dooEn
      by_cases hq : q < 0
      · rw [br_t (dec_t hq)]
      · rw [br_f (dec_f hq), br_t (dec_t (by simp only [iN, hL]; omega))]))
    simp only [if_pos hr]
    split <;> exact virtTup 4 k
  · by_cases hc : c < 0 ∨ 48 ≤ c
    · simp only [if_pos hc]
      refine virtTup 4 (doo_ct n l q w c ([], _) (.val (show dooEn n l q w c = _ from ?_)))
      unfold dooEn
      rw [br_f (dec_f (by omega)), br_f (dec_f (by simp only [iN, hL]; omega))]
      by_cases h0 : c < 0
      · rw [br_t (dec_t h0)]
      · rw [br_f (dec_f h0), br_t (dec_t (by omega))]
    · simp only [if_neg hc, if_neg hr]
      have hg := getE bd0 (show q.toNat < l.length by omega)
      cases hp : chP n w c (l.getD q.toNat bd0) with
      | false =>
        simp only [hp, Bool.false_eq_true, if_false]
        refine virtTup 4 (doo_ct n l q w c ([], _) (.val (show dooEn n l q w c = _ from ?_)))
        unfold dooEn
        rw [br_f (dec_f (by omega)), br_f (dec_f (by simp only [iN, hL]; omega)), br_f (dec_f (by omega)), br_f (dec_f (by omega)), gu_t (by omega), el_t hg, gu_t hrw, br_t (by rw [hp]; rfl)]
      | true =>
        simp only [hp, if_true, List.length_set]
        refine doo_ct n l q w c ([_], _) (.val (show dooEn n l q w c = _ from ?_))
        unfold dooEn
        rw [br_f (dec_f (by omega)), br_f (dec_f (by simp only [iN, hL]; omega)), br_f (dec_f (by omega)), br_f (dec_f (by omega)), gu_t (by omega), el_t hg, gu_t hrw, br_f (by rw [hp]; rfl), gu_t (fun e he => by obtain ⟨x, _, rfl⟩ := List.mem_map.1 he; rfl), gu_t (by rw [hL]; omega), gu_t (by rw [hL]; omega), gu_t (by simp only [iN, hL]; omega), gu_t (show (0 + q.toNat).succ.le (List.map bdA l).length by show 0 + q.toNat + 1 ≤ _; rw [hL]; omega), ← set_bd, hL]
        rfl
inductive idxPc where
  | l0 (v0 : Int)
noncomputable def idxSt (l : List Int) (x : Int) : idxPc → St
  | .l0 v0 => St.mk 19 [(0, AV.lst (List.map (iv) l)), (1, iv x), (7, iv (iN (List.map (iv) l).length)), (8, iv v0)] []
def idxHd : idxPc → Nat
  | .l0 _ => 0
noncomputable def idxEn (l : List Int) (x : Int) : Option (idxPc ⊕ Ret) :=
  some (.inl (.l0 ((0 : Int))))
noncomputable def idxS0 (l : List Int) (x : Int) (v0 : Int) : Option (idxPc ⊕ Ret) :=
  br (decide (v0 < iN (List.map (AV.int IntKind.i64) l).length))
  (gu (0 ≤ v0) <|
   el (l) (v0.toNat) fun (x14 : Int) =>
   br (x == x14)
   (some (.inr ([], AV.int IntKind.i64 v0)))
   (some (.inl (.l0 (IntKind.i64.wrap (v0 + 1))))))
  (some (.inr ([], AV.int IntKind.i64 (-1))))
noncomputable def idxStep (l : List Int) (x : Int) : idxPc → Option (idxPc ⊕ Ret)
  | .l0 v0 => idxS0 l x v0
theorem idxEn_ok (l : List Int) (x : Int) (o : idxPc ⊕ Ret) (h : idxEn l x = some o) : Arr Try.prog Try.f91 0 (idxSt l x) idxHd (bodyOf Try.f91) [] { n := Try.f91.ntmps, fr := enumF 0 ([lI l, .int .i64 x]), hp := ([]) } o :=
 Scr.ok h mix (
 .lp [] [] [] [] [] [] [0, 1, 7, 8] (aj (u2 (al (u2 (u2 t2)))) t5)) (by kernel_rfl)
theorem idxS0_ok (l : List Int) (x : Int) (v0 : Int) (o : idxPc ⊕ Ret) (h : idxS0 l x v0 = some o) : Arr Try.prog Try.f91 0 (idxSt l x) idxHd (headC Try.f91 0) (.rnd (headC Try.f91 0) :: headK Try.f91 0) (idxSt l x (.l0 v0)) o :=
 Scr.ok h mix (
 .rn 0 [] [] [] [] (al (al t3)) <|
 .br (fun a0 =>
 .rn 0 [19] [] [] [] (aj a0 (al (u2 s2))) <|
 .gu fun a1 =>
 .el fun x14 a2 =>
 .rn 0 [] [(14, iv x14)] [] [] (al (u2 (u2 (u2 (aj (k2 (aj a1 (getMap (f := iv) a2))) (u2 (al t3))))))) <|
 .br (fun a3 =>
  .rt [33] [] [] [] [] [] (aj (aj a3 (al (u2 s2))) t2))
 (fun a3 =>
  .lp [32] [] [] [] [] [] [0, 1, 7, 8] (aj (aj a3 (al (u2 s2))) t5)))
 (fun a0 =>
 .rt [18] [] [] [] [] [] (aj (aj a0 s2) t2))) (by kernel_rfl)
theorem idx_ct (l : List Int) (x : Int) (r : Ret) (h : MReach (idxStep l x) (idxEn l x) r) : CT Try.prog 91 ([]) ([lI l, .int .i64 x]) r.1 r.2 :=
  CT.mach (fn := Try.f91) (c := bodyOf Try.f91) (S := idxSt l x) (hd := idxHd) Try.func91 (by kernel_rfl) (Nat.le_of_ble_eq_true rfl)
    (fun s o ho => match s, ho with
      | .l0 v0, ho => idxS0_ok l x v0 o ho
    )
    (fun o ho => idxEn_ok l x o ho) h
noncomputable def idxZ (l : List Int) (x : Int) : Int := match fnd (fun i => l.getD i 0 == x) 0 l.length with | some i => (i : Int) | none => -1
theorem idxZ_has (l : List Int) (x : Int) : decide (0 ≤ idxZ l x) = hasZ l x := by
  unfold idxZ hasZ
  cases fnd (fun i => l.getD i 0 == x) 0 l.length with
  | none => rfl
  | some i => simp
theorem idx_c (l : List Int) (x : Int) (hl : l.length ≤ 1000000) : CT Try.prog 91 [] [lI l, .int .i64 x] [] (.int .i64 (idxZ l x)) := by
  refine idx_ct l x ([], _) ?_
  refine (loop_fnd (fun i => idxPc.l0 (i : Int)) l.length (fun i => l.getD i 0 == x) (rF := fun i => ([], .int .i64 (i : Int))) (r := ([], .int .i64 (-1))) (fun i hi hp => ?_) (fun i r hi hp hr => ?_) (fun _ => ?_)).res (by unfold idxZ; split <;> simp_all)
  · refine .to (show idxS0 l x i = _ from ?_) (.ret _)
    unfold idxS0
    rw [rngG 0 hi, br_t (by rw [← hp]; exact BEq.comm)]
  · refine .to (show idxS0 l x i = _ from ?_) hr
    unfold idxS0
    rw [rngG 0 hi, br_f (by rw [← hp]; exact BEq.comm), wrap_nat i (by omega)]
  · refine .to (show idxS0 l x l.length = _ from ?_) (.ret _)
    unfold idxS0; rw [rngE]
noncomputable def conSt (l : List Int) (x : Int) : Empty → St
  | x => x.elim
def conHd : Empty → Nat
  | x => x.elim
noncomputable def conEn (l : List Int) (x : Int) : Option (Empty ⊕ Ret) :=
  gu (l.length ≤ 1000000) <|
  some (.inr ([], AV.bool (decide (0 ≤ idxZ l x))))
noncomputable def conStep (l : List Int) (x : Int) : Empty → Option (Empty ⊕ Ret)
  | x => x.elim
theorem conEn_ok (l : List Int) (x : Int) (o : Empty ⊕ Ret) (h : conEn l x = some o) : Arr Try.prog Try.f73 0 (conSt l x) conHd (bodyOf Try.f73) [] { n := Try.f73.ntmps, fr := enumF 0 ([lI l, .int .i64 x]), hp := ([]) } o :=
 Scr.ok h mix (
 .rn 0 [] [] [] [] s2 <|
 .gu fun a0 =>
 have c0 := idx_c (l) (x) a0;
 .rt [] [] [(7, hK c0 [] [])] [] [] [] (aj (al (u2 (u2 (aj (ak (k3 (al (c0)))) (u2 s2))))) t2)) (by kernel_rfl)
theorem con_ct (l : List Int) (x : Int) (r : Ret) (h : MReach (conStep l x) (conEn l x) r) : CT Try.prog 73 ([]) ([lI l, .int .i64 x]) r.1 r.2 :=
  CT.mach (fn := Try.f73) (c := bodyOf Try.f73) (S := conSt l x) (hd := conHd) Try.func73 (by kernel_rfl) (Nat.le_of_ble_eq_true rfl)
    (fun s o ho => match s, ho with
      | x, _ => x.elim)
    (fun o ho => conEn_ok l x o ho) h
theorem con_c (l : List Int) (x : Int) (hl : l.length ≤ 1000000) : CT Try.prog 73 [] [lI l, .int .i64 x] [] (.bool (hasZ l x)) := by
  refine con_ct l x ([], _) (.val ?_)
  unfold conEn
  rw [gu_t hl, idxZ_has]
noncomputable def c72St (m : List Int) (x : Int) : Empty → St
  | x => x.elim
def c72Hd : Empty → Nat
  | x => x.elim
noncomputable def c72En (m : List Int) (x : Int) : Option (Empty ⊕ Ret) :=
  gu (m.length ≤ 1000000) <|
  some (.inr ([some (Blk.mk [AV.lst (List.map (AV.int IntKind.i64) m)] 1 true true none)], AV.bool (hasZ m x)))
noncomputable def c72Step (m : List Int) (x : Int) : Empty → Option (Empty ⊕ Ret)
  | x => x.elim
theorem c72En_ok (m : List Int) (x : Int) (o : Empty ⊕ Ret) (h : c72En m x = some o) : Arr Try.prog Try.f72 1 (c72St m x) c72Hd (bodyOf Try.f72) [] { n := Try.f72.ntmps, fr := enumF 0 ([.int .i64 x, .ptr 0 0 0]), hp := ([some (Blk.mk [lI m] 1 true true none)]) } o :=
 Scr.ok h mix (
 .rn 0 [] [] [] [] s2 <|
 .gu fun a0 =>
 have c0 := con_c (m) (x) a0;
 .rt [] [] [(6, hK c0 [] [])] [] [0] [] (aj (al (u2 (u2 (aj (ak (k3 (al (c0)))) s2)))) t3)) (by kernel_rfl)
theorem c72_ct (m : List Int) (x : Int) (r : Ret) (h : MReach (c72Step m x) (c72En m x) r) : CT Try.prog 72 ([some (Blk.mk [lI m] 1 true true none)]) ([.int .i64 x, .ptr 0 0 0]) r.1 r.2 :=
  CT.mach (fn := Try.f72) (c := bodyOf Try.f72) (S := c72St m x) (hd := c72Hd) Try.func72 (by kernel_rfl) (Nat.le_of_ble_eq_true rfl)
    (fun s o ho => match s, ho with
      | x, _ => x.elim)
    (fun o ho => c72En_ok m x o ho) h
theorem c72_c (m : List Int) (x : Int) (hl : m.length ≤ 1000000) : CT Try.prog 72 [some (Blk.mk [lI m] 1 true true none)] [.int .i64 x, .ptr 0 0 0] [some (Blk.mk [lI m] 1 true true none)] (.bool (hasZ m x)) := by
  refine c72_ct m x ([_], _) (.val ?_)
  unfold c72En
  rw [gu_t hl]; rfl
inductive ixfPc where
  | l0 (v0 : Int)
noncomputable def ixfSt (l m : List Int) : ixfPc → St
  | .l0 v0 => St.mk 19 [(0, AV.lst (List.map (iv) l)), (1, AV.fn 72 [AV.ptr 0 0 0]), (7, iv (iN (List.map (iv) l).length)), (8, iv v0)] [some (Blk.mk [AV.lst (List.map (iv) m)] 1 true true none)]
def ixfHd : ixfPc → Nat
  | .l0 _ => 0
noncomputable def ixfEn (l m : List Int) : Option (ixfPc ⊕ Ret) :=
  some (.inl (.l0 ((0 : Int))))
noncomputable def ixfS0 (l m : List Int) (v0 : Int) : Option (ixfPc ⊕ Ret) :=
  br (decide (v0 < iN (List.map (AV.int IntKind.i64) l).length))
  (gu (0 ≤ v0) <|
   el (l) (v0.toNat) fun (x14 : Int) =>
   gu (m.length ≤ 1000000) <|
   br (hasZ m x14)
   (some (.inr ([some (Blk.mk [AV.lst (List.map (AV.int IntKind.i64) m)] 1 true true none)], AV.int IntKind.i64 v0)))
   (some (.inl (.l0 (IntKind.i64.wrap (v0 + 1))))))
  (some (.inr ([some (Blk.mk [AV.lst (List.map (AV.int IntKind.i64) m)] 1 true true none)], AV.int IntKind.i64 (-1))))
noncomputable def ixfStep (l m : List Int) : ixfPc → Option (ixfPc ⊕ Ret)
  | .l0 v0 => ixfS0 l m v0
theorem ixfEn_ok (l m : List Int) (o : ixfPc ⊕ Ret) (h : ixfEn l m = some o) : Arr Try.prog Try.f90 1 (ixfSt l m) ixfHd (bodyOf Try.f90) [] { n := Try.f90.ntmps, fr := enumF 0 ([lI l, .fn 72 [.ptr 0 0 0]]), hp := ([some (Blk.mk [lI m] 1 true true none)]) } o :=
 Scr.ok h mix (
 .lp [] [] [] [] [] [0] [0, 1, 7, 8] (aj (u2 (al (u2 (u2 t2)))) (ak (u2 t4)))) (by kernel_rfl)
theorem ixfS0_ok (l m : List Int) (v0 : Int) (o : ixfPc ⊕ Ret) (h : ixfS0 l m v0 = some o) : Arr Try.prog Try.f90 1 (ixfSt l m) ixfHd (headC Try.f90 0) (.rnd (headC Try.f90 0) :: headK Try.f90 0) (ixfSt l m (.l0 v0)) o :=
 Scr.ok h mix (
 .rn 0 [] [] [] [] (al (al t3)) <|
 .br (fun a0 =>
 .rn 0 [19] [] [] [] (aj a0 (al (u2 s2))) <|
 .gu fun a1 =>
 .el fun x14 a2 =>
 .gu fun a3 =>
 have c0 := c72_c (m) (x14) a3;
 .rn 0 [] [(14, iv x14)] [(16, hK c0 [0] [])] [] (al (u2 (u2 (u2 (aj (k2 (aj a1 (getMap (f := iv) a2))) (u2 (al (k5 (al (c0)))))))))) <|
 .br (fun a4 =>
  .rt [33] [] [] [] [0] [] (aj (aj a4 (al (u2 s2))) t3))
 (fun a4 =>
  .lp [32] [] [] [] [] [0] [0, 1, 7, 8] (aj (aj a4 (al (u2 s2))) (ak (u2 t4)))))
 (fun a0 =>
 .rt [18] [] [] [] [0] [] (aj (aj a0 s2) t3))) (by kernel_rfl)
theorem ixf_ct (l m : List Int) (r : Ret) (h : MReach (ixfStep l m) (ixfEn l m) r) : CT Try.prog 90 ([some (Blk.mk [lI m] 1 true true none)]) ([lI l, .fn 72 [.ptr 0 0 0]]) r.1 r.2 :=
  CT.mach (fn := Try.f90) (c := bodyOf Try.f90) (S := ixfSt l m) (hd := ixfHd) Try.func90 (by kernel_rfl) (Nat.le_of_ble_eq_true rfl)
    (fun s o ho => match s, ho with
      | .l0 v0, ho => ixfS0_ok l m v0 o ho
    )
    (fun o ho => ixfEn_ok l m o ho) h
noncomputable def cixZ (l m : List Int) : Int := match fnd (fun i => hasZ m (l.getD i 0)) 0 l.length with | some i => (i : Int) | none => -1
noncomputable def comB (l m : List Int) : Bool := decide (0 ≤ cixZ l m)
theorem ixf_c (l m : List Int) (hl : l.length ≤ 1000000) (hm : m.length ≤ 1000000) : CT Try.prog 90 [some (Blk.mk [lI m] 1 true true none)] [lI l, .fn 72 [.ptr 0 0 0]] [some (Blk.mk [lI m] 1 true true none)] (.int .i64 (cixZ l m)) := by
  refine ixf_ct l m ([_], _) ?_
  refine (loop_fnd (fun i => ixfPc.l0 (i : Int)) l.length (fun i => hasZ m (l.getD i 0)) (rF := fun i => ([some (Blk.mk [lI m] 1 true true none)], .int .i64 (i : Int))) (r := ([some (Blk.mk [lI m] 1 true true none)], .int .i64 (-1))) (fun i hi hp => ?_) (fun i r hi hp hr => ?_) (fun _ => ?_)).res (by unfold cixZ; split <;> simp_all)
  · refine .to (show ixfS0 l m i = _ from ?_) (.ret _)
    unfold ixfS0
    rw [rngG 0 hi, gu_t hm, br_t hp]; rfl
  · refine .to (show ixfS0 l m i = _ from ?_) hr
    unfold ixfS0
    rw [rngG 0 hi, gu_t hm, br_f hp, wrap_nat i (by omega)]
  · refine .to (show ixfS0 l m l.length = _ from ?_) (.ret _)
    unfold ixfS0; rw [rngE]; rfl
noncomputable def cfnSt (l m : List Int) : Empty → St
  | x => x.elim
def cfnHd : Empty → Nat
  | x => x.elim
noncomputable def cfnEn (l m : List Int) : Option (Empty ⊕ Ret) :=
  gu (l.length ≤ 1000000) <|
  gu (m.length ≤ 1000000) <|
  some (.inr ([some (Blk.mk [AV.lst (List.map (AV.int IntKind.i64) m)] 1 true true none)], AV.bool (decide (0 ≤ cixZ l m))))
noncomputable def cfnStep (l m : List Int) : Empty → Option (Empty ⊕ Ret)
  | x => x.elim
theorem cfnEn_ok (l m : List Int) (o : Empty ⊕ Ret) (h : cfnEn l m = some o) : Arr Try.prog Try.f71 1 (cfnSt l m) cfnHd (bodyOf Try.f71) [] { n := Try.f71.ntmps, fr := enumF 0 ([lI l, .fn 72 [.ptr 0 0 0]]), hp := ([some (Blk.mk [lI m] 1 true true none)]) } o :=
 Scr.ok h mix (
 .rn 0 [] [] [] [] s2 <|
 .gu fun a0 =>
 .gu fun a1 =>
 have c0 := ixf_c (l) (m) a0 a1;
 .rt [] [] [(7, hK c0 [0] [])] [] [0] [] (aj (al (u2 (u2 (aj (k3 (u2 (ak (al (c0))))) (u2 s2))))) t3)) (by kernel_rfl)
theorem cfn_ct (l m : List Int) (r : Ret) (h : MReach (cfnStep l m) (cfnEn l m) r) : CT Try.prog 71 ([some (Blk.mk [lI m] 1 true true none)]) ([lI l, .fn 72 [.ptr 0 0 0]]) r.1 r.2 :=
  CT.mach (fn := Try.f71) (c := bodyOf Try.f71) (S := cfnSt l m) (hd := cfnHd) Try.func71 (by kernel_rfl) (Nat.le_of_ble_eq_true rfl)
    (fun s o ho => match s, ho with
      | x, _ => x.elim)
    (fun o ho => cfnEn_ok l m o ho) h
theorem cfn_c (l m : List Int) (hl : l.length ≤ 1000000) (hm : m.length ≤ 1000000) : CT Try.prog 71 [some (Blk.mk [lI m] 1 true true none)] [lI l, .fn 72 [.ptr 0 0 0]] [some (Blk.mk [lI m] 1 true true none)] (.bool (comB l m)) := by
  refine cfn_ct l m ([_], _) (.val ?_)
  unfold cfnEn
  rw [gu_t hl, gu_t hm]; rfl
theorem fpL_len (x : BdD) : (fpL x).length ≤ 2 := by
  unfold fpL; split
  · simp
  · split <;> simp
inductive clPc where
  | l0 (v0 : Int)
  | l1 (v0 : Int) (v1 : Int) (v2 : BdD)
noncomputable def clSt (l : List BdD) : clPc → St
  | .l0 v0 => St.mk 36 [(0, AV.lst (List.map bdA l)), (9, AV.lst (List.map bdA l)), (10, iv (iN (List.map bdA l).length)), (11, iv v0)] []
  | .l1 v0 v1 v2 => St.mk 36 [(0, AV.lst (List.map bdA l)), (5, iv v0), (6, AV.ptr 0 0 0), (7, iv v1), (9, AV.lst (List.map bdA l)), (10, iv (iN (List.map bdA l).length)), (11, iv v0)] [some (Blk.mk [AV.agg [iv v2.c, iv v2.t, AV.bool v2.s, AV.bool v2.f]] 4 true true none)]
def clHd : clPc → Nat
  | .l0 _ => 0
  | .l1 _ _ _ => 1
noncomputable def clEn (l : List BdD) : Option (clPc ⊕ Ret) :=
  some (.inl (.l0 ((0 : Int))))
noncomputable def clS0 (l : List BdD) (v0 : Int) : Option (clPc ⊕ Ret) :=
  br (decide (v0 < iN (List.map bdA l).length))
  (gu (0 ≤ v0) <|
   el (l) (v0.toNat) fun (x14 : BdD) =>
   some (.inl (.l1 (v0) (IntKind.i64.wrap (v0 + 1)) (x14))))
  (some (.inr ([], AV.tup [AV.int IntKind.i64 0, AV.int IntKind.i64 0, AV.bool false])))
noncomputable def clS1 (l : List BdD) (v0 : Int) (v1 : Int) (v2 : BdD) : Option (clPc ⊕ Ret) :=
  br (decide (v1 < iN (List.map bdA l).length))
  (gu (0 ≤ v1) <|
   el (l) (v1.toNat) fun (x26 : BdD) =>
   gu ((fpL v2).length ≤ 1000000) <|
   gu ((fpL x26).length ≤ 1000000) <|
   br (comB (fpL v2) (fpL x26))
   (some (.inr ([], AV.tup [AV.int IntKind.i64 v0, AV.int IntKind.i64 v1, AV.bool true])))
   (some (.inl (.l1 (v0) (IntKind.i64.wrap (v1 + 1)) (v2)))))
  (some (.inl (.l0 (IntKind.i64.wrap (v0 + 1)))))
noncomputable def clStep (l : List BdD) : clPc → Option (clPc ⊕ Ret)
  | .l0 v0 => clS0 l v0
  | .l1 v0 v1 v2 => clS1 l v0 v1 v2
theorem clEn_ok (l : List BdD) (o : clPc ⊕ Ret) (h : clEn l = some o) : Arr Try.prog Try.f37 0 (clSt l) clHd (bodyOf Try.f37) [] { n := Try.f37.ntmps, fr := enumF 0 ([.lst (l.map bdA)]), hp := ([]) } o :=
 Scr.ok h mix (
 .lp [] [] [] [] [] [] [0, 9, 10, 11] (aj (aj t4 (al (u2 (u2 t2)))) t5)) (by kernel_rfl)
theorem clS0_ok (l : List BdD) (v0 : Int) (o : clPc ⊕ Ret) (h : clS0 l v0 = some o) : Arr Try.prog Try.f37 0 (clSt l) clHd (headC Try.f37 0) (.rnd (headC Try.f37 0) :: headK Try.f37 0) (clSt l (.l0 v0)) o :=
 Scr.ok h mix (
 .rn 0 [] [] [] [] (al (al t3)) <|
 .br (fun a0 =>
 .gu fun a1 =>
 .el fun x14 a2 =>
 .lp [25] [(14, bdA x14)] [] [] [] [0] [0, 5, 6, 7, 9, 10, 11] (aj (aj a0 (aj (u2 (aj (k2 (aj a1 (getMap (f := bdA) a2))) (u2 (ak (u2 (al (k2 n11))))))) (al (u2 (u2 s2))))) t9))
 (fun a0 =>
 .rt [24] [] [] [] [] [] (aj (aj a0 (al t4)) (al t4)))) (by kernel_rfl)
theorem clS1_ok (l : List BdD) (v0 : Int) (v1 : Int) (v2 : BdD) (o : clPc ⊕ Ret) (h : clS1 l v0 v1 v2 = some o) : Arr Try.prog Try.f37 0 (clSt l) clHd (headC Try.f37 1) (.rnd (headC Try.f37 1) :: headK Try.f37 1) (clSt l (.l1 v0 v1 v2)) o :=
 Scr.ok h mix (
 .rn 0 [] [] [] [] (al (u2 (u2 (u2 (al t3))))) <|
 .br (fun a0 =>
 .gu fun a1 =>
 .el fun x26 a2 =>
 have c0 := fp_c (x26);
 .rn 0 [43] [(26, bdA x26)] [(28, hK c0 [] [])] [] (aj a0 (al (u2 (u2 (aj (k2 (aj a1 (getMap (f := bdA) a2))) (u2 (aj (ak (aj t5 (al (c0)))) (ak (al (k2 n11)))))))))) <|
 .gu fun a3 =>
 .gu fun a4 =>
 have c1 := fp_c (v2);
 have c2 := cfn_c (fpL v2) (fpL x26) a3 a4;
 .rn 0 [] [] [(30, hK c1 [] []), (32, hK c2 [1] [])] [] (al (u2 (aj (ak (aj t5 (al (c1)))) (u2 (al (k3 (u2 (ak (al (c2)))))))))) <|
 .br (fun a5 =>
  .rt [65] [] [] [] [] [] (aj (aj a5 (al (u2 (u2 (u2 (u2 t2)))))) (al t4)))
 (fun a5 =>
  .lp [64] [] [] [] [] [0] [0, 5, 6, 7, 9, 10, 11] (aj (aj a5 (al (u2 (u2 s2)))) t9)))
 (fun a0 =>
 .lp [42] [] [] [] [] [] [0, 9, 10, 11] (aj (aj a0 (al (u2 s2))) t5))) (by kernel_rfl)
theorem cl_ct (l : List BdD) (r : Ret) (h : MReach (clStep l) (clEn l) r) : CT Try.prog 37 ([]) ([.lst (l.map bdA)]) r.1 r.2 :=
  CT.mach (fn := Try.f37) (c := bodyOf Try.f37) (S := clSt l) (hd := clHd) Try.func37 (by kernel_rfl) (Nat.le_of_ble_eq_true rfl)
    (fun s o ho => match s, ho with
      | .l0 v0, ho => clS0_ok l v0 o ho
      | .l1 v0 v1 v2, ho => clS1_ok l v0 v1 v2 o ho
    )
    (fun o ho => clEn_ok l o ho) h
theorem puK_c : CT Try.prog 13 [] [.lst ([(⟨0, 1, false, false⟩ : BdD), ⟨-1, -1, false, false⟩].map bdA), .int .i64 1, .int .i64 1] [some (Blk.mk ([(⟨0, 1, false, false⟩ : BdD), ⟨1, -1, false, false⟩].map bdA) 4 true true none)] (.tup [.sl 0 0 2, .int .i64 0]) := pu_c [(⟨0, 1, false, false⟩ : BdD), ⟨-1, -1, false, false⟩] 1 1 (by decide)
theorem clK_c : CT Try.prog 37 [] [.lst ([(⟨0, 1, false, false⟩ : BdD), ⟨1, -1, false, false⟩].map bdA)] [] (.tup [.int .i64 0, .int .i64 1, .bool true]) := by
  refine cl_ct [(⟨0, 1, false, false⟩ : BdD), ⟨1, -1, false, false⟩] ([], _) ?_
  unfold clEn
  refine .to (show clS0 [(⟨0, 1, false, false⟩ : BdD), ⟨1, -1, false, false⟩] ((0 : Nat) : Int) = some (.inl (clPc.l1 0 1 (⟨0, 1, false, false⟩ : BdD))) from ?_) (.to (show clS1 [(⟨0, 1, false, false⟩ : BdD), ⟨1, -1, false, false⟩] 0 1 ⟨0, 1, false, false⟩ = _ from ?_) (.ret _))
  · unfold clS0
    rw [rngG bd0 (by decide), wrap_nat 0 (by omega)]; rfl
  · unfold clS1
    rw [br_t (dec_t (by simp [iN])), gu_t (by decide), show Int.toNat 1 = 1 from rfl, el_t (show [(⟨0, 1, false, false⟩ : BdD), ⟨1, -1, false, false⟩][1]? = some ⟨1, -1, false, false⟩ from rfl), gu_t (Nat.le_trans (fpL_len _) (by decide)), gu_t (Nat.le_trans (fpL_len _) (by decide)), br_t (by decide +kernel)]
theorem fpK_c : CT Try.prog 18 [] [bdA ⟨0, 1, false, false⟩] [] (lI [0, 1]) := fp_c ⟨0, 1, false, false⟩
theorem siK_c : CT Try.prog 38 [] [lI [0, 1], lI [0, 1]] [] (.bool true) := sameInts_ct [0, 1] (by decide)
noncomputable def knSt : Empty → St
  | x => x.elim
def knHd : Empty → Nat
  | x => x.elim
noncomputable def knEn : Option (Empty ⊕ Ret) :=
  gu (∀ (blk : Blk), blk ∈ [Blk.mk (List.map bdA [BdD.mk (0 : Int) (1 : Int) false false, BdD.mk (1 : Int) (-1 : Int) false false]) (4 : Nat) true true none] → ImmB blk) <|
  some (.inr ([], AV.bool true))
noncomputable def knStep : Empty → Option (Empty ⊕ Ret)
  | x => x.elim
theorem knEn_ok (o : Empty ⊕ Ret) (h : knEn = some o) : Arr Try.prog Try.f10 0 (knSt) knHd (bodyOf Try.f10) [] { n := Try.f10.ntmps, fr := enumF 0 ([]), hp := ([]) } o :=
 Scr.ok h mix (
 .rn 0 [] [] [] [] s2 <|
 .gu fun a0 =>
 have c0 := puK_c;
 have c1 := clK_c;
 have c2 := fpK_c;
 have c3 := siK_c;
 .rt [] [] [(10, hK c0 [] [0]), (15, hK c1 [] [1]), (41, hK c2 [] []), (43, hK c3 [] [2])] [] [] [] (aj (aj (k2 (aj t3 (aj (ak (aj (show nat_lit 2 = nat_lit 2 from rfl) (k2 (aj (c0) a0)))) (u2 (u2 (u2 (u2 s2))))))) (aj (u2 (aj (ak (aj (show nat_lit 2 = nat_lit 2 from rfl) (aj (c1) (show ∀ (blk : Blk), blk ∈ [] → ImmB blk from (by intro _ h; cases h))))) (u2 (u2 (u2 (u2 (u2 (u2 s2)))))))) (al (u2 (u2 (u2 (aj t3 (aj t3 (aj t3 (aj t3 (u2 (aj t3 (aj t3 (u2 (aj t3 (aj t3 (aj t3 (u2 (aj t3 (aj t3 (aj t3 (u2 (aj t3 (aj (k2 (aj (show (0 : Int) ≤ (0 : Int) from (by first | exact Nat.le_of_ble_eq_true rfl | decide)) (show (0 : Int) < (2 : Int) from (by first | exact Nat.le_of_ble_eq_true rfl | decide)))) (aj t3 (aj (k2 (aj t5 (al (c2)))) (u2 (aj (ak (k3 (aj (show nat_lit 2 = nat_lit 2 from rfl) (aj (c3) (show ∀ (blk : Blk), blk ∈ [] → ImmB blk from (by intro _ h; cases h)))))) (aj t3 s2))))))))))))))))))))))))))))) t2)) (by kernel_rfl)
theorem kn_ct (r : Ret) (h : MReach (knStep) (knEn) r) : CT Try.prog 10 ([]) ([]) r.1 r.2 :=
  CT.mach (fn := Try.f10) (c := bodyOf Try.f10) (S := knSt) (hd := knHd) Try.func10 (by kernel_rfl) (Nat.le_of_ble_eq_true rfl)
    (fun s o ho => match s, ho with
      | x, _ => x.elim)
    (fun o ho => knEn_ok o ho) h
theorem bd_imm (l : List BdD) : ∀ blk ∈ [Blk.mk (l.map bdA) 4 true true none], ImmB blk := fun b hb => by
  rw [List.mem_singleton.1 hb]
  intro e he c hc
  obtain ⟨x, _, rfl⟩ := List.mem_map.1 he
  simp only [bdA, AV.cells, List.mem_cons, List.not_mem_nil, or_false] at hc
  rcases hc with rfl | rfl | rfl | rfl <;> rfl
theorem plk_c : CT Try.prog 10 [] [] [] (.bool true) := by
  refine kn_ct ([], _) (.val ?_)
  unfold knEn
  rw [gu_t (bd_imm _)]
inductive plAPc where
  | l0 
  | l1 (v0 : List BdD) (v1 : Int) (v2 : List BdD × Int) (v3 : List BdD × Int) (v4 : Bool) (v5 : Bool) (v6 : Nat)
  | l2 (v0 : List BdD × Int) (v1 : List BdD × Int) (v2 : Bool) (v3 : Bool)
  | l3 (v0 : List BdD) (v1 : List BdD × Int) (v2 : List BdD × Int) (v3 : Bool) (v4 : Bool) (v5 : Int) (v6 : Int) (v7 : Int) (v8 : Nat)
noncomputable def plASt (n : NetD) (l : List BdD) (p q w : Int) (ls : List Int) : plAPc → St
  | .l0  => St.mk 115 [(1, AV.lst (List.map bdA l)), (4, AV.ptr 0 0 0), (6, AV.ptr 1 0 0), (9, AV.ptr 2 0 0), (10, iv 0)] [some (Blk.mk [netA n] 8 true true none), some (Blk.mk [AV.agg [iv p, iv q, iv w]] 3 true true none), some (Blk.mk [AV.agg [AV.lst (List.map (iv) ls), iv 0]] 2 true true none)]
  | .l1 v0 v1 v2 v3 v4 v5 v6 => St.mk 115 [(1, AV.sl 0 0 v0.length), (4, AV.ptr 1 0 0), (6, AV.ptr 2 0 0), (9, AV.ptr 3 0 0), (10, iv 1), (11, iv (iN (celN (looM ls 0 6)))), (12, iv v1), (110, AV.sl 4 0 v2.fst.length), (111, AV.sl 5 0 v3.fst.length), (112, AV.bool v4), (113, AV.bool v5)] [some (Blk.mk (List.map bdA v0) 4 true true none), some (Blk.mk [netA (looM ls 0 6)] 8 true true none), some (Blk.mk [AV.agg [iv p, iv q, iv w]] 3 true true none), some (tapeB ls v6), some (Blk.mk (List.map bdA v2.fst) 4 true true none), some (Blk.mk (List.map bdA v3.fst) 4 true true none)]
  | .l2 v0 v1 v2 v3 => St.mk 115 [(1, AV.lst (List.map bdA l)), (4, AV.ptr 0 0 0), (6, AV.ptr 1 0 0), (9, AV.ptr 2 0 0), (10, iv 1), (110, AV.sl 3 0 v0.fst.length), (111, AV.sl 4 0 v1.fst.length), (112, AV.bool v2), (113, AV.bool v3)] [some (Blk.mk [netA n] 8 true true none), some (Blk.mk [AV.agg [iv p, iv q, iv w]] 3 true true none), some (Blk.mk [AV.agg [AV.lst (List.map (iv) ls), iv 0]] 2 true true none), some (Blk.mk (List.map bdA v0.fst) 4 true true none), some (Blk.mk (List.map bdA v1.fst) 4 true true none)]
  | .l3 v0 v1 v2 v3 v4 v5 v6 v7 v8 => St.mk 115 [(1, AV.sl 0 0 v0.length), (4, AV.ptr 1 0 0), (6, AV.ptr 2 0 0), (9, AV.ptr 3 0 0), (10, iv 2), (110, AV.sl 4 0 v1.fst.length), (111, AV.sl 5 0 v2.fst.length), (112, AV.bool v3), (113, AV.bool v4)] [some (Blk.mk (List.map bdA v0) 4 true true none), some (Blk.mk [netA (looM ls 0 6)] 8 true true none), some (Blk.mk [AV.agg [iv v5, iv v6, iv v7]] 3 true true none), some (tapeB ls v8), some (Blk.mk (List.map bdA v1.fst) 4 true true none), some (Blk.mk (List.map bdA v2.fst) 4 true true none)]
def plAHd : plAPc → Nat
  | .l0  => 0
  | .l1 _ _ _ _ _ _ _ => 1
  | .l2 _ _ _ _ => 0
  | .l3 _ _ _ _ _ _ _ _ _ => 0
noncomputable def plAEn (n : NetD) (l : List BdD) (p q w : Int) (ls : List Int) : Option (plAPc ⊕ Ret) :=
  some (.inl (.l0 ))
noncomputable def plAS0 (n : NetD) (l : List BdD) (p q w : Int) (ls : List Int) : Option (plAPc ⊕ Ret) :=
  br (cutZ q 7 != 0)
  (br (cutZ q 7 != 1)
   (gu (l.length ≤ 5864062014634) <|
    gu (Rows n.nx) <|
    br ((actO n l p (cutZ q 7) 0).snd != (dooO n l p (cutZ q 7) 0).snd)
    (some (.inr ([], AV.bool false)))
    (gu ((actO n l p (cutZ q 7) 0).fst.length ≤ 5864062014634) <|
     br (!decide ((actO n l p (cutZ q 7) 0).fst = (dooO n l p (cutZ q 7) 0).fst))
     (some (.inr ([], AV.bool false)))
     (some (.inl (.l2 (actO n l p (cutZ q 7) 0) (dooO n l p (cutZ q 7) 0) (decide ((actO n l p (cutZ q 7) 0).fst = (dooO n l p (cutZ q 7) 0).fst)) (!decide ((actO n l p (cutZ q 7) 0).fst = (dooO n l p (cutZ q 7) 0).fst)))))))
   (gu (l.length ≤ 5864062014634) <|
    gu (Rows n.nx) <|
    br ((actO n l p (cutZ q 7) w).snd != (dooO n l p (cutZ q 7) w).snd)
    (some (.inr ([], AV.bool false)))
    (gu ((actO n l p (cutZ q 7) w).fst.length ≤ 5864062014634) <|
     br (!decide ((actO n l p (cutZ q 7) w).fst = (dooO n l p (cutZ q 7) w).fst))
     (some (.inr ([], AV.bool false)))
     (some (.inl (.l2 (actO n l p (cutZ q 7) w) (dooO n l p (cutZ q 7) w) (decide ((actO n l p (cutZ q 7) w).fst = (dooO n l p (cutZ q 7) w).fst)) (!decide ((actO n l p (cutZ q 7) w).fst = (dooO n l p (cutZ q 7) w).fst))))))))
  (gu (l.length ≤ 5864062014634) <|
   gu (Rows n.nx) <|
   br ((actO n l p (cutZ q 7) w).snd != (dooO n l p (cutZ q 7) w).snd)
   (some (.inr ([], AV.bool false)))
   (gu ((actO n l p (cutZ q 7) w).fst.length ≤ 5864062014634) <|
    br (!decide ((actO n l p (cutZ q 7) w).fst = (dooO n l p (cutZ q 7) w).fst))
    (some (.inr ([], AV.bool false)))
    (some (.inl (.l2 (actO n l p (cutZ q 7) w) (dooO n l p (cutZ q 7) w) (decide ((actO n l p (cutZ q 7) w).fst = (dooO n l p (cutZ q 7) w).fst)) (!decide ((actO n l p (cutZ q 7) w).fst = (dooO n l p (cutZ q 7) w).fst)))))))
noncomputable def plAS1 (n : NetD) (l : List BdD) (p q w : Int) (ls : List Int) (v0 : List BdD) (v1 : Int) (v2 : List BdD × Int) (v3 : List BdD × Int) (v4 : Bool) (v5 : Bool) (v6 : Nat) : Option (plAPc ⊕ Ret) :=
  br (decide (0 < v1))
  (gu (v6 ≤ 100000) <|
   gu (0 ≤ iN (celN (looM ls 0 6)) ∧ iN (celN (looM ls 0 6)) ≤ 50000) <|
   gu ((List.map bdA v0).length + [AV.agg [AV.int IntKind.i64 (bdyM ls v6 (iN (celN (looM ls 0 6)))).c, AV.int IntKind.i64 (bdyM ls v6 (iN (celN (looM ls 0 6)))).t, AV.bool (bdyM ls v6 (iN (celN (looM ls 0 6)))).s, AV.bool (bdyM ls v6 (iN (celN (looM ls 0 6)))).f]].length ≤ 9223372036854775807) <|
   gu (((List.map bdA v0).length + [AV.agg [AV.int IntKind.i64 (bdyM ls v6 (iN (celN (looM ls 0 6)))).c, AV.int IntKind.i64 (bdyM ls v6 (iN (celN (looM ls 0 6)))).t, AV.bool (bdyM ls v6 (iN (celN (looM ls 0 6)))).s, AV.bool (bdyM ls v6 (iN (celN (looM ls 0 6)))).f]].length) * 24 ≤ 140737488355328) <|
   some (.inl (.l1 (v0 ++ [bdyM ls v6 (iN (celN (looM ls 0 6)))]) (IntKind.i64.wrap (v1 - 1)) (v2) (v3) (v4) (v5) (bdyK ls v6))))
  (gu (v6 < 9223372036854775807) <|
   gu (v6 + 1 < 9223372036854775807) <|
   gu (v6 + 1 + 1 < 9223372036854775807) <|
   gu (0 ≤ nextZ ls v6 (iN v0.length)) <|
   gu (nextZ ls v6 (iN v0.length) < iN v0.length) <|
   el (v0) (0 + (nextZ ls v6 (iN v0.length)).toNat) fun (x62 : BdD) =>
   br (decide (0 ≤ x62.c))
   (gu (v6 + 1 + 1 + 1 < 9223372036854775807) <|
    br (nextZ ls (v6 + 1 + 1 + 1) 2 == 0)
    (gu (v6 + 1 + 1 + 1 + 1 < 9223372036854775807) <|
     br (cutZ (nextZ ls (v6 + 1) 7) 7 != 0)
     (br (cutZ (nextZ ls (v6 + 1) 7) 7 != 1)
      (gu (v0.length ≤ 5864062014634) <|
       gu (Rows (looM ls 0 6).nx) <|
       gu (∀ (blk : Blk), blk ∈ [Blk.mk (List.map bdA (actO (looM ls 0 6) v0 (nextZ ls v6 (iN v0.length)) (cutZ (nextZ ls (v6 + 1) 7) 7) 0).fst) 4 true true none] → ImmB blk) <|
       gu (∀ (blk : Blk), blk ∈ [Blk.mk (List.map bdA (dooO (looM ls 0 6) v0 (nextZ ls v6 (iN v0.length)) (cutZ (nextZ ls (v6 + 1) 7) 7) 0).fst) 4 true true none] → ImmB blk) <|
       br ((actO (looM ls 0 6) v0 (nextZ ls v6 (iN v0.length)) (cutZ (nextZ ls (v6 + 1) 7) 7) 0).snd != (dooO (looM ls 0 6) v0 (nextZ ls v6 (iN v0.length)) (cutZ (nextZ ls (v6 + 1) 7) 7) 0).snd)
       (some (.inr ([], AV.bool false)))
       (gu ((actO (looM ls 0 6) v0 (nextZ ls v6 (iN v0.length)) (cutZ (nextZ ls (v6 + 1) 7) 7) 0).fst.length ≤ 5864062014634) <|
        br (!decide ((actO (looM ls 0 6) v0 (nextZ ls v6 (iN v0.length)) (cutZ (nextZ ls (v6 + 1) 7) 7) 0).fst = (dooO (looM ls 0 6) v0 (nextZ ls v6 (iN v0.length)) (cutZ (nextZ ls (v6 + 1) 7) 7) 0).fst))
        (some (.inr ([], AV.bool false)))
        (some (.inl (.l3 (v0) (actO (looM ls 0 6) v0 (nextZ ls v6 (iN v0.length)) (cutZ (nextZ ls (v6 + 1) 7) 7) 0) (dooO (looM ls 0 6) v0 (nextZ ls v6 (iN v0.length)) (cutZ (nextZ ls (v6 + 1) 7) 7) 0) (decide ((actO (looM ls 0 6) v0 (nextZ ls v6 (iN v0.length)) (cutZ (nextZ ls (v6 + 1) 7) 7) 0).fst = (dooO (looM ls 0 6) v0 (nextZ ls v6 (iN v0.length)) (cutZ (nextZ ls (v6 + 1) 7) 7) 0).fst)) (!decide ((actO (looM ls 0 6) v0 (nextZ ls v6 (iN v0.length)) (cutZ (nextZ ls (v6 + 1) 7) 7) 0).fst = (dooO (looM ls 0 6) v0 (nextZ ls v6 (iN v0.length)) (cutZ (nextZ ls (v6 + 1) 7) 7) 0).fst)) (nextZ ls v6 (iN v0.length)) (nextZ ls (v6 + 1) 7) (nextZ ls (v6 + 1 + 1 + 1 + 1) (iN (celN (looM ls 0 6)))) (v6 + 1 + 1 + 1 + 1 + 1))))))
      (gu (v0.length ≤ 5864062014634) <|
       gu (Rows (looM ls 0 6).nx) <|
       gu (∀ (blk : Blk), blk ∈ [Blk.mk (List.map bdA (actO (looM ls 0 6) v0 (nextZ ls v6 (iN v0.length)) (cutZ (nextZ ls (v6 + 1) 7) 7) (nextZ ls (v6 + 1 + 1 + 1 + 1) (iN (celN (looM ls 0 6))))).fst) 4 true true none] → ImmB blk) <|
       gu (∀ (blk : Blk), blk ∈ [Blk.mk (List.map bdA (dooO (looM ls 0 6) v0 (nextZ ls v6 (iN v0.length)) (cutZ (nextZ ls (v6 + 1) 7) 7) (nextZ ls (v6 + 1 + 1 + 1 + 1) (iN (celN (looM ls 0 6))))).fst) 4 true true none] → ImmB blk) <|
       br ((actO (looM ls 0 6) v0 (nextZ ls v6 (iN v0.length)) (cutZ (nextZ ls (v6 + 1) 7) 7) (nextZ ls (v6 + 1 + 1 + 1 + 1) (iN (celN (looM ls 0 6))))).snd != (dooO (looM ls 0 6) v0 (nextZ ls v6 (iN v0.length)) (cutZ (nextZ ls (v6 + 1) 7) 7) (nextZ ls (v6 + 1 + 1 + 1 + 1) (iN (celN (looM ls 0 6))))).snd)
       (some (.inr ([], AV.bool false)))
       (gu ((actO (looM ls 0 6) v0 (nextZ ls v6 (iN v0.length)) (cutZ (nextZ ls (v6 + 1) 7) 7) (nextZ ls (v6 + 1 + 1 + 1 + 1) (iN (celN (looM ls 0 6))))).fst.length ≤ 5864062014634) <|
        br (!decide ((actO (looM ls 0 6) v0 (nextZ ls v6 (iN v0.length)) (cutZ (nextZ ls (v6 + 1) 7) 7) (nextZ ls (v6 + 1 + 1 + 1 + 1) (iN (celN (looM ls 0 6))))).fst = (dooO (looM ls 0 6) v0 (nextZ ls v6 (iN v0.length)) (cutZ (nextZ ls (v6 + 1) 7) 7) (nextZ ls (v6 + 1 + 1 + 1 + 1) (iN (celN (looM ls 0 6))))).fst))
        (some (.inr ([], AV.bool false)))
        (some (.inl (.l3 (v0) (actO (looM ls 0 6) v0 (nextZ ls v6 (iN v0.length)) (cutZ (nextZ ls (v6 + 1) 7) 7) (nextZ ls (v6 + 1 + 1 + 1 + 1) (iN (celN (looM ls 0 6))))) (dooO (looM ls 0 6) v0 (nextZ ls v6 (iN v0.length)) (cutZ (nextZ ls (v6 + 1) 7) 7) (nextZ ls (v6 + 1 + 1 + 1 + 1) (iN (celN (looM ls 0 6))))) (decide ((actO (looM ls 0 6) v0 (nextZ ls v6 (iN v0.length)) (cutZ (nextZ ls (v6 + 1) 7) 7) (nextZ ls (v6 + 1 + 1 + 1 + 1) (iN (celN (looM ls 0 6))))).fst = (dooO (looM ls 0 6) v0 (nextZ ls v6 (iN v0.length)) (cutZ (nextZ ls (v6 + 1) 7) 7) (nextZ ls (v6 + 1 + 1 + 1 + 1) (iN (celN (looM ls 0 6))))).fst)) (!decide ((actO (looM ls 0 6) v0 (nextZ ls v6 (iN v0.length)) (cutZ (nextZ ls (v6 + 1) 7) 7) (nextZ ls (v6 + 1 + 1 + 1 + 1) (iN (celN (looM ls 0 6))))).fst = (dooO (looM ls 0 6) v0 (nextZ ls v6 (iN v0.length)) (cutZ (nextZ ls (v6 + 1) 7) 7) (nextZ ls (v6 + 1 + 1 + 1 + 1) (iN (celN (looM ls 0 6))))).fst)) (nextZ ls v6 (iN v0.length)) (nextZ ls (v6 + 1) 7) (nextZ ls (v6 + 1 + 1 + 1 + 1) (iN (celN (looM ls 0 6)))) (v6 + 1 + 1 + 1 + 1 + 1)))))))
     (gu (v0.length ≤ 5864062014634) <|
      gu (Rows (looM ls 0 6).nx) <|
      gu (∀ (blk : Blk), blk ∈ [Blk.mk (List.map bdA (actO (looM ls 0 6) v0 (nextZ ls v6 (iN v0.length)) (cutZ (nextZ ls (v6 + 1) 7) 7) (nextZ ls (v6 + 1 + 1 + 1 + 1) (iN (celN (looM ls 0 6))))).fst) 4 true true none] → ImmB blk) <|
      gu (∀ (blk : Blk), blk ∈ [Blk.mk (List.map bdA (dooO (looM ls 0 6) v0 (nextZ ls v6 (iN v0.length)) (cutZ (nextZ ls (v6 + 1) 7) 7) (nextZ ls (v6 + 1 + 1 + 1 + 1) (iN (celN (looM ls 0 6))))).fst) 4 true true none] → ImmB blk) <|
      br ((actO (looM ls 0 6) v0 (nextZ ls v6 (iN v0.length)) (cutZ (nextZ ls (v6 + 1) 7) 7) (nextZ ls (v6 + 1 + 1 + 1 + 1) (iN (celN (looM ls 0 6))))).snd != (dooO (looM ls 0 6) v0 (nextZ ls v6 (iN v0.length)) (cutZ (nextZ ls (v6 + 1) 7) 7) (nextZ ls (v6 + 1 + 1 + 1 + 1) (iN (celN (looM ls 0 6))))).snd)
      (some (.inr ([], AV.bool false)))
      (gu ((actO (looM ls 0 6) v0 (nextZ ls v6 (iN v0.length)) (cutZ (nextZ ls (v6 + 1) 7) 7) (nextZ ls (v6 + 1 + 1 + 1 + 1) (iN (celN (looM ls 0 6))))).fst.length ≤ 5864062014634) <|
       br (!decide ((actO (looM ls 0 6) v0 (nextZ ls v6 (iN v0.length)) (cutZ (nextZ ls (v6 + 1) 7) 7) (nextZ ls (v6 + 1 + 1 + 1 + 1) (iN (celN (looM ls 0 6))))).fst = (dooO (looM ls 0 6) v0 (nextZ ls v6 (iN v0.length)) (cutZ (nextZ ls (v6 + 1) 7) 7) (nextZ ls (v6 + 1 + 1 + 1 + 1) (iN (celN (looM ls 0 6))))).fst))
       (some (.inr ([], AV.bool false)))
       (some (.inl (.l3 (v0) (actO (looM ls 0 6) v0 (nextZ ls v6 (iN v0.length)) (cutZ (nextZ ls (v6 + 1) 7) 7) (nextZ ls (v6 + 1 + 1 + 1 + 1) (iN (celN (looM ls 0 6))))) (dooO (looM ls 0 6) v0 (nextZ ls v6 (iN v0.length)) (cutZ (nextZ ls (v6 + 1) 7) 7) (nextZ ls (v6 + 1 + 1 + 1 + 1) (iN (celN (looM ls 0 6))))) (decide ((actO (looM ls 0 6) v0 (nextZ ls v6 (iN v0.length)) (cutZ (nextZ ls (v6 + 1) 7) 7) (nextZ ls (v6 + 1 + 1 + 1 + 1) (iN (celN (looM ls 0 6))))).fst = (dooO (looM ls 0 6) v0 (nextZ ls v6 (iN v0.length)) (cutZ (nextZ ls (v6 + 1) 7) 7) (nextZ ls (v6 + 1 + 1 + 1 + 1) (iN (celN (looM ls 0 6))))).fst)) (!decide ((actO (looM ls 0 6) v0 (nextZ ls v6 (iN v0.length)) (cutZ (nextZ ls (v6 + 1) 7) 7) (nextZ ls (v6 + 1 + 1 + 1 + 1) (iN (celN (looM ls 0 6))))).fst = (dooO (looM ls 0 6) v0 (nextZ ls v6 (iN v0.length)) (cutZ (nextZ ls (v6 + 1) 7) 7) (nextZ ls (v6 + 1 + 1 + 1 + 1) (iN (celN (looM ls 0 6))))).fst)) (nextZ ls v6 (iN v0.length)) (nextZ ls (v6 + 1) 7) (nextZ ls (v6 + 1 + 1 + 1 + 1) (iN (celN (looM ls 0 6)))) (v6 + 1 + 1 + 1 + 1 + 1)))))))
    (br (cutZ (nextZ ls (v6 + 1) 7) 7 != 0)
     (br (cutZ (nextZ ls (v6 + 1) 7) 7 != 1)
      (gu (v0.length ≤ 5864062014634) <|
       gu (Rows (looM ls 0 6).nx) <|
       gu (∀ (blk : Blk), blk ∈ [Blk.mk (List.map bdA (actO (looM ls 0 6) v0 (nextZ ls v6 (iN v0.length)) (cutZ (nextZ ls (v6 + 1) 7) 7) 0).fst) 4 true true none] → ImmB blk) <|
       gu (∀ (blk : Blk), blk ∈ [Blk.mk (List.map bdA (dooO (looM ls 0 6) v0 (nextZ ls v6 (iN v0.length)) (cutZ (nextZ ls (v6 + 1) 7) 7) 0).fst) 4 true true none] → ImmB blk) <|
       br ((actO (looM ls 0 6) v0 (nextZ ls v6 (iN v0.length)) (cutZ (nextZ ls (v6 + 1) 7) 7) 0).snd != (dooO (looM ls 0 6) v0 (nextZ ls v6 (iN v0.length)) (cutZ (nextZ ls (v6 + 1) 7) 7) 0).snd)
       (some (.inr ([], AV.bool false)))
       (gu ((actO (looM ls 0 6) v0 (nextZ ls v6 (iN v0.length)) (cutZ (nextZ ls (v6 + 1) 7) 7) 0).fst.length ≤ 5864062014634) <|
        br (!decide ((actO (looM ls 0 6) v0 (nextZ ls v6 (iN v0.length)) (cutZ (nextZ ls (v6 + 1) 7) 7) 0).fst = (dooO (looM ls 0 6) v0 (nextZ ls v6 (iN v0.length)) (cutZ (nextZ ls (v6 + 1) 7) 7) 0).fst))
        (some (.inr ([], AV.bool false)))
        (some (.inl (.l3 (v0) (actO (looM ls 0 6) v0 (nextZ ls v6 (iN v0.length)) (cutZ (nextZ ls (v6 + 1) 7) 7) 0) (dooO (looM ls 0 6) v0 (nextZ ls v6 (iN v0.length)) (cutZ (nextZ ls (v6 + 1) 7) 7) 0) (decide ((actO (looM ls 0 6) v0 (nextZ ls v6 (iN v0.length)) (cutZ (nextZ ls (v6 + 1) 7) 7) 0).fst = (dooO (looM ls 0 6) v0 (nextZ ls v6 (iN v0.length)) (cutZ (nextZ ls (v6 + 1) 7) 7) 0).fst)) (!decide ((actO (looM ls 0 6) v0 (nextZ ls v6 (iN v0.length)) (cutZ (nextZ ls (v6 + 1) 7) 7) 0).fst = (dooO (looM ls 0 6) v0 (nextZ ls v6 (iN v0.length)) (cutZ (nextZ ls (v6 + 1) 7) 7) 0).fst)) (nextZ ls v6 (iN v0.length)) (nextZ ls (v6 + 1) 7) (nextZ ls (v6 + 1 + 1) (iN (celN (looM ls 0 6)))) (v6 + 1 + 1 + 1 + 1))))))
      (gu (v0.length ≤ 5864062014634) <|
       gu (Rows (looM ls 0 6).nx) <|
       gu (∀ (blk : Blk), blk ∈ [Blk.mk (List.map bdA (actO (looM ls 0 6) v0 (nextZ ls v6 (iN v0.length)) (cutZ (nextZ ls (v6 + 1) 7) 7) (nextZ ls (v6 + 1 + 1) (iN (celN (looM ls 0 6))))).fst) 4 true true none] → ImmB blk) <|
       gu (∀ (blk : Blk), blk ∈ [Blk.mk (List.map bdA (dooO (looM ls 0 6) v0 (nextZ ls v6 (iN v0.length)) (cutZ (nextZ ls (v6 + 1) 7) 7) (nextZ ls (v6 + 1 + 1) (iN (celN (looM ls 0 6))))).fst) 4 true true none] → ImmB blk) <|
       br ((actO (looM ls 0 6) v0 (nextZ ls v6 (iN v0.length)) (cutZ (nextZ ls (v6 + 1) 7) 7) (nextZ ls (v6 + 1 + 1) (iN (celN (looM ls 0 6))))).snd != (dooO (looM ls 0 6) v0 (nextZ ls v6 (iN v0.length)) (cutZ (nextZ ls (v6 + 1) 7) 7) (nextZ ls (v6 + 1 + 1) (iN (celN (looM ls 0 6))))).snd)
       (some (.inr ([], AV.bool false)))
       (gu ((actO (looM ls 0 6) v0 (nextZ ls v6 (iN v0.length)) (cutZ (nextZ ls (v6 + 1) 7) 7) (nextZ ls (v6 + 1 + 1) (iN (celN (looM ls 0 6))))).fst.length ≤ 5864062014634) <|
        br (!decide ((actO (looM ls 0 6) v0 (nextZ ls v6 (iN v0.length)) (cutZ (nextZ ls (v6 + 1) 7) 7) (nextZ ls (v6 + 1 + 1) (iN (celN (looM ls 0 6))))).fst = (dooO (looM ls 0 6) v0 (nextZ ls v6 (iN v0.length)) (cutZ (nextZ ls (v6 + 1) 7) 7) (nextZ ls (v6 + 1 + 1) (iN (celN (looM ls 0 6))))).fst))
        (some (.inr ([], AV.bool false)))
        (some (.inl (.l3 (v0) (actO (looM ls 0 6) v0 (nextZ ls v6 (iN v0.length)) (cutZ (nextZ ls (v6 + 1) 7) 7) (nextZ ls (v6 + 1 + 1) (iN (celN (looM ls 0 6))))) (dooO (looM ls 0 6) v0 (nextZ ls v6 (iN v0.length)) (cutZ (nextZ ls (v6 + 1) 7) 7) (nextZ ls (v6 + 1 + 1) (iN (celN (looM ls 0 6))))) (decide ((actO (looM ls 0 6) v0 (nextZ ls v6 (iN v0.length)) (cutZ (nextZ ls (v6 + 1) 7) 7) (nextZ ls (v6 + 1 + 1) (iN (celN (looM ls 0 6))))).fst = (dooO (looM ls 0 6) v0 (nextZ ls v6 (iN v0.length)) (cutZ (nextZ ls (v6 + 1) 7) 7) (nextZ ls (v6 + 1 + 1) (iN (celN (looM ls 0 6))))).fst)) (!decide ((actO (looM ls 0 6) v0 (nextZ ls v6 (iN v0.length)) (cutZ (nextZ ls (v6 + 1) 7) 7) (nextZ ls (v6 + 1 + 1) (iN (celN (looM ls 0 6))))).fst = (dooO (looM ls 0 6) v0 (nextZ ls v6 (iN v0.length)) (cutZ (nextZ ls (v6 + 1) 7) 7) (nextZ ls (v6 + 1 + 1) (iN (celN (looM ls 0 6))))).fst)) (nextZ ls v6 (iN v0.length)) (nextZ ls (v6 + 1) 7) (nextZ ls (v6 + 1 + 1) (iN (celN (looM ls 0 6)))) (v6 + 1 + 1 + 1 + 1)))))))
     (gu (v0.length ≤ 5864062014634) <|
      gu (Rows (looM ls 0 6).nx) <|
      gu (∀ (blk : Blk), blk ∈ [Blk.mk (List.map bdA (actO (looM ls 0 6) v0 (nextZ ls v6 (iN v0.length)) (cutZ (nextZ ls (v6 + 1) 7) 7) (nextZ ls (v6 + 1 + 1) (iN (celN (looM ls 0 6))))).fst) 4 true true none] → ImmB blk) <|
      gu (∀ (blk : Blk), blk ∈ [Blk.mk (List.map bdA (dooO (looM ls 0 6) v0 (nextZ ls v6 (iN v0.length)) (cutZ (nextZ ls (v6 + 1) 7) 7) (nextZ ls (v6 + 1 + 1) (iN (celN (looM ls 0 6))))).fst) 4 true true none] → ImmB blk) <|
      br ((actO (looM ls 0 6) v0 (nextZ ls v6 (iN v0.length)) (cutZ (nextZ ls (v6 + 1) 7) 7) (nextZ ls (v6 + 1 + 1) (iN (celN (looM ls 0 6))))).snd != (dooO (looM ls 0 6) v0 (nextZ ls v6 (iN v0.length)) (cutZ (nextZ ls (v6 + 1) 7) 7) (nextZ ls (v6 + 1 + 1) (iN (celN (looM ls 0 6))))).snd)
      (some (.inr ([], AV.bool false)))
      (gu ((actO (looM ls 0 6) v0 (nextZ ls v6 (iN v0.length)) (cutZ (nextZ ls (v6 + 1) 7) 7) (nextZ ls (v6 + 1 + 1) (iN (celN (looM ls 0 6))))).fst.length ≤ 5864062014634) <|
       br (!decide ((actO (looM ls 0 6) v0 (nextZ ls v6 (iN v0.length)) (cutZ (nextZ ls (v6 + 1) 7) 7) (nextZ ls (v6 + 1 + 1) (iN (celN (looM ls 0 6))))).fst = (dooO (looM ls 0 6) v0 (nextZ ls v6 (iN v0.length)) (cutZ (nextZ ls (v6 + 1) 7) 7) (nextZ ls (v6 + 1 + 1) (iN (celN (looM ls 0 6))))).fst))
       (some (.inr ([], AV.bool false)))
       (some (.inl (.l3 (v0) (actO (looM ls 0 6) v0 (nextZ ls v6 (iN v0.length)) (cutZ (nextZ ls (v6 + 1) 7) 7) (nextZ ls (v6 + 1 + 1) (iN (celN (looM ls 0 6))))) (dooO (looM ls 0 6) v0 (nextZ ls v6 (iN v0.length)) (cutZ (nextZ ls (v6 + 1) 7) 7) (nextZ ls (v6 + 1 + 1) (iN (celN (looM ls 0 6))))) (decide ((actO (looM ls 0 6) v0 (nextZ ls v6 (iN v0.length)) (cutZ (nextZ ls (v6 + 1) 7) 7) (nextZ ls (v6 + 1 + 1) (iN (celN (looM ls 0 6))))).fst = (dooO (looM ls 0 6) v0 (nextZ ls v6 (iN v0.length)) (cutZ (nextZ ls (v6 + 1) 7) 7) (nextZ ls (v6 + 1 + 1) (iN (celN (looM ls 0 6))))).fst)) (!decide ((actO (looM ls 0 6) v0 (nextZ ls v6 (iN v0.length)) (cutZ (nextZ ls (v6 + 1) 7) 7) (nextZ ls (v6 + 1 + 1) (iN (celN (looM ls 0 6))))).fst = (dooO (looM ls 0 6) v0 (nextZ ls v6 (iN v0.length)) (cutZ (nextZ ls (v6 + 1) 7) 7) (nextZ ls (v6 + 1 + 1) (iN (celN (looM ls 0 6))))).fst)) (nextZ ls v6 (iN v0.length)) (nextZ ls (v6 + 1) 7) (nextZ ls (v6 + 1 + 1) (iN (celN (looM ls 0 6)))) (v6 + 1 + 1 + 1 + 1))))))))
   (br (cutZ (nextZ ls (v6 + 1) 7) 7 != 0)
    (br (cutZ (nextZ ls (v6 + 1) 7) 7 != 1)
     (gu (v0.length ≤ 5864062014634) <|
      gu (Rows (looM ls 0 6).nx) <|
      gu (∀ (blk : Blk), blk ∈ [Blk.mk (List.map bdA (actO (looM ls 0 6) v0 (nextZ ls v6 (iN v0.length)) (cutZ (nextZ ls (v6 + 1) 7) 7) 0).fst) 4 true true none] → ImmB blk) <|
      gu (∀ (blk : Blk), blk ∈ [Blk.mk (List.map bdA (dooO (looM ls 0 6) v0 (nextZ ls v6 (iN v0.length)) (cutZ (nextZ ls (v6 + 1) 7) 7) 0).fst) 4 true true none] → ImmB blk) <|
      br ((actO (looM ls 0 6) v0 (nextZ ls v6 (iN v0.length)) (cutZ (nextZ ls (v6 + 1) 7) 7) 0).snd != (dooO (looM ls 0 6) v0 (nextZ ls v6 (iN v0.length)) (cutZ (nextZ ls (v6 + 1) 7) 7) 0).snd)
      (some (.inr ([], AV.bool false)))
      (gu ((actO (looM ls 0 6) v0 (nextZ ls v6 (iN v0.length)) (cutZ (nextZ ls (v6 + 1) 7) 7) 0).fst.length ≤ 5864062014634) <|
       br (!decide ((actO (looM ls 0 6) v0 (nextZ ls v6 (iN v0.length)) (cutZ (nextZ ls (v6 + 1) 7) 7) 0).fst = (dooO (looM ls 0 6) v0 (nextZ ls v6 (iN v0.length)) (cutZ (nextZ ls (v6 + 1) 7) 7) 0).fst))
       (some (.inr ([], AV.bool false)))
       (some (.inl (.l3 (v0) (actO (looM ls 0 6) v0 (nextZ ls v6 (iN v0.length)) (cutZ (nextZ ls (v6 + 1) 7) 7) 0) (dooO (looM ls 0 6) v0 (nextZ ls v6 (iN v0.length)) (cutZ (nextZ ls (v6 + 1) 7) 7) 0) (decide ((actO (looM ls 0 6) v0 (nextZ ls v6 (iN v0.length)) (cutZ (nextZ ls (v6 + 1) 7) 7) 0).fst = (dooO (looM ls 0 6) v0 (nextZ ls v6 (iN v0.length)) (cutZ (nextZ ls (v6 + 1) 7) 7) 0).fst)) (!decide ((actO (looM ls 0 6) v0 (nextZ ls v6 (iN v0.length)) (cutZ (nextZ ls (v6 + 1) 7) 7) 0).fst = (dooO (looM ls 0 6) v0 (nextZ ls v6 (iN v0.length)) (cutZ (nextZ ls (v6 + 1) 7) 7) 0).fst)) (nextZ ls v6 (iN v0.length)) (nextZ ls (v6 + 1) 7) (nextZ ls (v6 + 1 + 1) (iN (celN (looM ls 0 6)))) (v6 + 1 + 1 + 1))))))
     (gu (v0.length ≤ 5864062014634) <|
      gu (Rows (looM ls 0 6).nx) <|
      gu (∀ (blk : Blk), blk ∈ [Blk.mk (List.map bdA (actO (looM ls 0 6) v0 (nextZ ls v6 (iN v0.length)) (cutZ (nextZ ls (v6 + 1) 7) 7) (nextZ ls (v6 + 1 + 1) (iN (celN (looM ls 0 6))))).fst) 4 true true none] → ImmB blk) <|
      gu (∀ (blk : Blk), blk ∈ [Blk.mk (List.map bdA (dooO (looM ls 0 6) v0 (nextZ ls v6 (iN v0.length)) (cutZ (nextZ ls (v6 + 1) 7) 7) (nextZ ls (v6 + 1 + 1) (iN (celN (looM ls 0 6))))).fst) 4 true true none] → ImmB blk) <|
      br ((actO (looM ls 0 6) v0 (nextZ ls v6 (iN v0.length)) (cutZ (nextZ ls (v6 + 1) 7) 7) (nextZ ls (v6 + 1 + 1) (iN (celN (looM ls 0 6))))).snd != (dooO (looM ls 0 6) v0 (nextZ ls v6 (iN v0.length)) (cutZ (nextZ ls (v6 + 1) 7) 7) (nextZ ls (v6 + 1 + 1) (iN (celN (looM ls 0 6))))).snd)
      (some (.inr ([], AV.bool false)))
      (gu ((actO (looM ls 0 6) v0 (nextZ ls v6 (iN v0.length)) (cutZ (nextZ ls (v6 + 1) 7) 7) (nextZ ls (v6 + 1 + 1) (iN (celN (looM ls 0 6))))).fst.length ≤ 5864062014634) <|
       br (!decide ((actO (looM ls 0 6) v0 (nextZ ls v6 (iN v0.length)) (cutZ (nextZ ls (v6 + 1) 7) 7) (nextZ ls (v6 + 1 + 1) (iN (celN (looM ls 0 6))))).fst = (dooO (looM ls 0 6) v0 (nextZ ls v6 (iN v0.length)) (cutZ (nextZ ls (v6 + 1) 7) 7) (nextZ ls (v6 + 1 + 1) (iN (celN (looM ls 0 6))))).fst))
       (some (.inr ([], AV.bool false)))
       (some (.inl (.l3 (v0) (actO (looM ls 0 6) v0 (nextZ ls v6 (iN v0.length)) (cutZ (nextZ ls (v6 + 1) 7) 7) (nextZ ls (v6 + 1 + 1) (iN (celN (looM ls 0 6))))) (dooO (looM ls 0 6) v0 (nextZ ls v6 (iN v0.length)) (cutZ (nextZ ls (v6 + 1) 7) 7) (nextZ ls (v6 + 1 + 1) (iN (celN (looM ls 0 6))))) (decide ((actO (looM ls 0 6) v0 (nextZ ls v6 (iN v0.length)) (cutZ (nextZ ls (v6 + 1) 7) 7) (nextZ ls (v6 + 1 + 1) (iN (celN (looM ls 0 6))))).fst = (dooO (looM ls 0 6) v0 (nextZ ls v6 (iN v0.length)) (cutZ (nextZ ls (v6 + 1) 7) 7) (nextZ ls (v6 + 1 + 1) (iN (celN (looM ls 0 6))))).fst)) (!decide ((actO (looM ls 0 6) v0 (nextZ ls v6 (iN v0.length)) (cutZ (nextZ ls (v6 + 1) 7) 7) (nextZ ls (v6 + 1 + 1) (iN (celN (looM ls 0 6))))).fst = (dooO (looM ls 0 6) v0 (nextZ ls v6 (iN v0.length)) (cutZ (nextZ ls (v6 + 1) 7) 7) (nextZ ls (v6 + 1 + 1) (iN (celN (looM ls 0 6))))).fst)) (nextZ ls v6 (iN v0.length)) (nextZ ls (v6 + 1) 7) (nextZ ls (v6 + 1 + 1) (iN (celN (looM ls 0 6)))) (v6 + 1 + 1 + 1)))))))
    (gu (v0.length ≤ 5864062014634) <|
     gu (Rows (looM ls 0 6).nx) <|
     gu (∀ (blk : Blk), blk ∈ [Blk.mk (List.map bdA (actO (looM ls 0 6) v0 (nextZ ls v6 (iN v0.length)) (cutZ (nextZ ls (v6 + 1) 7) 7) (nextZ ls (v6 + 1 + 1) (iN (celN (looM ls 0 6))))).fst) 4 true true none] → ImmB blk) <|
     gu (∀ (blk : Blk), blk ∈ [Blk.mk (List.map bdA (dooO (looM ls 0 6) v0 (nextZ ls v6 (iN v0.length)) (cutZ (nextZ ls (v6 + 1) 7) 7) (nextZ ls (v6 + 1 + 1) (iN (celN (looM ls 0 6))))).fst) 4 true true none] → ImmB blk) <|
     br ((actO (looM ls 0 6) v0 (nextZ ls v6 (iN v0.length)) (cutZ (nextZ ls (v6 + 1) 7) 7) (nextZ ls (v6 + 1 + 1) (iN (celN (looM ls 0 6))))).snd != (dooO (looM ls 0 6) v0 (nextZ ls v6 (iN v0.length)) (cutZ (nextZ ls (v6 + 1) 7) 7) (nextZ ls (v6 + 1 + 1) (iN (celN (looM ls 0 6))))).snd)
     (some (.inr ([], AV.bool false)))
     (gu ((actO (looM ls 0 6) v0 (nextZ ls v6 (iN v0.length)) (cutZ (nextZ ls (v6 + 1) 7) 7) (nextZ ls (v6 + 1 + 1) (iN (celN (looM ls 0 6))))).fst.length ≤ 5864062014634) <|
      br (!decide ((actO (looM ls 0 6) v0 (nextZ ls v6 (iN v0.length)) (cutZ (nextZ ls (v6 + 1) 7) 7) (nextZ ls (v6 + 1 + 1) (iN (celN (looM ls 0 6))))).fst = (dooO (looM ls 0 6) v0 (nextZ ls v6 (iN v0.length)) (cutZ (nextZ ls (v6 + 1) 7) 7) (nextZ ls (v6 + 1 + 1) (iN (celN (looM ls 0 6))))).fst))
      (some (.inr ([], AV.bool false)))
      (some (.inl (.l3 (v0) (actO (looM ls 0 6) v0 (nextZ ls v6 (iN v0.length)) (cutZ (nextZ ls (v6 + 1) 7) 7) (nextZ ls (v6 + 1 + 1) (iN (celN (looM ls 0 6))))) (dooO (looM ls 0 6) v0 (nextZ ls v6 (iN v0.length)) (cutZ (nextZ ls (v6 + 1) 7) 7) (nextZ ls (v6 + 1 + 1) (iN (celN (looM ls 0 6))))) (decide ((actO (looM ls 0 6) v0 (nextZ ls v6 (iN v0.length)) (cutZ (nextZ ls (v6 + 1) 7) 7) (nextZ ls (v6 + 1 + 1) (iN (celN (looM ls 0 6))))).fst = (dooO (looM ls 0 6) v0 (nextZ ls v6 (iN v0.length)) (cutZ (nextZ ls (v6 + 1) 7) 7) (nextZ ls (v6 + 1 + 1) (iN (celN (looM ls 0 6))))).fst)) (!decide ((actO (looM ls 0 6) v0 (nextZ ls v6 (iN v0.length)) (cutZ (nextZ ls (v6 + 1) 7) 7) (nextZ ls (v6 + 1 + 1) (iN (celN (looM ls 0 6))))).fst = (dooO (looM ls 0 6) v0 (nextZ ls v6 (iN v0.length)) (cutZ (nextZ ls (v6 + 1) 7) 7) (nextZ ls (v6 + 1 + 1) (iN (celN (looM ls 0 6))))).fst)) (nextZ ls v6 (iN v0.length)) (nextZ ls (v6 + 1) 7) (nextZ ls (v6 + 1 + 1) (iN (celN (looM ls 0 6)))) (v6 + 1 + 1 + 1))))))))
noncomputable def plAS2 (n : NetD) (l : List BdD) (p q w : Int) (ls : List Int) (v0 : List BdD × Int) (v1 : List BdD × Int) (v2 : Bool) (v3 : Bool) : Option (plAPc ⊕ Ret) :=
  gu (ValidN (looM ls 0 6)) <|
  gu (looK ls 0 6 < 9223372036854775807) <|
  some (.inl (.l1 ([]) (IntKind.i64.wrap (1 + nextZ ls (looK ls 0 6) 4)) (v0) (v1) (v2) (v3) (looK ls 0 6 + 1)))
noncomputable def plAS3 (n : NetD) (l : List BdD) (p q w : Int) (ls : List Int) (v0 : List BdD) (v1 : List BdD × Int) (v2 : List BdD × Int) (v3 : Bool) (v4 : Bool) (v5 : Int) (v6 : Int) (v7 : Int) (v8 : Nat) : Option (plAPc ⊕ Ret) :=
  some (.inr ([], AV.bool true))
noncomputable def plAStep (n : NetD) (l : List BdD) (p q w : Int) (ls : List Int) : plAPc → Option (plAPc ⊕ Ret)
  | .l0  => plAS0 n l p q w ls 
  | .l1 v0 v1 v2 v3 v4 v5 v6 => plAS1 n l p q w ls v0 v1 v2 v3 v4 v5 v6
  | .l2 v0 v1 v2 v3 => plAS2 n l p q w ls v0 v1 v2 v3
  | .l3 v0 v1 v2 v3 v4 v5 v6 v7 v8 => plAS3 n l p q w ls v0 v1 v2 v3 v4 v5 v6 v7 v8
theorem plAEn_ok (n : NetD) (l : List BdD) (p q w : Int) (ls : List Int) (o : plAPc ⊕ Ret) (h : plAEn n l p q w ls = some o) : Arr Try.prog Try.f4 0 (plASt n l p q w ls) plAHd (bodyOf Try.f4) [] { n := Try.f4.ntmps, fr := enumF 0 ([netA n, .lst (l.map bdA), .agg [.int .i64 p, .int .i64 q, .int .i64 w], lI ls]), hp := ([]) } o :=
 Scr.ok h mix (
 have c0 := plk_c;
 .lp [] [] [(20, hK c0 [] [])] [] [] [0, 1, 2] [1, 4, 6, 9, 10] (aj (aj (u2 (u2 t2)) (aj (aj (al (c0)) s2) (ak (aj (u2 (u2 (u2 s2))) s2)))) t9)) (by kernel_rfl)
theorem plAS0_ok (n : NetD) (l : List BdD) (p q w : Int) (ls : List Int) (o : plAPc ⊕ Ret) (h : plAS0 n l p q w ls = some o) : Arr Try.prog Try.f4 0 (plASt n l p q w ls) plAHd (headC Try.f4 0) (.rnd (headC Try.f4 0) :: headK Try.f4 0) (plASt n l p q w ls (.l0)) o :=
 Scr.ok h mix (
 have c0 := cut_ct (q) (7);
 .rn 3 [] [] [(77, hK c0 [] [])] [] (aj (u2 s2) (ak (aj (u2 s2) (ak (aj (aj (ak (aj (show (0 : Int) ≤ (1 : Int) from (by first | exact Nat.le_of_ble_eq_true rfl | decide)) (show (1 : Int) < (3 : Int) from (by first | exact Nat.le_of_ble_eq_true rfl | decide)))) (u2 (aj (k3 (al (c0))) s2))) (al (aj (ak (aj (show (0 : Int) ≤ (2 : Int) from (by first | exact Nat.le_of_ble_eq_true rfl | decide)) (show (2 : Int) < (3 : Int) from (by first | exact Nat.le_of_ble_eq_true rfl | decide)))) (u2 s2)))))))) <|
 .br (fun a0 =>
 .rn 0 [165] [] [] [] (al (u2 (u2 (u2 (ag a0 (ag a0 (al (aj a0 t2)))))))) <|
 .br (fun a1 =>
  .rn 0 [165, 171] [] [] [] (aj a1 s2) <|
  .gu fun a2 =>
  .gu fun a3 =>
  have c1 := act_c (n) (l) (p) (cutZ q 7) (0) a2 a3;
  have c2 := doo_c (n) (l) (p) (cutZ q 7) (0) a2 a3;
  .rn 1 [165] [] [(93, hK c1 [] []), (103, hK c2 [] [])] [] (aj (u2 (u2 (aj (ak (aj (show (0 : Int) ≤ (0 : Int) from (by first | exact Nat.le_of_ble_eq_true rfl | decide)) (show (0 : Int) < (3 : Int) from (by first | exact Nat.le_of_ble_eq_true rfl | decide)))) (u2 (u2 (u2 (aj (k5 (aj t9 (ak (k3 (al (c1)))))) (u2 (u2 (u2 (u2 s2))))))))))) (al (u2 (u2 (aj (ak (aj (show (0 : Int) ≤ (0 : Int) from (by first | exact Nat.le_of_ble_eq_true rfl | decide)) (show (0 : Int) < (3 : Int) from (by first | exact Nat.le_of_ble_eq_true rfl | decide)))) (u2 (u2 (u2 (aj (k5 (aj t9 (ak (k3 (al (c2)))))) (u2 (u2 (u2 (u2 s2))))))))))))) <|
  .br (fun a4 =>
  .rt [165, 219] [] [] [] [] [] (aj (aj (u2 (u2 (aj t3 (u2 (aj a4 (aj a4 (aj a4 (aj a4 (al (aj a4 t2)))))))))) (ak s2)) t2))
  (fun a4 =>
  .gu fun a5 =>
  have c3 := sm_c ((actO n l p (cutZ q 7) 0).fst) ((dooO n l p (cutZ q 7) 0).fst) a5;
  .rn 0 [165, 218] [] [(112, hK c3 [] [3, 4])] [] (al (u2 (u2 (aj t3 (u2 (ag a4 (ag a4 (aj (aj a4 (k2 (aj (show (actO n l p (cutZ q 7) 0).fst.length = (List.map bdA (actO n l p (cutZ q 7) 0).fst).length by simp) (aj (show (dooO n l p (cutZ q 7) 0).fst.length = (List.map bdA (dooO n l p (cutZ q 7) 0).fst).length by simp) (aj (c3) (show ∀ (blk : Blk), blk ∈ [] → ImmB blk from (by intro _ h; cases h))))))) (ag a4 (al (aj a4 t2))))))))))) <|
  .br (fun a6 =>
   .rt [165, 218, 229] [] [] [] [] [] (aj (aj a6 s2) t2))
  (fun a6 =>
   .lp [165, 218, 228] [] [] [] [] [0, 1, 2, 3, 4] [1, 4, 6, 9, 10, 110, 111, 112, 113] (aj (aj a6 (al (u2 (u2 s2)))) (ak (k5 t9))))))
 (fun a1 =>
  .gu fun a2 =>
  .gu fun a3 =>
  have c1 := act_c (n) (l) (p) (cutZ q 7) (w) a2 a3;
  have c2 := doo_c (n) (l) (p) (cutZ q 7) (w) a2 a3;
  .rn 1 [165, 170] [] [(93, hK c1 [] []), (103, hK c2 [] [])] [] (aj a1 (aj (u2 (u2 (aj (ak (aj (show (0 : Int) ≤ (0 : Int) from (by first | exact Nat.le_of_ble_eq_true rfl | decide)) (show (0 : Int) < (3 : Int) from (by first | exact Nat.le_of_ble_eq_true rfl | decide)))) (u2 (u2 (u2 (aj (k5 (aj t9 (ak (k3 (al (c1)))))) (u2 (u2 (u2 (u2 s2))))))))))) (al (u2 (u2 (aj (ak (aj (show (0 : Int) ≤ (0 : Int) from (by first | exact Nat.le_of_ble_eq_true rfl | decide)) (show (0 : Int) < (3 : Int) from (by first | exact Nat.le_of_ble_eq_true rfl | decide)))) (u2 (u2 (u2 (aj (k5 (aj t9 (ak (k3 (al (c2)))))) (u2 (u2 (u2 (u2 s2)))))))))))))) <|
  .br (fun a4 =>
  .rt [165, 219] [] [] [] [] [] (aj (aj (u2 (u2 (aj t3 (u2 (aj a4 (aj a4 (aj a4 (aj a4 (al (aj a4 t2)))))))))) (ak s2)) t2))
  (fun a4 =>
  .gu fun a5 =>
  have c3 := sm_c ((actO n l p (cutZ q 7) w).fst) ((dooO n l p (cutZ q 7) w).fst) a5;
  .rn 0 [165, 218] [] [(112, hK c3 [] [3, 4])] [] (al (u2 (u2 (aj t3 (u2 (ag a4 (ag a4 (aj (aj a4 (k2 (aj (show (actO n l p (cutZ q 7) w).fst.length = (List.map bdA (actO n l p (cutZ q 7) w).fst).length by simp) (aj (show (dooO n l p (cutZ q 7) w).fst.length = (List.map bdA (dooO n l p (cutZ q 7) w).fst).length by simp) (aj (c3) (show ∀ (blk : Blk), blk ∈ [] → ImmB blk from (by intro _ h; cases h))))))) (ag a4 (al (aj a4 t2))))))))))) <|
  .br (fun a6 =>
   .rt [165, 218, 229] [] [] [] [] [] (aj (aj a6 s2) t2))
  (fun a6 =>
   .lp [165, 218, 228] [] [] [] [] [0, 1, 2, 3, 4] [1, 4, 6, 9, 10, 110, 111, 112, 113] (aj (aj a6 (al (u2 (u2 s2)))) (ak (k5 t9)))))))
 (fun a0 =>
 .rn 0 [164] [] [] [] (al (u2 (u2 (u2 (aj a0 (aj a0 (al (aj a0 t2)))))))) <|
 .gu fun a1 =>
 .gu fun a2 =>
 have c1 := act_c (n) (l) (p) (cutZ q 7) (w) a1 a2;
 have c2 := doo_c (n) (l) (p) (cutZ q 7) (w) a1 a2;
 .rn 1 [164] [] [(93, hK c1 [] []), (103, hK c2 [] [])] [] (ak (aj (u2 (u2 (aj (ak (aj (show (0 : Int) ≤ (0 : Int) from (by first | exact Nat.le_of_ble_eq_true rfl | decide)) (show (0 : Int) < (3 : Int) from (by first | exact Nat.le_of_ble_eq_true rfl | decide)))) (u2 (u2 (u2 (aj (k5 (aj t9 (ak (k3 (al (c1)))))) (u2 (u2 (u2 (u2 s2))))))))))) (al (u2 (u2 (aj (ak (aj (show (0 : Int) ≤ (0 : Int) from (by first | exact Nat.le_of_ble_eq_true rfl | decide)) (show (0 : Int) < (3 : Int) from (by first | exact Nat.le_of_ble_eq_true rfl | decide)))) (u2 (u2 (u2 (aj (k5 (aj t9 (ak (k3 (al (c2)))))) (u2 (u2 (u2 (u2 s2)))))))))))))) <|
 .br (fun a3 =>
  .rt [164, 219] [] [] [] [] [] (aj (aj (u2 (u2 (aj t3 (u2 (aj a3 (aj a3 (aj a3 (aj a3 (al (aj a3 t2)))))))))) (ak s2)) t2))
 (fun a3 =>
  .gu fun a4 =>
  have c3 := sm_c ((actO n l p (cutZ q 7) w).fst) ((dooO n l p (cutZ q 7) w).fst) a4;
  .rn 0 [164, 218] [] [(112, hK c3 [] [3, 4])] [] (al (u2 (u2 (aj t3 (u2 (ag a3 (ag a3 (aj (aj a3 (k2 (aj (show (actO n l p (cutZ q 7) w).fst.length = (List.map bdA (actO n l p (cutZ q 7) w).fst).length by simp) (aj (show (dooO n l p (cutZ q 7) w).fst.length = (List.map bdA (dooO n l p (cutZ q 7) w).fst).length by simp) (aj (c3) (show ∀ (blk : Blk), blk ∈ [] → ImmB blk from (by intro _ h; cases h))))))) (ag a3 (al (aj a3 t2))))))))))) <|
  .br (fun a5 =>
  .rt [164, 218, 229] [] [] [] [] [] (aj (aj a5 s2) t2))
  (fun a5 =>
  .lp [164, 218, 228] [] [] [] [] [0, 1, 2, 3, 4] [1, 4, 6, 9, 10, 110, 111, 112, 113] (aj (aj a5 (al (u2 (u2 s2)))) (ak (k5 t9))))))) (by kernel_rfl)
theorem plAS1_ok (n : NetD) (l : List BdD) (p q w : Int) (ls : List Int) (v0 : List BdD) (v1 : Int) (v2 : List BdD × Int) (v3 : List BdD × Int) (v4 : Bool) (v5 : Bool) (v6 : Nat) (o : plAPc ⊕ Ret) (h : plAS1 n l p q w ls v0 v1 v2 v3 v4 v5 v6 = some o) : Arr Try.prog Try.f4 0 (plASt n l p q w ls) plAHd (headC Try.f4 1) (.rnd (headC Try.f4 1) :: headK Try.f4 1) (plASt n l p q w ls (.l1 v0 v1 v2 v3 v4 v5 v6)) o :=
 Scr.ok h mix (
 .rn 0 [] [] [] [] (al (u2 s2)) <|
 .br (fun a0 =>
 .gu fun a1 =>
 .gu fun a2 =>
 .gu fun a3 =>
 .gu fun a4 =>
 have c0 := bdy_c (ls) (v6) (iN (celN (looM ls 0 6))) a1 a2;
 .lq [79] [] [(45, hK c0 [3] [])] [] [] [7, 1, 2, 3, 4, 5] [1, 4, 6, 9, 10, 11, 12, 110, 111, 112, 113] (up [(1, AV.sl 0 0 ((List.map bdA v0).length + [AV.agg [iv (bdyM ls v6 (iN (celN (looM ls 0 6)))).c, iv (bdyM ls v6 (iN (celN (looM ls 0 6)))).t, AV.bool (bdyM ls v6 (iN (celN (looM ls 0 6)))).s, AV.bool (bdyM ls v6 (iN (celN (looM ls 0 6)))).f]].length))] [(0, List.map bdA v0 ++ [AV.agg [iv (bdyM ls v6 (iN (celN (looM ls 0 6)))).c, iv (bdyM ls v6 (iN (celN (looM ls 0 6)))).t, AV.bool (bdyM ls v6 (iN (celN (looM ls 0 6)))).s, AV.bool (bdyM ls v6 (iN (celN (looM ls 0 6)))).f]])] (plASt n l p q w ls (.l1 (v0 ++ [bdyM ls v6 (iN (celN (looM ls 0 6)))]) (IntKind.i64.wrap (v1 - 1)) (v2) (v3) (v4) (v5) (bdyK ls v6)))) (aj (aj a0 (aj (u2 (u2 (u2 (aj (k5 (al (c0))) (u2 (aj (k2 (aj (show (List.map bdA v0).length = v0.length by simp) (aj (aj (show nat_lit 4 = nat_lit 4 from rfl) (show 1 ≤ [AV.agg [iv (bdyM ls v6 (iN (celN (looM ls 0 6)))).c, iv (bdyM ls v6 (iN (celN (looM ls 0 6)))).t, AV.bool (bdyM ls v6 (iN (celN (looM ls 0 6)))).s, AV.bool (bdyM ls v6 (iN (celN (looM ls 0 6)))).f]].length by simp)) (aj a3 a4)))) s2)))))) (al (u2 (u2 s2))))) (ak (k3 (k5 t9)))) (by simp [up, upF, upV, upH, upB, plASt, gL, boL, lI, bdA, sA, bA]))
 (fun a0 =>
 .gu fun a1 =>
 .gu fun a2 =>
 .gu fun a3 =>
 have c0 := next_ct (ls) (v6) (iN v0.length) a1;
 have c1 := next_ct (ls) (v6 + 1) (7) a2;
 have c2 := next_ct (ls) (v6 + 1 + 1) (iN (celN (looM ls 0 6))) a3;
 .rn 0 [78] [] [(51, hK c0 [3] []), (53, hK c1 [3] []), (56, hK c2 [3] [])] [] (aj a0 (al (u2 (u2 (u2 (aj (k5 (al (c0))) (u2 (aj (ak (k3 (al (c1)))) (u2 (u2 (aj (k5 (al (c2))) (aj t4 (al (k2 (show Nat.le 1 [AV.agg [iv p, iv q, iv w]].length from (Nat.le_of_ble_eq_true rfl)))))))))))))))) <|
 .gu fun a4 =>
 .gu fun a5 =>
 .el fun x62 a6 =>
 .rn 0 [] [(62, bdA x62)] [] [] (al (u2 (aj (ak (aj (show (0 : Int) ≤ (0 : Int) from (by first | exact Nat.le_of_ble_eq_true rfl | decide)) (show (0 : Int) < (3 : Int) from (by first | exact Nat.le_of_ble_eq_true rfl | decide)))) (u2 (aj (k2 (aj a4 a5)) (aj (ak (getMap (f := bdA) a6)) (ak (al (k2 n11))))))))) <|
 .br (fun a7 =>
  .gu fun a8 =>
  have c3 := next_ct (ls) (v6 + 1 + 1 + 1) (2) a8;
  .rn 0 [133] [] [(68, hK c3 [3] [])] [] (al (u2 (u2 (u2 (u2 (ag a7 (aj (aj a7 (ak (k3 (al (c3))))) (ag a7 (al (aj a7 t2)))))))))) <|
  .br (fun a9 =>
  .gu fun a10 =>
  have c4 := next_ct (ls) (v6 + 1 + 1 + 1 + 1) (iN (celN (looM ls 0 6))) a10;
  have c5 := cut_ct (nextZ ls (v6 + 1) 7) (7);
  .rn 2 [133, 141] [] [(73, hK c4 [3] []), (77, hK c5 [] [])] [] (aj a9 (aj (u2 (u2 (aj (k5 (al (c4))) (aj (ak (aj (show (0 : Int) ≤ (2 : Int) from (by first | exact Nat.le_of_ble_eq_true rfl | decide)) (show (2 : Int) < (3 : Int) from (by first | exact Nat.le_of_ble_eq_true rfl | decide)))) (al t3))))) (aj (aj (ak (aj (show (0 : Int) ≤ (1 : Int) from (by first | exact Nat.le_of_ble_eq_true rfl | decide)) (show (1 : Int) < (3 : Int) from (by first | exact Nat.le_of_ble_eq_true rfl | decide)))) (u2 (aj (k3 (al (c5))) s2))) (al (aj (ak (aj (show (0 : Int) ≤ (2 : Int) from (by first | exact Nat.le_of_ble_eq_true rfl | decide)) (show (2 : Int) < (3 : Int) from (by first | exact Nat.le_of_ble_eq_true rfl | decide)))) (u2 s2)))))) <|
  .br (fun a11 =>
   .rn 0 [133, 165] [] [] [] (al (u2 (u2 (u2 (ag a11 (ag a11 (al (aj a11 t2)))))))) <|
   .br (fun a12 =>
   .rn 0 [133, 165, 171] [] [] [] (aj a12 s2) <|
   .gu fun a13 =>
   .gu fun a14 =>
   .gu fun a15 =>
   have c6 := act_c (looM ls 0 6) (v0) (nextZ ls v6 (iN v0.length)) (cutZ (nextZ ls (v6 + 1) 7) 7) (0) a13 a14;
   .rn 0 [133, 165] [] [(93, hK c6 [] [0])] [] (al (u2 (u2 (aj (ak (aj (show (0 : Int) ≤ (0 : Int) from (by first | exact Nat.le_of_ble_eq_true rfl | decide)) (show (0 : Int) < (3 : Int) from (by first | exact Nat.le_of_ble_eq_true rfl | decide)))) (u2 (u2 (u2 (aj (k5 (aj t9 (aj (show v0.length = (List.map bdA v0).length by simp) (k3 (aj (c6) a15))))) (u2 (u2 (u2 (u2 s2)))))))))))) <|
   .gu fun a16 =>
   have c7 := doo_c (looM ls 0 6) (v0) (nextZ ls v6 (iN v0.length)) (cutZ (nextZ ls (v6 + 1) 7) 7) (0) a13 a14;
   .rn 0 [133, 165] [] [(103, hK c7 [] [0])] [] (al (u2 (u2 (aj (ak (aj (show (0 : Int) ≤ (0 : Int) from (by first | exact Nat.le_of_ble_eq_true rfl | decide)) (show (0 : Int) < (3 : Int) from (by first | exact Nat.le_of_ble_eq_true rfl | decide)))) (u2 (u2 (u2 (aj (k5 (aj t9 (aj (show v0.length = (List.map bdA v0).length by simp) (k3 (aj (c7) a16))))) (u2 (u2 (u2 (u2 s2)))))))))))) <|
   .br (fun a17 =>
    .rt [133, 165, 219] [] [] [] [] [] (aj (aj (u2 (u2 (aj t3 (u2 (aj a17 (aj a17 (aj a17 (aj a17 (al (aj a17 t2)))))))))) (ak s2)) t2))
   (fun a17 =>
    .gu fun a18 =>
    have c8 := sm_c ((actO (looM ls 0 6) v0 (nextZ ls v6 (iN v0.length)) (cutZ (nextZ ls (v6 + 1) 7) 7) 0).fst) ((dooO (looM ls 0 6) v0 (nextZ ls v6 (iN v0.length)) (cutZ (nextZ ls (v6 + 1) 7) 7) 0).fst) a18;
    .rn 0 [133, 165, 218] [] [(112, hK c8 [] [7, 8])] [] (al (u2 (u2 (aj t3 (u2 (ag a17 (ag a17 (aj (aj a17 (k2 (aj (show (actO (looM ls 0 6) v0 (nextZ ls v6 (iN v0.length)) (cutZ (nextZ ls (v6 + 1) 7) 7) 0).fst.length = (List.map bdA (actO (looM ls 0 6) v0 (nextZ ls v6 (iN v0.length)) (cutZ (nextZ ls (v6 + 1) 7) 7) 0).fst).length by simp) (aj (show (dooO (looM ls 0 6) v0 (nextZ ls v6 (iN v0.length)) (cutZ (nextZ ls (v6 + 1) 7) 7) 0).fst.length = (List.map bdA (dooO (looM ls 0 6) v0 (nextZ ls v6 (iN v0.length)) (cutZ (nextZ ls (v6 + 1) 7) 7) 0).fst).length by simp) (aj (c8) (show ∀ (blk : Blk), blk ∈ [] → ImmB blk from (by intro _ h; cases h))))))) (ag a17 (al (aj a17 t2))))))))))) <|
    .br (fun a19 =>
    .rt [133, 165, 218, 229] [] [] [] [] [] (aj (aj a19 s2) t2))
    (fun a19 =>
    .lp [133, 165, 218, 228] [] [] [] [] [0, 1, 2, 3, 7, 8] [1, 4, 6, 9, 10, 110, 111, 112, 113] (aj (aj a19 (al (u2 (u2 s2)))) (k2 (k5 t9))))))
   (fun a12 =>
   .gu fun a13 =>
   .gu fun a14 =>
   .gu fun a15 =>
   have c6 := act_c (looM ls 0 6) (v0) (nextZ ls v6 (iN v0.length)) (cutZ (nextZ ls (v6 + 1) 7) 7) (nextZ ls (v6 + 1 + 1 + 1 + 1) (iN (celN (looM ls 0 6)))) a13 a14;
   .rn 0 [133, 165, 170] [] [(93, hK c6 [] [0])] [] (aj a12 (al (u2 (u2 (aj (ak (aj (show (0 : Int) ≤ (0 : Int) from (by first | exact Nat.le_of_ble_eq_true rfl | decide)) (show (0 : Int) < (3 : Int) from (by first | exact Nat.le_of_ble_eq_true rfl | decide)))) (u2 (u2 (u2 (aj (k5 (aj t9 (aj (show v0.length = (List.map bdA v0).length by simp) (k3 (aj (c6) a15))))) (u2 (u2 (u2 (u2 s2))))))))))))) <|
   .gu fun a16 =>
   have c7 := doo_c (looM ls 0 6) (v0) (nextZ ls v6 (iN v0.length)) (cutZ (nextZ ls (v6 + 1) 7) 7) (nextZ ls (v6 + 1 + 1 + 1 + 1) (iN (celN (looM ls 0 6)))) a13 a14;
   .rn 0 [133, 165] [] [(103, hK c7 [] [0])] [] (al (u2 (u2 (aj (ak (aj (show (0 : Int) ≤ (0 : Int) from (by first | exact Nat.le_of_ble_eq_true rfl | decide)) (show (0 : Int) < (3 : Int) from (by first | exact Nat.le_of_ble_eq_true rfl | decide)))) (u2 (u2 (u2 (aj (k5 (aj t9 (aj (show v0.length = (List.map bdA v0).length by simp) (k3 (aj (c7) a16))))) (u2 (u2 (u2 (u2 s2)))))))))))) <|
   .br (fun a17 =>
    .rt [133, 165, 219] [] [] [] [] [] (aj (aj (u2 (u2 (aj t3 (u2 (aj a17 (aj a17 (aj a17 (aj a17 (al (aj a17 t2)))))))))) (ak s2)) t2))
   (fun a17 =>
    .gu fun a18 =>
    have c8 := sm_c ((actO (looM ls 0 6) v0 (nextZ ls v6 (iN v0.length)) (cutZ (nextZ ls (v6 + 1) 7) 7) (nextZ ls (v6 + 1 + 1 + 1 + 1) (iN (celN (looM ls 0 6))))).fst) ((dooO (looM ls 0 6) v0 (nextZ ls v6 (iN v0.length)) (cutZ (nextZ ls (v6 + 1) 7) 7) (nextZ ls (v6 + 1 + 1 + 1 + 1) (iN (celN (looM ls 0 6))))).fst) a18;
    .rn 0 [133, 165, 218] [] [(112, hK c8 [] [7, 8])] [] (al (u2 (u2 (aj t3 (u2 (ag a17 (ag a17 (aj (aj a17 (k2 (aj (show (actO (looM ls 0 6) v0 (nextZ ls v6 (iN v0.length)) (cutZ (nextZ ls (v6 + 1) 7) 7) (nextZ ls (v6 + 1 + 1 + 1 + 1) (iN (celN (looM ls 0 6))))).fst.length = (List.map bdA (actO (looM ls 0 6) v0 (nextZ ls v6 (iN v0.length)) (cutZ (nextZ ls (v6 + 1) 7) 7) (nextZ ls (v6 + 1 + 1 + 1 + 1) (iN (celN (looM ls 0 6))))).fst).length by simp) (aj (show (dooO (looM ls 0 6) v0 (nextZ ls v6 (iN v0.length)) (cutZ (nextZ ls (v6 + 1) 7) 7) (nextZ ls (v6 + 1 + 1 + 1 + 1) (iN (celN (looM ls 0 6))))).fst.length = (List.map bdA (dooO (looM ls 0 6) v0 (nextZ ls v6 (iN v0.length)) (cutZ (nextZ ls (v6 + 1) 7) 7) (nextZ ls (v6 + 1 + 1 + 1 + 1) (iN (celN (looM ls 0 6))))).fst).length by simp) (aj (c8) (show ∀ (blk : Blk), blk ∈ [] → ImmB blk from (by intro _ h; cases h))))))) (ag a17 (al (aj a17 t2))))))))))) <|
    .br (fun a19 =>
    .rt [133, 165, 218, 229] [] [] [] [] [] (aj (aj a19 s2) t2))
    (fun a19 =>
    .lp [133, 165, 218, 228] [] [] [] [] [0, 1, 2, 3, 7, 8] [1, 4, 6, 9, 10, 110, 111, 112, 113] (aj (aj a19 (al (u2 (u2 s2)))) (k2 (k5 t9)))))))
  (fun a11 =>
   .rn 0 [133, 164] [] [] [] (al (u2 (u2 (u2 (aj a11 (aj a11 (al (aj a11 t2)))))))) <|
   .gu fun a12 =>
   .gu fun a13 =>
   .gu fun a14 =>
   have c6 := act_c (looM ls 0 6) (v0) (nextZ ls v6 (iN v0.length)) (cutZ (nextZ ls (v6 + 1) 7) 7) (nextZ ls (v6 + 1 + 1 + 1 + 1) (iN (celN (looM ls 0 6)))) a12 a13;
   .rn 0 [133, 164] [] [(93, hK c6 [] [0])] [] (ak (al (u2 (u2 (aj (ak (aj (show (0 : Int) ≤ (0 : Int) from (by first | exact Nat.le_of_ble_eq_true rfl | decide)) (show (0 : Int) < (3 : Int) from (by first | exact Nat.le_of_ble_eq_true rfl | decide)))) (u2 (u2 (u2 (aj (k5 (aj t9 (aj (show v0.length = (List.map bdA v0).length by simp) (k3 (aj (c6) a14))))) (u2 (u2 (u2 (u2 s2))))))))))))) <|
   .gu fun a15 =>
   have c7 := doo_c (looM ls 0 6) (v0) (nextZ ls v6 (iN v0.length)) (cutZ (nextZ ls (v6 + 1) 7) 7) (nextZ ls (v6 + 1 + 1 + 1 + 1) (iN (celN (looM ls 0 6)))) a12 a13;
   .rn 0 [133, 164] [] [(103, hK c7 [] [0])] [] (al (u2 (u2 (aj (ak (aj (show (0 : Int) ≤ (0 : Int) from (by first | exact Nat.le_of_ble_eq_true rfl | decide)) (show (0 : Int) < (3 : Int) from (by first | exact Nat.le_of_ble_eq_true rfl | decide)))) (u2 (u2 (u2 (aj (k5 (aj t9 (aj (show v0.length = (List.map bdA v0).length by simp) (k3 (aj (c7) a15))))) (u2 (u2 (u2 (u2 s2)))))))))))) <|
   .br (fun a16 =>
   .rt [133, 164, 219] [] [] [] [] [] (aj (aj (u2 (u2 (aj t3 (u2 (aj a16 (aj a16 (aj a16 (aj a16 (al (aj a16 t2)))))))))) (ak s2)) t2))
   (fun a16 =>
   .gu fun a17 =>
   have c8 := sm_c ((actO (looM ls 0 6) v0 (nextZ ls v6 (iN v0.length)) (cutZ (nextZ ls (v6 + 1) 7) 7) (nextZ ls (v6 + 1 + 1 + 1 + 1) (iN (celN (looM ls 0 6))))).fst) ((dooO (looM ls 0 6) v0 (nextZ ls v6 (iN v0.length)) (cutZ (nextZ ls (v6 + 1) 7) 7) (nextZ ls (v6 + 1 + 1 + 1 + 1) (iN (celN (looM ls 0 6))))).fst) a17;
   .rn 0 [133, 164, 218] [] [(112, hK c8 [] [7, 8])] [] (al (u2 (u2 (aj t3 (u2 (ag a16 (ag a16 (aj (aj a16 (k2 (aj (show (actO (looM ls 0 6) v0 (nextZ ls v6 (iN v0.length)) (cutZ (nextZ ls (v6 + 1) 7) 7) (nextZ ls (v6 + 1 + 1 + 1 + 1) (iN (celN (looM ls 0 6))))).fst.length = (List.map bdA (actO (looM ls 0 6) v0 (nextZ ls v6 (iN v0.length)) (cutZ (nextZ ls (v6 + 1) 7) 7) (nextZ ls (v6 + 1 + 1 + 1 + 1) (iN (celN (looM ls 0 6))))).fst).length by simp) (aj (show (dooO (looM ls 0 6) v0 (nextZ ls v6 (iN v0.length)) (cutZ (nextZ ls (v6 + 1) 7) 7) (nextZ ls (v6 + 1 + 1 + 1 + 1) (iN (celN (looM ls 0 6))))).fst.length = (List.map bdA (dooO (looM ls 0 6) v0 (nextZ ls v6 (iN v0.length)) (cutZ (nextZ ls (v6 + 1) 7) 7) (nextZ ls (v6 + 1 + 1 + 1 + 1) (iN (celN (looM ls 0 6))))).fst).length by simp) (aj (c8) (show ∀ (blk : Blk), blk ∈ [] → ImmB blk from (by intro _ h; cases h))))))) (ag a16 (al (aj a16 t2))))))))))) <|
   .br (fun a18 =>
    .rt [133, 164, 218, 229] [] [] [] [] [] (aj (aj a18 s2) t2))
   (fun a18 =>
    .lp [133, 164, 218, 228] [] [] [] [] [0, 1, 2, 3, 7, 8] [1, 4, 6, 9, 10, 110, 111, 112, 113] (aj (aj a18 (al (u2 (u2 s2)))) (k2 (k5 t9)))))))
  (fun a9 =>
  have c4 := cut_ct (nextZ ls (v6 + 1) 7) (7);
  .rn 1 [133, 140] [] [(77, hK c4 [] [])] [] (aj a9 (aj (aj (ak (aj (show (0 : Int) ≤ (1 : Int) from (by first | exact Nat.le_of_ble_eq_true rfl | decide)) (show (1 : Int) < (3 : Int) from (by first | exact Nat.le_of_ble_eq_true rfl | decide)))) (u2 (aj (k3 (al (c4))) s2))) (al (aj (ak (aj (show (0 : Int) ≤ (2 : Int) from (by first | exact Nat.le_of_ble_eq_true rfl | decide)) (show (2 : Int) < (3 : Int) from (by first | exact Nat.le_of_ble_eq_true rfl | decide)))) (u2 s2))))) <|
  .br (fun a10 =>
   .rn 0 [133, 165] [] [] [] (al (u2 (u2 (u2 (ag a10 (ag a10 (al (aj a10 t2)))))))) <|
   .br (fun a11 =>
   .rn 0 [133, 165, 171] [] [] [] (aj a11 s2) <|
   .gu fun a12 =>
   .gu fun a13 =>
   .gu fun a14 =>
   have c5 := act_c (looM ls 0 6) (v0) (nextZ ls v6 (iN v0.length)) (cutZ (nextZ ls (v6 + 1) 7) 7) (0) a12 a13;
   .rn 0 [133, 165] [] [(93, hK c5 [] [0])] [] (al (u2 (u2 (aj (ak (aj (show (0 : Int) ≤ (0 : Int) from (by first | exact Nat.le_of_ble_eq_true rfl | decide)) (show (0 : Int) < (3 : Int) from (by first | exact Nat.le_of_ble_eq_true rfl | decide)))) (u2 (u2 (u2 (aj (k5 (aj t9 (aj (show v0.length = (List.map bdA v0).length by simp) (k3 (aj (c5) a14))))) (u2 (u2 (u2 (u2 s2)))))))))))) <|
   .gu fun a15 =>
   have c6 := doo_c (looM ls 0 6) (v0) (nextZ ls v6 (iN v0.length)) (cutZ (nextZ ls (v6 + 1) 7) 7) (0) a12 a13;
   .rn 0 [133, 165] [] [(103, hK c6 [] [0])] [] (al (u2 (u2 (aj (ak (aj (show (0 : Int) ≤ (0 : Int) from (by first | exact Nat.le_of_ble_eq_true rfl | decide)) (show (0 : Int) < (3 : Int) from (by first | exact Nat.le_of_ble_eq_true rfl | decide)))) (u2 (u2 (u2 (aj (k5 (aj t9 (aj (show v0.length = (List.map bdA v0).length by simp) (k3 (aj (c6) a15))))) (u2 (u2 (u2 (u2 s2)))))))))))) <|
   .br (fun a16 =>
    .rt [133, 165, 219] [] [] [] [] [] (aj (aj (u2 (u2 (aj t3 (u2 (aj a16 (aj a16 (aj a16 (aj a16 (al (aj a16 t2)))))))))) (ak s2)) t2))
   (fun a16 =>
    .gu fun a17 =>
    have c7 := sm_c ((actO (looM ls 0 6) v0 (nextZ ls v6 (iN v0.length)) (cutZ (nextZ ls (v6 + 1) 7) 7) 0).fst) ((dooO (looM ls 0 6) v0 (nextZ ls v6 (iN v0.length)) (cutZ (nextZ ls (v6 + 1) 7) 7) 0).fst) a17;
    .rn 0 [133, 165, 218] [] [(112, hK c7 [] [7, 8])] [] (al (u2 (u2 (aj t3 (u2 (ag a16 (ag a16 (aj (aj a16 (k2 (aj (show (actO (looM ls 0 6) v0 (nextZ ls v6 (iN v0.length)) (cutZ (nextZ ls (v6 + 1) 7) 7) 0).fst.length = (List.map bdA (actO (looM ls 0 6) v0 (nextZ ls v6 (iN v0.length)) (cutZ (nextZ ls (v6 + 1) 7) 7) 0).fst).length by simp) (aj (show (dooO (looM ls 0 6) v0 (nextZ ls v6 (iN v0.length)) (cutZ (nextZ ls (v6 + 1) 7) 7) 0).fst.length = (List.map bdA (dooO (looM ls 0 6) v0 (nextZ ls v6 (iN v0.length)) (cutZ (nextZ ls (v6 + 1) 7) 7) 0).fst).length by simp) (aj (c7) (show ∀ (blk : Blk), blk ∈ [] → ImmB blk from (by intro _ h; cases h))))))) (ag a16 (al (aj a16 t2))))))))))) <|
    .br (fun a18 =>
    .rt [133, 165, 218, 229] [] [] [] [] [] (aj (aj a18 s2) t2))
    (fun a18 =>
    .lp [133, 165, 218, 228] [] [] [] [] [0, 1, 2, 3, 7, 8] [1, 4, 6, 9, 10, 110, 111, 112, 113] (aj (aj a18 (al (u2 (u2 s2)))) (k2 (k5 t9))))))
   (fun a11 =>
   .gu fun a12 =>
   .gu fun a13 =>
   .gu fun a14 =>
   have c5 := act_c (looM ls 0 6) (v0) (nextZ ls v6 (iN v0.length)) (cutZ (nextZ ls (v6 + 1) 7) 7) (nextZ ls (v6 + 1 + 1) (iN (celN (looM ls 0 6)))) a12 a13;
   .rn 0 [133, 165, 170] [] [(93, hK c5 [] [0])] [] (aj a11 (al (u2 (u2 (aj (ak (aj (show (0 : Int) ≤ (0 : Int) from (by first | exact Nat.le_of_ble_eq_true rfl | decide)) (show (0 : Int) < (3 : Int) from (by first | exact Nat.le_of_ble_eq_true rfl | decide)))) (u2 (u2 (u2 (aj (k5 (aj t9 (aj (show v0.length = (List.map bdA v0).length by simp) (k3 (aj (c5) a14))))) (u2 (u2 (u2 (u2 s2))))))))))))) <|
   .gu fun a15 =>
   have c6 := doo_c (looM ls 0 6) (v0) (nextZ ls v6 (iN v0.length)) (cutZ (nextZ ls (v6 + 1) 7) 7) (nextZ ls (v6 + 1 + 1) (iN (celN (looM ls 0 6)))) a12 a13;
   .rn 0 [133, 165] [] [(103, hK c6 [] [0])] [] (al (u2 (u2 (aj (ak (aj (show (0 : Int) ≤ (0 : Int) from (by first | exact Nat.le_of_ble_eq_true rfl | decide)) (show (0 : Int) < (3 : Int) from (by first | exact Nat.le_of_ble_eq_true rfl | decide)))) (u2 (u2 (u2 (aj (k5 (aj t9 (aj (show v0.length = (List.map bdA v0).length by simp) (k3 (aj (c6) a15))))) (u2 (u2 (u2 (u2 s2)))))))))))) <|
   .br (fun a16 =>
    .rt [133, 165, 219] [] [] [] [] [] (aj (aj (u2 (u2 (aj t3 (u2 (aj a16 (aj a16 (aj a16 (aj a16 (al (aj a16 t2)))))))))) (ak s2)) t2))
   (fun a16 =>
    .gu fun a17 =>
    have c7 := sm_c ((actO (looM ls 0 6) v0 (nextZ ls v6 (iN v0.length)) (cutZ (nextZ ls (v6 + 1) 7) 7) (nextZ ls (v6 + 1 + 1) (iN (celN (looM ls 0 6))))).fst) ((dooO (looM ls 0 6) v0 (nextZ ls v6 (iN v0.length)) (cutZ (nextZ ls (v6 + 1) 7) 7) (nextZ ls (v6 + 1 + 1) (iN (celN (looM ls 0 6))))).fst) a17;
    .rn 0 [133, 165, 218] [] [(112, hK c7 [] [7, 8])] [] (al (u2 (u2 (aj t3 (u2 (ag a16 (ag a16 (aj (aj a16 (k2 (aj (show (actO (looM ls 0 6) v0 (nextZ ls v6 (iN v0.length)) (cutZ (nextZ ls (v6 + 1) 7) 7) (nextZ ls (v6 + 1 + 1) (iN (celN (looM ls 0 6))))).fst.length = (List.map bdA (actO (looM ls 0 6) v0 (nextZ ls v6 (iN v0.length)) (cutZ (nextZ ls (v6 + 1) 7) 7) (nextZ ls (v6 + 1 + 1) (iN (celN (looM ls 0 6))))).fst).length by simp) (aj (show (dooO (looM ls 0 6) v0 (nextZ ls v6 (iN v0.length)) (cutZ (nextZ ls (v6 + 1) 7) 7) (nextZ ls (v6 + 1 + 1) (iN (celN (looM ls 0 6))))).fst.length = (List.map bdA (dooO (looM ls 0 6) v0 (nextZ ls v6 (iN v0.length)) (cutZ (nextZ ls (v6 + 1) 7) 7) (nextZ ls (v6 + 1 + 1) (iN (celN (looM ls 0 6))))).fst).length by simp) (aj (c7) (show ∀ (blk : Blk), blk ∈ [] → ImmB blk from (by intro _ h; cases h))))))) (ag a16 (al (aj a16 t2))))))))))) <|
    .br (fun a18 =>
    .rt [133, 165, 218, 229] [] [] [] [] [] (aj (aj a18 s2) t2))
    (fun a18 =>
    .lp [133, 165, 218, 228] [] [] [] [] [0, 1, 2, 3, 7, 8] [1, 4, 6, 9, 10, 110, 111, 112, 113] (aj (aj a18 (al (u2 (u2 s2)))) (k2 (k5 t9)))))))
  (fun a10 =>
   .rn 0 [133, 164] [] [] [] (al (u2 (u2 (u2 (aj a10 (aj a10 (al (aj a10 t2)))))))) <|
   .gu fun a11 =>
   .gu fun a12 =>
   .gu fun a13 =>
   have c5 := act_c (looM ls 0 6) (v0) (nextZ ls v6 (iN v0.length)) (cutZ (nextZ ls (v6 + 1) 7) 7) (nextZ ls (v6 + 1 + 1) (iN (celN (looM ls 0 6)))) a11 a12;
   .rn 0 [133, 164] [] [(93, hK c5 [] [0])] [] (ak (al (u2 (u2 (aj (ak (aj (show (0 : Int) ≤ (0 : Int) from (by first | exact Nat.le_of_ble_eq_true rfl | decide)) (show (0 : Int) < (3 : Int) from (by first | exact Nat.le_of_ble_eq_true rfl | decide)))) (u2 (u2 (u2 (aj (k5 (aj t9 (aj (show v0.length = (List.map bdA v0).length by simp) (k3 (aj (c5) a13))))) (u2 (u2 (u2 (u2 s2))))))))))))) <|
   .gu fun a14 =>
   have c6 := doo_c (looM ls 0 6) (v0) (nextZ ls v6 (iN v0.length)) (cutZ (nextZ ls (v6 + 1) 7) 7) (nextZ ls (v6 + 1 + 1) (iN (celN (looM ls 0 6)))) a11 a12;
   .rn 0 [133, 164] [] [(103, hK c6 [] [0])] [] (al (u2 (u2 (aj (ak (aj (show (0 : Int) ≤ (0 : Int) from (by first | exact Nat.le_of_ble_eq_true rfl | decide)) (show (0 : Int) < (3 : Int) from (by first | exact Nat.le_of_ble_eq_true rfl | decide)))) (u2 (u2 (u2 (aj (k5 (aj t9 (aj (show v0.length = (List.map bdA v0).length by simp) (k3 (aj (c6) a14))))) (u2 (u2 (u2 (u2 s2)))))))))))) <|
   .br (fun a15 =>
   .rt [133, 164, 219] [] [] [] [] [] (aj (aj (u2 (u2 (aj t3 (u2 (aj a15 (aj a15 (aj a15 (aj a15 (al (aj a15 t2)))))))))) (ak s2)) t2))
   (fun a15 =>
   .gu fun a16 =>
   have c7 := sm_c ((actO (looM ls 0 6) v0 (nextZ ls v6 (iN v0.length)) (cutZ (nextZ ls (v6 + 1) 7) 7) (nextZ ls (v6 + 1 + 1) (iN (celN (looM ls 0 6))))).fst) ((dooO (looM ls 0 6) v0 (nextZ ls v6 (iN v0.length)) (cutZ (nextZ ls (v6 + 1) 7) 7) (nextZ ls (v6 + 1 + 1) (iN (celN (looM ls 0 6))))).fst) a16;
   .rn 0 [133, 164, 218] [] [(112, hK c7 [] [7, 8])] [] (al (u2 (u2 (aj t3 (u2 (ag a15 (ag a15 (aj (aj a15 (k2 (aj (show (actO (looM ls 0 6) v0 (nextZ ls v6 (iN v0.length)) (cutZ (nextZ ls (v6 + 1) 7) 7) (nextZ ls (v6 + 1 + 1) (iN (celN (looM ls 0 6))))).fst.length = (List.map bdA (actO (looM ls 0 6) v0 (nextZ ls v6 (iN v0.length)) (cutZ (nextZ ls (v6 + 1) 7) 7) (nextZ ls (v6 + 1 + 1) (iN (celN (looM ls 0 6))))).fst).length by simp) (aj (show (dooO (looM ls 0 6) v0 (nextZ ls v6 (iN v0.length)) (cutZ (nextZ ls (v6 + 1) 7) 7) (nextZ ls (v6 + 1 + 1) (iN (celN (looM ls 0 6))))).fst.length = (List.map bdA (dooO (looM ls 0 6) v0 (nextZ ls v6 (iN v0.length)) (cutZ (nextZ ls (v6 + 1) 7) 7) (nextZ ls (v6 + 1 + 1) (iN (celN (looM ls 0 6))))).fst).length by simp) (aj (c7) (show ∀ (blk : Blk), blk ∈ [] → ImmB blk from (by intro _ h; cases h))))))) (ag a15 (al (aj a15 t2))))))))))) <|
   .br (fun a17 =>
    .rt [133, 164, 218, 229] [] [] [] [] [] (aj (aj a17 s2) t2))
   (fun a17 =>
    .lp [133, 164, 218, 228] [] [] [] [] [0, 1, 2, 3, 7, 8] [1, 4, 6, 9, 10, 110, 111, 112, 113] (aj (aj a17 (al (u2 (u2 s2)))) (k2 (k5 t9))))))))
 (fun a7 =>
  have c3 := cut_ct (nextZ ls (v6 + 1) 7) (7);
  .rn 2 [132] [] [(77, hK c3 [] [])] [] (aj (u2 (u2 (u2 (u2 (aj a7 (aj a7 (aj a7 (al (aj a7 t2))))))))) (ak (aj (aj (ak (aj (show (0 : Int) ≤ (1 : Int) from (by first | exact Nat.le_of_ble_eq_true rfl | decide)) (show (1 : Int) < (3 : Int) from (by first | exact Nat.le_of_ble_eq_true rfl | decide)))) (u2 (aj (k3 (al (c3))) s2))) (al (aj (ak (aj (show (0 : Int) ≤ (2 : Int) from (by first | exact Nat.le_of_ble_eq_true rfl | decide)) (show (2 : Int) < (3 : Int) from (by first | exact Nat.le_of_ble_eq_true rfl | decide)))) (u2 s2)))))) <|
  .br (fun a8 =>
  .rn 0 [132, 165] [] [] [] (al (u2 (u2 (u2 (ag a8 (ag a8 (al (aj a8 t2)))))))) <|
  .br (fun a9 =>
   .rn 0 [132, 165, 171] [] [] [] (aj a9 s2) <|
   .gu fun a10 =>
   .gu fun a11 =>
   .gu fun a12 =>
   have c4 := act_c (looM ls 0 6) (v0) (nextZ ls v6 (iN v0.length)) (cutZ (nextZ ls (v6 + 1) 7) 7) (0) a10 a11;
   .rn 0 [132, 165] [] [(93, hK c4 [] [0])] [] (al (u2 (u2 (aj (ak (aj (show (0 : Int) ≤ (0 : Int) from (by first | exact Nat.le_of_ble_eq_true rfl | decide)) (show (0 : Int) < (3 : Int) from (by first | exact Nat.le_of_ble_eq_true rfl | decide)))) (u2 (u2 (u2 (aj (k5 (aj t9 (aj (show v0.length = (List.map bdA v0).length by simp) (k3 (aj (c4) a12))))) (u2 (u2 (u2 (u2 s2)))))))))))) <|
   .gu fun a13 =>
   have c5 := doo_c (looM ls 0 6) (v0) (nextZ ls v6 (iN v0.length)) (cutZ (nextZ ls (v6 + 1) 7) 7) (0) a10 a11;
   .rn 0 [132, 165] [] [(103, hK c5 [] [0])] [] (al (u2 (u2 (aj (ak (aj (show (0 : Int) ≤ (0 : Int) from (by first | exact Nat.le_of_ble_eq_true rfl | decide)) (show (0 : Int) < (3 : Int) from (by first | exact Nat.le_of_ble_eq_true rfl | decide)))) (u2 (u2 (u2 (aj (k5 (aj t9 (aj (show v0.length = (List.map bdA v0).length by simp) (k3 (aj (c5) a13))))) (u2 (u2 (u2 (u2 s2)))))))))))) <|
   .br (fun a14 =>
   .rt [132, 165, 219] [] [] [] [] [] (aj (aj (u2 (u2 (aj t3 (u2 (aj a14 (aj a14 (aj a14 (aj a14 (al (aj a14 t2)))))))))) (ak s2)) t2))
   (fun a14 =>
   .gu fun a15 =>
   have c6 := sm_c ((actO (looM ls 0 6) v0 (nextZ ls v6 (iN v0.length)) (cutZ (nextZ ls (v6 + 1) 7) 7) 0).fst) ((dooO (looM ls 0 6) v0 (nextZ ls v6 (iN v0.length)) (cutZ (nextZ ls (v6 + 1) 7) 7) 0).fst) a15;
   .rn 0 [132, 165, 218] [] [(112, hK c6 [] [7, 8])] [] (al (u2 (u2 (aj t3 (u2 (ag a14 (ag a14 (aj (aj a14 (k2 (aj (show (actO (looM ls 0 6) v0 (nextZ ls v6 (iN v0.length)) (cutZ (nextZ ls (v6 + 1) 7) 7) 0).fst.length = (List.map bdA (actO (looM ls 0 6) v0 (nextZ ls v6 (iN v0.length)) (cutZ (nextZ ls (v6 + 1) 7) 7) 0).fst).length by simp) (aj (show (dooO (looM ls 0 6) v0 (nextZ ls v6 (iN v0.length)) (cutZ (nextZ ls (v6 + 1) 7) 7) 0).fst.length = (List.map bdA (dooO (looM ls 0 6) v0 (nextZ ls v6 (iN v0.length)) (cutZ (nextZ ls (v6 + 1) 7) 7) 0).fst).length by simp) (aj (c6) (show ∀ (blk : Blk), blk ∈ [] → ImmB blk from (by intro _ h; cases h))))))) (ag a14 (al (aj a14 t2))))))))))) <|
   .br (fun a16 =>
    .rt [132, 165, 218, 229] [] [] [] [] [] (aj (aj a16 s2) t2))
   (fun a16 =>
    .lp [132, 165, 218, 228] [] [] [] [] [0, 1, 2, 3, 7, 8] [1, 4, 6, 9, 10, 110, 111, 112, 113] (aj (aj a16 (al (u2 (u2 s2)))) (k2 (k5 t9))))))
  (fun a9 =>
   .gu fun a10 =>
   .gu fun a11 =>
   .gu fun a12 =>
   have c4 := act_c (looM ls 0 6) (v0) (nextZ ls v6 (iN v0.length)) (cutZ (nextZ ls (v6 + 1) 7) 7) (nextZ ls (v6 + 1 + 1) (iN (celN (looM ls 0 6)))) a10 a11;
   .rn 0 [132, 165, 170] [] [(93, hK c4 [] [0])] [] (aj a9 (al (u2 (u2 (aj (ak (aj (show (0 : Int) ≤ (0 : Int) from (by first | exact Nat.le_of_ble_eq_true rfl | decide)) (show (0 : Int) < (3 : Int) from (by first | exact Nat.le_of_ble_eq_true rfl | decide)))) (u2 (u2 (u2 (aj (k5 (aj t9 (aj (show v0.length = (List.map bdA v0).length by simp) (k3 (aj (c4) a12))))) (u2 (u2 (u2 (u2 s2))))))))))))) <|
   .gu fun a13 =>
   have c5 := doo_c (looM ls 0 6) (v0) (nextZ ls v6 (iN v0.length)) (cutZ (nextZ ls (v6 + 1) 7) 7) (nextZ ls (v6 + 1 + 1) (iN (celN (looM ls 0 6)))) a10 a11;
   .rn 0 [132, 165] [] [(103, hK c5 [] [0])] [] (al (u2 (u2 (aj (ak (aj (show (0 : Int) ≤ (0 : Int) from (by first | exact Nat.le_of_ble_eq_true rfl | decide)) (show (0 : Int) < (3 : Int) from (by first | exact Nat.le_of_ble_eq_true rfl | decide)))) (u2 (u2 (u2 (aj (k5 (aj t9 (aj (show v0.length = (List.map bdA v0).length by simp) (k3 (aj (c5) a13))))) (u2 (u2 (u2 (u2 s2)))))))))))) <|
   .br (fun a14 =>
   .rt [132, 165, 219] [] [] [] [] [] (aj (aj (u2 (u2 (aj t3 (u2 (aj a14 (aj a14 (aj a14 (aj a14 (al (aj a14 t2)))))))))) (ak s2)) t2))
   (fun a14 =>
   .gu fun a15 =>
   have c6 := sm_c ((actO (looM ls 0 6) v0 (nextZ ls v6 (iN v0.length)) (cutZ (nextZ ls (v6 + 1) 7) 7) (nextZ ls (v6 + 1 + 1) (iN (celN (looM ls 0 6))))).fst) ((dooO (looM ls 0 6) v0 (nextZ ls v6 (iN v0.length)) (cutZ (nextZ ls (v6 + 1) 7) 7) (nextZ ls (v6 + 1 + 1) (iN (celN (looM ls 0 6))))).fst) a15;
   .rn 0 [132, 165, 218] [] [(112, hK c6 [] [7, 8])] [] (al (u2 (u2 (aj t3 (u2 (ag a14 (ag a14 (aj (aj a14 (k2 (aj (show (actO (looM ls 0 6) v0 (nextZ ls v6 (iN v0.length)) (cutZ (nextZ ls (v6 + 1) 7) 7) (nextZ ls (v6 + 1 + 1) (iN (celN (looM ls 0 6))))).fst.length = (List.map bdA (actO (looM ls 0 6) v0 (nextZ ls v6 (iN v0.length)) (cutZ (nextZ ls (v6 + 1) 7) 7) (nextZ ls (v6 + 1 + 1) (iN (celN (looM ls 0 6))))).fst).length by simp) (aj (show (dooO (looM ls 0 6) v0 (nextZ ls v6 (iN v0.length)) (cutZ (nextZ ls (v6 + 1) 7) 7) (nextZ ls (v6 + 1 + 1) (iN (celN (looM ls 0 6))))).fst.length = (List.map bdA (dooO (looM ls 0 6) v0 (nextZ ls v6 (iN v0.length)) (cutZ (nextZ ls (v6 + 1) 7) 7) (nextZ ls (v6 + 1 + 1) (iN (celN (looM ls 0 6))))).fst).length by simp) (aj (c6) (show ∀ (blk : Blk), blk ∈ [] → ImmB blk from (by intro _ h; cases h))))))) (ag a14 (al (aj a14 t2))))))))))) <|
   .br (fun a16 =>
    .rt [132, 165, 218, 229] [] [] [] [] [] (aj (aj a16 s2) t2))
   (fun a16 =>
    .lp [132, 165, 218, 228] [] [] [] [] [0, 1, 2, 3, 7, 8] [1, 4, 6, 9, 10, 110, 111, 112, 113] (aj (aj a16 (al (u2 (u2 s2)))) (k2 (k5 t9)))))))
  (fun a8 =>
  .rn 0 [132, 164] [] [] [] (al (u2 (u2 (u2 (aj a8 (aj a8 (al (aj a8 t2)))))))) <|
  .gu fun a9 =>
  .gu fun a10 =>
  .gu fun a11 =>
  have c4 := act_c (looM ls 0 6) (v0) (nextZ ls v6 (iN v0.length)) (cutZ (nextZ ls (v6 + 1) 7) 7) (nextZ ls (v6 + 1 + 1) (iN (celN (looM ls 0 6)))) a9 a10;
  .rn 0 [132, 164] [] [(93, hK c4 [] [0])] [] (ak (al (u2 (u2 (aj (ak (aj (show (0 : Int) ≤ (0 : Int) from (by first | exact Nat.le_of_ble_eq_true rfl | decide)) (show (0 : Int) < (3 : Int) from (by first | exact Nat.le_of_ble_eq_true rfl | decide)))) (u2 (u2 (u2 (aj (k5 (aj t9 (aj (show v0.length = (List.map bdA v0).length by simp) (k3 (aj (c4) a11))))) (u2 (u2 (u2 (u2 s2))))))))))))) <|
  .gu fun a12 =>
  have c5 := doo_c (looM ls 0 6) (v0) (nextZ ls v6 (iN v0.length)) (cutZ (nextZ ls (v6 + 1) 7) 7) (nextZ ls (v6 + 1 + 1) (iN (celN (looM ls 0 6)))) a9 a10;
  .rn 0 [132, 164] [] [(103, hK c5 [] [0])] [] (al (u2 (u2 (aj (ak (aj (show (0 : Int) ≤ (0 : Int) from (by first | exact Nat.le_of_ble_eq_true rfl | decide)) (show (0 : Int) < (3 : Int) from (by first | exact Nat.le_of_ble_eq_true rfl | decide)))) (u2 (u2 (u2 (aj (k5 (aj t9 (aj (show v0.length = (List.map bdA v0).length by simp) (k3 (aj (c5) a12))))) (u2 (u2 (u2 (u2 s2)))))))))))) <|
  .br (fun a13 =>
   .rt [132, 164, 219] [] [] [] [] [] (aj (aj (u2 (u2 (aj t3 (u2 (aj a13 (aj a13 (aj a13 (aj a13 (al (aj a13 t2)))))))))) (ak s2)) t2))
  (fun a13 =>
   .gu fun a14 =>
   have c6 := sm_c ((actO (looM ls 0 6) v0 (nextZ ls v6 (iN v0.length)) (cutZ (nextZ ls (v6 + 1) 7) 7) (nextZ ls (v6 + 1 + 1) (iN (celN (looM ls 0 6))))).fst) ((dooO (looM ls 0 6) v0 (nextZ ls v6 (iN v0.length)) (cutZ (nextZ ls (v6 + 1) 7) 7) (nextZ ls (v6 + 1 + 1) (iN (celN (looM ls 0 6))))).fst) a14;
   .rn 0 [132, 164, 218] [] [(112, hK c6 [] [7, 8])] [] (al (u2 (u2 (aj t3 (u2 (ag a13 (ag a13 (aj (aj a13 (k2 (aj (show (actO (looM ls 0 6) v0 (nextZ ls v6 (iN v0.length)) (cutZ (nextZ ls (v6 + 1) 7) 7) (nextZ ls (v6 + 1 + 1) (iN (celN (looM ls 0 6))))).fst.length = (List.map bdA (actO (looM ls 0 6) v0 (nextZ ls v6 (iN v0.length)) (cutZ (nextZ ls (v6 + 1) 7) 7) (nextZ ls (v6 + 1 + 1) (iN (celN (looM ls 0 6))))).fst).length by simp) (aj (show (dooO (looM ls 0 6) v0 (nextZ ls v6 (iN v0.length)) (cutZ (nextZ ls (v6 + 1) 7) 7) (nextZ ls (v6 + 1 + 1) (iN (celN (looM ls 0 6))))).fst.length = (List.map bdA (dooO (looM ls 0 6) v0 (nextZ ls v6 (iN v0.length)) (cutZ (nextZ ls (v6 + 1) 7) 7) (nextZ ls (v6 + 1 + 1) (iN (celN (looM ls 0 6))))).fst).length by simp) (aj (c6) (show ∀ (blk : Blk), blk ∈ [] → ImmB blk from (by intro _ h; cases h))))))) (ag a13 (al (aj a13 t2))))))))))) <|
   .br (fun a15 =>
   .rt [132, 164, 218, 229] [] [] [] [] [] (aj (aj a15 s2) t2))
   (fun a15 =>
   .lp [132, 164, 218, 228] [] [] [] [] [0, 1, 2, 3, 7, 8] [1, 4, 6, 9, 10, 110, 111, 112, 113] (aj (aj a15 (al (u2 (u2 s2)))) (k2 (k5 t9))))))))) (by kernel_rfl)
theorem plAS2_ok (n : NetD) (l : List BdD) (p q w : Int) (ls : List Int) (v0 : List BdD × Int) (v1 : List BdD × Int) (v2 : Bool) (v3 : Bool) (o : plAPc ⊕ Ret) (h : plAS2 n l p q w ls v0 v1 v2 v3 = some o) : Arr Try.prog Try.f4 0 (plASt n l p q w ls) plAHd (headC Try.f4 0) (.rnd (headC Try.f4 0) :: headK Try.f4 0) (plASt n l p q w ls (.l2 v0 v1 v2 v3)) o :=
 Scr.ok h mix (
 have c0 := loose_ct (ls) (0) (6) (show nat_lit 0 ≤ (5000 : Nat) from (by first | exact Nat.le_of_ble_eq_true rfl | decide)) (show (1 : Int) ≤ (6 : Int) ∧ (6 : Int) ≤ (20 : Int) from ⟨(by first | exact Nat.le_of_ble_eq_true rfl | decide), (by first | exact Nat.le_of_ble_eq_true rfl | decide)⟩);
 .rn 2 [] [] [(32, hK c0 [2] [])] [] (aj (u2 s2) (ak (aj (u2 s2) (ak (al (u2 (aj (ak (k3 (al (c0)))) (al (k2 (show Nat.le 1 [AV.agg [AV.lst (List.map bA n.bs), AV.lst (gL n.nx), AV.lst (List.map sA n.ss), AV.lst (List.map (iv) n.rs), iv n.q, iv n.a, iv n.d, iv n.p]].length from (Nat.le_of_ble_eq_true rfl))))))))))) <|
 .gu fun a0 =>
 have c1 := cells_ct a0;
 .rn 1 [] [] [(34, hK c1 [] [])] [] (aj (u2 (aj (ak (aj t9 (al (c1)))) s2)) s2) <|
 .gu fun a1 =>
 have c2 := next_ct (ls) (looK ls 0 6) (4) a1;
 .lp [] [] [(36, hK c2 [2] [])] [] [(1, 4)] [5, 0, 1, 2, 3, 4] [1, 4, 6, 9, 10, 11, 12, 110, 111, 112, 113] (aj (al (u2 (aj (ak (k3 (al (c2)))) (u2 s2)))) (ak (k3 (k5 t9))))) (by kernel_rfl)
theorem plAS3_ok (n : NetD) (l : List BdD) (p q w : Int) (ls : List Int) (v0 : List BdD) (v1 : List BdD × Int) (v2 : List BdD × Int) (v3 : Bool) (v4 : Bool) (v5 : Int) (v6 : Int) (v7 : Int) (v8 : Nat) (o : plAPc ⊕ Ret) (h : plAS3 n l p q w ls v0 v1 v2 v3 v4 v5 v6 v7 v8 = some o) : Arr Try.prog Try.f4 0 (plASt n l p q w ls) plAHd (headC Try.f4 0) (.rnd (headC Try.f4 0) :: headK Try.f4 0) (plASt n l p q w ls (.l3 v0 v1 v2 v3 v4 v5 v6 v7 v8)) o :=
 Scr.ok h mix (
 .rt [] [] [] [] [] [] (aj (aj (u2 s2) (ak s2)) t2)) (by kernel_rfl)
theorem plA_ct (n : NetD) (l : List BdD) (p q w : Int) (ls : List Int) (r : Ret) (h : MReach (plAStep n l p q w ls) (plAEn n l p q w ls) r) : CT Try.prog 4 ([]) ([netA n, .lst (l.map bdA), .agg [.int .i64 p, .int .i64 q, .int .i64 w], lI ls]) r.1 r.2 :=
  CT.mach (fn := Try.f4) (c := bodyOf Try.f4) (S := plASt n l p q w ls) (hd := plAHd) Try.func4 (by kernel_rfl) (Nat.le_of_ble_eq_true rfl)
    (fun s o ho => match s, ho with
      | .l0 , ho => plAS0_ok n l p q w ls  o ho
      | .l1 v0 v1 v2 v3 v4 v5 v6, ho => plAS1_ok n l p q w ls v0 v1 v2 v3 v4 v5 v6 o ho
      | .l2 v0 v1 v2 v3, ho => plAS2_ok n l p q w ls v0 v1 v2 v3 o ho
      | .l3 v0 v1 v2 v3 v4 v5 v6 v7 v8, ho => plAS3_ok n l p q w ls v0 v1 v2 v3 v4 v5 v6 v7 v8 o ho
    )
    (fun o ho => plAEn_ok n l p q w ls o ho) h
theorem doo_len (n : NetD) (l : List BdD) (q w c : Int) : (dooO n l q w c).1.length ≤ l.length := by
  unfold dooO; split
  · simp
  · exact doX_len _ _ _
theorem plA_leaf {σ : Type} (n : NetD) (l : List BdD) (p w c : Int) (hl : l.length ≤ 5864062014634) (hrw : Rows n.nx) (h : w = 0 ∨ w = 1 ∨ (0 ≤ c ∧ c < 48)) {F Y : Option σ} :
    gu (l.length ≤ 5864062014634) (gu (Rows n.nx) (br ((actO n l p w c).snd != (dooO n l p w c).snd) F (gu ((actO n l p w c).fst.length ≤ 5864062014634) (br (!decide ((actO n l p w c).fst = (dooO n l p w c).fst)) F Y)))) = Y := by
  rw [act_doo n l p w c h, gu_t hl, gu_t hrw, br_f (by simp), gu_t (Nat.le_trans (doo_len n l p w c) hl), br_f (by simp)]
theorem plA_leafI {σ : Type} (n : NetD) (l : List BdD) (p w c : Int) (hl : l.length ≤ 5864062014634) (hrw : Rows n.nx) (h : w = 0 ∨ w = 1 ∨ (0 ≤ c ∧ c < 48)) {F Y : Option σ} :
    gu (l.length ≤ 5864062014634) (gu (Rows n.nx) (gu (∀ blk : Blk, blk ∈ [Blk.mk ((actO n l p w c).fst.map bdA) 4 true true none] → ImmB blk) (gu (∀ blk : Blk, blk ∈ [Blk.mk ((dooO n l p w c).fst.map bdA) 4 true true none] → ImmB blk) (br ((actO n l p w c).snd != (dooO n l p w c).snd) F (gu ((actO n l p w c).fst.length ≤ 5864062014634) (br (!decide ((actO n l p w c).fst = (dooO n l p w c).fst)) F Y)))))) = Y := by
  rw [act_doo n l p w c h, gu_t hl, gu_t hrw, gu_t (bd_imm _), gu_t (bd_imm _), br_f (by simp), gu_t (Nat.le_trans (doo_len n l p w c) hl), br_f (by simp)]
theorem bdyK_le (L : List Int) (k : Nat) : bdyK L k ≤ k + 5 := by unfold bdyK; split <;> omega
theorem loo_cel {L : List Int} {k : Nat} {m : Int} (h : LooseOk (looM L k m)) : 1 ≤ iN (celN (looM L k m)) ∧ iN (celN (looM L k m)) ≤ 48 := by
  have h1 := h.v.cel
  have h2 := h.v.nb24
  simp only [iN]; omega
theorem plA_end (n : NetD) (l : List BdD) (p q w : Int) (ls : List Int) (v0 : List BdD) (v2 v3 : List BdD × Int) (v4 v5 : Bool) (v6 : Nat) (h0 : v0 ≠ []) (h1 : v0.length ≤ 4) (h6 : v6 ≤ 10000) :
    MReach (plAStep n l p q w ls) (some (.inl (.l1 v0 0 v2 v3 v4 v5 v6))) (([], .bool true) : Ret) := by
  have hl := (loo_spec (L := ls) (kk := 0) (most := 6) (by omega) (by omega)).1
  have hc := loo_cel hl
  have hp : 0 < v0.length := List.length_pos_iff.2 h0
  have r0 := nextZ_rng ls v6 (iN v0.length) (by simp only [iN]; omega) (by simp only [iN]; omega)
  refine .to (show plAS1 n l p q w ls v0 0 v2 v3 v4 v5 v6 = _ from rfl) ?_
  unfold plAS1
  generalize hy : nextZ ls v6 (iN v0.length) = y at *
  have hyl : y.toNat < v0.length := by simp only [iN] at r0; omega
  have key : ∀ (a c : Int), a = 0 ∨ a = 1 ∨ (0 ≤ c ∧ c < 48) → ∀ (F : Option (plAPc ⊕ Ret)) z1 z2 z3 z4 z5 z6 z7 z8 z9, MReach (plAStep n l p q w ls) (gu (v0.length ≤ 5864062014634) (gu (Rows (looM ls 0 6).nx) (gu (∀ blk : Blk, blk ∈ [Blk.mk ((actO (looM ls 0 6) v0 y a c).fst.map bdA) 4 true true none] → ImmB blk) (gu (∀ blk : Blk, blk ∈ [Blk.mk ((dooO (looM ls 0 6) v0 y a c).fst.map bdA) 4 true true none] → ImmB blk) (br ((actO (looM ls 0 6) v0 y a c).snd != (dooO (looM ls 0 6) v0 y a c).snd) F (gu ((actO (looM ls 0 6) v0 y a c).fst.length ≤ 5864062014634) (br (!decide ((actO (looM ls 0 6) v0 y a c).fst = (dooO (looM ls 0 6) v0 y a c).fst)) F (some (.inl (.l3 z1 z2 z3 z4 z5 z6 z7 z8 z9)))))))))) (([], .bool true) : Ret) := fun a c h F z1 z2 z3 z4 z5 z6 z7 z8 z9 => by
    rw [plA_leafI _ _ _ _ _ (by omega) hl.rows h]
    exact .to (show plAS3 n l p q w ls z1 z2 z3 z4 z5 z6 z7 z8 z9 = _ from rfl) (.ret _)
  rw [br_f (by rfl), gu_t (by omega), gu_t (by omega), gu_t (by omega), gu_t r0.1, gu_t r0.2, Nat.zero_add, el_t (getE bd0 hyl)]
  generalize v0.getD y.toNat bd0 = x
  have two : ∀ (a c : Int) (T1 T2 T3 : Option (plAPc ⊕ Ret)), (∀ b, MReach (plAStep n l p q w ls) T1 b → True) → (a ≠ 0 → a ≠ 1 → MReach (plAStep n l p q w ls) T1 (([], .bool true) : Ret)) → (a = 1 → MReach (plAStep n l p q w ls) T2 (([], .bool true) : Ret)) → (a = 0 → MReach (plAStep n l p q w ls) T3 (([], .bool true) : Ret)) → MReach (plAStep n l p q w ls) (br (a != 0) (br (a != 1) T1 T2) T3) (([], .bool true) : Ret) := fun a c T1 T2 T3 _ h1 h2 h3 => by
    by_cases e0 : a = 0
    · rw [br_f (by simp [e0])]; exact h3 e0
    · rw [br_t (by simp [e0])]
      by_cases e1 : a = 1
      · rw [br_f (by simp [e1])]; exact h2 e1
      · rw [br_t (by simp [e1])]; exact h1 e0 e1
  have c0 : (0 : Int) ≤ 0 ∧ (0 : Int) < 48 := by omega
  by_cases h2 : 0 ≤ x.c
  · rw [br_t (dec_t h2), gu_t (by omega)]
    cases h3 : nextZ ls (v6 + 1 + 1 + 1) 2 == 0 with
    | true =>
      rw [br_t rfl, gu_t (by omega)]
      exact two _ 0 _ _ _ (fun _ _ => trivial) (fun _ _ => key _ _ (.inr (.inr c0)) _ _ _ _ _ _ _ _ _ _) (fun e => key _ _ (.inr (.inl e)) _ _ _ _ _ _ _ _ _ _) (fun e => key _ _ (.inl e) _ _ _ _ _ _ _ _ _ _)
    | false =>
      rw [br_f rfl]
      exact two _ 0 _ _ _ (fun _ _ => trivial) (fun _ _ => key _ _ (.inr (.inr c0)) _ _ _ _ _ _ _ _ _ _) (fun e => key _ _ (.inr (.inl e)) _ _ _ _ _ _ _ _ _ _) (fun e => key _ _ (.inl e) _ _ _ _ _ _ _ _ _ _)
  · rw [br_f (dec_f h2)]
    exact two _ 0 _ _ _ (fun _ _ => trivial) (fun _ _ => key _ _ (.inr (.inr c0)) _ _ _ _ _ _ _ _ _ _) (fun e => key _ _ (.inr (.inl e)) _ _ _ _ _ _ _ _ _ _) (fun e => key _ _ (.inl e) _ _ _ _ _ _ _ _ _ _)
theorem plA_mid (n : NetD) (l : List BdD) (p q w : Int) (ls : List Int) (v2 v3 : List BdD × Int) (v4 v5 : Bool) : ∀ (m : Nat) (v0 : List BdD) (v6 : Nat), 1 ≤ v0.length + m → v0.length + m ≤ 4 → v6 + 5 * m ≤ 10000 →
    MReach (plAStep n l p q w ls) (some (.inl (.l1 v0 (m : Int) v2 v3 v4 v5 v6))) (([], .bool true) : Ret) := by
  have hl := (loo_spec (L := ls) (kk := 0) (most := 6) (by omega) (by omega)).1
  have hc := loo_cel hl
  intro m
  induction m with
  | zero => intro v0 v6 h1 h2 h3; exact plA_end n l p q w ls v0 v2 v3 v4 v5 v6 (fun e => by subst e; simp at h1) (by omega) (by omega)
  | succ m ih =>
    intro v0 v6 h1 h2 h3
    have hk := bdyK_le ls v6
    refine .to (show plAS1 n l p q w ls v0 ((m + 1 : Nat) : Int) v2 v3 v4 v5 v6 = _ from ?_) (ih (v0 ++ [bdyM ls v6 (iN (celN (looM ls 0 6)))]) (bdyK ls v6) (by simp; omega) (by simp; omega) (by omega))
    unfold plAS1
    rw [br_t (dec_t (by omega)), gu_t (by omega), gu_t (by omega), gu_t (by simp only [List.length_map, List.length_singleton]; omega), gu_t (by simp only [List.length_map, List.length_singleton]; omega), show IntKind.i64.wrap (((m + 1 : Nat) : Int) - 1) = (m : Int) from by rw [wrap_in (by omega) (by omega)]; omega]
theorem plA_run {n : NetD} (hrw : Rows n.nx) (l : List BdD) (hl : l.length ≤ 5864062014634) (p q w : Int) (ls : List Int) : CT Try.prog 4 [] [netA n, .lst (l.map bdA), .agg [.int .i64 p, .int .i64 q, .int .i64 w], lI ls] [] (.bool true) := by
  refine plA_ct n l p q w ls ([], .bool true) ?_
  have hs := loo_spec (L := ls) (kk := 0) (most := 6) (by omega) (by omega)
  have next : ∀ z0 z1 z2 z3, MReach (plAStep n l p q w ls) (some (.inl (.l2 z0 z1 z2 z3))) (([], .bool true) : Ret) := fun z0 z1 z2 z3 => by
    have r := nextZ_rng ls (looK ls 0 6) 4 (by omega) (by omega)
    have hm := plA_mid n l p q w ls z0 z1 z2 z3 (1 + nextZ ls (looK ls 0 6) 4).toNat [] (looK ls 0 6 + 1) (by simp; omega) (by simp; omega) (by omega)
    rw [show (((1 + nextZ ls (looK ls 0 6) 4).toNat : Nat) : Int) = 1 + nextZ ls (looK ls 0 6) 4 from by omega] at hm
    refine .to (show plAS2 n l p q w ls z0 z1 z2 z3 = _ from ?_) hm
    unfold plAS2
    rw [gu_t hs.1.v, gu_t (by omega), wrap_in (by omega) (by omega)]
  unfold plAEn
  refine .to (show plAS0 n l p q w ls = _ from rfl) ?_
  unfold plAS0
  by_cases e0 : cutZ q 7 = 0
  · rw [br_f (by simp [e0]), plA_leaf _ _ _ _ _ hl hrw (.inl e0)]; exact next _ _ _ _
  · rw [br_t (by simp [e0])]
    by_cases e1 : cutZ q 7 = 1
    · rw [br_f (by simp [e1]), plA_leaf _ _ _ _ _ hl hrw (.inr (.inl e1))]; exact next _ _ _ _
    · rw [br_t (by simp [e1]), plA_leaf _ _ _ _ _ hl hrw (.inr (.inr (by omega)))]; exact next _ _ _ _
theorem rdInts {n : Nat} {es : List AV} (h : ∀ x ∈ es, ShV Try.prog n 3 x) : ∃ L : List Int, es = L.map (AV.int .i64) := by
  induction es with
  | nil => exact ⟨[], rfl⟩
  | cons x es ih =>
    obtain ⟨L, rfl⟩ := ih fun y hy => h y (List.mem_cons_of_mem _ hy)
    obtain ⟨i, _, rfl⟩ := (h x (by simp)).intD Try.underlying3
    exact ⟨i :: L, rfl⟩
theorem rdBlkD95 {n : Nat} {a : AV} (h : ShV Try.prog (n + 1) 95 a) : ∃ x : BlkD, a = bA x := by
  obtain ⟨_, hs, rfl⟩ := h.structD Try.underlying95
  obtain ⟨_, _, rfl, g0, hs⟩ := hs.consD
  obtain ⟨_, _, rfl, g1, hs⟩ := hs.consD
  obtain ⟨_, _, rfl, g2, hs⟩ := hs.consD
  obtain rfl := hs.nilD
  obtain ⟨x0, _, rfl⟩ := g0.strD Try.underlying9
  obtain ⟨x1, _, rfl⟩ := g1.intD Try.underlying3
  obtain ⟨x2, _, rfl⟩ := g2.intD Try.underlying3
  exact ⟨⟨x0, x1, x2⟩, rfl⟩
theorem rdBlkDs95 {n : Nat} {es : List AV} (h : ∀ x ∈ es, ShV Try.prog (n + 1) 95 x) : ∃ L : List BlkD, es = L.map bA := by
  induction es with
  | nil => exact ⟨[], rfl⟩
  | cons x es ih =>
    obtain ⟨L, rfl⟩ := ih fun y hy => h y (List.mem_cons_of_mem _ hy)
    obtain ⟨f, rfl⟩ := rdBlkD95 (h x (by simp))
    exact ⟨f :: L, rfl⟩
theorem rdSpuD67 {n : Nat} {a : AV} (h : ShV Try.prog (n + 1) 67 a) : ∃ x : SpuD, a = sA x := by
  obtain ⟨_, hs, rfl⟩ := h.structD Try.underlying67
  obtain ⟨_, _, rfl, g0, hs⟩ := hs.consD
  obtain ⟨_, _, rfl, g1, hs⟩ := hs.consD
  obtain ⟨_, _, rfl, g2, hs⟩ := hs.consD
  obtain ⟨_, _, rfl, g3, hs⟩ := hs.consD
  obtain ⟨_, _, rfl, g4, hs⟩ := hs.consD
  obtain ⟨_, _, rfl, g5, hs⟩ := hs.consD
  obtain rfl := hs.nilD
  obtain ⟨x0, _, rfl⟩ := g0.strD Try.underlying9
  obtain ⟨x1, rfl⟩ := g1.boolD Try.underlying4
  obtain ⟨x2, _, rfl⟩ := g2.intD Try.underlying3
  obtain ⟨x3, _, rfl⟩ := g3.intD Try.underlying3
  obtain ⟨x4, _, rfl⟩ := g4.intD Try.underlying3
  obtain ⟨x5, _, rfl⟩ := g5.intD Try.underlying3
  exact ⟨⟨x0, x1, x2, x3, x4, x5⟩, rfl⟩
theorem rdSpuDs67 {n : Nat} {es : List AV} (h : ∀ x ∈ es, ShV Try.prog (n + 1) 67 x) : ∃ L : List SpuD, es = L.map sA := by
  induction es with
  | nil => exact ⟨[], rfl⟩
  | cons x es ih =>
    obtain ⟨L, rfl⟩ := ih fun y hy => h y (List.mem_cons_of_mem _ hy)
    obtain ⟨f, rfl⟩ := rdSpuD67 (h x (by simp))
    exact ⟨f :: L, rfl⟩
theorem rdBdD41 {n : Nat} {a : AV} (h : ShV Try.prog (n + 1) 41 a) : ∃ x : BdD, a = bdA x := by
  obtain ⟨_, hs, rfl⟩ := h.structD Try.underlying41
  obtain ⟨_, _, rfl, g0, hs⟩ := hs.consD
  obtain ⟨_, _, rfl, g1, hs⟩ := hs.consD
  obtain ⟨_, _, rfl, g2, hs⟩ := hs.consD
  obtain ⟨_, _, rfl, g3, hs⟩ := hs.consD
  obtain rfl := hs.nilD
  obtain ⟨x0, _, rfl⟩ := g0.intD Try.underlying3
  obtain ⟨x1, _, rfl⟩ := g1.intD Try.underlying3
  obtain ⟨x2, rfl⟩ := g2.boolD Try.underlying4
  obtain ⟨x3, rfl⟩ := g3.boolD Try.underlying4
  exact ⟨⟨x0, x1, x2, x3⟩, rfl⟩
theorem rdBdDs41 {n : Nat} {es : List AV} (h : ∀ x ∈ es, ShV Try.prog (n + 1) 41 x) : ∃ L : List BdD, es = L.map bdA := by
  induction es with
  | nil => exact ⟨[], rfl⟩
  | cons x es ih =>
    obtain ⟨L, rfl⟩ := ih fun y hy => h y (List.mem_cons_of_mem _ hy)
    obtain ⟨f, rfl⟩ := rdBdD41 (h x (by simp))
    exact ⟨f :: L, rfl⟩
theorem rdRows28 {n : Nat} {es : List AV} (h : ∀ x ∈ es, ShV Try.prog (n + 1) 22 x) : ∃ g : List (List Int), es = gL g ∧ Rows g := by
  have key : ∃ g : List (List Int), es = gL g ∧ ∀ r ∈ g, r.length ≤ 9223372036854775807 := by
    induction es with
    | nil => exact ⟨[], rfl, fun r hr => by cases hr⟩
    | cons x es ih =>
      obtain ⟨g, rfl, hg⟩ := ih fun y hy => h y (List.mem_cons_of_mem _ hy)
      obtain ⟨ls, hm, hl, rfl⟩ := (h x (by simp)).sliceD Try.underlying22
      obtain ⟨L, rfl⟩ := rdInts hl
      refine ⟨L :: g, rfl, fun r hr => ?_⟩
      rcases List.mem_cons.1 hr with rfl | hr
      · simpa [maxLen] using hm
      · exact hg r hr
  obtain ⟨g, e, hg⟩ := key
  refine ⟨g, e, fun v hv => ?_⟩
  rw [List.getD_eq_getElem?_getD, List.getElem?_eq_getElem hv]
  exact hg _ (List.getElem_mem hv)
theorem rdNet33 {n : Nat} {a : AV} (h : ShV Try.prog (n + 4) 33 a) : ∃ x : NetD, a = netA x ∧ Rows x.nx := by
  obtain ⟨_, hs, rfl⟩ := h.structD Try.underlying33
  obtain ⟨_, _, rfl, g0, hs⟩ := hs.consD
  obtain ⟨_, _, rfl, g1, hs⟩ := hs.consD
  obtain ⟨_, _, rfl, g2, hs⟩ := hs.consD
  obtain ⟨_, _, rfl, g3, hs⟩ := hs.consD
  obtain ⟨_, _, rfl, g4, hs⟩ := hs.consD
  obtain rfl := hs.nilD
  obtain ⟨_, _, h0, rfl⟩ := g0.sliceD Try.underlying27
  obtain ⟨bs, rfl⟩ := rdBlkDs95 h0
  obtain ⟨_, _, h1, rfl⟩ := g1.sliceD Try.underlying28
  obtain ⟨nx, rfl, hnx⟩ := rdRows28 h1
  obtain ⟨_, _, h2, rfl⟩ := g2.sliceD Try.underlying29
  obtain ⟨ss, rfl⟩ := rdSpuDs67 h2
  obtain ⟨_, _, h3, rfl⟩ := g3.sliceD Try.underlying22
  obtain ⟨rs, rfl⟩ := rdInts h3
  obtain ⟨_, h4, rfl⟩ := g4.structD Try.underlying31
  obtain ⟨_, _, rfl, k0, h4⟩ := h4.consD
  obtain ⟨_, _, rfl, k1, h4⟩ := h4.consD
  obtain ⟨_, _, rfl, k2, h4⟩ := h4.consD
  obtain ⟨_, _, rfl, k3, h4⟩ := h4.consD
  obtain rfl := h4.nilD
  obtain ⟨q, _, rfl⟩ := k0.intD Try.underlying3
  obtain ⟨a, _, rfl⟩ := k1.intD Try.underlying3
  obtain ⟨d, _, rfl⟩ := k2.intD Try.underlying3
  obtain ⟨p, _, rfl⟩ := k3.intD Try.underlying3
  exact ⟨⟨bs, nx, ss, rs, q, a, d, p⟩, rfl, hnx⟩
theorem plantActs_row (avs : List AV) (h : ShVs Try.prog 6 Try.f4.params.toList avs) (hz : ∀ es, avs[1]? = some (.lst es) → es.length ≤ 5864062014634) : CT Try.prog 4 [] avs [] (.bool true) := by
  rw [Try.params4] at h
  obtain ⟨a, _, rfl, ka, h⟩ := h.consD
  obtain ⟨b, _, rfl, kb, h⟩ := h.consD
  obtain ⟨c, _, rfl, kc, h⟩ := h.consD
  obtain ⟨d, _, rfl, kd, h⟩ := h.consD
  obtain rfl := h.nilD
  obtain ⟨n, rfl, hrw⟩ := rdNet33 ka
  obtain ⟨_, _, hb, rfl⟩ := kb.sliceD Try.underlying36
  obtain ⟨u, rfl⟩ := rdBdDs41 hb
  obtain ⟨_, hd, rfl⟩ := kc.arrayD Try.underlying50
  obtain ⟨_, _, rfl, g1, hd⟩ := hd.consD
  obtain ⟨_, _, rfl, g2, hd⟩ := hd.consD
  obtain ⟨_, _, rfl, g3, hd⟩ := hd.consD
  obtain rfl := hd.nilD
  obtain ⟨x, _, rfl⟩ := g1.intD Try.underlying3
  obtain ⟨y, _, rfl⟩ := g2.intD Try.underlying3
  obtain ⟨z, _, rfl⟩ := g3.intD Try.underlying3
  obtain ⟨_, _, he, rfl⟩ := kd.sliceD Try.underlying22
  obtain ⟨l, rfl⟩ := rdInts he
  have := hz _ rfl
  rw [List.length_map] at this
  exact plA_run hrw u this x y z l
end Go.Proofs.Ytlogjpmajgbgaaa

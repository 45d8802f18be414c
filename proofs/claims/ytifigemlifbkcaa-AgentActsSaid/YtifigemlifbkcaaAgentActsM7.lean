/- Parts of the proof:Ag3m,AgC,Ag4m,AgD. -/
import Derived.Test.YtifigemlifbkcaaProg
import Derived.KernelRfl
import Derived.Test.YtifigemlifbkcaaAgentActsM6
noncomputable section
set_option linter.unusedVariables false
set_option linter.unusedSimpArgs false
open Go Go.AX Go.Proofs
set_option maxRecDepth 100000
set_option maxHeartbeats 4000000
set_option linter.unusedVariables false
set_option linter.unusedSimpArgs false
namespace Go.Proofs.Ytifigemlifbkcaa
def aHeSt(x:AgD)(q:Int)(y:FrD):Empty→St
 | x=>x.elim
def aHeHd:Empty→Nat
 | x=>x.elim
def aHeEn(x:AgD)(q:Int)(y:FrD):Option (Empty⊕Ret):=
 br (frV y)
 (br (y.r==q)
  (some (.inr ([],AV.tup [AV.agg [AV.int IntKind.u64 (heaO x y).a.l,AV.int IntKind.i64 (heaO x y).a.t,AV.bool (heaO x y).a.s,AV.int IntKind.i64 (heaO x y).a.r,AV.int IntKind.i64 (heaO x y).a.c],AV.lst (List.map frA (heaO x y).l)])))
  (some (.inr ([],AV.tup [AV.agg [AV.int IntKind.u64 x.l,AV.int IntKind.i64 x.t,AV.bool x.s,AV.int IntKind.i64 x.r,AV.int IntKind.i64 x.c],AV.nils]))))
 (some (.inr ([],AV.tup [AV.agg [AV.int IntKind.u64 x.l,AV.int IntKind.i64 x.t,AV.bool x.s,AV.int IntKind.i64 x.r,AV.int IntKind.i64 x.c],AV.nils])))
def aHeStep(x:AgD)(q:Int)(y:FrD):Empty→Option (Empty⊕Ret)
 | x=>x.elim
theorem aHeEn_ok(x:AgD)(q:Int)(y:FrD)(o:Empty⊕Ret)(h:aHeEn x q y=some o):Arr Try.prog Try.f15 0 (aHeSt x q y) aHeHd (zB Try.f15) [] {n:=Try.f15.ntmps,fr:=enumF 0 ([agA x,.int .i64 q,frA y]),hp:=([])} o:=
 Scr.ok h mix (
 .rn 1 [] [] [] [] (aj (u2 (u2 t3)) (al (ak (u2 s2)))) <|
 .br (fun a0=>
 have c0:=fva_c (y);
 .rn 0 [27] [] [(12,hK c0 [] [])] [] (al (u2 (aj (ak (aj t6 (al (c0)))) (u2 (ag a0 (ag a0 (ag a0 (aj (aj a0 t3) (al (aj a0 t2)))))))))) <|
 .br (fun a1=>
  have c1:=hea_c x (y);
  .rt [27,37] [] [(23,hK c1 [3] [])] [] [] [] (aj (aj a1 (aj (u2 (u2 (u2 (u2 (aj (k3 (aj t6 (aj t6 (u2 (ak (al (c1))))))) (al (k2 (show Nat.le 1 [AV.agg [AV.int IntKind.u64 x.l,iv x.t,AV.bool x.s,iv x.r,iv x.c]].length from(Nat.le_of_ble_eq_true rfl))))))))) (al (u2 (u2 (u2 (u2 (u2 (aj (k2 n11) s2))))))))) (al (aj t6 t2))))
 (fun a1=>
  .rt [27,36] [] [] [] [] [] (aj (aj a1 (al (u2 (u2 (u2 (u2 (u2 (aj (k2 n11) s2)))))))) (al (aj t6 t2)))))
 (fun a0=>
 have c0:=fva_c (y);
 .rt [26] [] [(12,hK c0 [] [])] [] [] [] (aj (aj (u2 (aj (ak (aj t6 (al (c0)))) (u2 (aj a0 (aj a0 (aj a0 (aj a0 (al (aj a0 t2))))))))) (ak (al (u2 (u2 (u2 (u2 (u2 (aj (k2 n11) s2))))))))) (al (aj t6 t2))))) (by kernel_rfl)
theorem aHe_ct(x:AgD)(q:Int)(y:FrD)(r:Ret)(h:MReach (aHeStep x q y) (aHeEn x q y) r):CT Try.prog 15 ([]) ([agA x,.int .i64 q,frA y]) r.1 r.2:=
 CT.mach (fn:=Try.f15) (c:=zB Try.f15) (S:=aHeSt x q y) (hd:=aHeHd) Try.func15 (by kernel_rfl) (Nat.le_of_ble_eq_true rfl)
  (fun s o ho=>match s,ho with
   | x,_=>x.elim)
  (fun o ho=>aHeEn_ok x q y o ho) h
def rHeSt(x:AgD)(q:Int)(y:FrD):Empty→St
 | x=>x.elim
def rHeHd:Empty→Nat
 | x=>x.elim
def rHeEn(x:AgD)(q:Int)(y:FrD):Option (Empty⊕Ret):=
 gu (0≤y.q) <|
 br (!frV y)
 (some (.inr ([],AV.tup [AV.agg [AV.int IntKind.u64 x.l,AV.int IntKind.i64 x.t,AV.bool x.s,AV.int IntKind.i64 x.r,AV.int IntKind.i64 x.c],AV.nils])))
 (br (y.r != q)
  (some (.inr ([],AV.tup [AV.agg [AV.int IntKind.u64 x.l,AV.int IntKind.i64 x.t,AV.bool x.s,AV.int IntKind.i64 x.r,AV.int IntKind.i64 x.c],AV.nils])))
  (br (y.k==1)
   (br (decide (x.l<y.q))
    (some (.inr ([],AV.tup [AV.agg [AV.int IntKind.u64 y.q,AV.int IntKind.i64 y.c,AV.bool (y.f==1),AV.int IntKind.i64 0,AV.int IntKind.i64 0],AV.lst [AV.agg [AV.int IntKind.i64 3,AV.int IntKind.i64 q,AV.int IntKind.u64 y.q,AV.int IntKind.i64 0,AV.int IntKind.i64 0]]])))
    (some (.inr ([],AV.tup [AV.agg [AV.int IntKind.u64 x.l,AV.int IntKind.i64 x.t,AV.bool x.s,AV.int IntKind.i64 x.r,AV.int IntKind.i64 x.c],AV.lst [AV.agg [AV.int IntKind.i64 3,AV.int IntKind.i64 q,AV.int IntKind.u64 y.q,AV.int IntKind.i64 0,AV.int IntKind.i64 0]]]))))
   (br (y.k==3)
    (br (x.r != 0)
     (br (y.q==x.l)
      (br (y.f==x.r)
       (some (.inr ([],AV.tup [AV.agg [AV.int IntKind.u64 x.l,AV.int IntKind.i64 x.t,AV.bool x.s,AV.int IntKind.i64 0,AV.int IntKind.i64 0],AV.nils])))
       (some (.inr ([],AV.tup [AV.agg [AV.int IntKind.u64 x.l,AV.int IntKind.i64 x.t,AV.bool x.s,AV.int IntKind.i64 x.r,AV.int IntKind.i64 x.c],AV.nils]))))
      (some (.inr ([],AV.tup [AV.agg [AV.int IntKind.u64 x.l,AV.int IntKind.i64 x.t,AV.bool x.s,AV.int IntKind.i64 x.r,AV.int IntKind.i64 x.c],AV.nils]))))
     (some (.inr ([],AV.tup [AV.agg [AV.int IntKind.u64 x.l,AV.int IntKind.i64 x.t,AV.bool x.s,AV.int IntKind.i64 x.r,AV.int IntKind.i64 x.c],AV.nils]))))
    (some (.inr ([],AV.tup [AV.agg [AV.int IntKind.u64 x.l,AV.int IntKind.i64 x.t,AV.bool x.s,AV.int IntKind.i64 x.r,AV.int IntKind.i64 x.c],AV.nils]))))))
def rHeStep(x:AgD)(q:Int)(y:FrD):Empty→Option (Empty⊕Ret)
 | x=>x.elim
theorem rHeEn_ok(x:AgD)(q:Int)(y:FrD)(o:Empty⊕Ret)(h:rHeEn x q y=some o):Arr Try.prog Try.f21 0 (rHeSt x q y) rHeHd (zB Try.f21) [] {n:=Try.f21.ntmps,fr:=enumF 0 ([agA x,.int .i64 q,frA y]),hp:=([])} o:=
 Scr.ok h mix (
 .rn 0 [] [] [] [] (al (u2 (u2 t3))) <|
 .gu fun a0=>
 .br (fun a1=>
 have c0:=rva_c y a0;
 .rt [23] [] [(9,hK c0 [] [])] [] [] [] (aj (aj (u2 (aj (ak (aj t6 (al (c0)))) (u2 (u2 (aj a1 (aj a1 (aj a1 (aj a1 (al (aj a1 t2)))))))))) (ak (al (u2 (aj (k2 n11) t2))))) (al (aj t6 t2))))
 (fun a1=>
 have c0:=rva_c y a0;
 .rn 0 [22] [] [(9,hK c0 [] [])] [] (al (u2 (aj (ak (aj t6 (al (c0)))) (u2 (u2 (ag a1 (ag a1 (ag a1 (aj (aj a1 t3) (al (aj a1 t2))))))))))) <|
 .br (fun a2=>
  .rt [22,33] [] [] [] [] [] (aj (aj a2 (al (u2 (aj (k2 n11) t2)))) (al (aj t6 t2))))
 (fun a2=>
  .rn 1 [22,32] [] [] [] (aj a2 (aj (u2 s2) (al (u2 s2)))) <|
  .br (fun a3=>
  have c1:=rfs_c (x.l) (y.q);
  .rn 0 [22,41] [] [(26,hK c1 [] [])] [] (aj a3 (al (u2 (u2 (u2 (u2 (al (ak (k3 (al (c1))))))))))) <|
  .br (fun a4=>
   .rt [22,53] [(40,AV.lst [])] [] [] [] [] (aj (aj a4 (aj (u2 (u2 (u2 (u2 (u2 (u2 (u2 (aj t4 (al (k2 (show Nat.le 1 [AV.agg [AV.int IntKind.u64 x.l,iv x.t,AV.bool x.s,iv x.r,iv x.c]].length from(Nat.le_of_ble_eq_true rfl)))))))))))) (al (u2 (u2 (u2 (u2 (aj t3 (u2 (aj (k2 n11) s2)))))))))) (al (aj t6 t2))))
  (fun a4=>
   .rt [22,52] [(40,AV.lst [])] [] [] [] [] (aj (aj a4 (al (u2 (u2 (u2 (u2 (aj t3 (u2 (aj (k2 n11) s2))))))))) (al (aj t6 t2)))))
  (fun a3=>
  .rn 0 [22,40] [] [] [] (aj a3 (al (u2 s2))) <|
  .br (fun a4=>
   .br (fun a5=>
   .br (fun a6=>
    .rn 0 [22,83,93,107] [] [] [] (aj a4 (al (u2 (u2 (u2 (u2 (ag a5 (ag a5 (ag a5 (ag a5 (aj (aj a5 t3) (ag a5 (u2 (ag a6 (ag a6 (ag a6 (ag a6 (aj (aj a6 t3) (al (aj a6 t2)))))))))))))))))))) <|
    .br (fun a7=>
    .rt [22,93,107,119] [] [] [] [] [] (aj (aj a7 (aj (u2 (u2 (u2 s2))) (al (u2 (aj (k2 n11) t2))))) (al (aj t6 t2))))
    (fun a7=>
    .rt [22,93,107,118] [] [] [] [] [] (aj (aj a7 (al (u2 (aj (k2 n11) t2)))) (al (aj t6 t2)))))
   (fun a6=>
    .rt [22,83,93,106] [] [] [] [] [] (aj (aj a4 (aj (u2 (u2 (u2 (u2 (ag a5 (ag a5 (ag a5 (ag a5 (aj (aj a5 t3) (ag a5 (u2 (aj a6 (aj a6 (aj a6 (aj a6 (aj a6 (al (aj a6 t2)))))))))))))))))) (ak (al (u2 (aj (k2 n11) t2)))))) (al (aj t6 t2)))))
   (fun a5=>
   .rt [22,83,92] [] [] [] [] [] (aj (aj a4 (aj (u2 (u2 (u2 (u2 (aj a5 (aj a5 (aj a5 (aj a5 (aj a5 (ag a5 (u2 (k5 (al t3))))))))))))) (ak (al (u2 (aj (k2 n11) t2)))))) (al (aj t6 t2)))))
  (fun a4=>
   .rt [22,82] [] [] [] [] [] (aj (aj a4 (al (u2 (aj (k2 n11) t2)))) (al (aj t6 t2)))))))) (by kernel_rfl)
theorem rHe_ct(x:AgD)(q:Int)(y:FrD)(r:Ret)(h:MReach (rHeStep x q y) (rHeEn x q y) r):CT Try.prog 21 ([]) ([agA x,.int .i64 q,frA y]) r.1 r.2:=
 CT.mach (fn:=Try.f21) (c:=zB Try.f21) (S:=rHeSt x q y) (hd:=rHeHd) Try.func21 (by kernel_rfl) (Nat.le_of_ble_eq_true rfl)
  (fun s o ho=>match s,ho with
   | x,_=>x.elim)
  (fun o ho=>rHeEn_ok x q y o ho) h
def frmSt(L:List Int)(kk:Nat):Empty→St
 | x=>x.elim
def frmHd:Empty→Nat
 | x=>x.elim
def frmEn(L:List Int)(kk:Nat):Option (Empty⊕Ret):=
 gu (kk<9223372036854775807) <|
 gu (kk+1<9223372036854775807) <|
 gu (kk+1+1<9223372036854775807) <|
 gu (kk+1+1+1<9223372036854775807) <|
 gu (kk+1+1+1+1<9223372036854775807) <|
 br (nextZ L (kk+1+1+1+1) 8==0)
 (gu (kk+1+1+1+1+1<9223372036854775807) <|
  br (IntKind.i64.wrap (1+nextZ L kk 3)==1)
  (gu (kk+1+1+1+1+1+1<9223372036854775807) <|
   some (.inr ([some (Blk.mk [AV.agg [AV.lst (List.map (AV.int IntKind.i64) L),AV.int IntKind.i64 (iN (kk+1+1+1+1+1+1+1))]] 2 true true none)],AV.agg [AV.int IntKind.i64 (IntKind.i64.wrap (1+nextZ L kk 3)),AV.int IntKind.i64 (nextZ L (kk+1) 8),AV.int IntKind.u64 (IntKind.u64.wrap (18446744073709551615-IntKind.u64.wrap (nextZ L (kk+1+1+1+1+1) 3))),AV.int IntKind.i64 (nextZ L (kk+1+1+1) 48),AV.int IntKind.i64 (nextZ L (kk+1+1+1+1+1+1) 2)])))
  (br (IntKind.i64.wrap (1+nextZ L kk 3)==2)
   (gu (kk+1+1+1+1+1+1<9223372036854775807) <|
    some (.inr ([some (Blk.mk [AV.agg [AV.lst (List.map (AV.int IntKind.i64) L),AV.int IntKind.i64 (iN (kk+1+1+1+1+1+1+1))]] 2 true true none)],AV.agg [AV.int IntKind.i64 (IntKind.i64.wrap (1+nextZ L kk 3)),AV.int IntKind.i64 (nextZ L (kk+1) 8),AV.int IntKind.u64 (IntKind.u64.wrap (18446744073709551615-IntKind.u64.wrap (nextZ L (kk+1+1+1+1+1) 3))),AV.int IntKind.i64 (nextZ L (kk+1+1+1) 48),AV.int IntKind.i64 (IntKind.i64.wrap (1+nextZ L (kk+1+1+1+1+1+1) 2))])))
   (gu (kk+1+1+1+1+1+1<9223372036854775807) <|
    some (.inr ([some (Blk.mk [AV.agg [AV.lst (List.map (AV.int IntKind.i64) L),AV.int IntKind.i64 (iN (kk+1+1+1+1+1+1+1))]] 2 true true none)],AV.agg [AV.int IntKind.i64 (IntKind.i64.wrap (1+nextZ L kk 3)),AV.int IntKind.i64 (nextZ L (kk+1) 8),AV.int IntKind.u64 (IntKind.u64.wrap (18446744073709551615-IntKind.u64.wrap (nextZ L (kk+1+1+1+1+1) 3))),AV.int IntKind.i64 0,AV.int IntKind.i64 (nextZ L (kk+1+1+1+1+1+1) 3)])))))
 (br (IntKind.i64.wrap (1+nextZ L kk 3)==1)
  (gu (kk+1+1+1+1+1<9223372036854775807) <|
   some (.inr ([some (Blk.mk [AV.agg [AV.lst (List.map (AV.int IntKind.i64) L),AV.int IntKind.i64 (iN (kk+1+1+1+1+1+1))]] 2 true true none)],AV.agg [AV.int IntKind.i64 (IntKind.i64.wrap (1+nextZ L kk 3)),AV.int IntKind.i64 (nextZ L (kk+1) 8),AV.int IntKind.u64 (IntKind.u64.wrap (IntKind.i64.wrap (1+nextZ L (kk+1+1) 5))),AV.int IntKind.i64 (nextZ L (kk+1+1+1) 48),AV.int IntKind.i64 (nextZ L (kk+1+1+1+1+1) 2)])))
  (br (IntKind.i64.wrap (1+nextZ L kk 3)==2)
   (gu (kk+1+1+1+1+1<9223372036854775807) <|
    some (.inr ([some (Blk.mk [AV.agg [AV.lst (List.map (AV.int IntKind.i64) L),AV.int IntKind.i64 (iN (kk+1+1+1+1+1+1))]] 2 true true none)],AV.agg [AV.int IntKind.i64 (IntKind.i64.wrap (1+nextZ L kk 3)),AV.int IntKind.i64 (nextZ L (kk+1) 8),AV.int IntKind.u64 (IntKind.u64.wrap (IntKind.i64.wrap (1+nextZ L (kk+1+1) 5))),AV.int IntKind.i64 (nextZ L (kk+1+1+1) 48),AV.int IntKind.i64 (IntKind.i64.wrap (1+nextZ L (kk+1+1+1+1+1) 2))])))
   (gu (kk+1+1+1+1+1<9223372036854775807) <|
    some (.inr ([some (Blk.mk [AV.agg [AV.lst (List.map (AV.int IntKind.i64) L),AV.int IntKind.i64 (iN (kk+1+1+1+1+1+1))]] 2 true true none)],AV.agg [AV.int IntKind.i64 (IntKind.i64.wrap (1+nextZ L kk 3)),AV.int IntKind.i64 (nextZ L (kk+1) 8),AV.int IntKind.u64 (IntKind.u64.wrap (IntKind.i64.wrap (1+nextZ L (kk+1+1) 5))),AV.int IntKind.i64 0,AV.int IntKind.i64 (nextZ L (kk+1+1+1+1+1) 3)])))))
def frmStep(L:List Int)(kk:Nat):Empty→Option (Empty⊕Ret)
 | x=>x.elim
theorem frmEn_ok(L:List Int)(kk:Nat)(o:Empty⊕Ret)(h:frmEn L kk=some o):Arr Try.prog Try.f13 1 (frmSt L kk) frmHd (zB Try.f13) [] {n:=Try.f13.ntmps,fr:=enumF 0 ([.ptr 0 0 0]),hp:=([some (tapeB L kk)])} o:=
 Scr.ok h mix (
 .rn 0 [] [] [] [] s2 <|
 .gu fun a0=>
 .gu fun a1=>
 .gu fun a2=>
 .gu fun a3=>
 have c0:=next_ct (L) (kk) (3) a0;
 have c1:=next_ct (L) (kk+1) (8) a1;
 have c2:=next_ct (L) (kk+1+1) (5) a2;
 have c3:=next_ct (L) (kk+1+1+1) (48) a3;
 .rn 0 [] [] [(5,hK c0 [0] []),(8,hK c1 [0] []),(10,hK c2 [0] []),(14,hK c3 [0] [])] [] (al (u2 (aj (ak (k3 (al (c0)))) (u2 (u2 (aj (ak (k3 (al (c1)))) (u2 (aj (ak (k3 (al (c2)))) (u2 (u2 (u2 (aj (ak (k3 (al (c3)))) (aj t5 (ak (al (k2 n11)))))))))))))))) <|
 .gu fun a4=>
 have c4:=next_ct (L) (kk+1+1+1+1) (8) a4;
 .rn 0 [] [] [(17,hK c4 [0] [])] [] (al (u2 (aj (ak (k3 (al (c4)))) s2))) <|
 .br (fun a5=>
 .gu fun a6=>
 have c5:=next_ct (L) (kk+1+1+1+1+1) (3) a6;
 .rn 2 [37] [] [(20,hK c5 [0] [])] [] (aj a5 (aj (u2 (aj (ak (k3 (al (c5)))) (u2 (u2 (u2 (al t3)))))) (aj (u2 s2) (al (u2 s2))))) <|
 .br (fun a7=>
  .gu fun a8=>
  have c6:=next_ct (L) (kk+1+1+1+1+1+1) (2) a8;
  .rt [61] [] [(33,hK c6 [0] [])] [] [0] [] (aj (aj a7 (aj (u2 (aj (ak (k3 (al (c6)))) (u2 (al t3)))) (al (u2 (al (k2 n11)))))) (aj t6 t2)))
 (fun a7=>
  .rn 0 [60] [] [] [] (aj a7 (al (u2 s2))) <|
  .br (fun a8=>
  .gu fun a9=>
  have c6:=next_ct (L) (kk+1+1+1+1+1+1) (2) a9;
  .rt [71] [] [(38,hK c6 [0] [])] [] [0] [] (aj (aj a8 (aj (u2 (aj (ak (k3 (al (c6)))) (u2 (u2 (al t3))))) (al (u2 (al (k2 n11)))))) (aj t6 t2)))
  (fun a8=>
  .gu fun a9=>
  have c6:=next_ct (L) (kk+1+1+1+1+1+1) (3) a9;
  .rt [70] [] [(27,hK c6 [0] [])] [] [0] [] (aj (aj a8 (aj (u2 (aj (ak (k3 (al (c6)))) (u2 (u2 (u2 (al t3)))))) (al (u2 (al (k2 n11)))))) (aj t6 t2)))))
 (fun a5=>
 .rn 1 [36] [] [] [] (aj a5 (aj (u2 s2) (al (u2 s2)))) <|
 .br (fun a6=>
  .gu fun a7=>
  have c5:=next_ct (L) (kk+1+1+1+1+1) (2) a7;
  .rt [61] [] [(33,hK c5 [0] [])] [] [0] [] (aj (aj a6 (aj (u2 (aj (ak (k3 (al (c5)))) (u2 (al t3)))) (al (u2 (al (k2 n11)))))) (aj t6 t2)))
 (fun a6=>
  .rn 0 [60] [] [] [] (aj a6 (al (u2 s2))) <|
  .br (fun a7=>
  .gu fun a8=>
  have c5:=next_ct (L) (kk+1+1+1+1+1) (2) a8;
  .rt [71] [] [(38,hK c5 [0] [])] [] [0] [] (aj (aj a7 (aj (u2 (aj (ak (k3 (al (c5)))) (u2 (u2 (al t3))))) (al (u2 (al (k2 n11)))))) (aj t6 t2)))
  (fun a7=>
  .gu fun a8=>
  have c5:=next_ct (L) (kk+1+1+1+1+1) (3) a8;
  .rt [70] [] [(27,hK c5 [0] [])] [] [0] [] (aj (aj a7 (aj (u2 (aj (ak (k3 (al (c5)))) (u2 (u2 (u2 (al t3)))))) (al (u2 (al (k2 n11)))))) (aj t6 t2)))))) (by kernel_rfl)
theorem frm_ct(L:List Int)(kk:Nat)(r:Ret)(h:MReach (frmStep L kk) (frmEn L kk) r):CT Try.prog 13 ([some (tapeB L kk)]) ([.ptr 0 0 0]) r.1 r.2:=
 CT.mach (fn:=Try.f13) (c:=zB Try.f13) (S:=frmSt L kk) (hd:=frmHd) Try.func13 (by kernel_rfl) (Nat.le_of_ble_eq_true rfl)
  (fun s o ho=>match s,ho with
   | x,_=>x.elim)
  (fun o ho=>frmEn_ok L kk o ho) h
def mddSt(L:List Int)(kk:Nat)(c:Int):Empty→St
 | x=>x.elim
def mddHd:Empty→Nat
 | x=>x.elim
def mddEn(L:List Int)(kk:Nat)(c:Int):Option (Empty⊕Ret):=
 gu (kk<9223372036854775807) <|
 gu (kk+1<9223372036854775807) <|
 gu (kk+1+1<9223372036854775807) <|
 gu (kk+1+1+1<9223372036854775807) <|
 br (decide (0<nextZ L (kk+1+1+1) 3))
 (gu (kk+1+1+1+1<9223372036854775807) <|
  gu (kk+1+1+1+1+1<9223372036854775807) <|
  gu (kk+1+1+1+1+1+1<9223372036854775807) <|
  gu (kk+1+1+1+1+1+1+1<9223372036854775807) <|
  gu (kk+1+1+1+1+1+1+1+1<9223372036854775807) <|
  br (nextZ L (kk+1+1+1+1+1+1+1+1) 3==0)
  (gu (kk+1+1+1+1+1+1+1+1+1<9223372036854775807) <|
   some (.inr ([some (Blk.mk [AV.agg [AV.lst (List.map (AV.int IntKind.i64) L),AV.int IntKind.i64 (iN (kk+1+1+1+1+1+1+1+1+1+1))]] 2 true true none)],AV.tup [AV.agg [AV.int IntKind.u64 (IntKind.u64.wrap (nextZ L kk 4)),AV.int IntKind.i64 (IntKind.i64.wrap (nextZ L (kk+1) (IntKind.i64.wrap (c+1))-1)),AV.bool (nextZ L (kk+1+1) 3==0),AV.int IntKind.i64 (nextZ L (kk+1+1+1) 3),AV.int IntKind.i64 (nextZ L (kk+1+1+1+1) c)],AV.agg [AV.int IntKind.i64 (IntKind.i64.wrap (nextZ L (kk+1+1+1+1+1) (IntKind.i64.wrap (c+1))-1)),AV.int IntKind.i64 (nextZ L (kk+1+1+1+1+1+1+1+1+1) c),AV.bool (nextZ L (kk+1+1+1+1+1+1) 4==0),AV.bool (nextZ L (kk+1+1+1+1+1+1+1) 6==0)]])))
  (some (.inr ([some (Blk.mk [AV.agg [AV.lst (List.map (AV.int IntKind.i64) L),AV.int IntKind.i64 (iN (kk+1+1+1+1+1+1+1+1+1))]] 2 true true none)],AV.tup [AV.agg [AV.int IntKind.u64 (IntKind.u64.wrap (nextZ L kk 4)),AV.int IntKind.i64 (IntKind.i64.wrap (nextZ L (kk+1) (IntKind.i64.wrap (c+1))-1)),AV.bool (nextZ L (kk+1+1) 3==0),AV.int IntKind.i64 (nextZ L (kk+1+1+1) 3),AV.int IntKind.i64 (nextZ L (kk+1+1+1+1) c)],AV.agg [AV.int IntKind.i64 (IntKind.i64.wrap (nextZ L (kk+1+1+1+1+1) (IntKind.i64.wrap (c+1))-1)),AV.int IntKind.i64 (-1),AV.bool (nextZ L (kk+1+1+1+1+1+1) 4==0),AV.bool (nextZ L (kk+1+1+1+1+1+1+1) 6==0)]]))))
 (gu (kk+1+1+1+1<9223372036854775807) <|
  gu (kk+1+1+1+1+1<9223372036854775807) <|
  gu (kk+1+1+1+1+1+1<9223372036854775807) <|
  gu (kk+1+1+1+1+1+1+1<9223372036854775807) <|
  br (nextZ L (kk+1+1+1+1+1+1+1) 3==0)
  (gu (kk+1+1+1+1+1+1+1+1<9223372036854775807) <|
   some (.inr ([some (Blk.mk [AV.agg [AV.lst (List.map (AV.int IntKind.i64) L),AV.int IntKind.i64 (iN (kk+1+1+1+1+1+1+1+1+1))]] 2 true true none)],AV.tup [AV.agg [AV.int IntKind.u64 (IntKind.u64.wrap (nextZ L kk 4)),AV.int IntKind.i64 (IntKind.i64.wrap (nextZ L (kk+1) (IntKind.i64.wrap (c+1))-1)),AV.bool (nextZ L (kk+1+1) 3==0),AV.int IntKind.i64 (nextZ L (kk+1+1+1) 3),AV.int IntKind.i64 0],AV.agg [AV.int IntKind.i64 (IntKind.i64.wrap (nextZ L (kk+1+1+1+1) (IntKind.i64.wrap (c+1))-1)),AV.int IntKind.i64 (nextZ L (kk+1+1+1+1+1+1+1+1) c),AV.bool (nextZ L (kk+1+1+1+1+1) 4==0),AV.bool (nextZ L (kk+1+1+1+1+1+1) 6==0)]])))
  (some (.inr ([some (Blk.mk [AV.agg [AV.lst (List.map (AV.int IntKind.i64) L),AV.int IntKind.i64 (iN (kk+1+1+1+1+1+1+1+1))]] 2 true true none)],AV.tup [AV.agg [AV.int IntKind.u64 (IntKind.u64.wrap (nextZ L kk 4)),AV.int IntKind.i64 (IntKind.i64.wrap (nextZ L (kk+1) (IntKind.i64.wrap (c+1))-1)),AV.bool (nextZ L (kk+1+1) 3==0),AV.int IntKind.i64 (nextZ L (kk+1+1+1) 3),AV.int IntKind.i64 0],AV.agg [AV.int IntKind.i64 (IntKind.i64.wrap (nextZ L (kk+1+1+1+1) (IntKind.i64.wrap (c+1))-1)),AV.int IntKind.i64 (-1),AV.bool (nextZ L (kk+1+1+1+1+1) 4==0),AV.bool (nextZ L (kk+1+1+1+1+1+1) 6==0)]]))))
def mddStep(L:List Int)(kk:Nat)(c:Int):Empty→Option (Empty⊕Ret)
 | x=>x.elim
theorem mddEn_ok(L:List Int)(kk:Nat)(c:Int)(o:Empty⊕Ret)(h:mddEn L kk c=some o):Arr Try.prog Try.f19 1 (mddSt L kk c) mddHd (zB Try.f19) [] {n:=Try.f19.ntmps,fr:=enumF 0 ([.ptr 0 0 0,.int .i64 c]),hp:=([some (tapeB L kk)])} o:=
 Scr.ok h mix (
 .rn 0 [] [] [] [] (al t3) <|
 .gu fun a0=>
 .gu fun a1=>
 .gu fun a2=>
 .gu fun a3=>
 have c0:=next_ct (L) (kk) (4) a0;
 have c1:=next_ct (L) (kk+1) (IntKind.i64.wrap (c+1)) a1;
 have c2:=next_ct (L) (kk+1+1) (3) a2;
 have c3:=next_ct (L) (kk+1+1+1) (3) a3;
 .rn 1 [] [] [(9,hK c0 [0] []),(14,hK c1 [0] []),(17,hK c2 [0] []),(20,hK c3 [0] [])] [] (aj (u2 (aj (ak (k3 (al (c0)))) (u2 (u2 (u2 (u2 (aj (k5 (al (c1))) (u2 (u2 (aj (ak (k3 (al (c2)))) (u2 (u2 (aj (ak (k3 (al (c3)))) (aj t5 (ak (al (k2 n11))))))))))))))))) (al (u2 (u2 s2)))) <|
 .br (fun a4=>
 .gu fun a5=>
 have c4:=next_ct (L) (kk+1+1+1+1) c a5;
 .rn 0 [49] [] [(27,hK c4 [0] [])] [] (aj a4 (al (u2 (u2 (aj (k5 (al (c4))) (u2 (al t3))))))) <|
 .gu fun a6=>
 .gu fun a7=>
 .gu fun a8=>
 have c5:=next_ct (L) (kk+1+1+1+1+1) (IntKind.i64.wrap (c+1)) a6;
 have c6:=next_ct (L) (kk+1+1+1+1+1+1) (4) a7;
 have c7:=next_ct (L) (kk+1+1+1+1+1+1+1) (6) a8;
 .rn 0 [] [] [(32,hK c5 [0] []),(35,hK c6 [0] []),(38,hK c7 [0] [])] [] (al (u2 (u2 (u2 (aj (k5 (al (c5))) (u2 (u2 (aj (ak (k3 (al (c6)))) (u2 (u2 (aj (ak (k3 (al (c7)))) (u2 (aj t4 (ak (al (k2 n11)))))))))))))))) <|
 .gu fun a9=>
 have c8:=next_ct (L) (kk+1+1+1+1+1+1+1+1) (3) a9;
 .rn 0 [] [] [(42,hK c8 [0] [])] [] (al (u2 (aj (ak (k3 (al (c8)))) s2))) <|
 .br (fun a10=>
  .gu fun a11=>
  have c9:=next_ct (L) (kk+1+1+1+1+1+1+1+1+1) c a11;
  .rt [87] [] [(46,hK c9 [0] [])] [] [0] [] (aj (aj a10 (aj (u2 (u2 (aj (k5 (al (c9))) (u2 (al t3))))) (al (u2 (u2 (aj (k2 n11) (al (k2 n11)))))))) (aj (aj t6 (al t5)) t2)))
 (fun a10=>
  .rt [86] [] [] [] [0] [] (aj (aj a10 (al (u2 (u2 (aj (k2 n11) (al (k2 n11))))))) (aj (aj t6 (al t5)) t2))))
 (fun a4=>
 .gu fun a5=>
 .gu fun a6=>
 .gu fun a7=>
 have c4:=next_ct (L) (kk+1+1+1+1) (IntKind.i64.wrap (c+1)) a5;
 have c5:=next_ct (L) (kk+1+1+1+1+1) (4) a6;
 have c6:=next_ct (L) (kk+1+1+1+1+1+1) (6) a7;
 .rn 0 [48] [] [(32,hK c4 [0] []),(35,hK c5 [0] []),(38,hK c6 [0] [])] [] (aj a4 (al (u2 (u2 (u2 (aj (k5 (al (c4))) (u2 (u2 (aj (ak (k3 (al (c5)))) (u2 (u2 (aj (ak (k3 (al (c6)))) (u2 (aj t4 (ak (al (k2 n11))))))))))))))))) <|
 .gu fun a8=>
 have c7:=next_ct (L) (kk+1+1+1+1+1+1+1) (3) a8;
 .rn 0 [] [] [(42,hK c7 [0] [])] [] (al (u2 (aj (ak (k3 (al (c7)))) s2))) <|
 .br (fun a9=>
  .gu fun a10=>
  have c8:=next_ct (L) (kk+1+1+1+1+1+1+1+1) c a10;
  .rt [87] [] [(46,hK c8 [0] [])] [] [0] [] (aj (aj a9 (aj (u2 (u2 (aj (k5 (al (c8))) (u2 (al t3))))) (al (u2 (u2 (aj (k2 n11) (al (k2 n11)))))))) (aj (aj t6 (al t5)) t2)))
 (fun a9=>
  .rt [86] [] [] [] [0] [] (aj (aj a9 (al (u2 (u2 (aj (k2 n11) (al (k2 n11))))))) (aj (aj t6 (al t5)) t2))))) (by kernel_rfl)
theorem mdd_ct(L:List Int)(kk:Nat)(c:Int)(r:Ret)(h:MReach (mddStep L kk c) (mddEn L kk c) r):CT Try.prog 19 ([some (tapeB L kk)]) ([.ptr 0 0 0,.int .i64 c]) r.1 r.2:=
 CT.mach (fn:=Try.f19) (c:=zB Try.f19) (S:=mddSt L kk c) (hd:=mddHd) Try.func19 (by kernel_rfl) (Nat.le_of_ble_eq_true rfl)
  (fun s o ho=>match s,ho with
   | x,_=>x.elim)
  (fun o ho=>mddEn_ok L kk c o ho) h
end Go.Proofs.Ytifigemlifbkcaa
namespace Go.Proofs.Ytifigemlifbkcaa
theorem aHe_c(x:AgD)(q:Int)(y:FrD):CT Try.prog 15 [] [agA x,.int .i64 q,frA y] [] (heA (heO x q y)):=by
 obtain⟨o,h1,h2⟩:∃o,aHeEn x q y=some (.inr ([],o))∧wkV o=heA (heO x q y):=by
  unfold aHeEn heO
  cases frV y<;>cases y.r==q<;>exact⟨_,rfl,rfl⟩
 exact(aHe_ct x q y ([],o) (.val h1)).to rfl h2
theorem rHe_c(x:AgD)(q:Int)(y:FrD)(hq:0≤y.q):CT Try.prog 21 [] [agA x,.int .i64 q,frA y] [] (heA (heO x q y)):=by
 obtain⟨o,h1,h2⟩:∃o,rHeEn x q y=some (.inr ([],o))∧wkV o=heA (heO x q y):=by
  unfold rHeEn heO
  rw[gu_t hq]
  simp only[bne]
  cases frV y
  ·exact⟨_,rfl,rfl⟩
  ·cases hr:y.r==q
   ·exact⟨_,rfl,rfl⟩
   ·have e:y.r=q:=beq_iff_eq.1 hr
    subst e
    unfold heaO
    cases y.k==1
    ·cases y.k==3<;>cases x.r==0<;>cases y.q==x.l<;>cases y.f==x.r<;>exact⟨_,rfl,rfl⟩
    ·cases decide (x.l<y.q)<;>exact⟨_,rfl,rfl⟩
 exact(rHe_ct x q y ([],o) (.val h1)).to rfl h2
theorem u64_nn(n:Int):0≤IntKind.u64.wrap n:=by
 simp only[IntKind.wrap,IntKind.signed,IntKind.bits]
 simp
 omega
theorem frm_exP(L:List Int)(kk:Nat):∃p:FrD×Nat,kk≤1000000→0≤p.1.q∧p.2≤kk+8∧CT Try.prog 13 [some (tapeB L kk)] [.ptr 0 0 0] [some (tapeB L p.2)] (frA p.1):=by
 by_cases hk:kk≤1000000
 ·obtain⟨p,h1,h2,h3⟩:∃p:FrD×Nat,0≤p.1.q∧p.2≤kk+8∧frmEn L kk=some (.inr ([some (tapeB L p.2)],frA p.1)):=by
   unfold frmEn
   repeat rw[gu_t (by omega)]
   cases nextZ L (kk+1+1+1+1) 8==0<;>cases IntKind.i64.wrap (1+nextZ L kk 3)==1<;>cases IntKind.i64.wrap (1+nextZ L kk 3)==2<;>
    exact⟨(⟨_,_,_,_,_⟩,_),u64_nn _,by simp only;omega,rfl⟩
  exact⟨p,fun _=>⟨h1,h2,frm_ct L kk ([_],_) (.val h3)⟩⟩
 ·exact⟨(fr0,0),fun h=>absurd h hk⟩
@[irreducible] def frmM(L:List Int)(kk:Nat):FrD:=(Classical.choose (frm_exP L kk)).1
@[irreducible] def frmK(L:List Int)(kk:Nat):Nat:=(Classical.choose (frm_exP L kk)).2
theorem frm_spec{L:List Int}{kk:Nat}(h:kk≤1000000):0≤(frmM L kk).q∧frmK L kk≤kk+8∧CT Try.prog 13 [some (tapeB L kk)] [.ptr 0 0 0] [some (tapeB L (frmK L kk))] (frA (frmM L kk)):=by
 unfold frmM frmK;exact Classical.choose_spec (frm_exP L kk) h
theorem frm_c(L:List Int)(kk:Nat)(h:kk≤1000000):CT Try.prog 13 [some (tapeB L kk)] [.ptr 0 0 0] [some (tapeB L (frmK L kk))] (frA (frmM L kk)):=(frm_spec h).2.2
structure MdD where
 a:AgD
 b:BdD
def mdA(x:MdD):AV:=.tup [agA x.a,bdA x.b]
theorem mdd_exP(L:List Int)(kk:Nat)(c:Int):∃p:MdD×Nat,kk≤1000000→p.2≤kk+12∧CT Try.prog 19 [some (tapeB L kk)] [.ptr 0 0 0,.int .i64 c] [some (tapeB L p.2)] (mdA p.1):=by
 by_cases hk:kk≤1000000
 ·obtain⟨p,h2,h3⟩:∃p:MdD×Nat,p.2≤kk+12∧mddEn L kk c=some (.inr ([some (tapeB L p.2)],mdA p.1)):=by
   unfold mddEn
   repeat rw[gu_t (by omega)]
   cases decide (0<nextZ L (kk+1+1+1) 3)
   ·cases nextZ L (kk+1+1+1+1+1+1+1) 3==0<;>exact⟨(⟨⟨_,_,_,_,_⟩,⟨_,_,_,_⟩⟩,_),by simp only;omega,rfl⟩
   ·cases nextZ L (kk+1+1+1+1+1+1+1+1) 3==0<;>exact⟨(⟨⟨_,_,_,_,_⟩,⟨_,_,_,_⟩⟩,_),by simp only;omega,rfl⟩
  exact⟨p,fun _=>⟨h2,mdd_ct L kk c ([_],_) (.val h3)⟩⟩
 ·exact⟨(⟨ag0,⟨0,0,false,false⟩⟩,0),fun h=>absurd h hk⟩
@[irreducible] def mddM(L:List Int)(kk:Nat)(c:Int):MdD:=(Classical.choose (mdd_exP L kk c)).1
@[irreducible] def mddK(L:List Int)(kk:Nat)(c:Int):Nat:=(Classical.choose (mdd_exP L kk c)).2
theorem mdd_spec{L:List Int}{kk:Nat}{c:Int}(h:kk≤1000000):mddK L kk c≤kk+12∧CT Try.prog 19 [some (tapeB L kk)] [.ptr 0 0 0,.int .i64 c] [some (tapeB L (mddK L kk c))] (mdA (mddM L kk c)):=by
 unfold mddM mddK;exact Classical.choose_spec (mdd_exP L kk c) h
theorem mdd_c(L:List Int)(kk:Nat)(c:Int)(h:kk≤1000000):CT Try.prog 19 [some (tapeB L kk)] [.ptr 0 0 0,.int .i64 c] [some (tapeB L (mddK L kk c))] (mdA (mddM L kk c)):=(mdd_spec h).2
def kn7St:Empty→St
 | x=>x.elim
def kn7Hd:Empty→Nat
 | x=>x.elim
def kn7En:Option (Empty⊕Ret):=
 some (.inr ([],AV.bool true))
def kn7Step:Empty→Option (Empty⊕Ret)
 | x=>x.elim
theorem kn7En_ok(o:Empty⊕Ret)(h:kn7En=some o):Arr Try.prog Try.f9 0 (kn7St) kn7Hd (zB Try.f9) [] {n:=Try.f9.ntmps,fr:=enumF 0 ([]),hp:=([])} o:=
 Scr.ok h mix (
 have c0:=agn_c;
 have c1:=aHe_c (AgD.mk ag0.l ag0.t false ag0.r ag0.c) (0) (FrD.mk 1 0 1 3 0);
 have c2:=aHe_c (AgD.mk (heO (AgD.mk ag0.l ag0.t false ag0.r ag0.c) 0 (FrD.mk 1 0 1 3 0)).a.l (heO (AgD.mk ag0.l ag0.t false ag0.r ag0.c) 0 (FrD.mk 1 0 1 3 0)).a.t false (heO (AgD.mk ag0.l ag0.t false ag0.r ag0.c) 0 (FrD.mk 1 0 1 3 0)).a.r (heO (AgD.mk ag0.l ag0.t false ag0.r ag0.c) 0 (FrD.mk 1 0 1 3 0)).a.c) (0) (FrD.mk 1 0 1 3 0);
 .rt [] [] [(8,hK c0 [] []),(10,hK c1 [] []),(16,hK c2 [] [])] [] [] [] (aj (u2 (aj (k2 (al (k2 n11))) (aj (aj (al (c0)) (u2 (aj (k2 (aj t6 (ak (aj t6 (al (c1)))))) (u2 (u2 (u2 (ak (aj (k2 n11) s2)))))))) (aj (u2 (u2 (aj (k2 (aj t6 (ak (aj t6 (al (c2)))))) (u2 (u2 (u2 (ak (aj (k2 n11) s2)))))))) (al (u2 (u2 (u2 (u2 (aj t3 (aj t3 (aj t3 (aj t3 (u2 (aj t3 (aj t3 (aj t4 (aj t3 (u2 (aj t3 (aj t3 (aj t3 (aj t3 (u2 (aj t3 (aj t3 (aj t3 (aj t3 (u2 (aj t3 (aj (k2 (show Int.NonNeg (0:Int) from(by first | decide | exact Int.NonNeg.mk _))) (aj t3 (u2 (aj t4 (aj t3 s2))))))))))))))))))))))))))))))))))) t2)) (by kernel_rfl)
theorem kn7_ct(r:Ret)(h:MReach (kn7Step) (kn7En) r):CT Try.prog 9 ([]) ([]) r.1 r.2:=
 CT.mach (fn:=Try.f9) (c:=zB Try.f9) (S:=kn7St) (hd:=kn7Hd) Try.func9 (by kernel_rfl) (Nat.le_of_ble_eq_true rfl)
  (fun s o ho=>match s,ho with
   | x,_=>x.elim)
  (fun o ho=>kn7En_ok o ho) h
theorem kn7_c:CT Try.prog 9 [] [] [] (.bool true):=kn7_ct ([],_) (.ret _)
end Go.Proofs.Ytifigemlifbkcaa

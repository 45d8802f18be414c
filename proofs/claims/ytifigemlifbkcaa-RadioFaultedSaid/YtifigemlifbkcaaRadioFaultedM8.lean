/- Parts of the proof:Ra12m,RaL,Ra13m,RaM,Ra14m,RaN,RaO,RaP,RaQ,RaR,Ra15m,RaS. -/
import Derived.Test.YtifigemlifbkcaaProg
import Derived.KernelRfl
import Derived.Test.YtifigemlifbkcaaRadioFaultedM7
noncomputable section
set_option linter.unusedVariables false
set_option linter.unusedSimpArgs false
open Go Go.AX Go.Proofs
set_option maxRecDepth 100000
set_option maxHeartbeats 4000000
set_option linter.unusedVariables false
set_option linter.unusedSimpArgs false
open Go.IntKind (i64 u64)
namespace Go.Proofs.Ytifigemlifbkcaa
def offSt(n:NetD)(x:RaD)(q p:Int):Empty→St
 | x=>x.elim
def offHd:Empty→Nat
 | x=>x.elim
def offEn(n:NetD)(x:RaD)(q p:Int):Option (Empty⊕Ret):=
 gu (0≤x.s.q∧x.s.q≤1000000) <|
 br ((offO x.s q p).e != 0)
 (some (.inr ([],AV.tup [AV.agg [uV 0,bV false,iV 0,iV 0,uV 0,iV 0,bV false,iV 0,iV 0,iV 0,iV 0,bV false,bV false,AV.nils,AV.nils,AV.nils,AV.nils],iV (offO x.s q p).e])))
 (br (decide (0<iN (List.map iV x.of).length))
  (gu (0≤i64.wrap (iN (List.map iV x.of).length-1)) <|
   el (x.of) ((i64.wrap (iN (List.map iV x.of).length-1)).toNat) fun(x40:Int)=>
   gu (Rows n.nx) <|
   br (!folB n x40 q)
   (some (.inr ([],AV.tup [AV.agg [uV 0,bV false,iV 0,iV 0,uV 0,iV 0,bV false,iV 0,iV 0,iV 0,iV 0,bV false,bV false,AV.nils,AV.nils,AV.nils,AV.nils],iV 24])))
   (gu (RaS x) <|
    gu ((List.map iV x.of).length+[iV q].length≤9223372036854775807) <|
    gu (((List.map iV x.of).length+[iV q].length) * 8≤140737488355328) <|
    some (.inr ([],AV.tup [rV (offO x.s q p).s x.a x.b [AV.lst (List.map frA (sendF x.dn (outO (offO x.s q p).s 0).x)),AV.lst (List.map frA x.up),AV.lst (List.map iV x.of++[iV q]),AV.lst (List.map iV x.en)],iV 0]))))
  (gu (Rows n.nx) <|
   br (!folB n x.b.c q)
   (some (.inr ([],AV.tup [AV.agg [uV 0,bV false,iV 0,iV 0,uV 0,iV 0,bV false,iV 0,iV 0,iV 0,iV 0,bV false,bV false,AV.nils,AV.nils,AV.nils,AV.nils],iV 24])))
   (gu (RaS x) <|
    gu ((List.map iV x.of).length+[iV q].length≤9223372036854775807) <|
    gu (((List.map iV x.of).length+[iV q].length) * 8≤140737488355328) <|
    some (.inr ([],AV.tup [rV (offO x.s q p).s x.a x.b [AV.lst (List.map frA (sendF x.dn (outO (offO x.s q p).s 0).x)),AV.lst (List.map frA x.up),AV.lst (List.map iV x.of++[iV q]),AV.lst (List.map iV x.en)],iV 0])))))
def offStep(n:NetD)(x:RaD)(q p:Int):Empty→Option (Empty⊕Ret)
 | x=>x.elim
theorem offEn_ok(n:NetD)(x:RaD)(q p:Int)(o:Empty⊕Ret)(h:offEn n x q p=some o):Arr Try.prog Try.f32 0 (offSt n x q p) offHd (zB Try.f32) [] {n:=Try.f32.ntmps,fr:=enumF 0 ([netA n,raA x,.int .i64 q,.int .i64 p]),hp:=([])} o:=
 Scr.ok h mix (
 .rn 0 [] [] [] [] (al (u2 (u2 t3))) <|
 .gu fun a0=>
 have c0:=ofr_c (x.s) q p a0;
 .rn 1 [] [] [(21,hK c0 [] [])] [] (aj (u2 (u2 (u2 (u2 (aj (k3 (aj t5 (k2 (al (c0))))) (u2 (u2 (u2 (ak (aj (k2 n11) s2)))))))))) (al (u2 s2))) <|
 .br (fun a1=>
 .rt [51] [] [] [] [] [] (aj (aj a1 (al (ak (u2 (aj (k2 n11) s2))))) (al (aj (ak (k3 (k5 t9))) t2))))
 (fun a1=>
 .rn 2 [50] [] [] [] (aj a1 (aj (u2 (u2 (u2 s2))) (aj (u2 (u2 (u2 s2))) (al (u2 s2))))) <|
 .br (fun a2=>
  .gu fun a3=>
  .el fun x40 a4=>
  .rn 0 [71] [(40,iv x40)] [] [] (aj a2 (al (u2 (u2 (u2 (u2 (aj (k2 (aj a3 (getMap (f:=iv) a4))) (u2 s2)))))))) <|
  .gu fun a5=>
  have c1:=cfol_c n x40 q a5;
  .rn 0 [] [] [(45,hK c1 [] [])] [] (al (u2 (u2 (u2 (aj (k3 (aj t9 (k2 (al (c1))))) s2))))) <|
  .br (fun a6=>
  .rt [93] [] [] [] [] [] (aj (aj a6 (al (ak (aj (k2 n11) t2)))) (al (aj (ak (k3 (k5 t9))) t2))))
  (fun a6=>
  .gu fun a7=>
  have c2:=kcl_c (x.s) (x.a) (x.b) (x.dn) (x.up) (x.of) (x.en) a7;
  .rn 0 [92] [] [(49,hK c2 [] [])] [] (aj a6 (al (u2 (aj (ak (aj (ak (k3 (k5 t9))) (al (c2)))) (al (k2 (show Nat.le 1 [AV.agg [uV x.s.q,bV x.s.o,iv x.s.c,iv x.s.f,uV x.a.l,iv x.a.t,bV x.a.s,iv x.a.r,iv x.a.c,iv x.b.c,iv x.b.t,bV x.b.s,bV x.b.f,AV.lst (List.map frA x.dn),AV.lst (List.map frA x.up),AV.lst (List.map (iv) x.of),AV.lst (List.map (iv) x.en)]].length from(nL rfl)))))))) <|
  .gu fun a8=>
  .gu fun a9=>
  have c3:=sou_c ((offO x.s q p).s) (0);
  have c4:=sen_c (x.dn) ((outO (offO x.s q p).s 0).x);
  .rt [] [] [(60,hK c3 [] []),(66,hK c4 [] [])] [] [] [7,5] (aj (aj (u2 (u2 (u2 (u2 (u2 (aj (k2 (aj (show(List.map (iv) x.of).length=x.of.length by simp) (aj (aj (show nat_lit 1=nat_lit 1 from rfl) (show 1≤[iv q].length by simp)) (aj a8 a9)))) (u2 (aj t3 (u2 (al t3)))))))))) (aj (u2 (aj (ak (aj t5 (ak (al (c3))))) (u2 (u2 (u2 (ak (aj (k2 n11) s2))))))) (aj (u2 (u2 (u2 (aj (k3 (aj t6 (al (c4)))) (u2 (al t3)))))) (al (u2 (aj (k2 n11) t2)))))) (al (aj (k5 (k5 (k5 (aj (show(List.map (iv) x.of).length+[iv q].length=(List.map (iv) x.of++[iv q]).length by simp) (al (show x.en.length=(List.map (iv) x.en).length by simp)))))) t2)))))
 (fun a2=>
  .gu fun a3=>
  have c1:=cfol_c n (x.b.c) q a3;
  .rn 0 [70] [] [(45,hK c1 [] [])] [] (aj a2 (al (u2 (u2 (u2 (aj (k3 (aj t9 (k2 (al (c1))))) s2)))))) <|
  .br (fun a4=>
  .rt [93] [] [] [] [] [] (aj (aj a4 (al (ak (aj (k2 n11) t2)))) (al (aj (ak (k3 (k5 t9))) t2))))
  (fun a4=>
  .gu fun a5=>
  have c2:=kcl_c (x.s) (x.a) (x.b) (x.dn) (x.up) (x.of) (x.en) a5;
  .rn 0 [92] [] [(49,hK c2 [] [])] [] (aj a4 (al (u2 (aj (ak (aj (ak (k3 (k5 t9))) (al (c2)))) (al (k2 (show Nat.le 1 [AV.agg [uV x.s.q,bV x.s.o,iv x.s.c,iv x.s.f,uV x.a.l,iv x.a.t,bV x.a.s,iv x.a.r,iv x.a.c,iv x.b.c,iv x.b.t,bV x.b.s,bV x.b.f,AV.lst (List.map frA x.dn),AV.lst (List.map frA x.up),AV.lst (List.map (iv) x.of),AV.lst (List.map (iv) x.en)]].length from(nL rfl)))))))) <|
  .gu fun a6=>
  .gu fun a7=>
  have c3:=sou_c ((offO x.s q p).s) (0);
  have c4:=sen_c (x.dn) ((outO (offO x.s q p).s 0).x);
  .rt [] [] [(60,hK c3 [] []),(66,hK c4 [] [])] [] [] [7,5] (aj (aj (u2 (u2 (u2 (u2 (u2 (aj (k2 (aj (show(List.map (iv) x.of).length=x.of.length by simp) (aj (aj (show nat_lit 1=nat_lit 1 from rfl) (show 1≤[iv q].length by simp)) (aj a6 a7)))) (u2 (aj t3 (u2 (al t3)))))))))) (aj (u2 (aj (ak (aj t5 (ak (al (c3))))) (u2 (u2 (u2 (ak (aj (k2 n11) s2))))))) (aj (u2 (u2 (u2 (aj (k3 (aj t6 (al (c4)))) (u2 (al t3)))))) (al (u2 (aj (k2 n11) t2)))))) (al (aj (k5 (k5 (k5 (aj (show(List.map (iv) x.of).length+[iv q].length=(List.map (iv) x.of++[iv q]).length by simp) (al (show x.en.length=(List.map (iv) x.en).length by simp)))))) t2))))))) (by kernel_rfl)
theorem off_ct(n:NetD)(x:RaD)(q p:Int)(r:Ret)(h:MReach (offStep n x q p) (offEn n x q p) r):CT Try.prog 32 ([]) ([netA n,raA x,.int .i64 q,.int .i64 p]) r.1 r.2:=
 CT.mach (fn:=Try.f32) (c:=zB Try.f32) (S:=offSt n x q p) (hd:=offHd) Try.func32 (by kernel_rfl) (nL rfl)
  (fun s o ho=>match s,ho with
   | x,_=>x.elim)
  (fun o ho=>offEn_ok n x q p o ho) h
def rffSt(n:NetD)(x:RaD)(q p:Int):Empty→St
 | x=>x.elim
def rffHd:Empty→Nat
 | x=>x.elim
def rffEn(n:NetD)(x:RaD)(q p:Int):Option (Empty⊕Ret):=
 gu (0≤x.s.q∧x.s.q≤1000000) <|
 br ((offO x.s q p).e != 0)
 (some (.inr ([],AV.tup [AV.agg [uV 0,bV false,iV 0,iV 0,uV 0,iV 0,bV false,iV 0,iV 0,iV 0,iV 0,bV false,bV false,AV.nils,AV.nils,AV.nils,AV.nils],iV (offO x.s q p).e])))
 (br (decide (0<iN (List.map iV x.of).length))
  (gu (0≤i64.wrap (iN (List.map iV x.of).length-1)) <|
   el (x.of) ((i64.wrap (iN (List.map iV x.of).length-1)).toNat) fun(x40:Int)=>
   gu (Rows n.nx) <|
   br (!folB n x40 q)
   (some (.inr ([],AV.tup [AV.agg [uV 0,bV false,iV 0,iV 0,uV 0,iV 0,bV false,iV 0,iV 0,iV 0,iV 0,bV false,bV false,AV.nils,AV.nils,AV.nils,AV.nils],iV 24])))
   (gu (∀(e:AV),e∈List.map iV x.of→e.cells.length=1) <|
    gu ((List.map iV x.of).length≤9223372036854775807) <|
    gu ((List.map iV x.of).length * 8≤140737488355328) <|
    gu ((List.map iV x.of).length+[iV q].length≤9223372036854775807) <|
    gu (((List.map iV x.of).length+[iV q].length) * 8≤140737488355328) <|
    some (.inr ([],AV.tup [rV (offO x.s q p).s x.a x.b [AV.lst (List.map frA (sendF x.dn (outO (offO x.s q p).s 0).x)),AV.lst (List.map frA x.up),AV.lst (List.map iV x.of++[iV q]),AV.lst (List.map iV x.en)],iV 0]))))
  (gu (Rows n.nx) <|
   br (!folB n x.b.c q)
   (some (.inr ([],AV.tup [AV.agg [uV 0,bV false,iV 0,iV 0,uV 0,iV 0,bV false,iV 0,iV 0,iV 0,iV 0,bV false,bV false,AV.nils,AV.nils,AV.nils,AV.nils],iV 24])))
   (gu (∀(e:AV),e∈List.map iV x.of→e.cells.length=1) <|
    gu ((List.map iV x.of).length≤9223372036854775807) <|
    gu ((List.map iV x.of).length * 8≤140737488355328) <|
    gu ((List.map iV x.of).length+[iV q].length≤9223372036854775807) <|
    gu (((List.map iV x.of).length+[iV q].length) * 8≤140737488355328) <|
    some (.inr ([],AV.tup [rV (offO x.s q p).s x.a x.b [AV.lst (List.map frA (sendF x.dn (outO (offO x.s q p).s 0).x)),AV.lst (List.map frA x.up),AV.lst (List.map iV x.of++[iV q]),AV.lst (List.map iV x.en)],iV 0])))))
def rffStep(n:NetD)(x:RaD)(q p:Int):Empty→Option (Empty⊕Ret)
 | x=>x.elim
theorem rffEn_ok(n:NetD)(x:RaD)(q p:Int)(o:Empty⊕Ret)(h:rffEn n x q p=some o):Arr Try.prog Try.f57 0 (rffSt n x q p) rffHd (zB Try.f57) [] {n:=Try.f57.ntmps,fr:=enumF 0 ([netA n,raA x,.int .i64 q,.int .i64 p]),hp:=([])} o:=
 Scr.ok h mix (
 .rn 0 [] [] [] [] (al (u2 (u2 t3))) <|
 .gu fun a0=>
 have c0:=rof_c (x.s) q p a0;
 .rn 1 [] [] [(20,hK c0 [] [])] [] (aj (u2 (u2 (u2 (u2 (aj (k3 (aj t5 (k2 (al (c0))))) (u2 (u2 (u2 (ak (aj (k2 n11) s2)))))))))) (al (u2 s2))) <|
 .br (fun a1=>
 .rt [49] [] [] [] [] [] (aj (aj a1 (al (ak (u2 (aj (k2 n11) s2))))) (al (aj (ak (k3 (k5 t9))) t2))))
 (fun a1=>
 .rn 1 [48] [] [] [] (aj a1 (aj (u2 (u2 (u2 s2))) (al (u2 (u2 (u2 s2)))))) <|
 .br (fun a2=>
  .gu fun a3=>
  .el fun x40 a4=>
  .rn 0 [67] [(40,iv x40)] [] [] (aj a2 (al (u2 (u2 (u2 (u2 (u2 (u2 (aj (k2 (aj a3 (getMap (f:=iv) a4))) (u2 s2)))))))))) <|
  .gu fun a5=>
  have c1:=rfol_c n x40 q a5;
  .rn 0 [] [] [(45,hK c1 [] [])] [] (al (u2 (u2 (u2 (aj (k3 (aj t9 (k2 (al (c1))))) s2))))) <|
  .br (fun a6=>
  .rt [93] [] [] [] [] [] (aj (aj a6 (al (ak (aj (k2 n11) t2)))) (al (aj (ak (k3 (k5 t9))) t2))))
  (fun a6=>
  have c2:=rso_c ((offO x.s q p).s) (0);
  .rn 1 [92] [] [(50,hK c2 [] [])] [] (aj a6 (aj (u2 (aj (ak (aj t5 (ak (al (c2))))) (u2 (u2 (u2 (ak (aj (k2 n11) s2))))))) (al (u2 (u2 (al t3)))))) <|
  .gu fun a7=>
  .gu fun a8=>
  .gu fun a9=>
  .gu fun a10=>
  .gu fun a11=>
  have c3:=rse_c (x.dn) ((outO (offO x.s q p).s 0).x);
  .rt [] [] [(65,hK c3 [] [])] [] [] [7] (aj (aj (u2 (u2 (aj (ak (aj a7 (aj a8 a9))) (u2 (u2 (aj (k2 (aj (show(List.map (iv) x.of).length=(List.map (iv) x.of).length from rfl) (aj (aj (show nat_lit 1=nat_lit 1 from rfl) (show 1≤[iv q].length by simp)) (aj a10 a11)))) (u2 (al t3)))))))) (aj (u2 (u2 (u2 (aj (k3 (aj t6 (al (c3)))) (u2 (al t3)))))) (al (u2 (aj (k2 n11) t2))))) (al (aj (k5 (k5 (k5 (aj (show(List.map (iv) x.of).length+[iv q].length=(List.map (iv) x.of++[iv q]).length by simp) t2)))) t2)))))
 (fun a2=>
  .gu fun a3=>
  have c1:=rfol_c n (x.b.c) q a3;
  .rn 0 [66] [] [(45,hK c1 [] [])] [] (aj a2 (al (u2 (u2 (u2 (aj (k3 (aj t9 (k2 (al (c1))))) s2)))))) <|
  .br (fun a4=>
  .rt [93] [] [] [] [] [] (aj (aj a4 (al (ak (aj (k2 n11) t2)))) (al (aj (ak (k3 (k5 t9))) t2))))
  (fun a4=>
  have c2:=rso_c ((offO x.s q p).s) (0);
  .rn 1 [92] [] [(50,hK c2 [] [])] [] (aj a4 (aj (u2 (aj (ak (aj t5 (ak (al (c2))))) (u2 (u2 (u2 (ak (aj (k2 n11) s2))))))) (al (u2 (u2 (al t3)))))) <|
  .gu fun a5=>
  .gu fun a6=>
  .gu fun a7=>
  .gu fun a8=>
  .gu fun a9=>
  have c3:=rse_c (x.dn) ((outO (offO x.s q p).s 0).x);
  .rt [] [] [(65,hK c3 [] [])] [] [] [7] (aj (aj (u2 (u2 (aj (ak (aj a5 (aj a6 a7))) (u2 (u2 (aj (k2 (aj (show(List.map (iv) x.of).length=(List.map (iv) x.of).length from rfl) (aj (aj (show nat_lit 1=nat_lit 1 from rfl) (show 1≤[iv q].length by simp)) (aj a8 a9)))) (u2 (al t3)))))))) (aj (u2 (u2 (u2 (aj (k3 (aj t6 (al (c3)))) (u2 (al t3)))))) (al (u2 (aj (k2 n11) t2))))) (al (aj (k5 (k5 (k5 (aj (show(List.map (iv) x.of).length+[iv q].length=(List.map (iv) x.of++[iv q]).length by simp) t2)))) t2))))))) (by kernel_rfl)
theorem rff_ct(n:NetD)(x:RaD)(q p:Int)(r:Ret)(h:MReach (rffStep n x q p) (rffEn n x q p) r):CT Try.prog 57 ([]) ([netA n,raA x,.int .i64 q,.int .i64 p]) r.1 r.2:=
 CT.mach (fn:=Try.f57) (c:=zB Try.f57) (S:=rffSt n x q p) (hd:=rffHd) Try.func57 (by kernel_rfl) (nL rfl)
  (fun s o ho=>match s,ho with
   | x,_=>x.elim)
  (fun o ho=>rffEn_ok n x q p o ho) h
def rsxSt(n:NetD)(x:RaD)(y:EvD):Empty→St
 | x=>x.elim
def rsxHd:Empty→Nat
 | x=>x.elim
def rsxEn(n:NetD)(x:RaD)(y:EvD):Option (Empty⊕Ret):=
 br (y.k==2)
 (br ((delO x.dn y.b).o)
  (br (!x.b.f)
   (gu (0≤(delO x.dn y.b).x.q) <|
    gu ((heO x.a 0 (delO x.dn y.b).x).l.length≤1000000) <|
    some (.inr ([],AV.tup [rV x.s (heO x.a 0 (delO x.dn y.b).x).a x.b [AV.lst (List.map frA (delO x.dn y.b).l),AV.lst (List.map frA (allF x.up (heO x.a 0 (delO x.dn y.b).x).l)),AV.lst (List.map iV x.of),AV.lst (List.map iV x.en)],bV (delO x.dn y.b).o])))
   (some (.inr ([],AV.tup [rV x.s x.a x.b [AV.lst (List.map frA (delO x.dn y.b).l),AV.lst (List.map frA x.up),AV.lst (List.map iV x.of),AV.lst (List.map iV x.en)],bV (delO x.dn y.b).o]))))
  (some (.inr ([],AV.tup [rV x.s x.a x.b [AV.lst (List.map frA (delO x.dn y.b).l),AV.lst (List.map frA x.up),AV.lst (List.map iV x.of),AV.lst (List.map iV x.en)],bV (delO x.dn y.b).o]))))
 (br (y.k==3)
  (br ((delO x.up y.b).o)
   (br ((delO x.up y.b).x.k==2)
    (br (x.s.f==0)
     (some (.inr ([],AV.tup [rV (cfmO x.s (delO x.up y.b).x.q).s x.a x.b [AV.lst (List.map frA (sendF x.dn (FrD.mk 3 0 (delO x.up y.b).x.q 0 (delO x.up y.b).x.f))),AV.lst (List.map frA (delO x.up y.b).l),AV.lst (List.map iV x.of),AV.lst (List.map iV x.en)],bV (delO x.up y.b).o])))
     (br ((delO x.up y.b).x.f==2)
      (some (.inr ([],AV.tup [rV (cfmO x.s (delO x.up y.b).x.q).s x.a x.b [AV.lst (List.map frA (sendF x.dn (FrD.mk 3 0 (delO x.up y.b).x.q 0 (delO x.up y.b).x.f))),AV.lst (List.map frA (delO x.up y.b).l),AV.lst (List.map iV x.of),AV.lst (List.map iV x.en)],bV (delO x.up y.b).o])))
      (some (.inr ([],AV.tup [rV x.s x.a x.b [AV.lst (List.map frA (sendF x.dn (FrD.mk 3 0 (delO x.up y.b).x.q 0 (delO x.up y.b).x.f))),AV.lst (List.map frA (delO x.up y.b).l),AV.lst (List.map iV x.of),AV.lst (List.map iV x.en)],bV (delO x.up y.b).o])))))
    (some (.inr ([],AV.tup [rV x.s x.a x.b [AV.lst (List.map frA x.dn),AV.lst (List.map frA (delO x.up y.b).l),AV.lst (List.map iV x.of),AV.lst (List.map iV x.en)],bV (delO x.up y.b).o]))))
   (some (.inr ([],AV.tup [rV x.s x.a x.b [AV.lst (List.map frA x.dn),AV.lst (List.map frA (delO x.up y.b).l),AV.lst (List.map iV x.of),AV.lst (List.map iV x.en)],bV (delO x.up y.b).o]))))
  (br (y.k==4)
   (some (.inr ([],AV.tup [rV x.s x.a x.b [AV.lst (List.map frA (losO x.dn y.b).l),AV.lst (List.map frA x.up),AV.lst (List.map iV x.of),AV.lst (List.map iV x.en)],bV (losO x.dn y.b).o])))
   (br (y.k==5)
    (some (.inr ([],AV.tup [rV x.s x.a x.b [AV.lst (List.map frA x.dn),AV.lst (List.map frA (losO x.up y.b).l),AV.lst (List.map iV x.of),AV.lst (List.map iV x.en)],bV (losO x.up y.b).o])))
    (br (y.k==6)
     (some (.inr ([],AV.tup [rV x.s x.a x.b [AV.lst (List.map frA (dblO x.dn y.b).l),AV.lst (List.map frA x.up),AV.lst (List.map iV x.of),AV.lst (List.map iV x.en)],bV (dblO x.dn y.b).o])))
     (br (y.k==7)
      (some (.inr ([],AV.tup [rV x.s x.a x.b [AV.lst (List.map frA x.dn),AV.lst (List.map frA (dblO x.up y.b).l),AV.lst (List.map iV x.of),AV.lst (List.map iV x.en)],bV (dblO x.up y.b).o])))
      (br (y.k==8)
       (br ((outO x.s 0).o)
        (gu ((agaO x.a 0 x.b).length≤1000000) <|
         some (.inr ([],AV.tup [rV x.s x.a x.b [AV.lst (List.map frA (sendF x.dn (outO x.s 0).x)),AV.lst (List.map frA (allF x.up (agaO x.a 0 x.b))),AV.lst (List.map iV x.of),AV.lst (List.map iV x.en)],bV true])))
        (gu ((agaO x.a 0 x.b).length≤1000000) <|
         some (.inr ([],AV.tup [rV x.s x.a x.b [AV.lst (List.map frA x.dn),AV.lst (List.map frA (allF x.up (agaO x.a 0 x.b))),AV.lst (List.map iV x.of),AV.lst (List.map iV x.en)],bV true]))))
       (br (y.k==9)
        (gu (Rows n.nx) <|
         gu ((driO n x.a 0 x.b).l.length≤1000000) <|
         br (!((driO n x.a 0 x.b).a.l==x.a.l&&((driO n x.a 0 x.b).a.t==x.a.t&&((driO n x.a 0 x.b).a.s==x.a.s&&((driO n x.a 0 x.b).a.r==x.a.r&&((driO n x.a 0 x.b).a.c==x.a.c&&true))))))
         (br (decide (0<iN (List.map frA (driO n x.a 0 x.b).l).length))
          (gu (∀(e:AV),e∈List.map iV x.en→e.cells.length=1) <|
           gu ((List.map iV x.en).length≤9223372036854775807) <|
           gu ((List.map iV x.en).length * 8≤140737488355328) <|
           gu ((List.map iV x.en).length+[iV (driO n x.a 0 x.b).b.c].length≤9223372036854775807) <|
           gu (((List.map iV x.en).length+[iV (driO n x.a 0 x.b).b.c].length) * 8≤140737488355328) <|
           some (.inr ([],AV.tup [rV x.s (driO n x.a 0 x.b).a (driO n x.a 0 x.b).b [AV.lst (List.map frA x.dn),AV.lst (List.map frA (allF x.up (driO n x.a 0 x.b).l)),AV.lst (List.map iV x.of),AV.lst (List.map iV x.en++[iV (driO n x.a 0 x.b).b.c])],bV true])))
          (some (.inr ([],AV.tup [rV x.s (driO n x.a 0 x.b).a (driO n x.a 0 x.b).b [AV.lst (List.map frA x.dn),AV.lst (List.map frA (allF x.up (driO n x.a 0 x.b).l)),AV.lst (List.map iV x.of),AV.lst (List.map iV x.en)],bV true]))))
         (br (decide (0<iN (List.map frA (driO n x.a 0 x.b).l).length))
          (gu (∀(e:AV),e∈List.map iV x.en→e.cells.length=1) <|
           gu ((List.map iV x.en).length≤9223372036854775807) <|
           gu ((List.map iV x.en).length * 8≤140737488355328) <|
           gu ((List.map iV x.en).length+[iV (driO n x.a 0 x.b).b.c].length≤9223372036854775807) <|
           gu (((List.map iV x.en).length+[iV (driO n x.a 0 x.b).b.c].length) * 8≤140737488355328) <|
           some (.inr ([],AV.tup [rV x.s (driO n x.a 0 x.b).a (driO n x.a 0 x.b).b [AV.lst (List.map frA x.dn),AV.lst (List.map frA (allF x.up (driO n x.a 0 x.b).l)),AV.lst (List.map iV x.of),AV.lst (List.map iV x.en++[iV (driO n x.a 0 x.b).b.c])],bV !((driO n x.a 0 x.b).b.c==x.b.c&&((driO n x.a 0 x.b).b.t==x.b.t&&((driO n x.a 0 x.b).b.s==x.b.s&&((driO n x.a 0 x.b).b.f==x.b.f&&true))))])))
          (some (.inr ([],AV.tup [rV x.s (driO n x.a 0 x.b).a (driO n x.a 0 x.b).b [AV.lst (List.map frA x.dn),AV.lst (List.map frA (allF x.up (driO n x.a 0 x.b).l)),AV.lst (List.map iV x.of),AV.lst (List.map iV x.en)],bV !((driO n x.a 0 x.b).b.c==x.b.c&&((driO n x.a 0 x.b).b.t==x.b.t&&((driO n x.a 0 x.b).b.s==x.b.s&&((driO n x.a 0 x.b).b.f==x.b.f&&true))))])))))
        (br (y.k==10)
         (br (x.b.c != -1)
          (br (x.b.s)
           (gu ((finO x.a 0 x.b).l.length≤1000000) <|
            some (.inr ([],AV.tup [rV x.s (finO x.a 0 x.b).a (finO x.a 0 x.b).b [AV.lst (List.map frA x.dn),AV.lst (List.map frA (allF x.up (finO x.a 0 x.b).l)),AV.lst (List.map iV x.of),AV.lst (List.map iV x.en)],bV !x.b.f])))
           (gu ((finO x.a 0 x.b).l.length≤1000000) <|
            some (.inr ([],AV.tup [rV x.s (finO x.a 0 x.b).a (finO x.a 0 x.b).b [AV.lst (List.map frA x.dn),AV.lst (List.map frA (allF x.up (finO x.a 0 x.b).l)),AV.lst (List.map iV x.of),AV.lst (List.map iV x.en)],bV false]))))
          (gu ((finO x.a 0 x.b).l.length≤1000000) <|
           some (.inr ([],AV.tup [rV x.s (finO x.a 0 x.b).a (finO x.a 0 x.b).b [AV.lst (List.map frA x.dn),AV.lst (List.map frA (allF x.up (finO x.a 0 x.b).l)),AV.lst (List.map iV x.of),AV.lst (List.map iV x.en)],bV false]))))
         (br (y.k==11)
          (some (.inr ([],AV.tup [AV.agg [uV x.s.q,bV x.s.o,iV x.s.c,iV x.s.f,uV x.a.l,iV x.a.t,bV x.a.s,iV x.a.r,iV x.a.c,iV x.b.c,iV x.b.t,bV x.b.s,bV true,AV.lst (List.map frA x.dn),AV.lst (List.map frA x.up),AV.lst (List.map iV x.of),AV.lst (List.map iV x.en)],bV !x.b.f])))
          (some (.inr ([],AV.tup [rV x.s x.a x.b [AV.lst (List.map frA x.dn),AV.lst (List.map frA x.up),AV.lst (List.map iV x.of),AV.lst (List.map iV x.en)],bV false]))))))))))))
def rsxStep(n:NetD)(x:RaD)(y:EvD):Empty→Option (Empty⊕Ret)
 | x=>x.elim
theorem rsxEn_ok(n:NetD)(x:RaD)(y:EvD)(o:Empty⊕Ret)(h:rsxEn n x y=some o):Arr Try.prog Try.f77 0 (rsxSt n x y) rsxHd (zB Try.f77) [] {n:=Try.f77.ntmps,fr:=enumF 0 ([netA n,raA x,evA y]),hp:=([])} o:=
 Scr.ok h mix (
 .rn 5 [] [] [] [] (aj (u2 (u2 (u2 t3))) (u2 (u2 (u2 (aj (u2 s2) (al (u2 s2))))))) <|
 .br (fun a0=>
 have c0:=rde_c (x.dn) (y.b);
 .rn 0 [35] [] [(24,hK c0 [] [])] [] (aj a0 (al (u2 (u2 (u2 (u2 (aj (ak (k3 (al (c0)))) (u2 (u2 (u2 (u2 (aj (k2 n11) (u2 (aj t3 s2)))))))))))))) <|
 .br (fun a1=>
  .rn 0 [61] [] [] [] (al (u2 (u2 (ag a1 (ag a1 (ag a1 (ag a1 (al (aj a1 t2))))))))) <|
  .br (fun a2=>
  .gu fun a3=>
  have c1:=rHe_c (x.a) (0) ((delO x.dn y.b).x) a3;
  .rn 0 [61,71] [] [(40,hK c1 [] [])] [] (aj a2 (al (u2 (u2 (u2 (aj (k2 (aj t6 (ak (aj t6 (al (c1)))))) (u2 (u2 (u2 (u2 (aj t3 s2))))))))))) <|
  .gu fun a4=>
  have c2:=ral_c (x.up) ((heO x.a 0 (delO x.dn y.b).x).l) a4;
  .rt [61] [] [(47,hK c2 [] [])] [] [] [] (aj (aj (u2 (u2 (u2 (aj (ak (k3 (al (c2)))) (u2 (al t3)))))) (al (u2 (u2 (aj (k2 n11) s2))))) (al (aj (ak (k3 (k5 t9))) t2))))
  (fun a2=>
  .rt [61,70] [] [] [] [] [] (aj (aj a2 (al (u2 (u2 (aj (k2 n11) s2))))) (al (aj (ak (k3 (k5 t9))) t2)))))
 (fun a1=>
  .rt [60] [] [] [] [] [] (aj (aj (u2 (u2 (aj a1 (aj a1 (aj a1 (aj a1 (al (aj a1 t2)))))))) (ak (al (u2 (u2 (aj (k2 n11) s2)))))) (al (aj (ak (k3 (k5 t9))) t2)))))
 (fun a0=>
 .rn 0 [34] [] [] [] (aj a0 (al (u2 s2))) <|
 .br (fun a1=>
  have c0:=rde_c (x.up) (y.b);
  .rn 0 [99] [] [(56,hK c0 [] [])] [] (aj a1 (al (u2 (u2 (u2 (u2 (aj (ak (k3 (al (c0)))) (u2 (u2 (u2 (u2 (aj (k2 n11) (u2 (aj t3 s2)))))))))))))) <|
  .br (fun a2=>
  .rn 0 [125] [] [] [] (al (u2 (u2 (ag a2 (ag a2 (ag a2 (al (aj a2 t2)))))))) <|
  .br (fun a3=>
   .br (fun a4=>
   have c1:=rcf_c (x.s) ((delO x.up y.b).x.q);
   have c2:=rse_c (x.dn) (FrD.mk 3 0 (delO x.up y.b).x.q 0 (delO x.up y.b).x.f);
   .rt [125,133,143] [] [(81,hK c1 [] []),(92,hK c2 [] [])] [] [] [] (aj (aj a3 (aj (u2 (u2 (u2 (u2 (u2 (aj a4 (aj a4 (aj a4 (al (aj a4 t2)))))))))) (ak (aj (u2 (u2 (u2 (u2 (aj (k2 (aj t5 (ak (al (c1))))) (u2 (u2 (u2 (u2 (al t3)))))))))) (aj (u2 (u2 (u2 (u2 (u2 (u2 (aj t3 (aj (k3 (aj t6 (al (c2)))) (u2 (al t3)))))))))) (al (u2 (u2 (aj (k2 n11) s2))))))))) (al (aj (ak (k3 (k5 t9))) t2))))
   (fun a4=>
   .rn 0 [125,133,142] [] [] [] (aj a3 (al (u2 (u2 (u2 (u2 (u2 (ag a4 (ag a4 (ag a4 (al (aj a4 t2)))))))))))) <|
   .br (fun a5=>
    have c1:=rcf_c (x.s) ((delO x.up y.b).x.q);
    have c2:=rse_c (x.dn) (FrD.mk 3 0 (delO x.up y.b).x.q 0 (delO x.up y.b).x.f);
    .rt [125,142,151] [] [(81,hK c1 [] []),(92,hK c2 [] [])] [] [] [] (aj (aj a5 (aj (u2 (u2 (u2 (u2 (aj (k2 (aj t5 (ak (al (c1))))) (u2 (u2 (u2 (u2 (al t3)))))))))) (aj (u2 (u2 (u2 (u2 (u2 (u2 (aj t3 (aj (k3 (aj t6 (al (c2)))) (u2 (al t3)))))))))) (al (u2 (u2 (aj (k2 n11) s2))))))) (al (aj (ak (k3 (k5 t9))) t2))))
   (fun a5=>
    have c1:=rse_c (x.dn) (FrD.mk 3 0 (delO x.up y.b).x.q 0 (delO x.up y.b).x.f);
    .rt [125,142,150] [] [(92,hK c1 [] [])] [] [] [] (aj (aj a5 (aj (u2 (u2 (u2 (u2 (u2 (u2 (aj t3 (aj (k3 (aj t6 (al (c1)))) (u2 (al t3)))))))))) (al (u2 (u2 (aj (k2 n11) s2)))))) (al (aj (ak (k3 (k5 t9))) t2))))))
  (fun a3=>
   .rt [125,132] [] [] [] [] [] (aj (aj a3 (al (u2 (u2 (aj (k2 n11) s2))))) (al (aj (ak (k3 (k5 t9))) t2)))))
  (fun a2=>
  .rt [124] [] [] [] [] [] (aj (aj (u2 (u2 (aj a2 (aj a2 (aj a2 (al (aj a2 t2))))))) (ak (al (u2 (u2 (aj (k2 n11) s2)))))) (al (aj (ak (k3 (k5 t9))) t2)))))
 (fun a1=>
  .rn 0 [98] [] [] [] (aj a1 (al (u2 s2))) <|
  .br (fun a2=>
  have c0:=rlo_c (x.dn) (y.b);
  .rt [189] [] [(101,hK c0 [] [])] [] [] [] (aj (aj a2 (aj (u2 (u2 (u2 (u2 (aj (ak (k3 (al (c0)))) (u2 (u2 (u2 (u2 (aj t3 s2)))))))))) (al (u2 (u2 (aj (k2 n11) s2)))))) (al (aj (ak (k3 (k5 t9))) t2))))
  (fun a2=>
  .rn 0 [188] [] [] [] (aj a2 (al (u2 s2))) <|
  .br (fun a3=>
   have c0:=rlo_c (x.up) (y.b);
   .rt [211] [] [(112,hK c0 [] [])] [] [] [] (aj (aj a3 (aj (u2 (u2 (u2 (u2 (aj (ak (k3 (al (c0)))) (u2 (u2 (u2 (u2 (aj t3 s2)))))))))) (al (u2 (u2 (aj (k2 n11) s2)))))) (al (aj (ak (k3 (k5 t9))) t2))))
  (fun a3=>
   .rn 0 [210] [] [] [] (aj a3 (al (u2 s2))) <|
   .br (fun a4=>
   have c0:=rdo_c (x.dn) (y.b);
   .rt [233] [] [(123,hK c0 [] [])] [] [] [] (aj (aj a4 (aj (u2 (u2 (u2 (u2 (aj (ak (k3 (al (c0)))) (u2 (u2 (u2 (u2 (aj t3 s2)))))))))) (al (u2 (u2 (aj (k2 n11) s2)))))) (al (aj (ak (k3 (k5 t9))) t2))))
   (fun a4=>
   .rn 0 [232] [] [] [] (aj a4 (al (u2 s2))) <|
   .br (fun a5=>
    have c0:=rdo_c (x.up) (y.b);
    .rt [255] [] [(134,hK c0 [] [])] [] [] [] (aj (aj a5 (aj (u2 (u2 (u2 (u2 (aj (ak (k3 (al (c0)))) (u2 (u2 (u2 (u2 (aj t3 s2)))))))))) (al (u2 (u2 (aj (k2 n11) s2)))))) (al (aj (ak (k3 (k5 t9))) t2))))
   (fun a5=>
    .rn 0 [254] [] [] [] (aj a5 (al (u2 s2))) <|
    .br (fun a6=>
    have c0:=rso_c (x.s) (0);
    .rn 1 [277] [] [(143,hK c0 [] [])] [] (aj a6 (aj (u2 (u2 (aj (ak (aj t5 (ak (al (c0))))) (u2 (u2 (u2 (ak (aj (k2 n11) s2)))))))) (al s2))) <|
    .br (fun a7=>
     have c1:=rse_c (x.dn) ((outO x.s 0).x);
     .rn 0 [293] [] [(150,hK c1 [] [])] [] (aj a7 (al (u2 (u2 (u2 (aj (k3 (aj t6 (al (c1)))) (u2 (al t3)))))))) <|
     .gu fun a8=>
     have c2:=rga_c (x.a) (0) (x.b);
     have c3:=ral_c (x.up) (agaO x.a 0 x.b) a8;
     .rt [] [] [(158,hK c2 [] []),(159,hK c3 [] [])] [] [] [] (aj (aj (u2 (u2 (u2 (u2 (u2 (u2 (aj (k2 (aj t6 (ak (aj t5 (al (c2)))))) (aj (ak (k3 (al (c3)))) (u2 (al t3)))))))))) (al (u2 (u2 (aj (k2 n11) s2))))) (al (aj (ak (k3 (k5 t9))) t2))))
    (fun a7=>
     .gu fun a8=>
     have c1:=rga_c (x.a) (0) (x.b);
     have c2:=ral_c (x.up) (agaO x.a 0 x.b) a8;
     .rt [292] [] [(158,hK c1 [] []),(159,hK c2 [] [])] [] [] [] (aj (aj a7 (aj (u2 (u2 (u2 (u2 (u2 (u2 (aj (k2 (aj t6 (ak (aj t5 (al (c1)))))) (aj (ak (k3 (al (c2)))) (u2 (al t3)))))))))) (al (u2 (u2 (aj (k2 n11) s2)))))) (al (aj (ak (k3 (k5 t9))) t2)))))
    (fun a6=>
    .rn 0 [276] [] [] [] (aj a6 (al (u2 s2))) <|
    .br (fun a7=>
     .rn 0 [323] [] [] [] (aj a7 (al (u2 (u2 (u2 (u2 (k2 (aj (k2 n11) (al (k2 n11)))))))))) <|
     .gu fun a8=>
     have c0:=rdr_c n (x.a) (0) (x.b) a8;
     .rn 0 [] [] [(171,hK c0 [] [])] [] (al (u2 (u2 (u2 (aj (k3 (aj t9 (aj t6 (ak (aj t5 (al (c0))))))) (u2 (u2 (u2 (u2 (u2 (aj t3 (u2 (aj t3 s2))))))))))))) <|
     .gu fun a9=>
     have c1:=ral_c (x.up) ((driO n x.a 0 x.b).l) a9;
     .rn 0 [] [] [(180,hK c1 [] [])] [] (al (u2 (u2 (u2 (aj (ak (k3 (al (c1)))) (u2 (al t3))))))) <|
     .br (fun a10=>
     .rn 1 [373] [] [] [] (aj (u2 (u2 (u2 (aj t3 (u2 (aj a10 (aj a10 (aj a10 (aj a10 (ag a10 s2)))))))))) (al (u2 (u2 s2)))) <|
     .br (fun a11=>
      .gu fun a12=>
      .gu fun a13=>
      .gu fun a14=>
      .gu fun a15=>
      .gu fun a16=>
      .rt [373,389] [] [] [] [] [9] (aj (aj a11 (aj (u2 (u2 (aj (ak (aj a12 (aj a13 a14))) (u2 (u2 (u2 (u2 (aj (k2 (aj (show(List.map (iv) x.en).length=(List.map (iv) x.en).length from rfl) (aj (aj (show nat_lit 1=nat_lit 1 from rfl) (show 1≤[iv (driO n x.a 0 x.b).b.c].length by simp)) (aj a15 a16)))) (u2 (al t3)))))))))) (al (u2 (u2 (aj (k2 n11) s2)))))) (al (aj (ak (k5 (k5 (k5 (al (show(List.map (iv) x.en).length+[iv (driO n x.a 0 x.b).b.c].length=(List.map (iv) x.en++[iv (driO n x.a 0 x.b).b.c]).length by simp)))))) t2))))
     (fun a11=>
      .rt [373,388] [] [] [] [] [] (aj (aj a11 (al (u2 (u2 (aj (k2 n11) s2))))) (al (aj (ak (k3 (k5 t9))) t2)))))
     (fun a10=>
     .rn 1 [372] [] [] [] (aj (u2 (u2 (u2 (aj t3 (u2 (ag a10 (ag a10 (ag a10 (aj (aj a10 t3) (ag a10 s2)))))))))) (al (u2 (u2 s2)))) <|
     .br (fun a11=>
      .gu fun a12=>
      .gu fun a13=>
      .gu fun a14=>
      .gu fun a15=>
      .gu fun a16=>
      .rt [372,389] [] [] [] [] [9] (aj (aj a11 (aj (u2 (u2 (aj (ak (aj a12 (aj a13 a14))) (u2 (u2 (u2 (u2 (aj (k2 (aj (show(List.map (iv) x.en).length=(List.map (iv) x.en).length from rfl) (aj (aj (show nat_lit 1=nat_lit 1 from rfl) (show 1≤[iv (driO n x.a 0 x.b).b.c].length by simp)) (aj a15 a16)))) (u2 (al t3)))))))))) (al (u2 (u2 (aj (k2 n11) s2)))))) (al (aj (ak (k5 (k5 (k5 (al (show(List.map (iv) x.en).length+[iv (driO n x.a 0 x.b).b.c].length=(List.map (iv) x.en++[iv (driO n x.a 0 x.b).b.c]).length by simp)))))) t2))))
     (fun a11=>
      .rt [372,388] [] [] [] [] [] (aj (aj a11 (al (u2 (u2 (aj (k2 n11) s2))))) (al (aj (ak (k3 (k5 t9))) t2))))))
    (fun a7=>
     .rn 0 [322] [] [] [] (aj a7 (al (u2 s2))) <|
     .br (fun a8=>
     .br (fun a9=>
      .br (fun a10=>
      have c0:=rfi_c (x.a) (0) (x.b);
      .rn 1 [409,421,431] [] [(226,hK c0 [] [])] [] (aj a8 (aj (u2 (u2 (u2 (u2 (u2 (ag a9 (ag a9 (ag a9 (ag a9 (u2 (ag a10 (ag a10 (ag a10 (ag a10 (ag a10 s2))))))))))))))) (al (u2 (u2 (u2 (u2 (aj (k2 (aj t6 (ak (aj t5 (al (c0)))))) (u2 (u2 (u2 (u2 (u2 (aj t3 (u2 (aj t3 s2)))))))))))))))) <|
      .gu fun a11=>
      have c1:=ral_c (x.up) ((finO x.a 0 x.b).l) a11;
      .rt [421,431] [] [(235,hK c1 [] [])] [] [] [] (aj (aj (u2 (u2 (u2 (aj (ak (k3 (al (c1)))) (u2 (al t3)))))) (al (u2 (u2 (aj (k2 n11) s2))))) (al (aj (ak (k3 (k5 t9))) t2))))
      (fun a10=>
      have c0:=rfi_c (x.a) (0) (x.b);
      .rn 1 [409,421,430] [] [(226,hK c0 [] [])] [] (aj a8 (aj (u2 (u2 (u2 (u2 (u2 (ag a9 (ag a9 (ag a9 (ag a9 (u2 (aj a10 (aj a10 (aj a10 (aj a10 (ag a10 s2))))))))))))))) (al (u2 (u2 (u2 (u2 (aj (k2 (aj t6 (ak (aj t5 (al (c0)))))) (u2 (u2 (u2 (u2 (u2 (aj t3 (u2 (aj t3 s2)))))))))))))))) <|
      .gu fun a11=>
      have c1:=ral_c (x.up) ((finO x.a 0 x.b).l) a11;
      .rt [421,430] [] [(235,hK c1 [] [])] [] [] [] (aj (aj (u2 (u2 (u2 (aj (ak (k3 (al (c1)))) (u2 (al t3)))))) (al (u2 (u2 (aj (k2 n11) s2))))) (al (aj (ak (k3 (k5 t9))) t2)))))
     (fun a9=>
      have c0:=rfi_c (x.a) (0) (x.b);
      .rn 1 [409,420] [] [(226,hK c0 [] [])] [] (aj a8 (aj (u2 (u2 (u2 (u2 (u2 (aj a9 (aj a9 (aj a9 (ag a9 (u2 (ak (k3 (aj t3 s2))))))))))))) (al (u2 (u2 (u2 (u2 (aj (k2 (aj t6 (ak (aj t5 (al (c0)))))) (u2 (u2 (u2 (u2 (u2 (aj t3 (u2 (aj t3 s2)))))))))))))))) <|
      .gu fun a10=>
      have c1:=ral_c (x.up) ((finO x.a 0 x.b).l) a10;
      .rt [420] [] [(235,hK c1 [] [])] [] [] [] (aj (aj (u2 (u2 (u2 (aj (ak (k3 (al (c1)))) (u2 (al t3)))))) (al (u2 (u2 (aj (k2 n11) s2))))) (al (aj (ak (k3 (k5 t9))) t2)))))
     (fun a8=>
     .rn 0 [408] [] [] [] (aj a8 (al (u2 s2))) <|
     .br (fun a9=>
      .rt [475] [] [] [] [] [] (aj (aj a9 (aj (u2 (u2 (u2 (u2 s2)))) (aj (u2 (u2 s2)) (al (u2 (u2 (aj (k2 n11) s2))))))) (al (aj (ak (k3 (k5 t9))) t2))))
     (fun a9=>
      .rt [474] [] [] [] [] [] (aj (aj a9 (u2 (al (u2 (u2 (aj (k2 n11) s2)))))) (al (aj (ak (k3 (k5 t9))) t2)))))))))))))) (by kernel_rfl)
theorem rsx_ct(n:NetD)(x:RaD)(y:EvD)(r:Ret)(h:MReach (rsxStep n x y) (rsxEn n x y) r):CT Try.prog 77 ([]) ([netA n,raA x,evA y]) r.1 r.2:=
 CT.mach (fn:=Try.f77) (c:=zB Try.f77) (S:=rsxSt n x y) (hd:=rsxHd) Try.func77 (by kernel_rfl) (nL rfl)
  (fun s o ho=>match s,ho with
   | x,_=>x.elim)
  (fun o ho=>rsxEn_ok n x y o ho) h
end Go.Proofs.Ytifigemlifbkcaa
namespace Go.Proofs.Ytifigemlifbkcaa
def plO(x:RaD):Int:=if 0<x.of.length then x.of.getD (x.of.length-1) 0 else x.b.c
def ofdO(n:NetD)(x:RaD)(q p:Int):NwD:=bif (offO x.s q p).e != 0 then ⟨ra0,(offO x.s q p).e⟩ else bif folB n (plO x) q then ⟨⟨(offO x.s q p).s,x.a,x.b,sendF x.dn (outO (offO x.s q p).s 0).x,x.up,x.of++[q],x.en⟩,0⟩ else ⟨ra0,24⟩
def raZ:AV:=.agg [.int .u64 0,.bool false,.int .i64 0,.int .i64 0,.int .u64 0,.int .i64 0,.bool false,.int .i64 0,.int .i64 0,.int .i64 0,.int .i64 0,.bool false,.bool false,.nils,.nils,.nils,.nils]
def OfL(x:RaD):Prop:=RaS x∧0≤x.s.q∧x.s.q≤1000000
theorem CT.nw{f:FuncId}{args:List AV}{x y:AV}{z:NwD}(h:CT Try.prog f [] args [] (.tup [x,y]))(e:AV.tup [wkr x,y]=nwA z):CT Try.prog f [] args [] (nwA z):=by
 rw[←e]
 exact h.less fun φ A w v hv=>VR_tw hv
theorem plO_el(x:RaD)(h:0<x.of.length):x.of[(i64.wrap (iN (x.of.map (AV.int .i64)).length-1)).toNat]?=some (plO x)∨1000000<x.of.length:=by
 by_cases hl:1000000<x.of.length
 ·exact .inr hl
 refine .inl ?_
 rw[iN_len,wrap_in (by omega) (by omega),show((x.of.length:Int)-1).toNat=x.of.length-1 by omega,plO,if_pos h]
 exact getE 0 (by omega)
theorem off_c(n:NetD)(x:RaD)(q p:Int)(hrw:Rows n.nx)(hx:OfL x):CT Try.prog 32 [] [netA n,raA x,.int .i64 q,.int .i64 p] [] (nwA (ofdO n x q p)):=by
 obtain⟨hs,h0,h1⟩:=hx
 have hs':=hs
 obtain⟨g1,g2,g3,g4⟩:=hs'
 unfold ofdO
 cases he:(offO x.s q p).e != 0 with
 | true=>exact CT.nw (off_ct n x q p ([],_) (.val (by unfold offEn;rw[gu_t ⟨h0,h1⟩,br_t he]))) rfl
 | false=>
  have key:offEn n x q p=br (!folB n (plO x) q) (some (.inr ([],.tup [raZ,.int .i64 24]))) (some (.inr ([],nwA ⟨⟨(offO x.s q p).s,x.a,x.b,sendF x.dn (outO (offO x.s q p).s 0).x,x.up,x.of++[q],x.en⟩,0⟩))):=by
   unfold offEn
   rw[gu_t ⟨h0,h1⟩,br_f he]
   have e2:(x.of.map (AV.int .i64))++[AV.int .i64 q]=(x.of++[q]).map (AV.int .i64):=by simp
   by_cases hl:0<x.of.length
   ·rw[br_t (dec_t (by rw[iN_len];omega)),gu_t (by rw[iN_len,wrap_in (by omega) (by omega)];omega),el_t ((plO_el x hl).resolve_right (by omega)),gu_t hrw,gu_t hs,gu_t (by simp only[List.length_map,List.length_singleton];omega),gu_t (by simp only[List.length_map,List.length_singleton];omega),e2];rfl
   ·rw[br_f (dec_f (by rw[iN_len];omega)),gu_t hrw,gu_t hs,gu_t (by simp only[List.length_map,List.length_singleton];omega),gu_t (by simp only[List.length_map,List.length_singleton];omega),e2,plO,if_neg hl];rfl
  cases hf:folB n (plO x) q with
  | true=>exact off_ct n x q p ([],_) (.val (by rw[key,hf];rfl))
  | false=>exact CT.nw (x:=raZ) (y:=.int .i64 24) (off_ct n x q p ([],_) (.val (by rw[key,hf];rfl))) rfl
theorem rff_c(n:NetD)(x:RaD)(q p:Int)(hrw:Rows n.nx)(hx:OfL x):CT Try.prog 57 [] [netA n,raA x,.int .i64 q,.int .i64 p] [] (nwA (ofdO n x q p)):=by
 obtain⟨hs,h0,h1⟩:=hx
 have hs':=hs
 obtain⟨g1,g2,g3,g4⟩:=hs'
 unfold ofdO
 cases he:(offO x.s q p).e != 0 with
 | true=>exact CT.nw (rff_ct n x q p ([],_) (.val (by unfold rffEn;rw[gu_t ⟨h0,h1⟩,br_t he]))) rfl
 | false=>
  have key:rffEn n x q p=br (!folB n (plO x) q) (some (.inr ([],.tup [raZ,.int .i64 24]))) (some (.inr ([],nwA ⟨⟨(offO x.s q p).s,x.a,x.b,sendF x.dn (outO (offO x.s q p).s 0).x,x.up,x.of++[q],x.en⟩,0⟩))):=by
   unfold rffEn
   rw[gu_t ⟨h0,h1⟩,br_f he]
   have e2:(x.of.map (AV.int .i64))++[AV.int .i64 q]=(x.of++[q]).map (AV.int .i64):=by simp
   by_cases hl:0<x.of.length
   ·rw[br_t (dec_t (by rw[iN_len];omega)),gu_t (by rw[iN_len,wrap_in (by omega) (by omega)];omega),el_t ((plO_el x hl).resolve_right (by omega)),gu_t hrw,gu_t (fun e he=>by obtain⟨x,_,rfl⟩:=List.mem_map.1 he;rfl),gu_t (by rw[List.length_map];omega),gu_t (by rw[List.length_map];omega),gu_t (by simp only[List.length_map,List.length_singleton];omega),gu_t (by simp only[List.length_map,List.length_singleton];omega),e2];rfl
   ·rw[br_f (dec_f (by rw[iN_len];omega)),gu_t hrw,gu_t (fun e he=>by obtain⟨x,_,rfl⟩:=List.mem_map.1 he;rfl),gu_t (by rw[List.length_map];omega),gu_t (by rw[List.length_map];omega),gu_t (by simp only[List.length_map,List.length_singleton];omega),gu_t (by simp only[List.length_map,List.length_singleton];omega),e2,plO,if_neg hl];rfl
  cases hf:folB n (plO x) q with
  | true=>exact rff_ct n x q p ([],_) (.val (by rw[key,hf];rfl))
  | false=>exact CT.nw (x:=raZ) (y:=.int .i64 24) (rff_ct n x q p ([],_) (.val (by rw[key,hf];rfl))) rfl
theorem bdB_self(d:BdD):bdB d d=true:=by simp[bdB]
theorem agB_self(d:AgD):agB d d=true:=by simp[agB]
theorem driO_c(n:NetD)(a:AgD)(q:Int)(b:BdD):(driO n a q b=⟨a,b,[]⟩)∨
  ((b.t = -1∧b.c≠-1∧b.f=false∧b.s=false∧a.t≠-1∧folB n b.c a.t=true)∧driO n a q b=⟨a,⟨b.c,a.t,b.s,b.f⟩,[]⟩)∨
  ((b.t≠-1∧b.c≠-1∧b.f=false)∧driO n a q b=⟨⟨a.l,-1,a.s,1,b.t⟩,⟨b.t,-1,b.s||a.s,b.f⟩,[repF ⟨a.l,-1,a.s,1,b.t⟩ q]⟩):=by
 unfold driO
 cases h1:b.c == -1 with
 | true=>exact .inl rfl
 | false=>cases h2:b.f with
  | true=>exact .inl rfl
  | false=>cases h3:b.t == -1 with
   | true=>cases h4:!b.s&&(!(a.t == -1)&&folB n b.c a.t) with
    | true=>
     simp only[Bool.and_eq_true,Bool.not_eq_true',beq_eq_false_iff_ne] at h4
     exact .inr (.inl ⟨⟨eq_of_beq h3,by simpa using h1,rfl,h4.1,h4.2.1,h4.2.2⟩,rfl⟩)
    | false=>exact .inl rfl
   | false=>exact .inr (.inr ⟨⟨by simpa using h3,by simpa using h1,rfl⟩,rfl⟩)
theorem br_tt{α:Type}(x y:Option α):br true x y=x:=rfl
theorem br_ff{α:Type}(x y:Option α):br false x y=y:=rfl
theorem rsx_ex(n:NetD)(x:RaD)(y:EvD)(hrw:Rows n.nx)(hx:RaS x)(hq:∀f∈x.dn,0≤f.q):∃z:SoD,rsxEn n x y=some (.inr ([],soA z))∧z.o=(stO n x y).o∧(z.o=true→z.x=(stO n x y).x):=by
 obtain⟨g1,g2,g3,g4⟩:=hx
 have hdq:0≤(delO x.dn y.b).x.q:=by
  unfold delO
  cases hh:hasF x.dn y.b with
  | false=>exact Int.le_refl 0
  | true=>
   obtain⟨h2,h0,h1⟩:=hasF_iff.1 hh
   have hl:y.b.toNat<x.dn.length:=by omega
   show 0≤(x.dn.getD y.b.toNat fr0).q
   rw[List.getD_eq_getElem?_getD,List.getElem?_eq_getElem hl]
   exact hq _ (List.getElem_mem hl)
 have hhe:(heO x.a 0 (delO x.dn y.b).x).l.length≤1000000:=by have:=heO_len x.a 0 (delO x.dn y.b).x;omega
 obtain⟨k,ea,eb⟩:=y
 obtain⟨z,g,⟨dc,dt,ds,df⟩,dn,up,of,en⟩:=x
 unfold rsxEn
 dsimp only at hdq hhe g4 ⊢
 by_cases k2:k=2
 ·subst k2
  simp only[Int.reduceBEq,br_tt,br_ff]
  unfold stO trdO
  cases (delO dn eb).o with
  | false=>exact⟨⟨⟨z,g,⟨dc,dt,ds,df⟩,_,_,of,en⟩,false⟩,rfl,rfl,fun h=>nomatch h⟩
  | true=>cases df with
   | true=>exact⟨⟨⟨z,g,⟨dc,dt,ds,true⟩,_,_,of,en⟩,true⟩,rfl,rfl,fun _=>rfl⟩
   | false=>exact⟨⟨⟨z,(heO g 0 (delO dn eb).x).a,⟨dc,dt,ds,false⟩,_,_,of,en⟩,true⟩,(gu_t hdq).trans (gu_t hhe),rfl,fun _=>rfl⟩
 by_cases k3:k=3
 ·subst k3
  simp only[Int.reduceBEq,br_tt,br_ff]
  unfold stO truO cnfO
  cases (delO up eb).o with
  | false=>exact⟨⟨⟨z,g,⟨dc,dt,ds,df⟩,_,_,of,en⟩,false⟩,rfl,rfl,fun h=>nomatch h⟩
  | true=>cases (delO up eb).x.k==2 with
   | false=>exact⟨⟨⟨z,g,⟨dc,dt,ds,df⟩,_,_,of,en⟩,true⟩,rfl,rfl,fun _=>rfl⟩
   | true=>cases z.f==0 with
    | true=>exact⟨⟨⟨(cfmO z (delO up eb).x.q).s,g,⟨dc,dt,ds,df⟩,_,_,of,en⟩,true⟩,rfl,rfl,fun _=>rfl⟩
    | false=>cases (delO up eb).x.f==2 with
     | true=>exact⟨⟨⟨(cfmO z (delO up eb).x.q).s,g,⟨dc,dt,ds,df⟩,_,_,of,en⟩,true⟩,rfl,rfl,fun _=>rfl⟩
     | false=>exact⟨⟨⟨z,g,⟨dc,dt,ds,df⟩,_,_,of,en⟩,true⟩,rfl,rfl,fun _=>rfl⟩
 by_cases k4:k=4
 ·subst k4
  simp only[Int.reduceBEq,br_tt,br_ff]
  exact⟨⟨⟨z,g,⟨dc,dt,ds,df⟩,_,_,of,en⟩,_⟩,rfl,rfl,fun _=>rfl⟩
 by_cases k5:k=5
 ·subst k5
  simp only[Int.reduceBEq,br_tt,br_ff]
  exact⟨⟨⟨z,g,⟨dc,dt,ds,df⟩,_,_,of,en⟩,_⟩,rfl,rfl,fun _=>rfl⟩
 by_cases k6:k=6
 ·subst k6
  simp only[Int.reduceBEq,br_tt,br_ff]
  exact⟨⟨⟨z,g,⟨dc,dt,ds,df⟩,_,_,of,en⟩,_⟩,rfl,rfl,fun _=>rfl⟩
 by_cases k7:k=7
 ·subst k7
  simp only[Int.reduceBEq,br_tt,br_ff]
  exact⟨⟨⟨z,g,⟨dc,dt,ds,df⟩,_,_,of,en⟩,_⟩,rfl,rfl,fun _=>rfl⟩
 by_cases k8:k=8
 ·subst k8
  simp only[Int.reduceBEq,br_tt,br_ff]
  unfold stO
  cases (outO z 0).o with
  | true=>exact⟨⟨⟨z,g,⟨dc,dt,ds,df⟩,_,_,of,en⟩,_⟩,gu_t (agaO_len _ _ _),rfl,fun _=>rfl⟩
  | false=>exact⟨⟨⟨z,g,⟨dc,dt,ds,df⟩,_,_,of,en⟩,_⟩,gu_t (agaO_len _ _ _),rfl,fun _=>rfl⟩
 by_cases k9:k=9
 ·subst k9
  simp only[Int.reduceBEq,br_tt,br_ff]
  have hst:stO n ⟨z,g,⟨dc,dt,ds,df⟩,dn,up,of,en⟩ ⟨9,ea,eb⟩=bif agB (driO n g 0 ⟨dc,dt,ds,df⟩).a g&&bdB (driO n g 0 ⟨dc,dt,ds,df⟩).b ⟨dc,dt,ds,df⟩ then ⟨⟨z,g,⟨dc,dt,ds,df⟩,dn,up,of,en⟩,false⟩ else
   ⟨⟨z,(driO n g 0 ⟨dc,dt,ds,df⟩).a,(driO n g 0 ⟨dc,dt,ds,df⟩).b,dn,allF up (driO n g 0 ⟨dc,dt,ds,df⟩).l,of,bif (driO n g 0 ⟨dc,dt,ds,df⟩).b.t == -1 then en++[(driO n g 0 ⟨dc,dt,ds,df⟩).b.c] else en⟩,true⟩:=rfl
  rw[hst]
  clear hst
  have hc:=driO_c n g 0 ⟨dc,dt,ds,df⟩
  generalize driO n g 0 ⟨dc,dt,ds,df⟩=rr at hc ⊢
  have one:∀e∈en.map (AV.int .i64),e.cells.length=1:=fun e he=>by obtain⟨x,_,rfl⟩:=List.mem_map.1 he;rfl
  rcases hc with rfl | ⟨⟨h1,h2,h3,h4,h5,h6⟩,rfl⟩ | ⟨⟨h1,h2,h3⟩,rfl⟩
  ·refine⟨⟨⟨z,g,⟨dc,dt,ds,df⟩,dn,up,of,en⟩,!bdB ⟨dc,dt,ds,df⟩ ⟨dc,dt,ds,df⟩⟩,(gu_t hrw).trans ((gu_t (Nat.zero_le _)).trans (br_f (show(!agB g g)=false by rw[agB_self];rfl))),?_,?_⟩
   ·rw[agB_self,bdB_self];rfl
   ·rw[bdB_self];intro h;cases h
  ·have hb:bdB ⟨dc,g.t,ds,df⟩ ⟨dc,dt,ds,df⟩=false:=by
    have:(g.t==dt)=false:=beq_eq_false_iff_ne.2 (fun e=>h5 (e.trans h1))
    simp[bdB,this]
   have ht:(g.t == -1)=false:=beq_eq_false_iff_ne.2 h5
   refine⟨⟨⟨z,g,⟨dc,g.t,ds,df⟩,dn,up,of,en⟩,!bdB ⟨dc,g.t,ds,df⟩ ⟨dc,dt,ds,df⟩⟩,(gu_t hrw).trans ((gu_t (Nat.zero_le _)).trans (br_f (show(!agB g g)=false by rw[agB_self];rfl))),?_,fun _=>?_⟩
   ·rw[agB_self,hb];rfl
   ·rw[agB_self,hb]
    show _=RaD.mk z g ⟨dc,g.t,ds,df⟩ dn up of (bif g.t == -1 then en++[dc] else en)
    rw[ht];rfl
  ·have hb:bdB ⟨dt,-1,ds||g.s,df⟩ ⟨dc,dt,ds,df⟩=false:=by
    have:((-1:Int)==dt)=false:=beq_eq_false_iff_ne.2 (fun e=>h1 e.symm)
    simp[bdB,this]
   refine⟨⟨⟨z,⟨g.l,-1,g.s,1,dt⟩,⟨dt,-1,ds||g.s,df⟩,dn,allF up [repF ⟨g.l,-1,g.s,1,dt⟩ 0],of,en++[dt]⟩,true⟩,(gu_t hrw).trans ((gu_t (nL rfl)).trans ?_),?_,fun _=>?_⟩
   ·have e2:(en.map (AV.int .i64))++[AV.int .i64 dt]=(en++[dt]).map (AV.int .i64):=by simp
    have e3:∀k:Option (Empty⊕Ret),gu (∀(e:AV),e∈List.map (AV.int .i64) en→e.cells.length=1) (gu ((List.map (AV.int .i64) en).length≤9223372036854775807) (gu ((List.map (AV.int .i64) en).length * 8≤140737488355328) (gu ((List.map (AV.int .i64) en).length+[AV.int .i64 dt].length≤9223372036854775807) (gu (((List.map (AV.int .i64) en).length+[AV.int .i64 dt].length) * 8≤140737488355328) k))))=k:=fun k=>by
     rw[gu_t one,gu_t (by rw[List.length_map];omega),gu_t (by rw[List.length_map];omega),gu_t (by simp only[List.length_map,List.length_singleton];omega),gu_t (by simp only[List.length_map,List.length_singleton];omega)]
    cases hA:!agB ⟨g.l,-1,g.s,1,dt⟩ g with
    | true=>refine(br_t hA).trans ((e3 _).trans ?_);show some (Sum.inr ([],AV.tup [AV.agg [_,_,_,_,_,_,_,_,_,_,_,_,_,_,_,_,AV.lst (List.map (AV.int .i64) en++[AV.int .i64 dt])],_]))=_;rw[e2];rfl
    | false=>
     refine(br_f hA).trans ((e3 _).trans ?_)
     show some (Sum.inr ([],AV.tup [AV.agg [_,_,_,_,_,_,_,_,_,_,_,_,_,_,_,_,AV.lst (List.map (AV.int .i64) en++[AV.int .i64 dt])],AV.bool (!bdB ⟨dt,-1,ds||g.s,df⟩ ⟨dc,dt,ds,df⟩)]))=_
     rw[e2,hb];rfl
   ·rw[hb,Bool.and_false];rfl
   ·rw[hb,Bool.and_false];rfl
 by_cases k10:k=10
 ·subst k10
  simp only[Int.reduceBEq,br_tt,br_ff]
  have hst:stO n ⟨z,g,⟨dc,dt,ds,df⟩,dn,up,of,en⟩ ⟨10,ea,eb⟩=bif bdB (finO g 0 ⟨dc,dt,ds,df⟩).b ⟨dc,dt,ds,df⟩ then ⟨⟨z,g,⟨dc,dt,ds,df⟩,dn,up,of,en⟩,false⟩ else
   ⟨⟨z,(finO g 0 ⟨dc,dt,ds,df⟩).a,(finO g 0 ⟨dc,dt,ds,df⟩).b,dn,allF up (finO g 0 ⟨dc,dt,ds,df⟩).l,of,en⟩,true⟩:=rfl
  rw[hst]
  clear hst
  have hl:=finO_len g 0 ⟨dc,dt,ds,df⟩
  have hn:finO g 0 ⟨dc,dt,ds,df⟩=⟨g,⟨dc,dt,ds,df⟩,[]⟩→bdB (finO g 0 ⟨dc,dt,ds,df⟩).b ⟨dc,dt,ds,df⟩=true:=fun h=>by rw[h];exact bdB_self _
  simp only[bne]
  cases hc:dc == -1 with
  | true=>
   have h:=hn (by unfold finO;rw[hc];rfl)
   rw[h]
   exact⟨⟨⟨z,(finO g 0 ⟨dc,dt,ds,df⟩).a,(finO g 0 ⟨dc,dt,ds,df⟩).b,_,_,of,en⟩,false⟩,gu_t hl,rfl,fun h=>nomatch h⟩
  | false=>cases ds with
   | false=>
    have h:=hn (by unfold finO;rw[hc];rfl)
    rw[h]
    exact⟨⟨⟨z,(finO g 0 ⟨dc,dt,false,df⟩).a,(finO g 0 ⟨dc,dt,false,df⟩).b,_,_,of,en⟩,false⟩,gu_t hl,rfl,fun h=>nomatch h⟩
   | true=>cases df with
    | true=>
     have h:=hn (by unfold finO;rw[hc];rfl)
     rw[h]
     exact⟨⟨⟨z,(finO g 0 ⟨dc,dt,true,true⟩).a,(finO g 0 ⟨dc,dt,true,true⟩).b,_,_,of,en⟩,false⟩,gu_t hl,rfl,fun h=>nomatch h⟩
    | false=>
     have h:bdB (finO g 0 ⟨dc,dt,true,false⟩).b ⟨dc,dt,true,false⟩=false:=by unfold finO;rw[hc];simp[bdB]
     rw[h]
     exact⟨⟨⟨z,(finO g 0 ⟨dc,dt,true,false⟩).a,(finO g 0 ⟨dc,dt,true,false⟩).b,_,_,of,en⟩,true⟩,gu_t hl,rfl,fun _=>rfl⟩
 by_cases k11:k=11
 ·subst k11
  simp only[Int.reduceBEq,br_tt,br_ff]
  exact⟨⟨⟨z,g,⟨dc,dt,ds,true⟩,_,_,of,en⟩,_⟩,rfl,rfl,fun _=>rfl⟩
 have e:∀i:Int,k≠i→(k==i)=false:=fun i h=>beq_eq_false_iff_ne.2 h
 unfold stO
 simp only[e 2 k2,e 3 k3,e 4 k4,e 5 k5,e 6 k6,e 7 k7,e 8 k8,e 9 k9,e 10 k10,e 11 k11,br_ff]
 exact⟨⟨⟨z,g,⟨dc,dt,ds,df⟩,_,_,of,en⟩,_⟩,rfl,rfl,fun _=>rfl⟩
open Classical in
def rfO(n:NetD)(x:RaD)(y:EvD):SoD:=if h:Rows n.nx∧RaS x∧∀f∈x.dn,0≤f.q then Classical.choose (rsx_ex n x y h.1 h.2.1 h.2.2) else ⟨x,false⟩
@[irreducible] def rfJ(n:NetD)(x:RaD)(y:EvD):SoD:=rfO n x y
theorem rfJ_spec{n:NetD}{x:RaD}{y:EvD}(h:Rows n.nx∧RaS x∧∀f∈x.dn,0≤f.q):rsxEn n x y=some (.inr ([],soA (rfJ n x y)))∧(rfJ n x y).o=(stO n x y).o∧((rfJ n x y).o=true→(rfJ n x y).x=(stO n x y).x):=by
 unfold rfJ rfO
 rw[dif_pos h]
 exact Classical.choose_spec (rsx_ex n x y h.1 h.2.1 h.2.2)
theorem rsx_c(n:NetD)(x:RaD)(y:EvD)(h:Rows n.nx∧RaS x∧∀f∈x.dn,0≤f.q):CT Try.prog 77 [] [netA n,raA x,evA y] [] (soA (rfJ n x y)):=rsx_ct n x y ([],_) (.val (rfJ_spec h).1)
def rspSt(n:NetD)(x:RaD)(y:EvD):Empty→St
 | x=>x.elim
def rspHd:Empty→Nat
 | x=>x.elim
def rspEn(n:NetD)(x:RaD)(y:EvD):Option (Empty⊕Ret):=
 br (y.a != 0)
 (some (.inr ([],AV.tup [rV x.s x.a x.b [AV.lst (List.map frA x.dn),AV.lst (List.map frA x.up),AV.lst (List.map iV x.of),AV.lst (List.map iV x.en)],bV false])))
 (gu (Rows n.nx∧RaS x∧∀(f:FrD),f∈x.dn→0≤f.q) <|
  br (!(rfJ n x y).o)
  (some (.inr ([],AV.tup [rV x.s x.a x.b [AV.lst (List.map frA x.dn),AV.lst (List.map frA x.up),AV.lst (List.map iV x.of),AV.lst (List.map iV x.en)],bV false])))
  (some (.inr ([],AV.tup [rV (rfJ n x y).x.s (rfJ n x y).x.a (rfJ n x y).x.b [AV.lst (List.map frA (rfJ n x y).x.dn),AV.lst (List.map frA (rfJ n x y).x.up),AV.lst (List.map iV (rfJ n x y).x.of),AV.lst (List.map iV (rfJ n x y).x.en)],bV true]))))
def rspStep(n:NetD)(x:RaD)(y:EvD):Empty→Option (Empty⊕Ret)
 | x=>x.elim
theorem rspEn_ok(n:NetD)(x:RaD)(y:EvD)(o:Empty⊕Ret)(h:rspEn n x y=some o):Arr Try.prog Try.f58 0 (rspSt n x y) rspHd (zB Try.f58) [] {n:=Try.f58.ntmps,fr:=enumF 0 ([netA n,raA x,evA y]),hp:=([])} o:=
 Scr.ok h mix (
 .rn 1 [] [] [] [] (aj (u2 (u2 (u2 t3))) (al (u2 (u2 s2)))) <|
 .br (fun a0=>
 .rt [25] [] [] [] [] [] (aj (aj a0 (al (u2 (aj (k2 n11) t2)))) (al (aj (ak (k3 (k5 t9))) t2))))
 (fun a0=>
 .gu fun a1=>
 have c0:=rsx_c n x y a1;
 .rn 1 [24] [] [(18,hK c0 [] [])] [] (aj a0 (aj (u2 (u2 (u2 (aj (k3 (aj t9 (aj (ak (k3 (k5 t9))) (aj t5 (al (c0)))))) (u2 (u2 (u2 (ak (aj (k2 n11) s2))))))))) (al (u2 s2)))) <|
 .br (fun a2=>
  .rt [45] [] [] [] [] [] (aj (aj a2 (al (u2 (aj (k2 n11) t2)))) (al (aj (ak (k3 (k5 t9))) t2))))
 (fun a2=>
  .rt [44] [] [] [] [] [] (aj (aj a2 (al (u2 (aj (k2 n11) t2)))) (al (aj (ak (k3 (k5 t9))) t2)))))) (by kernel_rfl)
theorem rsp_ct(n:NetD)(x:RaD)(y:EvD)(r:Ret)(h:MReach (rspStep n x y) (rspEn n x y) r):CT Try.prog 58 ([]) ([netA n,raA x,evA y]) r.1 r.2:=
 CT.mach (fn:=Try.f58) (c:=zB Try.f58) (S:=rspSt n x y) (hd:=rspHd) Try.func58 (by kernel_rfl) (nL rfl)
  (fun s o ho=>match s,ho with
   | x,_=>x.elim)
  (fun o ho=>rspEn_ok n x y o ho) h
def ofeSt(L:List Int)(kk:Nat)(n:NetD)(x:RaD):Empty→St
 | x=>x.elim
def ofeHd:Empty→Nat
 | x=>x.elim
def ofeEn(L:List Int)(kk:Nat)(n:NetD)(x:RaD):Option (Empty⊕Ret):=
 br (decide (0<iN (List.map iV x.of).length))
 (gu (0≤i64.wrap (iN (List.map iV x.of).length-1)) <|
  el (x.of) ((i64.wrap (iN (List.map iV x.of).length-1)).toNat) fun(x24:Int)=>
  gu (Rows n.nx) <|
  br (ckE n x24 != 0)
  (gu (ValidN n) <|
   gu (kk<9223372036854775807) <|
   gu (kk+1<9223372036854775807) <|
   some (.inr ([some (bK [AV.agg [AV.lst (List.map iV L),iV (iN (kk+1+1))]] 2)],AV.tup [iV (nextZ L kk (iN (celN n))),iV (nextZ L (kk+1) 2)])))
  (br (iN (List.map iV (nxO n x24)).length==0)
   (gu (ValidN n) <|
    gu (kk<9223372036854775807) <|
    gu (kk+1<9223372036854775807) <|
    some (.inr ([some (bK [AV.agg [AV.lst (List.map iV L),iV (iN (kk+1+1))]] 2)],AV.tup [iV (nextZ L kk (iN (celN n))),iV (nextZ L (kk+1) 2)])))
   (gu (kk<9223372036854775807) <|
    br (nextZ L kk 8==0)
    (gu (ValidN n) <|
     gu (kk+1<9223372036854775807) <|
     gu (kk+1+1<9223372036854775807) <|
     some (.inr ([some (bK [AV.agg [AV.lst (List.map iV L),iV (iN (kk+1+1+1))]] 2)],AV.tup [iV (nextZ L (kk+1) (iN (celN n))),iV (nextZ L (kk+1+1) 2)])))
    (gu (kk+1<9223372036854775807) <|
     gu (0≤nextZ L (kk+1) (iN (List.map iV (nxO n x24)).length)) <|
     el (nxO n x24) ((nextZ L (kk+1) (iN (List.map iV (nxO n x24)).length)).toNat) fun(x55:Int)=>
     gu (kk+1+1<9223372036854775807) <|
     some (.inr ([some (bK [AV.agg [AV.lst (List.map iV L),iV (iN (kk+1+1+1))]] 2)],AV.tup [iV x55,iV (i64.wrap ((nextZ L (kk+1+1) 4).tdiv 3))]))))))
 (gu (Rows n.nx) <|
  br (ckE n x.b.c != 0)
  (gu (ValidN n) <|
   gu (kk<9223372036854775807) <|
   gu (kk+1<9223372036854775807) <|
   some (.inr ([some (bK [AV.agg [AV.lst (List.map iV L),iV (iN (kk+1+1))]] 2)],AV.tup [iV (nextZ L kk (iN (celN n))),iV (nextZ L (kk+1) 2)])))
  (br (iN (List.map iV (nxO n x.b.c)).length==0)
   (gu (ValidN n) <|
    gu (kk<9223372036854775807) <|
    gu (kk+1<9223372036854775807) <|
    some (.inr ([some (bK [AV.agg [AV.lst (List.map iV L),iV (iN (kk+1+1))]] 2)],AV.tup [iV (nextZ L kk (iN (celN n))),iV (nextZ L (kk+1) 2)])))
   (gu (kk<9223372036854775807) <|
    br (nextZ L kk 8==0)
    (gu (ValidN n) <|
     gu (kk+1<9223372036854775807) <|
     gu (kk+1+1<9223372036854775807) <|
     some (.inr ([some (bK [AV.agg [AV.lst (List.map iV L),iV (iN (kk+1+1+1))]] 2)],AV.tup [iV (nextZ L (kk+1) (iN (celN n))),iV (nextZ L (kk+1+1) 2)])))
    (gu (kk+1<9223372036854775807) <|
     gu (0≤nextZ L (kk+1) (iN (List.map iV (nxO n x.b.c)).length)) <|
     el (nxO n x.b.c) ((nextZ L (kk+1) (iN (List.map iV (nxO n x.b.c)).length)).toNat) fun(x55:Int)=>
     gu (kk+1+1<9223372036854775807) <|
     some (.inr ([some (bK [AV.agg [AV.lst (List.map iV L),iV (iN (kk+1+1+1))]] 2)],AV.tup [iV x55,iV (i64.wrap ((nextZ L (kk+1+1) 4).tdiv 3))]))))))
def ofeStep(L:List Int)(kk:Nat)(n:NetD)(x:RaD):Empty→Option (Empty⊕Ret)
 | x=>x.elim
theorem ofeEn_ok(L:List Int)(kk:Nat)(n:NetD)(x:RaD)(o:Empty⊕Ret)(h:ofeEn L kk n x=some o):Arr Try.prog Try.f31 1 (ofeSt L kk n x) ofeHd (zB Try.f31) [] {n:=Try.f31.ntmps,fr:=enumF 0 ([.ptr 0 0 0,netA n,raA x]),hp:=([some (tapeB L kk)])} o:=
 Scr.ok h mix (
 .rn 2 [] [] [] [] (aj (u2 (u2 t3)) (aj (u2 (u2 (u2 s2))) (al (u2 (u2 (u2 s2)))))) <|
 .br (fun a0=>
 .gu fun a1=>
 .el fun x24 a2=>
 .rn 0 [35] [(24,iv x24)] [] [] (aj a0 (al (u2 (u2 (u2 (u2 (u2 (u2 (aj (k2 (aj a1 (getMap (f:=iv) a2))) (u2 s2)))))))))) <|
 .gu fun a3=>
 have c0:=cnext_c n x24 a3;
 .rn 0 [] [] [(29,hK c0 [] [])] [] (al (u2 (u2 (aj (k2 (aj t9 (ak (al (c0))))) (u2 (u2 (u2 (u2 s2)))))))) <|
 .br (fun a4=>
  .rn 0 [69] [] [] [] (al (u2 (u2 (u2 (aj a4 (aj a4 (aj a4 (ag a4 (u2 (k3 (al t3))))))))))) <|
  .gu fun a5=>
  .gu fun a6=>
  .gu fun a7=>
  have c1:=cells_ct a5;
  have c2:=next_ct (L) (kk) (iN (celN n)) a6;
  have c3:=next_ct (L) (kk+1) (2) a7;
  .rt [69] [] [(46,hK c1 [] []),(47,hK c2 [0] []),(49,hK c3 [0] [])] [] [0] [] (aj (ak (al (u2 (u2 (aj (ak (aj t9 (al (c1)))) (aj (k5 (al (c2))) (u2 (aj (ak (k3 (al (c3)))) (u2 s2))))))))) (aj t3 t2)))
 (fun a4=>
  .br (fun a5=>
  .rn 0 [68,79] [] [] [] (al (u2 (u2 (u2 (ag a4 (ag a4 (ag a4 (ag a4 (u2 (aj a5 (aj a5 (aj a5 (al (aj a5 t2)))))))))))))) <|
  .gu fun a6=>
  .gu fun a7=>
  .gu fun a8=>
  have c1:=cells_ct a6;
  have c2:=next_ct (L) (kk) (iN (celN n)) a7;
  have c3:=next_ct (L) (kk+1) (2) a8;
  .rt [68,79] [] [(46,hK c1 [] []),(47,hK c2 [0] []),(49,hK c3 [0] [])] [] [0] [] (aj (ak (al (u2 (u2 (aj (ak (aj t9 (al (c1)))) (aj (k5 (al (c2))) (u2 (aj (ak (k3 (al (c3)))) (u2 s2))))))))) (aj t3 t2)))
  (fun a5=>
  .gu fun a6=>
  have c1:=next_ct (L) (kk) (8) a6;
  .rn 0 [68,78] [] [(41,hK c1 [0] [])] [] (al (u2 (u2 (u2 (ag a4 (ag a4 (ag a4 (ag a4 (u2 (ag a5 (aj (aj a5 (ak (k3 (al (c1))))) (ag a5 (al (aj a5 t2)))))))))))))) <|
  .br (fun a7=>
   .gu fun a8=>
   .gu fun a9=>
   .gu fun a10=>
   have c2:=cells_ct a8;
   have c3:=next_ct (L) (kk+1) (iN (celN n)) a9;
   have c4:=next_ct (L) (kk+1+1) (2) a10;
   .rt [68,78,87] [] [(46,hK c2 [] []),(47,hK c3 [0] []),(49,hK c4 [0] [])] [] [0] [] (aj (aj a7 (al (u2 (u2 (aj (ak (aj t9 (al (c2)))) (aj (k5 (al (c3))) (u2 (aj (ak (k3 (al (c4)))) (u2 s2))))))))) (aj t3 t2)))
  (fun a7=>
   .gu fun a8=>
   .gu fun a9=>
   .el fun x55 a10=>
   .gu fun a11=>
   have c2:=next_ct (L) (kk+1) (iN (List.map (iv) (nxO n x24)).length) a8;
   have c3:=next_ct (L) (kk+1+1) (4) a11;
   .rt [68,78,86] [(55,iv x55)] [(54,hK c2 [0] []),(58,hK c3 [0] [])] [] [0] [] (aj (aj a7 (al (u2 (u2 (u2 (u2 (aj (k5 (al (c2))) (aj (k2 (aj a9 (getMap (f:=iv) a10))) (u2 (u2 (aj (ak (k3 (al (c3)))) (aj (ak (show(3:Int)=(0:Int)→False from(by first | decide | exact Int.NonNeg.mk _))) (u2 s2))))))))))))) (aj t3 t2))))))
 (fun a0=>
 .gu fun a1=>
 have c0:=cnext_c n (x.b.c) a1;
 .rn 0 [34] [] [(29,hK c0 [] [])] [] (aj a0 (al (u2 (u2 (aj (k2 (aj t9 (ak (al (c0))))) (u2 (u2 (u2 (u2 s2))))))))) <|
 .br (fun a2=>
  .rn 0 [69] [] [] [] (al (u2 (u2 (u2 (aj a2 (aj a2 (aj a2 (ag a2 (u2 (k3 (al t3))))))))))) <|
  .gu fun a3=>
  .gu fun a4=>
  .gu fun a5=>
  have c1:=cells_ct a3;
  have c2:=next_ct (L) (kk) (iN (celN n)) a4;
  have c3:=next_ct (L) (kk+1) (2) a5;
  .rt [69] [] [(46,hK c1 [] []),(47,hK c2 [0] []),(49,hK c3 [0] [])] [] [0] [] (aj (ak (al (u2 (u2 (aj (ak (aj t9 (al (c1)))) (aj (k5 (al (c2))) (u2 (aj (ak (k3 (al (c3)))) (u2 s2))))))))) (aj t3 t2)))
 (fun a2=>
  .br (fun a3=>
  .rn 0 [68,79] [] [] [] (al (u2 (u2 (u2 (ag a2 (ag a2 (ag a2 (ag a2 (u2 (aj a3 (aj a3 (aj a3 (al (aj a3 t2)))))))))))))) <|
  .gu fun a4=>
  .gu fun a5=>
  .gu fun a6=>
  have c1:=cells_ct a4;
  have c2:=next_ct (L) (kk) (iN (celN n)) a5;
  have c3:=next_ct (L) (kk+1) (2) a6;
  .rt [68,79] [] [(46,hK c1 [] []),(47,hK c2 [0] []),(49,hK c3 [0] [])] [] [0] [] (aj (ak (al (u2 (u2 (aj (ak (aj t9 (al (c1)))) (aj (k5 (al (c2))) (u2 (aj (ak (k3 (al (c3)))) (u2 s2))))))))) (aj t3 t2)))
  (fun a3=>
  .gu fun a4=>
  have c1:=next_ct (L) (kk) (8) a4;
  .rn 0 [68,78] [] [(41,hK c1 [0] [])] [] (al (u2 (u2 (u2 (ag a2 (ag a2 (ag a2 (ag a2 (u2 (ag a3 (aj (aj a3 (ak (k3 (al (c1))))) (ag a3 (al (aj a3 t2)))))))))))))) <|
  .br (fun a5=>
   .gu fun a6=>
   .gu fun a7=>
   .gu fun a8=>
   have c2:=cells_ct a6;
   have c3:=next_ct (L) (kk+1) (iN (celN n)) a7;
   have c4:=next_ct (L) (kk+1+1) (2) a8;
   .rt [68,78,87] [] [(46,hK c2 [] []),(47,hK c3 [0] []),(49,hK c4 [0] [])] [] [0] [] (aj (aj a5 (al (u2 (u2 (aj (ak (aj t9 (al (c2)))) (aj (k5 (al (c3))) (u2 (aj (ak (k3 (al (c4)))) (u2 s2))))))))) (aj t3 t2)))
  (fun a5=>
   .gu fun a6=>
   .gu fun a7=>
   .el fun x55 a8=>
   .gu fun a9=>
   have c2:=next_ct (L) (kk+1) (iN (List.map (iv) (nxO n x.b.c)).length) a6;
   have c3:=next_ct (L) (kk+1+1) (4) a9;
   .rt [68,78,86] [(55,iv x55)] [(54,hK c2 [0] []),(58,hK c3 [0] [])] [] [0] [] (aj (aj a5 (al (u2 (u2 (u2 (u2 (aj (k5 (al (c2))) (aj (k2 (aj a7 (getMap (f:=iv) a8))) (u2 (u2 (aj (ak (k3 (al (c3)))) (aj (ak (show(3:Int)=(0:Int)→False from(by first | decide | exact Int.NonNeg.mk _))) (u2 s2))))))))))))) (aj t3 t2))))))) (by kernel_rfl)
theorem ofe_ct(L:List Int)(kk:Nat)(n:NetD)(x:RaD)(r:Ret)(h:MReach (ofeStep L kk n x) (ofeEn L kk n x) r):CT Try.prog 31 ([some (tapeB L kk)]) ([.ptr 0 0 0,netA n,raA x]) r.1 r.2:=
 CT.mach (fn:=Try.f31) (c:=zB Try.f31) (S:=ofeSt L kk n x) (hd:=ofeHd) Try.func31 (by kernel_rfl) (nL rfl)
  (fun s o ho=>match s,ho with
   | x,_=>x.elim)
  (fun o ho=>ofeEn_ok L kk n x o ho) h
def LiO(x:RaD):Prop:=OfL x∧∀f∈x.dn,0≤f.q
theorem rsp_c(n:NetD)(x:RaD)(y:EvD)(hrw:Rows n.nx)(h:LiO x):CT Try.prog 58 [] [netA n,raA x,evA y] [] (soA (evO n x y)):=by
 have hh:Rows n.nx∧RaS x∧∀f∈x.dn,0≤f.q:=⟨hrw,h.1.1,h.2⟩
 obtain⟨_,e2,e3⟩:=rfJ_spec (y:=y) hh
 refine rsp_ct n x y ([],_) (.val ?_)
 unfold rspEn evO
 rw[gu_t hh]
 cases y.a != 0 with
 | true=>rfl
 | false=>
  rw[←e2]
  cases ho:(rfJ n x y).o with
  | true=>rw[e3 ho];rfl
  | false=>rfl
theorem ofe_exP(L:List Int)(kk:Nat)(n:NetD)(x:RaD):∃p:(Int×Int)×Nat,kk≤1000000→ValidN n→Rows n.nx→x.of.length≤1000000→p.2≤kk+3∧CT Try.prog 31 [some (tapeB L kk)] [.ptr 0 0 0,netA n,raA x] [some (tapeB L p.2)] (.tup [.int .i64 p.1.1,.int .i64 p.1.2]):=by
 by_cases h:kk≤1000000∧ValidN n∧Rows n.nx∧x.of.length≤1000000
 ·obtain⟨hk,hv,hrw,hl⟩:=h
  have key:∀c:Int,∃p:(Int×Int)×Nat,p.2≤kk+3∧((gu (Rows n.nx) <| br (ckE n c != 0) (gu (ValidN n) <| gu (kk<9223372036854775807) <| gu (kk+1<9223372036854775807) <| some (.inr ([some (Blk.mk [AV.agg [AV.lst (List.map (AV.int .i64) L),(AV.int .i64) (iN (kk+1+1))]] 2 true true none)],AV.tup [(AV.int .i64) (nextZ L kk (iN (celN n))),(AV.int .i64) (nextZ L (kk+1) 2)]))) (br (iN (List.map (AV.int .i64) (nxO n c)).length==0) (gu (ValidN n) <| gu (kk<9223372036854775807) <| gu (kk+1<9223372036854775807) <| some (.inr ([some (Blk.mk [AV.agg [AV.lst (List.map (AV.int .i64) L),(AV.int .i64) (iN (kk+1+1))]] 2 true true none)],AV.tup [(AV.int .i64) (nextZ L kk (iN (celN n))),(AV.int .i64) (nextZ L (kk+1) 2)]))) (gu (kk<9223372036854775807) <| br (nextZ L kk 8==0) (gu (ValidN n) <| gu (kk+1<9223372036854775807) <| gu (kk+1+1<9223372036854775807) <| some (.inr ([some (Blk.mk [AV.agg [AV.lst (List.map (AV.int .i64) L),(AV.int .i64) (iN (kk+1+1+1))]] 2 true true none)],AV.tup [(AV.int .i64) (nextZ L (kk+1) (iN (celN n))),(AV.int .i64) (nextZ L (kk+1+1) 2)]))) (gu (kk+1<9223372036854775807) <| gu (0≤nextZ L (kk+1) (iN (List.map (AV.int .i64) (nxO n c)).length)) <| el (nxO n c) ((nextZ L (kk+1) (iN (List.map (AV.int .i64) (nxO n c)).length)).toNat) fun(x55:Int)=>gu (kk+1+1<9223372036854775807) <| some (.inr ([some (Blk.mk [AV.agg [AV.lst (List.map (AV.int .i64) L),(AV.int .i64) (iN (kk+1+1+1))]] 2 true true none)],AV.tup [(AV.int .i64) x55,(AV.int .i64) (i64.wrap ((nextZ L (kk+1+1) 4).tdiv 3))])))))):Option (Empty⊕Ret))=some (.inr (([some (tapeB L p.2)],.tup [.int .i64 p.1.1,.int .i64 p.1.2]):Ret)):=by
   intro c
   rw[gu_t hrw]
   repeat rw[gu_t hv]
   repeat rw[gu_t (show kk<9223372036854775807 by omega)]
   repeat rw[gu_t (show kk+1<9223372036854775807 by omega)]
   repeat rw[gu_t (show kk+1+1<9223372036854775807 by omega)]
   cases ckE n c != 0 with
   | true=>exact⟨((_,_),_),by simp only;omega,rfl⟩
   | false=>cases hn:iN (List.map (AV.int .i64) (nxO n c)).length==0 with
    | true=>exact⟨((_,_),_),by simp only;omega,rfl⟩
    | false=>cases nextZ L kk 8==0 with
     | true=>exact⟨((_,_),_),by simp only;omega,rfl⟩
     | false=>
      have hn':(nxO n c).length≠0:=fun e=>by rw[iN_len,e] at hn;cases hn
      have hxl:=nxO_len hrw c
      have hr:=nextZ_rng L (kk+1) ((nxO n c).length:Int) (by omega) (by omega)
      rw[iN_len,gu_t (by omega),el_t (getE 0 (show(nextZ L (kk+1) ((nxO n c).length:Int)).toNat<(nxO n c).length by omega))]
      exact⟨((_,_),kk+1+1+1),by simp only;omega,gu_t (by omega)⟩
  by_cases hp:0<x.of.length
  ·obtain⟨p,h1,h2⟩:=key (plO x)
   refine⟨p,fun _ _ _ _=>⟨h1,ofe_ct L kk n x ([_],_) (.val ?_)⟩⟩
   unfold ofeEn
   rw[br_t (dec_t (by rw[iN_len];omega)),gu_t (by rw[iN_len,wrap_in (by omega) (by omega)];omega),el_t ((plO_el x hp).resolve_right (by omega))]
   exact h2
  ·obtain⟨p,h1,h2⟩:=key x.b.c
   refine⟨p,fun _ _ _ _=>⟨h1,ofe_ct L kk n x ([_],_) (.val ?_)⟩⟩
   unfold ofeEn
   rw[br_f (dec_f (by rw[iN_len];omega))]
   exact h2
 ·exact⟨((0,0),0),fun a b c d=>absurd ⟨a,b,c,d⟩ h⟩
@[irreducible] def ofeC(L:List Int)(kk:Nat)(n:NetD)(x:RaD):Int:=(Classical.choose (ofe_exP L kk n x)).1.1
@[irreducible] def ofeF(L:List Int)(kk:Nat)(n:NetD)(x:RaD):Int:=(Classical.choose (ofe_exP L kk n x)).1.2
@[irreducible] def ofeK(L:List Int)(kk:Nat)(n:NetD)(x:RaD):Nat:=(Classical.choose (ofe_exP L kk n x)).2
theorem ofe_spec{L:List Int}{kk:Nat}{n:NetD}{x:RaD}(h1:kk≤1000000)(h2:ValidN n)(h3:Rows n.nx)(h4:x.of.length≤1000000):ofeK L kk n x≤kk+3∧CT Try.prog 31 [some (tapeB L kk)] [.ptr 0 0 0,netA n,raA x] [some (tapeB L (ofeK L kk n x))] (.tup [.int .i64 (ofeC L kk n x),.int .i64 (ofeF L kk n x)]):=by
 unfold ofeC ofeF ofeK;exact Classical.choose_spec (ofe_exP L kk n x) h1 h2 h3 h4
theorem ofe_c(L:List Int)(kk:Nat)(n:NetD)(x:RaD)(h1:kk≤1000000)(h2:ValidN n)(h3:Rows n.nx)(h4:x.of.length≤1000000):CT Try.prog 31 [some (tapeB L kk)] [.ptr 0 0 0,netA n,raA x] [some (tapeB L (ofeK L kk n x))] (.tup [.int .i64 (ofeC L kk n x),.int .i64 (ofeF L kk n x)]):=(ofe_spec h1 h2 h3 h4).2
@[irreducible] def evJ(n:NetD)(x:RaD)(y:EvD):SoD:=evO n x y
theorem evJ_eq:evJ=evO:=by funext n x y;unfold evJ;rfl
theorem stp_j(n:NetD)(x:RaD)(y:EvD)(hrw:Rows n.nx)(hx:RaS x):CT Try.prog 33 [] [netA n,raA x,evA y] [] (soA (evJ n x y)):=by rw[evJ_eq];exact stp_c n x y hrw hx
theorem rsp_j(n:NetD)(x:RaD)(y:EvD)(hrw:Rows n.nx)(h:LiO x):CT Try.prog 58 [] [netA n,raA x,evA y] [] (soA (evJ n x y)):=by rw[evJ_eq];exact rsp_c n x y hrw h
@[irreducible] def ofJ(n:NetD)(x:RaD)(q p:Int):NwD:=ofdO n x q p
theorem ofJ_eq:ofJ=ofdO:=by funext n x q p;unfold ofJ;rfl
theorem off_j(n:NetD)(x:RaD)(q p:Int)(hrw:Rows n.nx)(hx:OfL x):CT Try.prog 32 [] [netA n,raA x,.int .i64 q,.int .i64 p] [] (nwA (ofJ n x q p)):=by rw[ofJ_eq];exact off_c n x q p hrw hx
theorem rff_j(n:NetD)(x:RaD)(q p:Int)(hrw:Rows n.nx)(hx:OfL x):CT Try.prog 57 [] [netA n,raA x,.int .i64 q,.int .i64 p] [] (nwA (ofJ n x q p)):=by rw[ofJ_eq];exact rff_c n x q p hrw hx
@[irreducible] def nwJ(n:NetD)(q:Int):NwD:=newO n q
theorem nwJ_eq:nwJ=newO:=by funext n q;unfold nwJ;rfl
theorem rnw_j(n:NetD)(q:Int)(hrw:Rows n.nx):CT Try.prog 30 [] [netA n,.int .i64 q] [] (nwA (nwJ n q)):=by rw[nwJ_eq];exact rnw_c n q hrw
theorem rrn_j(n:NetD)(q:Int)(hrw:Rows n.nx):CT Try.prog 56 [] [netA n,.int .i64 q] [] (nwA (nwJ n q)):=by rw[nwJ_eq];exact rrn_c n q hrw
inductive kn8Pc where
 | l0 (v0:NwD) (v1:Int) (v2:RaD)
def kn8St:kn8Pc→St
 | .l0 v0 v1 v2=>St.mk 83 [(1,AV.ptr 0 0 0),(2,AV.ptr 1 0 0),(3,iv v0.e),(4,AV.lst (List.map (iv) (nxO (netM [2] 0 4) 0))),(6,AV.lst [AV.agg [iv 6,iv 0,iv 0,AV.str (ByteArray.mk #[])],AV.agg [iv 2,iv 0,iv 0,AV.str (ByteArray.mk #[])],AV.agg [iv 2,iv 0,iv 0,AV.str (ByteArray.mk #[])],AV.agg [iv 9,iv 0,iv 0,AV.str (ByteArray.mk #[])],AV.agg [iv 9,iv 0,iv 0,AV.str (ByteArray.mk #[])],AV.agg [iv 9,iv 0,iv 0,AV.str (ByteArray.mk #[])]]),(7,iv v1)] [some (bK [netA (netM [2] 0 4)] 8),some (bK [AV.agg [uV v2.s.q,bV v2.s.o,iv v2.s.c,iv v2.s.f,uV v2.a.l,iv v2.a.t,bV v2.a.s,iv v2.a.r,iv v2.a.c,iv v2.b.c,iv v2.b.t,bV v2.b.s,bV v2.b.f,AV.lst (List.map frA v2.dn),AV.lst (List.map frA v2.up),AV.lst (List.map (iv) v2.of),AV.lst (List.map (iv) v2.en)]] 17)]
def kn8Hd:kn8Pc→Nat
 | .l0 _ _ _=>0
def kn8En:Option (kn8Pc⊕Ret):=
 gu (Rows (netM [(2:Int)] (nat_lit 0) (4:Int)).nx) <|
 br ((nwJ (netM [2] 0 4) 0).e != 0)
 (some (.inr ([],bV false)))
 (br (ckE (netM [2] 0 4) 0 != 0)
  (some (.inr ([],bV false)))
  (br (iN (List.map iV (nxO (netM [2] 0 4) 0)).length==0)
   (some (.inr ([],bV false)))
   (el (nxO (netM [2] 0 4) 0) (Int.toNat 0) fun(x37:Int)=>
    gu (OfL (nwJ (netM [(2:Int)] (nat_lit 0) (4:Int)) (0:Int)).1) <|
    some (.inl (.l0 (ofJ (netM [2] 0 4) (nwJ (netM [2] 0 4) 0).1 x37 0) ((0:Int)) ((ofJ (netM [2] 0 4) (nwJ (netM [2] 0 4) 0).1 x37 0).x))))))
def kn8S0(v0:NwD)(v1:Int)(v2:RaD):Option (kn8Pc⊕Ret):=
 br (decide (v1<6))
 (gu (0≤v1) <|
  el ([EvD.mk 6 0 0,EvD.mk 2 0 0,EvD.mk 2 0 0,EvD.mk 9 0 0,EvD.mk 9 0 0,EvD.mk 9 0 0]) (v1.toNat) fun(x60:EvD)=>
  gu (Rows (netM [(2:Int)] (nat_lit 0) (4:Int)).nx) <|
  gu (RaS v2) <|
  some (.inl (.l0 v0 (i64.wrap (v1+1)) ((evJ (netM [2] 0 4) v2 x60).x))))
 (br (v0.e==0)
  (br (iN (List.map iV v2.en).length==1)
   (el (v2.en) (Int.toNat 0) fun(x76:Int)=>
    el (nxO (netM [2] 0 4) 0) (Int.toNat 0) fun(x79:Int)=>
    some (.inr ([],bV (x76==x79))))
   (some (.inr ([],bV false))))
  (some (.inr ([],bV false))))
def kn8Step:kn8Pc→Option (kn8Pc⊕Ret)
 | .l0 v0 v1 v2=>kn8S0 v0 v1 v2
theorem kn8En_ok(o:kn8Pc⊕Ret)(h:kn8En=some o):Arr Try.prog Try.f29 0 (kn8St) kn8Hd (zB Try.f29) [] {n:=Try.f29.ntmps,fr:=enumF 0 ([]),hp:=([])} o:=
 Scr.ok h mix (
 have c0:=net_ct ([2]) (0) (4) (show nat_lit 0≤(5000:Nat) from(by first | exact nL rfl | decide)) (show(1:Int)≤(4:Int)∧(4:Int)≤(20:Int) from ⟨(by first | exact nL rfl | decide),(by first | exact nL rfl | decide)⟩);
 .rn 1 [] [(8,AV.lst [])] [(11,hK c0 [0] [])] [] (u2 (al (ak (u2 (u2 (aj (ak (k3 (al (c0)))) (ak (al (k2 n11))))))))) <|
 .gu fun a0=>
 have c1:=rnw_j (netM [2] 0 4) (0) a0;
 have c2:=cnext_c (netM [2] 0 4) (0) a0;
 .rn 1 [] [] [(14,hK c1 [] []),(19,hK c2 [] [])] [] (aj (u2 (aj (ak (aj t9 (ak (al (c1))))) (u2 (u2 (u2 (ak (aj (k2 n11) s2))))))) (al (u2 (aj (ak (aj t9 (ak (al (c2))))) (u2 (u2 (u2 (u2 s2)))))))) <|
 .br (fun a1=>
 .rt [49] [] [] [] [] [] (aj (aj (u2 (u2 (u2 (aj a1 (aj a1 (ag a1 (u2 (k3 (al t3))))))))) (ak s2)) t2))
 (fun a1=>
 .br (fun a2=>
  .rt [48,57] [] [] [] [] [] (aj (aj (u2 (u2 (u2 (ag a1 (ag a1 (ag a1 (u2 (aj a2 (aj a2 (aj a2 (al (aj a2 t2)))))))))))) (ak s2)) t2))
 (fun a2=>
  .rn 0 [48,56] [] [] [] (al (u2 (u2 (u2 (ag a1 (ag a1 (ag a1 (u2 (ag a2 (ag a2 (ag a2 (al (aj a2 t2))))))))))))) <|
  .br (fun a3=>
  .rt [48,56,65] [] [] [] [] [] (aj (aj a3 s2) t2))
  (fun a3=>
  .el fun x37 a4=>
  .gu fun a5=>
  have c3:=off_j (netM [2] 0 4) ((nwJ (netM [2] 0 4) 0).1) x37 (0) a0 a5;
  .lp [48,56,64] [(37,iv x37),(48,AV.lst [])] [(39,hK c3 [] [])] [] [] [1,2] [1,2,3,4,6,7] (aj (aj a3 (aj (u2 (u2 (u2 (aj (ak (aj (show(0:Int)≤(0:Int) from(by first | exact nL rfl | decide)) (getMap (f:=iv) a4))) (u2 (aj (k3 (aj t9 (aj (ak (k3 (k5 t9))) (k2 (al (c3)))))) (u2 (u2 (u2 (aj (k2 (show Nat.le (nat_lit 1) [AV.agg [uV (nwJ (netM [(2:Int)] (nat_lit 0) (4:Int)) (0:Int)).x.s.q,bV (nwJ (netM [(2:Int)] (nat_lit 0) (4:Int)) (0:Int)).x.s.o,iv (nwJ (netM [(2:Int)] (nat_lit 0) (4:Int)) (0:Int)).x.s.c,iv (nwJ (netM [(2:Int)] (nat_lit 0) (4:Int)) (0:Int)).x.s.f,uV (nwJ (netM [(2:Int)] (nat_lit 0) (4:Int)) (0:Int)).x.a.l,iv (nwJ (netM [(2:Int)] (nat_lit 0) (4:Int)) (0:Int)).x.a.t,bV (nwJ (netM [(2:Int)] (nat_lit 0) (4:Int)) (0:Int)).x.a.s,iv (nwJ (netM [(2:Int)] (nat_lit 0) (4:Int)) (0:Int)).x.a.r,iv (nwJ (netM [(2:Int)] (nat_lit 0) (4:Int)) (0:Int)).x.a.c,iv (nwJ (netM [(2:Int)] (nat_lit 0) (4:Int)) (0:Int)).x.b.c,iv (nwJ (netM [(2:Int)] (nat_lit 0) (4:Int)) (0:Int)).x.b.t,bV (nwJ (netM [(2:Int)] (nat_lit 0) (4:Int)) (0:Int)).x.b.s,bV (nwJ (netM [(2:Int)] (nat_lit 0) (4:Int)) (0:Int)).x.b.f,AV.lst (List.map frA (nwJ (netM [(2:Int)] (nat_lit 0) (4:Int)) (0:Int)).x.dn),AV.lst (List.map frA (nwJ (netM [(2:Int)] (nat_lit 0) (4:Int)) (0:Int)).x.up),AV.lst (List.map (iv) (nwJ (netM [(2:Int)] (nat_lit 0) (4:Int)) (0:Int)).x.of),AV.lst (List.map (iv) (nwJ (netM [(2:Int)] (nat_lit 0) (4:Int)) (0:Int)).x.en)]].length from(nL rfl))) s2)))))))))) (aj (ak (k5 (aj t7 s2))) s2))) t9))))) (by kernel_rfl)
theorem kn8S0_ok(v0:NwD)(v1:Int)(v2:RaD)(o:kn8Pc⊕Ret)(h:kn8S0 v0 v1 v2=some o):Arr Try.prog Try.f29 0 (kn8St) kn8Hd (headC Try.f29 0) (.rnd (headC Try.f29 0)::headK Try.f29 0) (kn8St (.l0 v0 v1 v2)) o:=
 Scr.ok h mix (
 .rn 0 [] [] [] [] (al (u2 (u2 (u2 (al t3))))) <|
 .br (fun a0=>
 .gu fun a1=>
 .el fun x60 a2=>
 .gu fun a3=>
 .gu fun a4=>
 have c0:=stp_j (netM [2] 0 4) v2 x60 a3 a4;
 .lp [105] [(60,evA x60)] [(62,hK c0 [] [])] [] [] [0,1] [1,2,3,4,6,7] (aj (aj a0 (aj (u2 (u2 (u2 (u2 (aj (k2 (aj a1 (getMap (f:=evA) a2))) (u2 (aj (k3 (aj t9 (aj (ak (k3 (k5 t9))) (aj t5 (al (c0)))))) (u2 (u2 (u2 (al (k2 (show Nat.le 1 [AV.agg [uV v2.s.q,bV v2.s.o,iv v2.s.c,iv v2.s.f,uV v2.a.l,iv v2.a.t,bV v2.a.s,iv v2.a.r,iv v2.a.c,iv v2.b.c,iv v2.b.t,bV v2.b.s,bV v2.b.f,AV.lst (List.map frA v2.dn),AV.lst (List.map frA v2.up),AV.lst (List.map (iv) v2.of),AV.lst (List.map (iv) v2.en)]].length from(nL rfl)))))))))))))) (al (u2 (u2 s2))))) t9))
 (fun a0=>
 .br (fun a1=>
  .br (fun a2=>
  .el fun x76 a3=>
  .el fun x79 a4=>
  .rt [104,135,147] [(76,iv x76),(79,iv x79)] [] [] [] [] (aj (aj a0 (al (u2 (u2 (u2 (ag a1 (ag a1 (ag a1 (ag a1 (ag a1 (u2 (ag a2 (ag a2 (aj (aj a2 (ak (aj (show(0:Int)≤(0:Int) from(by first | exact nL rfl | decide)) (getMap (f:=iv) a3)))) (ag a2 (ag a2 (aj (aj a2 (ak (aj (show(0:Int)≤(0:Int) from(by first | exact nL rfl | decide)) (getMap (f:=iv) a4)))) (ag a2 (aj (aj a2 t3) (ag a2 s2)))))))))))))))))))) t2))
  (fun a2=>
  .rt [104,135,146] [] [] [] [] [] (aj (aj a0 (al (u2 (u2 (u2 (ag a1 (ag a1 (ag a1 (ag a1 (ag a1 (u2 (aj a2 (aj a2 (aj a2 (aj a2 (aj a2 (aj a2 (aj a2 (aj a2 (ag a2 s2)))))))))))))))))))) t2)))
 (fun a1=>
  .rt [104,134] [] [] [] [] [] (aj (aj a0 (al (u2 (u2 (u2 (aj a1 (aj a1 (aj a1 (aj a1 (ag a1 (u2 (k3 (k5 (aj t3 s2)))))))))))))) t2)))) (by kernel_rfl)
theorem kn8_ct(r:Ret)(h:MReach (kn8Step) (kn8En) r):CT Try.prog 29 ([]) ([]) r.1 r.2:=
 CT.mach (fn:=Try.f29) (c:=zB Try.f29) (S:=kn8St) (hd:=kn8Hd) Try.func29 (by kernel_rfl) (nL rfl)
  (fun s o ho=>match s,ho with
   | .l0 v0 v1 v2,ho=>kn8S0_ok v0 v1 v2 o ho
  )
  (fun o ho=>kn8En_ok o ho) h
inductive lifPc where
 | l0 (v0:Int) (v1:Nat) (v2:RaD)
def lifSt(L:List Int)(kk:Nat)(p:Int):lifPc→St
 | .l0 v0 v1 v2=>St.mk 61 [(0,AV.ptr 0 0 0),(1,iv p),(4,AV.ptr 1 0 0),(5,AV.ptr 2 0 0),(6,AV.ptr 3 0 0),(7,AV.ptr 4 0 0),(9,iv v0)] [some (tapeB L v1),some (bK [AV.agg [AV.nils,AV.nils,AV.nils,AV.nils,iv 0,iv 0,iv 0,iv 0]] 8),some (bK [AV.agg [uV 0,bV false,iv 0,iv 0,uV 0,iv 0,bV false,iv 0,iv 0,iv 0,iv 0,bV false,bV false,AV.nils,AV.nils,AV.nils,AV.nils]] 17),some (bK [netA (looM L kk 6)] 8),some (bK [AV.agg [uV v2.s.q,bV v2.s.o,iv v2.s.c,iv v2.s.f,uV v2.a.l,iv v2.a.t,bV v2.a.s,iv v2.a.r,iv v2.a.c,iv v2.b.c,iv v2.b.t,bV v2.b.s,bV v2.b.f,AV.lst (List.map frA v2.dn),AV.lst (List.map frA v2.up),AV.lst (List.map (iv) v2.of),AV.lst (List.map (iv) v2.en)]] 17)]
def lifHd:lifPc→Nat
 | .l0 _ _ _=>0
def lifEn(L:List Int)(kk:Nat)(p:Int):Option (lifPc⊕Ret):=
 gu (kk≤5000) <|
 gu (ValidN (looM L kk 6)) <|
 gu (looK L kk 6<9223372036854775807) <|
 gu (Rows (looM L kk 6).nx) <|
 some (.inl (.l0 ((0:Int)) (looK L kk 6+1) ((nwJ (looM L kk 6) (nextZ L (looK L kk 6) (iN (celN (looM L kk 6))))).x)))
def lifS0(L:List Int)(kk:Nat)(p v0:Int)(v1:Nat)(v2:RaD):Option (lifPc⊕Ret):=
 br (decide (v0<p))
 (gu (v1<9223372036854775807) <|
  br (nextZ L v1 3==0)
  (gu (v1+1≤1000000) <|
   gu (ValidN (looM L kk 6)) <|
   gu (Rows (looM L kk 6).nx) <|
   gu (v2.of.length≤1000000) <|
   gu (OfL v2) <|
   br ((ofJ (looM L kk 6) v2 (ofeC L (v1+1) (looM L kk 6) v2) (ofeF L (v1+1) (looM L kk 6) v2)).e==0)
   (some (.inl (.l0 (i64.wrap (v0+1)) (ofeK L (v1+1) (looM L kk 6) v2) ((ofJ (looM L kk 6) v2 (ofeC L (v1+1) (looM L kk 6) v2) (ofeF L (v1+1) (looM L kk 6) v2)).x))))
   (some (.inl (.l0 (i64.wrap (v0+1)) (ofeK L (v1+1) (looM L kk 6) v2) v2))))
  (gu (v1+1≤1000000) <|
   gu (Rows (looM L kk 6).nx) <|
   gu (LiO v2) <|
   some (.inl (.l0 (i64.wrap (v0+1)) (evtK L (v1+1)) ((evJ (looM L kk 6) v2 (evtM L (v1+1))).x)))))
 (some (.inr ([some (bK [AV.agg [AV.lst (List.map iV L),iV (iN v1)]] 2)],AV.tup [AV.agg [AV.lst (List.map bA (looM L kk 6).bs),AV.lst (gL (looM L kk 6).nx),AV.lst (List.map sA (looM L kk 6).ss),AV.lst (List.map iV (looM L kk 6).rs),iV (looM L kk 6).q,iV (looM L kk 6).a,iV (looM L kk 6).d,iV (looM L kk 6).p],rV v2.s v2.a v2.b [AV.lst (List.map frA v2.dn),AV.lst (List.map frA v2.up),AV.lst (List.map iV v2.of),AV.lst (List.map iV v2.en)]])))
def lifStep(L:List Int)(kk:Nat)(p:Int):lifPc→Option (lifPc⊕Ret)
 | .l0 v0 v1 v2=>lifS0 L kk p v0 v1 v2
theorem lifEn_ok(L:List Int)(kk:Nat)(p:Int)(o:lifPc⊕Ret)(h:lifEn L kk p=some o):Arr Try.prog Try.f35 1 (lifSt L kk p) lifHd (zB Try.f35) [] {n:=Try.f35.ntmps,fr:=enumF 0 ([.ptr 0 0 0,.int .i64 p]),hp:=([some (tapeB L kk)])} o:=
 Scr.ok h mix (
 .rn 0 [] [] [] [] (al t3) <|
 .gu fun a0=>
 have c0:=loose_ct (L) (kk) (6) a0 (show(1:Int)≤(6:Int)∧(6:Int)≤(20:Int) from ⟨(by first | exact nL rfl | decide),(by first | exact nL rfl | decide)⟩);
 .rn 0 [] [] [(15,hK c0 [0] [])] [] (al (u2 (aj (ak (k3 (al (c0)))) (ak (al (k2 n11)))))) <|
 .gu fun a1=>
 .gu fun a2=>
 .gu fun a3=>
 have c1:=cells_ct a1;
 have c2:=next_ct (L) (looK L kk 6) (iN (celN (looM L kk 6))) a2;
 have c3:=rrn_j (looM L kk 6) (nextZ L (looK L kk 6) (iN (celN (looM L kk 6)))) a3;
 .lp [] [] [(20,hK c1 [] []),(21,hK c2 [0] []),(22,hK c3 [] [])] [] [] [0,1,2,3,4] [0,1,4,5,6,7,9] (aj (aj (u2 (u2 (u2 (aj (ak (aj t9 (al (c1)))) (aj (k5 (al (c2))) (aj (k2 (aj t9 (ak (al (c3))))) (u2 (u2 (u2 (ak (aj (k2 n11) s2))))))))))) s2) (ak (k3 t9)))) (by kernel_rfl)
theorem lifS0_ok(L:List Int)(kk:Nat)(p v0:Int)(v1:Nat)(v2:RaD)(o:lifPc⊕Ret)(h:lifS0 L kk p v0 v1 v2=some o):Arr Try.prog Try.f35 1 (lifSt L kk p) lifHd (headC Try.f35 0) (.rnd (headC Try.f35 0)::headK Try.f35 0) (lifSt L kk p (.l0 v0 v1 v2)) o:=
 Scr.ok h mix (
 .rn 0 [] [] [] [] (al (u2 (u2 (al t3)))) <|
 .br (fun a0=>
 .gu fun a1=>
 have c0:=next_ct (L) v1 (3) a1;
 .rn 0 [55] [] [(31,hK c0 [0] [])] [] (aj a0 (al (u2 (aj (ak (k3 (al (c0)))) s2)))) <|
 .br (fun a2=>
  .gu fun a3=>
  .gu fun a4=>
  .gu fun a5=>
  .gu fun a6=>
  have c1:=ofe_c (L) (v1+1) (looM L kk 6) v2 a3 a4 a5 a6;
  .rn 0 [65] [] [(37,hK c1 [0] [])] [] (aj a2 (al (u2 (u2 (u2 (aj (ak (k3 (aj t9 (aj (ak (k3 (k5 t9))) (ak (al (c1))))))) (u2 (u2 (u2 (u2 s2)))))))))) <|
  .gu fun a7=>
  have c2:=rff_j (looM L kk 6) v2 (ofeC L (v1+1) (looM L kk 6) v2) (ofeF L (v1+1) (looM L kk 6) v2) a5 a7;
  .rn 1 [] [] [(45,hK c2 [] [])] [] (aj (u2 (u2 (u2 (u2 (aj (ak (k3 (aj t9 (aj (ak (k3 (k5 t9))) (k2 (al (c2))))))) (u2 (u2 (u2 (ak (aj (k2 n11) s2)))))))))) (al (u2 s2))) <|
  .br (fun a8=>
  .lp [99] [] [] [] [] [0,1,2,3,4] [0,1,4,5,6,7,9] (aj (aj a8 (aj (u2 (al (k2 (show Nat.le 1 [AV.agg [uV v2.s.q,bV v2.s.o,iv v2.s.c,iv v2.s.f,uV v2.a.l,iv v2.a.t,bV v2.a.s,iv v2.a.r,iv v2.a.c,iv v2.b.c,iv v2.b.t,bV v2.b.s,bV v2.b.f,AV.lst (List.map frA v2.dn),AV.lst (List.map frA v2.up),AV.lst (List.map (iv) v2.of),AV.lst (List.map (iv) v2.en)]].length from(nL rfl))))) (al (u2 (u2 s2))))) (ak (k3 t9))))
  (fun a8=>
  .lp [98] [] [] [] [] [0,1,2,3,4] [0,1,4,5,6,7,9] (aj (aj a8 (al (u2 (u2 s2)))) (ak (k3 t9)))))
 (fun a2=>
  .gu fun a3=>
  .gu fun a4=>
  .gu fun a5=>
  have c1:=evt_c (L) (v1+1) a3;
  have c2:=rsp_j (looM L kk 6) v2 (evtM L (v1+1)) a4 a5;
  .lp [64] [] [(55,hK c1 [0] []),(56,hK c2 [] [])] [] [] [0,1,2,3,4] [0,1,4,5,6,7,9] (aj (aj a2 (aj (u2 (u2 (u2 (aj (k3 (al (c1))) (aj (k3 (aj t9 (aj (ak (k3 (k5 t9))) (aj t5 (al (c2)))))) (u2 (u2 (u2 (al (k2 (show Nat.le 1 [AV.agg [uV v2.s.q,bV v2.s.o,iv v2.s.c,iv v2.s.f,uV v2.a.l,iv v2.a.t,bV v2.a.s,iv v2.a.r,iv v2.a.c,iv v2.b.c,iv v2.b.t,bV v2.b.s,bV v2.b.f,AV.lst (List.map frA v2.dn),AV.lst (List.map frA v2.up),AV.lst (List.map (iv) v2.of),AV.lst (List.map (iv) v2.en)]].length from(nL rfl)))))))))))) (al (u2 (u2 s2))))) (ak (k3 t9)))))
 (fun a0=>
 .rt [54] [] [] [] [0] [] (aj (aj a0 (al (u2 (u2 (aj (k2 n11) (al (k2 n11))))))) (aj (aj t9 (al (ak (k3 (k5 t9))))) t2)))) (by kernel_rfl)
theorem lif_ct(L:List Int)(kk:Nat)(p:Int)(r:Ret)(h:MReach (lifStep L kk p) (lifEn L kk p) r):CT Try.prog 35 ([some (tapeB L kk)]) ([.ptr 0 0 0,.int .i64 p]) r.1 r.2:=
 CT.mach (fn:=Try.f35) (c:=zB Try.f35) (S:=lifSt L kk p) (hd:=lifHd) Try.func35 (by kernel_rfl) (nL rfl)
  (fun s o ho=>match s,ho with
   | .l0 v0 v1 v2,ho=>lifS0_ok L kk p v0 v1 v2 o ho
  )
  (fun o ho=>lifEn_ok L kk p o ho) h
def DnOk(z:SeD)(of en:List Int)(f:FrD):Prop:=0≤f.q∧(f.k=1→f.q≤z.q∧1≤f.q∧f.r=0∧of[(f.q-1).toNat]?=some f.c∧0≤f.c∧f.c<48∧(f.f=0∨f.f=1)∧(f.q=z.q→f.f=z.f))∧
 (f.k=3→f.q≤(en.length:Int)∧(z.o=true→f.q=z.q→z.f=1∧f.f≠2))
def UpOk(z:SeD)(en:List Int)(t:Bool)(f:FrD):Prop:=0≤f.q∧(f.k=2→f.q≤(en.length:Int)∧(t=true→f.q=z.q→f.f≠2))
structure RC(n:NetD)(c0:Int)(z:SeD)(g:AgD)(d:BdD)(of en:List Int):Prop where
 sq:z.q=(of.length:Int)
 l0:g.l≤z.q
 l1:z.q≤g.l+1
 et:en=of.take en.length
 ol:en.length≤of.length
 e1:g.t = -1→(en.length:Int)=g.l
 e2:g.t≠-1→(en.length:Int)+1=g.l∧of[en.length]?=some g.t
 cl:z.o=false→en.length=of.length
 lt:g.l<z.q→g.t = -1
 bt:d.t≠-1→d.t=g.t
 rp:g.r≠0→g.t = -1
 sc:z.o=true→of[of.length-1]?=some z.c∧0≤z.c∧z.c<48∧1≤z.q∧(z.f=0∨z.f=1)
 sv:d.s=true→z.o=true∧g.l=z.q∧z.f=1∧g.t = -1∧g.r≠2
 fl:g.t≠-1→g.s=(z.f==1)
 fn:z.o=true→g.l=z.q→g.t = -1→d.s=false→g.r=if z.f=0 then 1 else 2
 bc:0≤d.c
 pl:∀(i:Nat) c,of[i]?=some c→folB n (if i=0 then c0 else of.getD (i-1) 0) c=true∧0≤c
 pb:d.c=if en.length=0 then c0 else of.getD (en.length-1) 0
theorem RC.accept{n:NetD}{c0:Int}{z:SeD}{g:AgD}{d:BdD}{of en:List Int}{f:FrD}(h:RC n c0 z g d of en)(hf:DnOk z of en f)(hk:f.k=1)(hl:g.l<f.q):RC n c0 z ⟨f.q,f.c,f.f==1,0,0⟩ d of en:=by
 obtain⟨sq,l0,l1,he,ol,e1,e2,cl,lt,bt,rp,sc,sv,fl,fn,bc,pl,pb⟩:=h
 obtain⟨h0,h1,_⟩:=hf
 obtain⟨k1,k2,k3,k4,k5,k6,k7,k8⟩:=h1 hk
 have hq:f.q=z.q:=by omega
 have ht:=lt (by omega)
 have h1:=e1 ht
 have hn:(f.q-1).toNat=en.length:=by omega
 refine⟨sq,by simp only;omega,by simp only;omega,he,ol,fun h=>?_,fun _=>⟨by simp only;omega,by rw[hn] at k4;exact k4⟩,cl,fun h=>?_,fun h=>?_,fun h=>absurd rfl h,sc,fun h=>?_,fun _=>?_,fun _ _ h=>?_,bc,pl,pb⟩
 ·simp only at h;omega
 ·simp only at h;omega
 ·exact absurd ((bt h).trans ht) h
 ·have:=sv h;omega
 ·simp only[k8 hq]
 ·simp only at h;omega
theorem RC.acked{n:NetD}{c0:Int}{z:SeD}{g:AgD}{d:BdD}{of en:List Int}{f:FrD}(h:RC n c0 z g d of en)(hf:DnOk z of en f)(hk:f.k=3)(hq:f.q=g.l)(hr:f.f=g.r):RC n c0 z ⟨g.l,g.t,g.s,0,0⟩ d of en:=by
 obtain⟨sq,l0,l1,he,ol,e1,e2,cl,lt,bt,rp,sc,sv,fl,fn,bc,pl,pb⟩:=h
 obtain⟨h0,_,h1⟩:=hf
 refine⟨sq,l0,l1,he,ol,e1,e2,cl,lt,bt,fun h=>absurd rfl h,sc,fun h=>?_,fl,fun a b c e=>?_,bc,pl,pb⟩
 ·obtain⟨a,b,c,e,_⟩:=sv h;exact⟨a,b,c,e,fun h=>by simp at h⟩
 ·have h2:=fn a b c e
  obtain⟨h3,h4⟩:=h1 hk
  obtain⟨h5,h6⟩:=h4 a (hq.trans b)
  rw[if_neg (by omega)] at h2
  omega
theorem RC.close{n:NetD}{c0:Int}{z:SeD}{g:AgD}{d:BdD}{of en:List Int}{f:FrD}(h:RC n c0 z g d of en)(hf:UpOk z en d.s f)(hk:f.k=2)(hq:f.q=z.q)(hr:z.f=0∨f.f=2):RC n c0 ⟨z.q,false,z.c,z.f⟩ g d of en:=by
 obtain⟨sq,l0,l1,he,ol,e1,e2,cl,lt,bt,rp,sc,sv,fl,fn,bc,pl,pb⟩:=h
 obtain⟨h1,h2⟩:=hf.2 hk
 refine⟨sq,l0,l1,he,ol,e1,e2,fun _=>by omega,lt,bt,rp,(nomatch ·),fun h=>?_,fl,(nomatch ·),bc,pl,pb⟩
 have:=sv h
 have h3:=h2 h hq
 omega
theorem RC.start{n:NetD}{c0:Int}{z:SeD}{g:AgD}{d:BdD}{of en:List Int}(h:RC n c0 z g d of en):RC n c0 z g ⟨d.c,g.t,d.s,d.f⟩ of en:=by
 obtain⟨sq,l0,l1,he,ol,e1,e2,cl,lt,bt,rp,sc,sv,fl,fn,bc,pl,pb⟩:=h
 exact⟨sq,l0,l1,he,ol,e1,e2,cl,lt,fun _=>rfl,rp,sc,sv,fl,fn,bc,pl,pb⟩
theorem RC.fault{n:NetD}{c0:Int}{z:SeD}{g:AgD}{d:BdD}{of en:List Int}(h:RC n c0 z g d of en)(t:Bool):RC n c0 z g ⟨d.c,d.t,d.s,t⟩ of en:=by
 obtain⟨sq,l0,l1,he,ol,e1,e2,cl,lt,bt,rp,sc,sv,fl,fn,bc,pl,pb⟩:=h
 exact⟨sq,l0,l1,he,ol,e1,e2,cl,lt,bt,rp,sc,sv,fl,fn,bc,pl,pb⟩
theorem RC.serve{n:NetD}{c0:Int}{z:SeD}{g:AgD}{d:BdD}{of en:List Int}(h:RC n c0 z g d of en)(hs:d.s=true)(c:Int):RC n c0 z ⟨g.l,g.t,g.s,2,c⟩ ⟨d.c,d.t,false,d.f⟩ of en:=by
 obtain⟨sq,l0,l1,he,ol,e1,e2,cl,lt,bt,rp,sc,sv,fl,fn,bc,pl,pb⟩:=h
 obtain⟨s1,s2,s3,s4,s5⟩:=sv hs
 exact⟨sq,l0,l1,he,ol,e1,e2,cl,lt,bt,fun _=>s4,sc,(nomatch ·),fl,fun _ _ _ _=>by rw[if_neg (by omega)],bc,pl,pb⟩
theorem take_succ'{of en:List Int}{t:Int}(he:en=of.take en.length)(ht:of[en.length]?=some t):en++[t]=of.take (en++[t]).length:=by
 rw[List.length_append,List.length_singleton,List.take_add_one,ht,←he];rfl
theorem RC.arrive{n:NetD}{c0:Int}{z:SeD}{g:AgD}{d:BdD}{of en:List Int}(h:RC n c0 z g d of en)(hd:d.t≠-1):RC n c0 z ⟨g.l,-1,g.s,1,d.t⟩ ⟨d.t,-1,d.s||g.s,d.f⟩ of (en++[d.t]):=by
 obtain⟨sq,l0,l1,he,ol,e1,e2,cl,lt,bt,rp,sc,sv,fl,fn,bc,pl,pb⟩:=h
 have ht:=bt hd
 have hg:g.t≠-1:=fun e=>hd (ht.trans e)
 obtain⟨h1,h2⟩:=e2 hg
 have hl:en.length<of.length:=(List.getElem?_eq_some_iff.1 h2).1
 have ho:z.o=true:=by
  cases h:z.o with
  | true=>rfl
  | false=>have:=cl h;omega
 have hz:g.l=z.q:=by
  rcases Decidable.em (g.l<z.q) with h | h
  ·exact absurd (lt h) hg
  ·omega
 have hs:d.s=false:=by
  cases h:d.s with
  | false=>rfl
  | true=>exact absurd (sv h).2.2.2.1 hg
 have hfl:=fl hg
 have hsc:=(sc ho).2.2.2.2
 have len:((en++[d.t]).length:Int)=en.length+1:=by simp
 have hgd:of.getD en.length 0=d.t:=by rw[List.getD_eq_getElem?_getD,h2,ht];rfl
 refine⟨sq,l0,l1,take_succ' he (by rw[ht];exact h2),by simp only[List.length_append,List.length_singleton];omega,fun _=>by rw[len];exact h1,fun h=>absurd rfl h,fun h=>(by rw[ho] at h;cases h),fun _=>rfl,fun h=>absurd rfl h,fun _=>rfl,sc,fun h=>?_,fun h=>absurd rfl h,fun _ _ _ h=>?_,?_,pl,?_⟩
 ·rw[hs,hfl] at h
  exact⟨ho,hz,by simpa using h,rfl,(fun h=>absurd (show(1:Int)=2 from h) (by decide))⟩
 ·simp only[hs,hfl,Bool.false_or,beq_eq_false_iff_ne] at h
  rw[if_pos (by omega)]
 ·have:=(pl _ _ h2).2;simp only;omega
 ·rw[List.length_append,List.length_singleton,if_neg (by omega)]
  simp only[Nat.add_sub_cancel,hgd]
theorem RC.offer{n:NetD}{c0:Int}{z:SeD}{g:AgD}{d:BdD}{of en:List Int}(h:RC n c0 z g d of en)(ho:z.o=false){c f:Int}(hc:0≤c∧c<48)(hf:0≤f∧f≤1)(hp:folB n (if 0<of.length then of.getD (of.length-1) 0 else d.c) c=true):RC n c0 ⟨z.q+1,true,c,f⟩ g d (of++[c]) en:=by
 obtain⟨sq,l0,l1,he,ol,e1,e2,cl,lt,bt,rp,sc,sv,fl,fn,bc,pl,pb⟩:=h
 have hcl:=cl ho
 have ht:g.t = -1:=by
  rcases Decidable.em (g.t = -1) with h | h
  ·exact h
  ·obtain⟨h1,h2⟩:=e2 h
   have:=(List.getElem?_eq_some_iff.1 h2).1
   omega
 have h1:=e1 ht
 refine⟨by simp only[List.length_append,List.length_singleton];omega,by simp only;omega,by simp only;omega,?_,by simp only[List.length_append];omega,e1,fun h=>absurd ht h,(nomatch ·),fun _=>ht,bt,rp,fun _=>⟨?_,hc.1,hc.2,by simp only;omega,by simp only;omega⟩,fun h=>?_,fun h=>absurd ht h,fun _ h=>?_,bc,fun i c' h=>?_,?_⟩
 ·rw[List.take_append_of_le_length ol];exact he
 ·simp
 ·have:=(sv h).1;rw[ho] at this;cases this
 ·simp only at h;omega
 ·rcases Nat.lt_or_ge i of.length with hi | hi
  ·rw[List.getElem?_append_left hi] at h
   rw[List.getD_eq_getElem?_getD,List.getElem?_append_left (by omega),←List.getD_eq_getElem?_getD]
   exact pl i c' h
  ·have hi':i=of.length:=by
    have:=(List.getElem?_eq_some_iff.1 h).1
    simp only[List.length_append,List.length_singleton] at this;omega
   subst hi'
   rw[List.getElem?_concat_length] at h
   cases h
   refine⟨?_,hc.1⟩
   by_cases h0:of.length=0
   ·rw[if_pos h0]
    rw[if_neg (by omega),pb,if_pos (by omega)] at hp;exact hp
   ·rw[if_neg h0,List.getD_eq_getElem?_getD,List.getElem?_append_left (by omega),←List.getD_eq_getElem?_getD]
    rw[if_pos (by omega)] at hp;exact hp
 ·by_cases h0:en.length=0
  ·rw[if_pos h0];rw[if_pos h0] at pb;exact pb
  ·rw[if_neg h0,List.getD_eq_getElem?_getD,List.getElem?_append_left (by omega),←List.getD_eq_getElem?_getD]
   rw[if_neg h0] at pb;exact pb
theorem send_mem{l:List FrD}{y f:FrD}(h:f∈sendF l y):f∈l∨f=y:=by
 unfold sendF at h
 split at h
 ·cases h
 ·split at h
  ·rcases List.mem_append.1 h with h | h
   ·exact .inl h
   ·exact .inr (List.mem_singleton.1 h)
  ·exact .inl h
theorem send_len{l:List FrD}{y:FrD}(h:l.length≤6):(sendF l y).length≤6:=by
 unfold sendF
 rw[if_neg (by omega)]
 split
 ·rw[List.length_append,List.length_singleton];omega
 ·exact h
theorem all_mem{m:List FrD}:∀{l:List FrD} {f:FrD},f∈allF l m→f∈l∨f∈m:=by
 unfold allF
 induction m with
 | nil=>intro l f h;exact .inl h
 | cons y m ih=>
  intro l f h
  rcases ih h with h | h
  ·rcases send_mem h with h | h
   ·exact .inl h
   ·exact .inr (by rw[h];exact List.mem_cons_self)
  ·exact .inr (List.mem_cons_of_mem _ h)
theorem all_len{m:List FrD}:∀{l:List FrD},l.length≤6→(allF l m).length≤6:=by
 unfold allF
 induction m with
 | nil=>intro l h;exact h
 | cons y m ih=>intro l h;exact ih (send_len h)
theorem del_mem{l:List FrD}{q:Int}{f:FrD}(h:f∈(delO l q).l):f∈l:=by
 unfold delO at h
 cases hh:hasF l q with
 | false=>rw[hh] at h;cases h
 | true=>
  rw[hh] at h
  rcases List.mem_append.1 h with h | h
  ·exact List.mem_of_mem_take h
  ·exact List.mem_of_mem_drop h
theorem del_len{l:List FrD}{q:Int}:(delO l q).l.length≤l.length:=by
 unfold delO
 cases hh:hasF l q with
 | false=>exact Nat.zero_le _
 | true=>
  show(l.take q.toNat++l.drop (q.toNat+1)).length≤_
  rw[List.length_append,List.length_take,List.length_drop];omega
theorem del_x{l:List FrD}{q:Int}(h:(delO l q).o=true):(delO l q).x∈l:=by
 unfold delO at h ⊢
 cases hh:hasF l q with
 | false=>rw[hh] at h;cases h
 | true=>
  obtain⟨h2,h0,h1⟩:=hasF_iff.1 hh
  have hl:q.toNat<l.length:=by omega
  show l.getD q.toNat fr0∈l
  rw[List.getD_eq_getElem?_getD,List.getElem?_eq_getElem hl]
  exact List.getElem_mem hl
theorem dbl_mem{l:List FrD}{q:Int}{f:FrD}(h:f∈(dblO l q).l):f∈l:=by
 unfold dblO at h
 cases hh:hasF l q with
 | false=>rw[hh] at h;cases h
 | true=>
  rw[hh] at h
  obtain⟨h2,h0,h1⟩:=hasF_iff.1 hh
  have hl:q.toNat<l.length:=by omega
  rcases send_mem h with h | h
  ·exact h
  ·rw[h,List.getD_eq_getElem?_getD,List.getElem?_eq_getElem hl]
   exact List.getElem_mem hl
theorem dbl_len{l:List FrD}{q:Int}(h:l.length≤6):(dblO l q).l.length≤6:=by
 unfold dblO
 cases hh:hasF l q with
 | false=>exact Nat.zero_le _
 | true=>exact send_len h
structure RI(n:NetD)(c0:Int)(x:RaD):Prop where
 c:RC n c0 x.s x.a x.b x.of x.en
 dn:∀f∈x.dn,DnOk x.s x.of x.en f
 up:∀f∈x.up,UpOk x.s x.en x.b.s f
 dl:x.dn.length≤6
 ul:x.up.length≤6
theorem dn_ack{z:SeD}{of en:List Int}{t:Bool}{f:FrD}(h:UpOk z en t f)(hk:f.k=2)(hz:z.o=true→f.q=z.q→z.f=1∧f.f≠2):DnOk z of en ⟨3,0,f.q,0,f.f⟩:=
 ⟨h.1,fun h=>absurd (show(3:Int)=1 from h) (by decide),fun _=>⟨(h.2 hk).1,hz⟩⟩
theorem rep_ok{n:NetD}{c0:Int}{z:SeD}{g:AgD}{d:BdD}{of en:List Int}(h:RC n c0 z g d of en)(hr:g.r≠0)(q:Int):UpOk z en d.s (repF g q):=by
 have ht:=h.rp hr
 have h1:=h.e1 ht
 refine⟨by show 0≤g.l;omega,fun _=>⟨by show g.l≤_;omega,fun hs _=>(h.sv hs).2.2.2.2⟩⟩
theorem hea_ok{n:NetD}{c0:Int}{z:SeD}{g:AgD}{d:BdD}{of en:List Int}{f:FrD}(h:RC n c0 z g d of en)(hf:DnOk z of en f):RC n c0 z (heO g 0 f).a d of en∧∀y∈(heO g 0 f).l,UpOk z en d.s y:=by
 unfold heO
 cases frV f&&f.r==0 with
 | false=>exact⟨h,fun y hy=>nomatch hy⟩
 | true=>
  show RC n c0 z (heaO g f).a d of en∧∀y∈(heaO g f).l,UpOk z en d.s y
  unfold heaO
  cases hk:f.k==1 with
  | true=>
   have hk:=eq_of_beq hk
   refine⟨?_,fun y hy=>?_⟩
   ·show RC n c0 z (bif decide (g.l<f.q) then _ else g) d of en
    by_cases hl:g.l<f.q
    ·rw[dec_t hl];exact h.accept hf hk hl
    ·rw[dec_f hl];exact h
   ·rw[List.mem_singleton.1 hy]
    exact⟨hf.1,fun h=>absurd (show(3:Int)=2 from h) (by decide)⟩
  | false=>
   cases hc:f.k==3&&(!(g.r==0)&&(f.q==g.l&&f.f==g.r)) with
   | false=>exact⟨h,fun y hy=>nomatch hy⟩
   | true=>
    simp only[Bool.and_eq_true,beq_iff_eq] at hc
    exact⟨h.acked hf hc.1 hc.2.2.1 hc.2.2.2,fun y hy=>nomatch hy⟩
theorem cnf_ok{n:NetD}{c0:Int}{z:SeD}{g:AgD}{d:BdD}{of en:List Int}{f:FrD}{dn:List FrD}(h:RC n c0 z g d of en)(hd:∀f∈dn,DnOk z of en f)(hl:dn.length≤6)(hf:UpOk z en d.s f):
  RC n c0 (cnfO z dn f).s g d of en∧(∀y∈(cnfO z dn f).dn,DnOk (cnfO z dn f).s of en y)∧(cnfO z dn f).dn.length≤6∧(cnfO z dn f).s.q=z.q:=by
 unfold cnfO
 cases hk:f.k==2 with
 | false=>exact⟨h,hd,hl,rfl⟩
 | true=>
  have hk:=eq_of_beq hk
  cases hc:z.f==0||f.f==2 with
  | false=>
   simp only[Bool.or_eq_false_iff,beq_eq_false_iff_ne] at hc
   refine⟨h,fun y hy=>?_,send_len hl,rfl⟩
   rcases send_mem hy with hy | hy
   ·exact hd y hy
   ·rw[hy];exact dn_ack hf hk fun ho _=>⟨((h.sc ho).2.2.2.2).resolve_left hc.1,hc.2⟩
  | true=>
   have hc':z.f=0∨f.f=2:=by simpa using hc
   show RC n c0 (cfmO z f.q).s g d of en∧(∀y∈sendF dn ⟨3,0,f.q,0,f.f⟩,DnOk (cfmO z f.q).s of en y)∧(sendF dn ⟨3,0,f.q,0,f.f⟩).length≤6∧(cfmO z f.q).s.q=z.q
   unfold cfmO
   cases hq:z.o&&f.q==z.q with
   | false=>
    refine⟨h,fun y hy=>?_,send_len hl,rfl⟩
    rcases send_mem hy with hy | hy
    ·exact hd y hy
    ·rw[hy];exact dn_ack hf hk fun ho he=>by show z.f=1∧_;rw[show z.o=true from ho,show f.q=z.q from he] at hq;simp at hq
   | true=>
    simp only[Bool.and_eq_true,beq_iff_eq] at hq
    refine⟨h.close hf hk hq.2 hc',fun y hy=>?_,send_len hl,rfl⟩
    rcases send_mem hy with hy | hy
    ·obtain⟨a,b,c⟩:=hd y hy
     exact⟨a,b,fun h=>⟨(c h).1,fun h=>nomatch h⟩⟩
    ·rw[hy];exact dn_ack (z:=⟨z.q,false,z.c,z.f⟩) hf hk fun ho _=>nomatch ho
theorem trd_ok{n:NetD}{c0:Int}{x:RaD}(h:RI n c0 x)(y:EvD)(hy:(y.k==3)=false):RI n c0 ⟨(trdO x.s x.a x.b x.dn x.up y).z,(trdO x.s x.a x.b x.dn x.up y).g,x.b,(trdO x.s x.a x.b x.dn x.up y).dn,(trdO x.s x.a x.b x.dn x.up y).up,x.of,x.en⟩∨(trdO x.s x.a x.b x.dn x.up y).o=false:=by
 obtain⟨z,g,d,dn,up,of,en⟩:=x
 obtain⟨hc,hd,hu,hdl,hul⟩:=h
 dsimp only at hc hd hu hdl hul ⊢
 unfold trdO
 cases y.k==4||y.k==5 with
 | true=>exact .inl ⟨hc,fun f hf=>hd f (del_mem hf),hu,Nat.le_trans del_len hdl,hul⟩
 | false=>cases y.k==6||y.k==7 with
  | true=>exact .inl ⟨hc,fun f hf=>hd f (dbl_mem hf),hu,dbl_len hdl,hul⟩
  | false=>cases ho:(delO dn y.b).o with
   | false=>exact .inr rfl
   | true=>
    have hf:=hd _ (del_x ho)
    have hd':∀f∈(delO dn y.b).l,DnOk z of en f:=fun f hf=>hd f (del_mem hf)
    have hdl':(delO dn y.b).l.length≤6:=Nat.le_trans del_len hdl
    rw[hy]
    cases d.f with
    | true=>exact .inl ⟨hc,hd',hu,hdl',hul⟩
    | false=>
     obtain⟨h1,h2⟩:=hea_ok hc hf
     exact .inl ⟨h1,hd',fun f hf=>(all_mem hf).elim (hu f) (h2 f),hdl',all_len hul⟩
theorem tru_ok{n:NetD}{c0:Int}{x:RaD}(h:RI n c0 x)(y:EvD)(hy:(y.k==3)=true∨(y.k==5)=true∨(y.k==7)=true):RI n c0 ⟨(truO x.s x.a x.b x.dn x.up y).z,(truO x.s x.a x.b x.dn x.up y).g,x.b,(truO x.s x.a x.b x.dn x.up y).dn,(truO x.s x.a x.b x.dn x.up y).up,x.of,x.en⟩∨(truO x.s x.a x.b x.dn x.up y).o=false:=by
 obtain⟨z,g,d,dn,up,of,en⟩:=x
 obtain⟨hc,hd,hu,hdl,hul⟩:=h
 dsimp only at hc hd hu hdl hul ⊢
 unfold truO
 cases h45:y.k==4||y.k==5 with
 | true=>exact .inl ⟨hc,hd,fun f hf=>hu f (del_mem hf),hdl,Nat.le_trans del_len hul⟩
 | false=>cases h67:y.k==6||y.k==7 with
  | true=>exact .inl ⟨hc,hd,fun f hf=>hu f (dbl_mem hf),hdl,dbl_len hul⟩
  | false=>cases ho:(delO up y.b).o with
   | false=>exact .inr rfl
   | true=>
    have hy':(y.k==3)=true:=by
     simp only[Bool.or_eq_false_iff] at h45 h67
     rcases hy with h | h | h
     ·exact h
     ·rw[h45.2] at h;cases h
     ·rw[h67.2] at h;cases h
    rw[hy']
    have hf:=hu _ (del_x ho)
    obtain⟨h1,h2,h3,h4⟩:=cnf_ok hc hd hdl hf
    refine .inl ⟨h1,h2,fun f hf=>?_,h3,Nat.le_trans del_len hul⟩
    obtain⟨a,b⟩:=hu f (del_mem hf)
    exact⟨a,fun hk=>⟨(b hk).1,fun t e=>(b hk).2 t (e.trans h4)⟩⟩
theorem st_ok{n:NetD}{c0:Int}{x:RaD}(h:RI n c0 x)(y:EvD):RI n c0 (stO n x y).x∨(stO n x y).o=false:=by
 unfold stO
 cases h3:y.k==3||(y.k==5||y.k==7) with
 | true=>exact tru_ok h y (by simpa using h3)
 | false=>
  simp only[Bool.or_eq_false_iff] at h3
  cases y.k==2||(y.k==4||y.k==6) with
  | true=>exact trd_ok h y h3.1
  | false=>
   obtain⟨z,g,d,dn,up,of,en⟩:=x
   obtain⟨hc,hd,hu,hdl,hul⟩:=h
   dsimp only at hc hd hu hdl hul ⊢
   cases y.k==8 with
   | true=>
    refine .inl ⟨hc,fun f hf=>?_,fun f hf=>?_,?_,all_len hul⟩
    ·have hf:f∈(bif (outO z 0).o then sendF dn (outO z 0).x else dn):=hf
     cases ho:(outO z 0).o with
     | false=>rw[ho] at hf;exact hd f hf
     | true=>
      rw[ho] at hf
      rcases send_mem hf with hf | hf
      ·exact hd f hf
      ·have hz:z.o=true:=by unfold outO at ho;cases hz:z.o with | true=>rfl | false=>rw[hz] at ho;cases ho
       obtain⟨s1,s2,s3,s4,s5⟩:=hc.sc hz
       have e:(outO z 0).x=⟨1,0,z.q,z.c,z.f⟩:=by unfold outO;rw[hz];rfl
       rw[hf,e]
       have sq:=hc.sq
       refine⟨by simp only;omega,fun _=>⟨Int.le_refl _,s4,rfl,?_,s2,s3,s5,fun _=>rfl⟩,fun h=>absurd (show(1:Int)=3 from h) (by decide)⟩
       show of[(z.q-1).toNat]?=some z.c
       rw[show (z.q-1).toNat=of.length-1 by omega];exact s1
    ·rcases all_mem hf with hf | hf
     ·exact hu f hf
     ·unfold agaO at hf
      cases hr:g.r==0 with
      | true=>rw[hr] at hf;cases hf
      | false=>
       rw[hr] at hf
       cases hdf:d.f with
       | true=>rw[hdf] at hf;cases hf
       | false=>
        rw[hdf] at hf
        rw[List.mem_singleton.1 hf]
        exact rep_ok hc (by simpa using hr) 0
    ·show(bif (outO z 0).o then sendF dn (outO z 0).x else dn).length≤6
     cases (outO z 0).o with
     | true=>exact send_len hdl
     | false=>exact hdl
   | false=>cases y.k==9 with
    | true=>
     rcases driO_c n g 0 d with e | ⟨⟨h1,h2,h3,h4,h5,h6⟩,e⟩ | ⟨⟨h1,h2,h3⟩,e⟩
     ·rw[e]
      exact .inr (by show(bif agB g g&&bdB d d then (_:SoD) else _).o=false;rw[agB_self,bdB_self];rfl)
     ·rw[e]
      cases agB g g&&bdB ⟨d.c,g.t,d.s,d.f⟩ d with
      | true=>exact .inr rfl
      | false=>
       have ht:(g.t == -1)=false:=by simpa using h5
       refine .inl ?_
       show RI n c0 ⟨z,g,⟨d.c,g.t,d.s,d.f⟩,dn,up,of,bif g.t == -1 then en++[d.c] else en⟩
       rw[ht]
       exact⟨hc.start,hd,hu,hdl,hul⟩
     ·rw[e]
      cases agB ⟨g.l,-1,g.s,1,d.t⟩ g&&bdB ⟨d.t,-1,d.s||g.s,d.f⟩ d with
      | true=>exact .inr rfl
      | false=>
       refine .inl ?_
       show RI n c0 ⟨z,⟨g.l,-1,g.s,1,d.t⟩,⟨d.t,-1,d.s||g.s,d.f⟩,dn,allF up [repF ⟨g.l,-1,g.s,1,d.t⟩ 0],of,en++[d.t]⟩
       have hc':=hc.arrive h1
       have hl:((en++[d.t]).length:Int)=en.length+1:=by simp
       have sq:=hc.sq
       have ho:(en++[d.t]).length≤of.length:=hc'.ol
       refine⟨hc',fun f hf=>?_,fun f hf=>?_,hdl,all_len hul⟩
       ·obtain⟨a,b,c⟩:=hd f hf
        exact⟨a,b,fun h=>⟨by have:=(c h).1;simp only;omega,(c h).2⟩⟩
       ·rcases all_mem hf with hf | hf
        ·obtain⟨a,b⟩:=hu f hf
         refine⟨a,fun hk=>⟨by have:=(b hk).1;simp only;omega,fun _ hq=>?_⟩⟩
         have:=(b hk).1;simp only at hq;omega
        ·rw[List.mem_singleton.1 hf]
         exact rep_ok hc' (by show(1:Int)≠0;decide) 0
    | false=>cases y.k==10 with
     | true=>
      cases hb:bdB (finO g 0 d).b d with
      | true=>exact .inr rfl
      | false=>
       refine .inl ?_
       show RI n c0 ⟨z,(finO g 0 d).a,(finO g 0 d).b,dn,allF up (finO g 0 d).l,of,en⟩
       unfold finO at hb ⊢
       cases hcc:d.c == -1 with
       | true=>rw[hcc] at hb;exact absurd (show bdB d d=false from hb) (by rw[bdB_self];decide)
       | false=>
        rw[hcc] at hb
        cases hs:d.s&&!d.f with
        | false=>rw[hs] at hb;exact absurd (show bdB d d=false from hb) (by rw[bdB_self];decide)
        | true=>
         simp only[Bool.and_eq_true] at hs
         have hc':=hc.serve hs.1 d.c
         refine⟨hc',hd,fun f hf=>?_,hdl,all_len hul⟩
         rcases all_mem hf with hf | hf
         ·obtain⟨a,b⟩:=hu f hf
          exact⟨a,fun hk=>⟨(b hk).1,fun h=>nomatch h⟩⟩
         ·rw[List.mem_singleton.1 hf]
          exact rep_ok hc' (by show(2:Int)≠0;decide) 0
     | false=>cases y.k==11 with
      | true=>exact .inl ⟨hc.fault true,hd,hu,hdl,hul⟩
      | false=>exact .inr rfl
theorem RI.ev{n:NetD}{c0:Int}{x:RaD}(h:RI n c0 x)(y:EvD):RI n c0 (evO n x y).x:=by
 unfold evO
 cases y.a != 0 with
 | true=>exact h
 | false=>
  cases ho:(stO n x y).o with
  | true=>exact(st_ok h y).resolve_right (by rw[ho];decide)
  | false=>exact h
theorem st_of(n:NetD)(x:RaD)(y:EvD):(stO n x y).x.of=x.of:=by
 unfold stO
 cases y.k==3||(y.k==5||y.k==7) with
 | true=>rfl
 | false=>cases y.k==2||(y.k==4||y.k==6) with
  | true=>rfl
  | false=>cases y.k==8 with
   | true=>rfl
   | false=>cases y.k==9 with
    | true=>cases agB (driO n x.a 0 x.b).a x.a&&bdB (driO n x.a 0 x.b).b x.b<;>rfl
    | false=>cases y.k==10 with
     | true=>cases bdB (finO x.a 0 x.b).b x.b<;>rfl
     | false=>cases y.k==11<;>rfl
theorem ev_of(n:NetD)(x:RaD)(y:EvD):(evO n x y).x.of=x.of:=by
 unfold evO
 cases y.a != 0 with
 | true=>rfl
 | false=>cases (stO n x y).o with
  | true=>exact st_of n x y
  | false=>rfl
theorem offO_ok{z:SeD}{c f:Int}(h:(offO z c f).e=0):z.o=false∧(0≤c∧c<48)∧(0≤f∧f≤1)∧(offO z c f).s=⟨z.q+1,true,c,f⟩:=by
 unfold offO at h ⊢
 by_cases h1:c<0
 ·rw[dec_t h1] at h;cases h
 by_cases h2:48≤c
 ·rw[dec_f h1,dec_t h2] at h;cases h
 by_cases h3:f<0
 ·rw[dec_f h1,dec_f h2,dec_t h3] at h;cases h
 by_cases h4:1<f
 ·rw[dec_f h1,dec_f h2,dec_f h3,dec_t h4] at h;cases h
 rw[dec_f h1,dec_f h2,dec_f h3,dec_f h4] at h ⊢
 cases ho:z.o with
 | true=>rw[ho] at h;cases h
 | false=>exact⟨rfl,by omega,by omega,rfl⟩
theorem ofd_ok{n:NetD}{x:RaD}{c f:Int}(h:(ofdO n x c f).e=0):(offO x.s c f).e=0∧folB n (plO x) c=true∧(ofdO n x c f).x=⟨(offO x.s c f).s,x.a,x.b,sendF x.dn (outO (offO x.s c f).s 0).x,x.up,x.of++[c],x.en⟩:=by
 unfold ofdO at h ⊢
 cases he:(offO x.s c f).e != 0 with
 | true=>rw[he] at h;exact absurd h (by simpa using he)
 | false=>
  rw[he] at h
  cases hf:folB n (plO x) c with
  | false=>rw[hf] at h;cases h
  | true=>exact⟨by simpa using he,rfl,rfl⟩
theorem RI.offer{n:NetD}{c0:Int}{x:RaD}(h:RI n c0 x){c f:Int}(he:(ofdO n x c f).e=0):RI n c0 (ofdO n x c f).x∧(ofdO n x c f).x.s.q=x.s.q+1:=by
 obtain⟨h1,h2,h3⟩:=ofd_ok he
 obtain⟨g1,g2,g3,g4⟩:=offO_ok h1
 obtain⟨z,g,d,dn,up,of,en⟩:=x
 obtain⟨hc,hd,hu,hdl,hul⟩:=h
 dsimp only at hc hd hu hdl hul h1 h2 h3 g1 g2 g3 g4 ⊢
 rw[h3,g4]
 have sq:=hc.sq
 have ol:=hc.ol
 refine⟨⟨hc.offer g1 g2 g3 h2,fun y hy=>?_,fun y hy=>?_,send_len hdl,hul⟩,rfl⟩
 ·rcases send_mem hy with hy | hy
  ·obtain⟨a,b,e⟩:=hd y hy
   refine⟨a,fun hk=>?_,fun hk=>⟨(e hk).1,fun _ hq=>?_⟩⟩
   ·obtain⟨k1,k2,k3,k4,k5,k6,k7,k8⟩:=b hk
    exact⟨by simp only;omega,k2,k3,by rw[List.getElem?_append_left (List.getElem?_eq_some_iff.1 k4).1];exact k4,k5,k6,k7,fun hq=>by simp only at hq;omega⟩
   ·have:=(e hk).1;simp only at hq;omega
  ·rw[hy]
   refine⟨by show 0≤z.q+1;omega,fun _=>⟨Int.le_refl _,by show 1≤z.q+1;omega,rfl,?_,g2.1,g2.2,by show f=0∨f=1;omega,fun _=>rfl⟩,fun h=>absurd (show(1:Int)=3 from h) (by decide)⟩
   show(of++[c])[(z.q+1-1).toNat]?=some c
   rw[show (z.q+1-1).toNat=of.length by omega,List.getElem?_concat_length]
 ·obtain⟨a,b⟩:=hu y hy
  refine⟨a,fun hk=>⟨(b hk).1,fun ht=>?_⟩⟩
  have:=(hc.sv ht).1
  rw[g1] at this;cases this
theorem RI.new{n:NetD}{q:Int}(h:0≤q):RI n q (raN q):=by
 refine⟨⟨rfl,Int.le_refl _,by show(0:Int)≤0+1;decide,rfl,Nat.le_refl _,fun _=>rfl,fun h=>absurd rfl h,fun _=>rfl,fun _=>rfl,fun h=>absurd rfl h,fun h=>absurd rfl h,(nomatch ·),(nomatch ·),fun h=>absurd rfl h,(nomatch ·),h,fun i c h=>(nomatch h),rfl⟩,fun f hf=>(nomatch hf),fun f hf=>(nomatch hf),Nat.zero_le _,Nat.zero_le _⟩
theorem RI.lio{n:NetD}{c0:Int}{x:RaD}(h:RI n c0 x)(hq:x.s.q≤1000000):LiO x:=by
 have sq:=h.c.sq
 have ol:=h.c.ol
 have hd:=h.dl
 have hu:=h.ul
 exact⟨⟨⟨by omega,by omega,by omega,by omega⟩,by omega,hq⟩,fun f hf=>(h.dn f hf).1⟩
theorem RI.evq{n:NetD}{c0:Int}{x:RaD}(h:RI n c0 x)(y:EvD):(evO n x y).x.s.q=x.s.q:=by
 rw[(h.ev y).c.sq,h.c.sq,ev_of]
theorem new_ok{n:NetD}(hv:ValidN n){q:Int}(h0:0≤q)(h1:q<(celN n:Int)):newO n q=⟨raN q,0⟩:=by
 unfold newO
 rw[if_pos (ckE_of hv h0 h1)]
theorem lif_run{L:List Int}{kk:Nat}{p:Int}{n:NetD}(hn:looM L kk 6=n)(hv:ValidN n)(hrw:Rows n.nx){c0:Int}{K:Nat}(hK:K≤6000)(hp:p≤1000):∀(m k:Nat) (t:Nat) (x:RaD),(k:Int)+m=p→t≤K+10 * k→RI n c0 x→x.s.q≤k→
  ∃q:RaD×Nat,RI n c0 q.1∧q.1.s.q≤p∧q.2≤K+10 * (k+m)∧MReach (lifStep L kk p) (some (.inl (.l0 (k:Int) t x))) ([some (tapeB L q.2)],.tup [netA n,raA q.1]):=by
 intro m
 induction m with
 | zero=>
  intro k t x hk ht hx hq
  refine⟨(x,t),hx,by simp only;omega,by simp only;omega,.to (show lifS0 L kk p (k:Int) t x=_ from ?_) (.ret _)⟩
  unfold lifS0
  rw[br_f (dec_f (by omega)),hn];rfl
 | succ m ih=>
  intro k t x hk ht hx hq
  have sq:=hx.c.sq
  have go:∀t' x',t'≤K+10 * (k+1)→RI n c0 x'→x'.s.q≤k+1→∃q:RaD×Nat,RI n c0 q.1∧q.1.s.q≤p∧q.2≤K+10 * (k+(m+1))∧MReach (lifStep L kk p) (some (.inl (.l0 (i64.wrap ((k:Int)+1)) t' x'))) ([some (tapeB L q.2)],.tup [netA n,raA q.1]):=by
   intro t' x' h1 h2 h3
   obtain⟨q,a,b,c,d⟩:=ih (k+1) t' x' (by omega) h1 h2 (by omega)
   rw[zW k (by omega)]
   exact⟨q,a,b,by omega,d⟩
  suffices hs:∃o,lifS0 L kk p (k:Int) t x=o∧∃q:RaD×Nat,RI n c0 q.1∧q.1.s.q≤p∧q.2≤K+10 * (k+(m+1))∧MReach (lifStep L kk p) o ([some (tapeB L q.2)],.tup [netA n,raA q.1]) by
   obtain⟨o,h1,q,a,b,c,d⟩:=hs
   exact⟨q,a,b,c,.to (show lifS0 L kk p (k:Int) t x=o from h1) d⟩
  unfold lifS0
  rw[br_t (dec_t (by omega)),gu_t (by omega),hn]
  obtain⟨e1,_⟩:=evt_spec (L:=L) (kk:=t+1) (by omega)
  obtain⟨e2,_⟩:=ofe_spec (L:=L) (kk:=t+1) (n:=n) (x:=x) (by omega) hv hrw (by omega)
  have hl:=hx.lio (by omega)
  cases nextZ L t 3==0 with
  | true=>
   rw[br_t rfl,gu_t (by omega),gu_t hv,gu_t hrw,gu_t (by omega),gu_t hl.1,ofJ_eq]
   cases he:(ofdO n x (ofeC L (t+1) n x) (ofeF L (t+1) n x)).e==0 with
   | true=>
    obtain⟨h1,h2⟩:=hx.offer (eq_of_beq he)
    exact⟨_,rfl,go _ _ (by omega) h1 (by omega)⟩
   | false=>exact⟨_,rfl,go _ _ (by omega) hx (by omega)⟩
  | false=>
   rw[br_f rfl,gu_t (by omega),gu_t hrw,gu_t hl,evJ_eq]
   exact⟨_,rfl,go _ _ (by omega) (hx.ev _) (by rw[hx.evq];omega)⟩
theorem lif_exP(L:List Int)(kk:Nat)(p:Int):∃q:RaD×Nat,kk≤5000→0≤p→p≤1000→(∃c0,RI (looM L kk 6) c0 q.1)∧q.1.s.q≤p∧q.2≤kk+20000∧CT Try.prog 35 [some (tapeB L kk)] [.ptr 0 0 0,.int .i64 p] [some (tapeB L q.2)] (.tup [netA (looM L kk 6),raA q.1]):=by
 by_cases h:kk≤5000∧0≤p∧p≤1000
 ·obtain⟨hk,hp0,hp1⟩:=h
  obtain⟨hlo,hlk,_⟩:=loo_spec (L:=L) hk (most:=6) (by decide)
  have hcel:=hlo.v.cel
  have hnb:=hlo.v.nb24
  have hz:=nextZ_rng L (looK L kk 6) (iN (celN (looM L kk 6))) (by simp only[iN];omega) (by simp only[iN];omega)
  simp only[iN] at hz
  obtain⟨q,a,b,c,d⟩:=lif_run rfl hlo.v hlo.rows (K:=looK L kk 6+1) (by omega) hp1 p.toNat 0 (looK L kk 6+1) (raN (nextZ L (looK L kk 6) (celN (looM L kk 6)))) (by omega) (by omega) (RI.new hz.1) (Int.le_refl _)
  have he:lifEn L kk p=some (.inl (.l0 ((0:Nat):Int) (looK L kk 6+1) (raN (nextZ L (looK L kk 6) (celN (looM L kk 6)))))):=by
   unfold lifEn
   rw[gu_t hk,gu_t hlo.v,gu_t (by omega),gu_t hlo.rows,nwJ_eq]
   simp only[iN]
   rw[new_ok hlo.v hz.1 hz.2];rfl
  exact⟨q,fun _ _ _=>⟨⟨_,a⟩,b,by omega,lif_ct L kk p (_,_) (by rw[he];exact d)⟩⟩
 ·exact⟨(ra0,0),fun a b c=>absurd ⟨a,b,c⟩ h⟩
@[irreducible] def lifM(L:List Int)(kk:Nat)(p:Int):RaD:=(Classical.choose (lif_exP L kk p)).1
@[irreducible] def lifK(L:List Int)(kk:Nat)(p:Int):Nat:=(Classical.choose (lif_exP L kk p)).2
theorem lif_spec{L:List Int}{kk:Nat}{p:Int}(h1:kk≤5000)(h2:0≤p)(h3:p≤1000):(∃c0,RI (looM L kk 6) c0 (lifM L kk p))∧(lifM L kk p).s.q≤p∧lifK L kk p≤kk+20000∧CT Try.prog 35 [some (tapeB L kk)] [.ptr 0 0 0,.int .i64 p] [some (tapeB L (lifK L kk p))] (.tup [netA (looM L kk 6),raA (lifM L kk p)]):=by
 unfold lifM lifK;exact Classical.choose_spec (lif_exP L kk p) h1 h2 h3
theorem lif_c(L:List Int)(kk:Nat)(p:Int)(h1:kk≤5000)(h2:0≤p)(h3:p≤1000):CT Try.prog 35 [some (tapeB L kk)] [.ptr 0 0 0,.int .i64 p] [some (tapeB L (lifK L kk p))] (.tup [netA (looM L kk 6),raA (lifM L kk p)]):=(lif_spec h1 h2 h3).2.2.2
theorem ev_dbl{n:NetD}{x:RaD}{f:FrD}(h:x.dn=[f]):(evO n x ⟨6,0,0⟩).x=⟨x.s,x.a,x.b,[f,f],x.up,x.of,x.en⟩:=by
 obtain⟨z,g,d,dn,up,of,en⟩:=x
 subst h;rfl
theorem ev_dn{n:NetD}{x:RaD}{f:FrD}{l:List FrD}(h:x.dn=f::l)(hl:l.length≤5)(hf:x.b.f=false):(evO n x ⟨2,0,0⟩).x=⟨x.s,(heO x.a 0 f).a,x.b,l,allF x.up (heO x.a 0 f).l,x.of,x.en⟩:=by
 obtain⟨z,g,⟨dc,dt,ds,df⟩,dn,up,of,en⟩:=x
 dsimp only at h hf;subst h;subst hf
 have hh:hasF (f::l) 0=true:=hasF_iff.2 ⟨by simp only[List.length_cons];omega,Int.le_refl _,by simp only[List.length_cons];omega⟩
 have hd:delO (f::l) 0=⟨f,l,true⟩:=by unfold delO;rw[hh];rfl
 have ht:trdO z g ⟨dc,dt,ds,false⟩ (f::l) up ⟨2,0,0⟩=⟨z,(heO g 0 f).a,l,allF up (heO g 0 f).l,true⟩:=by
  unfold trdO;simp only[hd];rfl
 have hs:stO n ⟨z,g,⟨dc,dt,ds,false⟩,f::l,up,of,en⟩ ⟨2,0,0⟩=⟨⟨z,(heO g 0 f).a,⟨dc,dt,ds,false⟩,l,allF up (heO g 0 f).l,of,en⟩,true⟩:=by
  show(⟨⟨(trdO z g ⟨dc,dt,ds,false⟩ (f::l) up ⟨2,0,0⟩).z,_,_,_,_,_,_⟩,_⟩:SoD)=_
  rw[ht]
 unfold evO
 rw[hs];rfl
theorem hea_new{g:AgD}{q c:Int}(hg:g.l<q)(hq:1≤q)(hc:0≤c∧c<48){f:Int}(hf:f=0∨f=1):heO g 0 ⟨1,0,q,c,f⟩=⟨⟨q,c,f==1,0,0⟩,[⟨3,0,q,0,0⟩]⟩:=by
 have h1:frV ⟨1,0,q,c,f⟩=true:=by
  have e1:(q==0)=false:=beq_eq_false_iff_ne.2 (by omega)
  have e2:decide (c<0)=false:=dec_f (by omega)
  have e3:decide (48≤c)=false:=dec_f (by omega)
  have e4:decide (f<0)=false:=dec_f (by omega)
  have e5:decide (2<f)=false:=dec_f (by omega)
  have e6:decide (f<2)=true:=dec_t (by omega)
  unfold frV knK
  simp only[e1,e2,e3,e4,e5,e6];rfl
 unfold heO
 rw[h1]
 show heaO g ⟨1,0,q,c,f⟩=_
 unfold heaO
 show(⟨bif decide (g.l<q) then ⟨q,c,f==1,0,0⟩ else g,[⟨3,0,q,0,0⟩]⟩:HeD)=_
 rw[dec_t hg];rfl
theorem hea_old{g:AgD}{q c:Int}(hg:g.l=q)(hq:1≤q)(hc:0≤c∧c<48){f:Int}(hf:f=0∨f=1):heO g 0 ⟨1,0,q,c,f⟩=⟨g,[⟨3,0,q,0,0⟩]⟩:=by
 have h1:frV ⟨1,0,q,c,f⟩=true:=by
  have e1:(q==0)=false:=beq_eq_false_iff_ne.2 (by omega)
  have e2:decide (c<0)=false:=dec_f (by omega)
  have e3:decide (48≤c)=false:=dec_f (by omega)
  have e4:decide (f<0)=false:=dec_f (by omega)
  have e5:decide (2<f)=false:=dec_f (by omega)
  have e6:decide (f<2)=true:=dec_t (by omega)
  unfold frV knK
  simp only[e1,e2,e3,e4,e5,e6];rfl
 unfold heO
 rw[h1]
 show heaO g ⟨1,0,q,c,f⟩=_
 unfold heaO
 show(⟨bif decide (g.l<q) then ⟨q,c,f==1,0,0⟩ else g,[⟨3,0,q,0,0⟩]⟩:HeD)=_
 rw[dec_f (by omega)];rfl
theorem ev_go{n:NetD}{x:RaD}(h1:x.b.t = -1)(h2:x.b.c≠-1)(h3:x.b.f=false)(h4:x.b.s=false)(h5:x.a.t≠-1)(h6:folB n x.b.c x.a.t=true):evO n x ⟨9,0,0⟩=⟨⟨x.s,x.a,⟨x.b.c,x.a.t,false,false⟩,x.dn,x.up,x.of,x.en⟩,true⟩:=by
 obtain⟨z,g,⟨dc,dt,ds,df⟩,dn,up,of,en⟩:=x
 dsimp only at h1 h2 h3 h4 h5 h6;subst h1 h3 h4
 have hd:driO n g 0 ⟨dc,-1,false,false⟩=⟨g,⟨dc,g.t,false,false⟩,[]⟩:=by
  unfold driO
  rw[show (dc == -1)=false from beq_eq_false_iff_ne.2 h2,show(g.t == -1)=false from beq_eq_false_iff_ne.2 h5]
  simp only[h6];rfl
 have hb:bdB ⟨dc,g.t,false,false⟩ ⟨dc,-1,false,false⟩=false:=by
  have:(g.t == -1)=false:=beq_eq_false_iff_ne.2 h5
  simp[bdB,this]
 have hs:stO n ⟨z,g,⟨dc,-1,false,false⟩,dn,up,of,en⟩ ⟨9,0,0⟩=⟨⟨z,g,⟨dc,g.t,false,false⟩,dn,up,of,en⟩,true⟩:=by
  show(bif agB (driO n g 0 ⟨dc,-1,false,false⟩).a g&&bdB (driO n g 0 ⟨dc,-1,false,false⟩).b ⟨dc,-1,false,false⟩ then (⟨⟨z,g,⟨dc,-1,false,false⟩,dn,up,of,en⟩,false⟩:SoD) else
   ⟨⟨z,(driO n g 0 ⟨dc,-1,false,false⟩).a,(driO n g 0 ⟨dc,-1,false,false⟩).b,dn,allF up (driO n g 0 ⟨dc,-1,false,false⟩).l,of,bif (driO n g 0 ⟨dc,-1,false,false⟩).b.t == -1 then en++[(driO n g 0 ⟨dc,-1,false,false⟩).b.c] else en⟩,true⟩)=_
  rw[hd]
  dsimp only
  rw[hb,Bool.and_false,show(g.t == -1)=false from beq_eq_false_iff_ne.2 h5];rfl
 unfold evO
 rw[hs];rfl
theorem ev_in{n:NetD}{x:RaD}(h1:x.b.t≠-1)(h2:x.b.c≠-1)(h3:x.b.f=false):evO n x ⟨9,0,0⟩=⟨⟨x.s,⟨x.a.l,-1,x.a.s,1,x.b.t⟩,⟨x.b.t,-1,x.b.s||x.a.s,false⟩,x.dn,allF x.up [repF ⟨x.a.l,-1,x.a.s,1,x.b.t⟩ 0],x.of,x.en++[x.b.t]⟩,true⟩:=by
 obtain⟨z,g,⟨dc,dt,ds,df⟩,dn,up,of,en⟩:=x
 dsimp only at h1 h2 h3 ⊢;subst h3
 have hd:driO n g 0 ⟨dc,dt,ds,false⟩=⟨⟨g.l,-1,g.s,1,dt⟩,⟨dt,-1,ds||g.s,false⟩,[repF ⟨g.l,-1,g.s,1,dt⟩ 0]⟩:=by
  unfold driO
  rw[show (dc == -1)=false from beq_eq_false_iff_ne.2 h2,show(dt == -1)=false from beq_eq_false_iff_ne.2 h1];rfl
 have hb:bdB ⟨dt,-1,ds||g.s,false⟩ ⟨dc,dt,ds,false⟩=false:=by
  have:((-1:Int)==dt)=false:=beq_eq_false_iff_ne.2 (fun e=>h1 e.symm)
  simp[bdB,this]
 have hs:stO n ⟨z,g,⟨dc,dt,ds,false⟩,dn,up,of,en⟩ ⟨9,0,0⟩=⟨⟨z,⟨g.l,-1,g.s,1,dt⟩,⟨dt,-1,ds||g.s,false⟩,dn,allF up [repF ⟨g.l,-1,g.s,1,dt⟩ 0],of,en++[dt]⟩,true⟩:=by
  show(bif agB (driO n g 0 ⟨dc,dt,ds,false⟩).a g&&bdB (driO n g 0 ⟨dc,dt,ds,false⟩).b ⟨dc,dt,ds,false⟩ then (⟨⟨z,g,⟨dc,dt,ds,false⟩,dn,up,of,en⟩,false⟩:SoD) else
   ⟨⟨z,(driO n g 0 ⟨dc,dt,ds,false⟩).a,(driO n g 0 ⟨dc,dt,ds,false⟩).b,dn,allF up (driO n g 0 ⟨dc,dt,ds,false⟩).l,of,bif (driO n g 0 ⟨dc,dt,ds,false⟩).b.t == -1 then en++[(driO n g 0 ⟨dc,dt,ds,false⟩).b.c] else en⟩,true⟩)=_
  rw[hd]
  dsimp only
  rw[hb,Bool.and_false];rfl
 unfold evO
 rw[hs];rfl
theorem nx0_ne{n:NetD}(h:NetOk n)(hb:1<n.bs.length):∃c l,nxO n 0=c::l∧0≤c∧c<48∧folB n 0 c=true∧ckE n 0=0:=by
 have hcel:=h.v.cel
 have hk:ckE n 0=0:=ckE_of h.v (Int.le_refl _) (by omega)
 have hp:plF n 0=none:=by
  cases hp:plF n 0 with
  | none=>rfl
  | some i=>
   obtain⟨s,hs,_,h1,h2,_⟩:=plF_some hp
   have:=h.v.sb hs
   omega
 have hm:(((0+1) % n.bs.length:Nat):Int)∈nxO n 0:=by
  unfold nxO nxtL
  rw[if_pos hk,hp]
  exact List.mem_append.2 (.inl (h.rng hb 0 (by omega)))
 have hr:=nxtL_rng h.rows h.v (Int.le_refl 0) (show(0:Int)<(celN n:Int) by omega)
 cases e:nxO n 0 with
 | nil=>rw[e] at hm;cases hm
 | cons c l=>
  have hc:c∈nxO n 0:=by rw[e];exact List.mem_cons_self
  have hc':c∈nxtL n 0:=by unfold nxO at hc;rw[if_pos hk] at hc;exact hc
  have:=hr c hc'
  exact⟨c,l,rfl,by omega,by omega,by unfold folB;exact hasZ_mem.2 hc,hk⟩
def k8X(c:Int):Nat→RaD
 | 0=>⟨⟨1,true,c,0⟩,ag0,⟨0,-1,false,false⟩,[⟨1,0,1,c,0⟩],[],[c],[]⟩
 | 1=>⟨⟨1,true,c,0⟩,ag0,⟨0,-1,false,false⟩,[⟨1,0,1,c,0⟩,⟨1,0,1,c,0⟩],[],[c],[]⟩
 | 2=>⟨⟨1,true,c,0⟩,⟨1,c,false,0,0⟩,⟨0,-1,false,false⟩,[⟨1,0,1,c,0⟩],[⟨3,0,1,0,0⟩],[c],[]⟩
 | 3=>⟨⟨1,true,c,0⟩,⟨1,c,false,0,0⟩,⟨0,-1,false,false⟩,[],[⟨3,0,1,0,0⟩,⟨3,0,1,0,0⟩],[c],[]⟩
 | 4=>⟨⟨1,true,c,0⟩,⟨1,c,false,0,0⟩,⟨0,c,false,false⟩,[],[⟨3,0,1,0,0⟩,⟨3,0,1,0,0⟩],[c],[]⟩
 | _=>⟨⟨1,true,c,0⟩,⟨1,-1,false,1,c⟩,⟨c,-1,false,false⟩,[],[⟨3,0,1,0,0⟩,⟨3,0,1,0,0⟩,⟨2,0,1,c,1⟩],[c],[c]⟩
def k8E:List EvD:=[EvD.mk 6 0 0,EvD.mk 2 0 0,EvD.mk 2 0 0,EvD.mk 9 0 0,EvD.mk 9 0 0,EvD.mk 9 0 0]
theorem k8_step{n:NetD}{c:Int}(h0:0≤c)(h1:c<48)(hf:folB n 0 c=true)(i:Nat)(hi:i<6):(evO n (k8X c i) (k8E.getD i ⟨0,0,0⟩)).x=k8X c (i+1):=by
 match i,hi with
 | 0,_=>exact ev_dbl rfl
 | 1,_=>
  refine(ev_dn rfl (nL rfl) rfl).trans ?_
  rw[show (k8X c 1).a=ag0 from rfl,hea_new (by decide) (by decide) ⟨h0,h1⟩ (.inl rfl)];rfl
 | 2,_=>
  refine(ev_dn rfl (nL rfl) rfl).trans ?_
  rw[show (k8X c 2).a=⟨1,c,false,0,0⟩ from rfl,hea_old rfl (Int.le_refl 1) ⟨h0,h1⟩ (.inl rfl)];rfl
 | 3,_=>
  show(evO n (k8X c 3) ⟨9,0,0⟩).x=_
  rw[ev_go (x:=k8X c 3) rfl (by show(0:Int)≠-1;decide) rfl rfl (by show c≠-1;omega) hf];rfl
 | 4,_=>
  show(evO n (k8X c 4) ⟨9,0,0⟩).x=_
  rw[ev_in (x:=k8X c 4) (by show c≠-1;omega) (by show(0:Int)≠-1;decide) rfl];rfl
 | 5,_=>
  have hd:driO n ⟨1,-1,false,1,c⟩ 0 ⟨c,-1,false,false⟩=⟨⟨1,-1,false,1,c⟩,⟨c,-1,false,false⟩,[]⟩:=by
   unfold driO
   rw[show (c == -1)=false from beq_eq_false_iff_ne.2 (by omega)];rfl
  have hs:stO n (k8X c 5) ⟨9,0,0⟩=⟨k8X c 5,false⟩:=by
   show(bif agB (driO n ⟨1,-1,false,1,c⟩ 0 ⟨c,-1,false,false⟩).a ⟨1,-1,false,1,c⟩&&bdB (driO n ⟨1,-1,false,1,c⟩ 0 ⟨c,-1,false,false⟩).b ⟨c,-1,false,false⟩ then (⟨k8X c 5,false⟩:SoD) else _)=_
   rw[hd]
   dsimp only
   rw[agB_self,bdB_self];rfl
  show(evO n (k8X c 5) ⟨9,0,0⟩).x=_
  unfold evO
  rw[hs];rfl
theorem k8_ras(c:Int)(i:Nat):RaS (k8X c i):=by
 match i with
 | 0 | 1 | 2 | 3 | 4=>exact⟨nL rfl,nL rfl,nL rfl,nL rfl⟩
 | _+5=>exact⟨nL rfl,nL rfl,nL rfl,nL rfl⟩
theorem kn8_c:CT Try.prog 29 [] [] [] (.bool true):=by
 have hn:=(net_spec (L:=[2]) (kk:=0) (most:=4) (by decide) (by decide)).1
 have hb:1<(netM [2] 0 4).bs.length:=by
  have e:nextZ [2] 0 4=2:=by decide +kernel
  have:=net_nb (L:=[2]) (kk:=0) (most:=4) (by decide) (by decide)
  rw[e] at this;omega
 obtain⟨c,l,e1,h0,h1,hf,hck⟩:=nx0_ne hn hb
 have hcel:=hn.v.cel
 have e2:nwJ (netM [2] 0 4) 0=⟨raN 0,0⟩:=by rw[nwJ_eq];exact new_ok hn.v (Int.le_refl 0) (by omega)
 have e3:ofJ (netM [2] 0 4) (raN 0) c 0=⟨k8X c 0,0⟩:=by
  rw[ofJ_eq]
  unfold ofdO
  have e4:offO (raN 0).s c 0=⟨⟨1,true,c,0⟩,0⟩:=by
   unfold offO
   rw[dec_f (by omega),dec_f (by omega)];rfl
  rw[e4,show plO (raN 0)=0 from rfl,hf];rfl
 have e5:(nxO (netM [2] 0 4) 0)[Int.toNat 0]?=some c:=by rw[e1];rfl
 have hl:OfL (raN 0):=⟨⟨Nat.zero_le _,Nat.zero_le _,Nat.zero_le _,Nat.zero_le _⟩,Int.le_refl 0,by show(0:Int)≤1000000;decide⟩
 have he:kn8En=some (.inl (.l0 ⟨k8X c 0,0⟩ ((0:Nat):Int) (k8X c 0))):=by
  unfold kn8En
  rw[gu_t hn.rows,e2,br_f (by rfl),hck,br_f (by rfl),br_f (by rw[iN_len,e1];rfl),el_t e5,gu_t hl,e3];rfl
 refine kn8_ct ([],_) ?_
 rw[he]
 refine loop_up (fun i=>kn8Pc.l0 ⟨k8X c 0,0⟩ (i:Int) (k8X c i)) 6 (fun i hi h=>?_) ?_
 ·refine .to (show kn8S0 ⟨k8X c 0,0⟩ (i:Int) (k8X c i)=_ from ?_) h
  unfold kn8S0
  rw[br_t (dec_t (by omega)),gu_t (by omega)]
  refine(el_t (l:=k8E) (getE (l:=k8E) ⟨0,0,0⟩ (show((i:Nat):Int).toNat<k8E.length from hi))).trans ?_
  rw[gu_t hn.rows,gu_t (k8_ras c i),zW i (by omega),evJ_eq,show((i:Nat):Int).toNat=i from rfl,k8_step h0 h1 hf i hi]
 ·refine .to (show kn8S0 ⟨k8X c 0,0⟩ ((6:Nat):Int) (k8X c 6)=_ from ?_) (.ret _)
  unfold kn8S0
  rw[br_f (by rfl),br_t (by rfl),br_t (by rfl),el_t (show(k8X c 6).en[Int.toNat 0]?=some c from rfl),el_t e5,beq_self_eq_true]
inductive rfaPc where
 | l0 (v0:Int) (v1:SoD) (v2:Nat)
def rfaSt(ls ms:List Int):rfaPc→St
 | .l0 v0 v1 v2=>St.mk 49 [(5,AV.ptr 0 0 0),(6,AV.ptr 1 0 0),(7,AV.ptr 2 0 0),(8,AV.ptr 3 0 0),(9,iv v0)] [some (bK [netA (looM ls 0 6)] 8),some (bK [AV.agg [uV v1.x.s.q,bV v1.x.s.o,iv v1.x.s.c,iv v1.x.s.f,uV v1.x.a.l,iv v1.x.a.t,bV v1.x.a.s,iv v1.x.a.r,iv v1.x.a.c,iv v1.x.b.c,iv v1.x.b.t,bV v1.x.b.s,bV v1.x.b.f,AV.lst (List.map frA v1.x.dn),AV.lst (List.map frA v1.x.up),AV.lst (List.map (iv) v1.x.of),AV.lst (List.map (iv) v1.x.en)]] 17),some (bK [AV.agg [iv (evJ (looM ls 0 6) (lifM ls 0 20) (EvD.mk 11 0 0)).x.b.c,iv (evJ (looM ls 0 6) (lifM ls 0 20) (EvD.mk 11 0 0)).x.b.t,bV (evJ (looM ls 0 6) (lifM ls 0 20) (EvD.mk 11 0 0)).x.b.s,bV (evJ (looM ls 0 6) (lifM ls 0 20) (EvD.mk 11 0 0)).x.b.f]] 4),some (tapeB ms v2)]
def rfaHd:rfaPc→Nat
 | .l0 _ _ _=>0
def rfaEn(ls ms:List Int):Option (rfaPc⊕Ret):=
 gu (Rows (looM ls 0 6).nx) <|
 gu (RaS (lifM ls 0 20)) <|
 some (.inl (.l0 ((0:Int)) (evJ (looM ls 0 6) (lifM ls 0 20) (EvD.mk 11 0 0)) (nat_lit 0)))
def rfaS0(ls ms:List Int)(v0:Int)(v1:SoD)(v2:Nat):Option (rfaPc⊕Ret):=
 br (decide (v0<20))
 (gu (v2≤1000000) <|
  gu (Rows (looM ls 0 6).nx) <|
  gu (RaS v1.1) <|
  br (!((evJ (looM ls 0 6) v1.1 (evtM ms v2)).x.b.c==(evJ (looM ls 0 6) (lifM ls 0 20) (EvD.mk 11 0 0)).x.b.c&&((evJ (looM ls 0 6) v1.1 (evtM ms v2)).x.b.t==(evJ (looM ls 0 6) (lifM ls 0 20) (EvD.mk 11 0 0)).x.b.t&&((evJ (looM ls 0 6) v1.1 (evtM ms v2)).x.b.s==(evJ (looM ls 0 6) (lifM ls 0 20) (EvD.mk 11 0 0)).x.b.s&&((evJ (looM ls 0 6) v1.1 (evtM ms v2)).x.b.f==(evJ (looM ls 0 6) (lifM ls 0 20) (EvD.mk 11 0 0)).x.b.f&&true)))))
  (some (.inr ([],bV false)))
  (some (.inl (.l0 (i64.wrap (v0+1)) (evJ (looM ls 0 6) v1.1 (evtM ms v2)) (evtK ms v2)))))
 (some (.inr ([],bV (evJ (looM ls 0 6) (lifM ls 0 20) (EvD.mk 11 0 0)).x.b.f)))
def rfaStep(ls ms:List Int):rfaPc→Option (rfaPc⊕Ret)
 | .l0 v0 v1 v2=>rfaS0 ls ms v0 v1 v2
theorem rfaEn_ok(ls ms:List Int)(o:rfaPc⊕Ret)(h:rfaEn ls ms=some o):Arr Try.prog Try.f8 0 (rfaSt ls ms) rfaHd (zB Try.f8) [] {n:=Try.f8.ntmps,fr:=enumF 0 ([lI ls,lI ms]),hp:=([])} o:=
 Scr.ok h mix (
 have c0:=kn8_c;
 have c1:=lif_c (ls) (0) (20) (show nat_lit 0≤(5000:Nat) from(by first | exact nL rfl | decide)) (show(0:Int)≤(20:Int) from(by first | exact nL rfl | decide)) (show(20:Int)≤(1000:Int) from(by first | exact nL rfl | decide));
 .rn 2 [] [] [(10,hK c0 [] []),(16,hK c1 [0] [])] [] (u2 (aj (aj (al (c0)) s2) (ak (al (u2 (u2 (u2 (aj (ak (k3 (al (c1)))) (u2 (u2 (u2 (k2 (aj (k2 n11) (al (k2 n11))))))))))))))) <|
 .gu fun a0=>
 .gu fun a1=>
 have c2:=stp_j (looM ls 0 6) (lifM ls 0 20) (EvD.mk 11 0 0) a0 a1;
 .lp [] [] [(23,hK c2 [] [])] [] [] [1,2,3,4] [5,6,7,8,9] (aj (aj (u2 (u2 (ak (aj (k3 (aj t9 (aj (ak (k3 (k5 t9))) (aj t5 (al (c2)))))) (u2 (u2 (u2 (al (k2 (show Nat.le 1 [AV.agg [uV (lifM ls 0 20).s.q,bV (lifM ls 0 20).s.o,iv (lifM ls 0 20).s.c,iv (lifM ls 0 20).s.f,uV (lifM ls 0 20).a.l,iv (lifM ls 0 20).a.t,bV (lifM ls 0 20).a.s,iv (lifM ls 0 20).a.r,iv (lifM ls 0 20).a.c,iv (lifM ls 0 20).b.c,iv (lifM ls 0 20).b.t,bV (lifM ls 0 20).b.s,bV (lifM ls 0 20).b.f,AV.lst (List.map frA (lifM ls 0 20).dn),AV.lst (List.map frA (lifM ls 0 20).up),AV.lst (List.map (iv) (lifM ls 0 20).of),AV.lst (List.map (iv) (lifM ls 0 20).en)]].length from(nL rfl))))))))))) (aj (u2 (u2 (ak (al (k2 n11))))) (aj (u2 (u2 (u2 s2))) s2))) (ak t9))) (by kernel_rfl)
theorem rfaS0_ok(ls ms:List Int)(v0:Int)(v1:SoD)(v2:Nat)(o:rfaPc⊕Ret)(h:rfaS0 ls ms v0 v1 v2=some o):Arr Try.prog Try.f8 0 (rfaSt ls ms) rfaHd (headC Try.f8 0) (.rnd (headC Try.f8 0)::headK Try.f8 0) (rfaSt ls ms (.l0 v0 v1 v2)) o:=
 Scr.ok h mix (
 .rn 0 [] [] [] [] (al (u2 s2)) <|
 .br (fun a0=>
 .gu fun a1=>
 .gu fun a2=>
 .gu fun a3=>
 have c0:=evt_c (ms) v2 a1;
 have c1:=stp_j (looM ls 0 6) (v1.1) (evtM ms v2) a2 a3;
 .rn 1 [65] [] [(39,hK c0 [3] []),(40,hK c1 [] [])] [] (aj a0 (aj (u2 (u2 (u2 (aj (k3 (al (c0))) (aj (k3 (aj t9 (aj (ak (k3 (k5 t9))) (aj t5 (al (c1)))))) (u2 (u2 (u2 (al (k2 (show Nat.le 1 [AV.agg [uV v1.x.s.q,bV v1.x.s.o,iv v1.x.s.c,iv v1.x.s.f,uV v1.x.a.l,iv v1.x.a.t,bV v1.x.a.s,iv v1.x.a.r,iv v1.x.a.c,iv v1.x.b.c,iv v1.x.b.t,bV v1.x.b.s,bV v1.x.b.f,AV.lst (List.map frA v1.x.dn),AV.lst (List.map frA v1.x.up),AV.lst (List.map (iv) v1.x.of),AV.lst (List.map (iv) v1.x.en)]].length from(nL rfl)))))))))))) (al (u2 (u2 (u2 (al t3))))))) <|
 .br (fun a4=>
  .rt [93] [] [] [] [] [] (aj (aj a4 s2) t2))
 (fun a4=>
  .lp [92] [] [] [] [] [0,1,2,3] [5,6,7,8,9] (aj (aj a4 (al (u2 (u2 s2)))) (ak t9))))
 (fun a0=>
 .rt [64] [] [] [] [] [] (aj (aj a0 (al (u2 (u2 s2)))) t2))) (by kernel_rfl)
theorem rfa_ct(ls ms:List Int)(r:Ret)(h:MReach (rfaStep ls ms) (rfaEn ls ms) r):CT Try.prog 8 ([]) ([lI ls,lI ms]) r.1 r.2:=
 CT.mach (fn:=Try.f8) (c:=zB Try.f8) (S:=rfaSt ls ms) (hd:=rfaHd) Try.func8 (by kernel_rfl) (nL rfl)
  (fun s o ho=>match s,ho with
   | .l0 v0 v1 v2,ho=>rfaS0_ok ls ms v0 v1 v2 o ho
  )
  (fun o ho=>rfaEn_ok ls ms o ho) h
theorem rdInts{n:Nat}{es:List AV}(h:∀x∈es,ShV Try.prog n 3 x):∃L:List Int,es=L.map (AV.int .i64):=by
 induction es with
 | nil=>exact⟨[],rfl⟩
 | cons x es ih=>
  obtain⟨L,rfl⟩:=ih fun y hy=>h y (List.mem_cons_of_mem _ hy)
  obtain⟨i,_,rfl⟩:=(h x (by simp)).intD Try.underlying3
  exact⟨i::L,rfl⟩
theorem st_flt(n:NetD){x:RaD}(y:EvD)(h:x.b.f=true):(stO n x y).x.b=x.b:=by
 obtain⟨z,g,⟨dc,dt,ds,df⟩,dn,up,of,en⟩:=x
 dsimp only at h;subst h
 have h9:driO n g 0 ⟨dc,dt,ds,true⟩=⟨g,⟨dc,dt,ds,true⟩,[]⟩:=by
  unfold driO
  cases dc == -1<;>rfl
 have h10:finO g 0 ⟨dc,dt,ds,true⟩=⟨g,⟨dc,dt,ds,true⟩,[]⟩:=by
  unfold finO
  cases dc == -1<;>cases ds<;>rfl
 unfold stO
 rw[show (RaD.mk z g ⟨dc,dt,ds,true⟩ dn up of en).a=g from rfl,show(RaD.mk z g ⟨dc,dt,ds,true⟩ dn up of en).b=⟨dc,dt,ds,true⟩ from rfl,h9,h10]
 cases y.k==3||(y.k==5||y.k==7) with
 | true=>rfl
 | false=>cases y.k==2||(y.k==4||y.k==6) with
  | true=>rfl
  | false=>cases y.k==8 with
   | true=>rfl
   | false=>cases y.k==9 with
    | true=>cases agB g g&&bdB ⟨dc,dt,ds,true⟩ ⟨dc,dt,ds,true⟩<;>rfl
    | false=>cases y.k==10 with
     | true=>cases bdB ⟨dc,dt,ds,true⟩ ⟨dc,dt,ds,true⟩<;>rfl
     | false=>cases y.k==11<;>rfl
theorem ev_flt(n:NetD){x:RaD}(y:EvD)(h:x.b.f=true):(evO n x y).x.b=x.b:=by
 unfold evO
 cases y.a != 0 with
 | true=>rfl
 | false=>cases (stO n x y).o with
  | true=>exact st_flt n y h
  | false=>rfl
theorem ev_f11(n:NetD)(x:RaD):(evO n x ⟨11,0,0⟩).x.b.f=true:=by
 obtain⟨z,g,⟨dc,dt,ds,df⟩,dn,up,of,en⟩:=x
 cases df<;>rfl
theorem rfa_run(ls ms:List Int){n:NetD}(hn:looM ls 0 6=n)(hrw:Rows n.nx){w:BdD}(hw:(evJ n (lifM ls 0 20) ⟨11,0,0⟩).x.b=w)(hf:w.f=true){c0:Int}:∀(m k t:Nat) (v:SoD),k+m=20→t≤10 * k→RI n c0 v.x→v.x.s.q≤20→v.x.b=w→
  MReach (rfaStep ls ms) (some (.inl (.l0 (k:Int) v t))) ([],.bool true):=by
 intro m
 induction m with
 | zero=>
  intro k t v hk ht hv hq hb
  refine .to (show rfaS0 ls ms (k:Int) v t=_ from ?_) (.ret _)
  unfold rfaS0
  rw[br_f (dec_f (by omega)),hn,hw,hf]
 | succ m ih=>
  intro k t v hk ht hv hq hb
  have hb':(evO n v.x (evtM ms t)).x.b=w:=(ev_flt n _ (by rw[hb];exact hf)).trans hb
  obtain⟨e1,_⟩:=evt_spec (L:=ms) (kk:=t) (by omega)
  refine .to (show rfaS0 ls ms (k:Int) v t=_ from ?_) (ih (k+1) (evtK ms t) (evO n v.x (evtM ms t)) (by omega) (by omega) (hv.ev _) (by rw[hv.evq];exact hq) hb')
  unfold rfaS0
  rw[hn,hw,evJ_eq,hb',br_t (dec_t (by omega)),gu_t (by omega),gu_t hrw,gu_t (hv.lio (by omega)).1.1,zW k (by omega)]
  exact br_f (show(!bdB w w)=false by rw[bdB_self];rfl)
theorem rfa_law(ls ms:List Int):CT Try.prog 8 [] [lI ls,lI ms] [] (.bool true):=by
 have hl:=(loo_spec (L:=ls) (kk:=0) (most:=6) (by decide) (by decide)).1
 obtain⟨⟨c0,hx⟩,hq,_⟩:=lif_spec (L:=ls) (kk:=0) (p:=20) (by decide) (by decide) (by decide)
 refine rfa_ct ls ms ([],_) ?_
 have he:rfaEn ls ms=some (.inl (.l0 ((0:Nat):Int) (evO (looM ls 0 6) (lifM ls 0 20) ⟨11,0,0⟩) 0)):=by
  unfold rfaEn
  rw[gu_t hl.rows,gu_t (hx.lio (by omega)).1.1,evJ_eq];rfl
 rw[he]
 exact rfa_run ls ms rfl hl.rows rfl (by rw[evJ_eq];exact ev_f11 _ _) 20 0 0 _ rfl (Nat.le_refl _) (hx.ev _) (by rw[hx.evq];exact hq) (by rw[evJ_eq])
theorem radioFaulted_row(avs:List AV)(h:ShVs Try.prog 6 Try.f8.params.toList avs):CT Try.prog 8 [] avs [] (.bool true):=by
 rw[Try.params8] at h
 obtain⟨a,_,rfl,ka,h⟩:=h.consD
 obtain⟨b,_,rfl,kb,h⟩:=h.consD
 obtain rfl:=h.nilD
 obtain⟨_,_,he,rfl⟩:=ka.sliceD Try.underlying22
 obtain⟨l,rfl⟩:=rdInts he
 obtain⟨_,_,hf,rfl⟩:=kb.sliceD Try.underlying22
 obtain⟨m,rfl⟩:=rdInts hf
 exact rfa_law l m
end Go.Proofs.Ytifigemlifbkcaa

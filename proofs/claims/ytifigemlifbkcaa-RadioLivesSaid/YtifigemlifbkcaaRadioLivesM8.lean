/- Parts of the proof:Ra12m,RaL,Ra13m,RaM,Ra14m,RaN,RaO,RaP,RaQ,RaR,RaT,Ra16m,RaU. -/
import Derived.Test.YtifigemlifbkcaaProg
import Derived.KernelRfl
import Derived.Test.YtifigemlifbkcaaRadioLivesM7
noncomputable section
set_option linter.unusedVariables false
set_option linter.unusedSimpArgs false
open Go Go.AX Go.Proofs
set_option maxRecDepth 100000
set_option maxHeartbeats 4000000
set_option linter.unusedVariables false
set_option linter.unusedSimpArgs false
open Go.IntKind (i64 u64)
namespace Go.Proofs.Ytifigemlifbkcaa
def offSt(n:Aa)(x:RaD)(q p:Int):Empty->St
 | x=>x.elim
def offHd:Empty->Nat
 | x=>x.elim
def He(n:Aa)(x:RaD)(q p:Int):Option (Empty⊕Ret):=
 gu (0<=x.s.q/\x.s.q<=1000000) <|
 br ((AR x.s q p).e != 0)
 (some (.inr ([],AV.tup [AV.agg [uV 0,bV false,iV 0,iV 0,uV 0,iV 0,bV false,iV 0,iV 0,iV 0,iV 0,bV false,bV false,AV.nils,AV.nils,AV.nils,AV.nils],iV (AR x.s q p).e])))
 (br (decide (0<iN (List.map iV x.of).length))
  (gu (0<=i64.wrap (iN (List.map iV x.of).length-1)) <|
   el (x.of) ((i64.wrap (iN (List.map iV x.of).length-1)).toNat) fun(x40:Int)=>
   gu (Rows n.nx) <|
   br (!A8 n x40 q)
   (some (.inr ([],AV.tup [AV.agg [uV 0,bV false,iV 0,iV 0,uV 0,iV 0,bV false,iV 0,iV 0,iV 0,iV 0,bV false,bV false,AV.nils,AV.nils,AV.nils,AV.nils],iV 24])))
   (gu (RaS x) <|
    gu ((List.map iV x.of).length+[iV q].length<=9223372036854775807) <|
    gu (((List.map iV x.of).length+[iV q].length) * 8<=140737488355328) <|
    some (.inr ([],AV.tup [rV (AR x.s q p).s x.a x.b [AV.lst (List.map frA (AE x.dn (AW (AR x.s q p).s 0).x)),AV.lst (List.map frA x.up),AV.lst (List.map iV x.of++[iV q]),AV.lst (List.map iV x.en)],iV 0]))))
  (gu (Rows n.nx) <|
   br (!A8 n x.b.c q)
   (some (.inr ([],AV.tup [AV.agg [uV 0,bV false,iV 0,iV 0,uV 0,iV 0,bV false,iV 0,iV 0,iV 0,iV 0,bV false,bV false,AV.nils,AV.nils,AV.nils,AV.nils],iV 24])))
   (gu (RaS x) <|
    gu ((List.map iV x.of).length+[iV q].length<=9223372036854775807) <|
    gu (((List.map iV x.of).length+[iV q].length) * 8<=140737488355328) <|
    some (.inr ([],AV.tup [rV (AR x.s q p).s x.a x.b [AV.lst (List.map frA (AE x.dn (AW (AR x.s q p).s 0).x)),AV.lst (List.map frA x.up),AV.lst (List.map iV x.of++[iV q]),AV.lst (List.map iV x.en)],iV 0])))))
def offStep(n:Aa)(x:RaD)(q p:Int):Empty->Option (Empty⊕Ret)
 | x=>x.elim
theorem offEn_ok(n:Aa)(x:RaD)(q p:Int)(o:Empty⊕Ret)(h:He n x q p=some o):Arr Try.prog Try.f32 0 (offSt n x q p) offHd (zB Try.f32) [] {n:=Try.f32.ntmps,fr:=An 0 ([Ad n,raA x,.int .i64 q,.int .i64 p]),hp:=([])} o:=
 Scr.ok h mix (
 .rn 0 [] [] [] [] (al (u2 (u2 t3))) <|
 .gu fun a0=>
 have c0:=ofr_c (x.s) q p a0;
 .rn 1 [] [] [(21,hK c0 [] [])] [] (aj (u2 (u2 (u2 (u2 (aj (k3 (aj t5 (k2 (al (c0))))) (u2 (u2 (u2 (ak (aj (k2 n11) s2)))))))))) (al (u2 s2))) <|
 .br (fun a1=>
 .rt [51] [] [] [] [] [] (aj (aj a1 (al (ak (u2 (aj (k2 n11) s2))))) (al (aj (ak (k3 (k5 t9))) t2))))
 (fun a1=>
 .rn 2 [50] [] [] [] (aj a1 (aj (u2 (u2 (u2 s2))) (aj (u2 (u2 (u2 s2))) (al (u2 s2))))) <|
 .br (fun a2=>
  .gu fun a3=>
  .el fun x40 a4=>
  .rn 0 [71] [(40,iv x40)] [] [] (aj a2 (al (u2 (u2 (u2 (u2 (aj (k2 (aj a3 (A2 (f:=iv) a4))) (u2 s2)))))))) <|
  .gu fun a5=>
  have c1:=Lp n x40 q a5;
  .rn 0 [] [] [(45,hK c1 [] [])] [] (al (u2 (u2 (u2 (aj (k3 (aj t9 (k2 (al (c1))))) s2))))) <|
  .br (fun a6=>
  .rt [93] [] [] [] [] [] (aj (aj a6 (al (ak (aj (k2 n11) t2)))) (al (aj (ak (k3 (k5 t9))) t2))))
  (fun a6=>
  .gu fun a7=>
  have c2:=kcl_c (x.s) (x.a) (x.b) (x.dn) (x.up) (x.of) (x.en) a7;
  .rn 0 [92] [] [(49,hK c2 [] [])] [] (aj a6 (al (u2 (aj (ak (aj (ak (k3 (k5 t9))) (al (c2)))) (al (k2 (show Nat.le 1 [AV.agg [uV x.s.q,bV x.s.o,iv x.s.c,iv x.s.f,uV x.a.l,iv x.a.t,bV x.a.s,iv x.a.r,iv x.a.c,iv x.b.c,iv x.b.t,bV x.b.s,bV x.b.f,AV.lst (List.map frA x.dn),AV.lst (List.map frA x.up),AV.lst (List.map (iv) x.of),AV.lst (List.map (iv) x.en)]].length from(nL rfl)))))))) <|
  .gu fun a8=>
  .gu fun a9=>
  have c3:=K9 ((AR x.s q p).s) (0);
  have c4:=sen_c (x.dn) ((AW (AR x.s q p).s 0).x);
  .rt [] [] [(60,hK c3 [] []),(66,hK c4 [] [])] [] [] [7,5] (aj (aj (u2 (u2 (u2 (u2 (u2 (aj (k2 (aj (show(List.map (iv) x.of).length=x.of.length by simp) (aj (aj (show nat_lit 1=nat_lit 1 from rfl) (show 1<=[iv q].length by simp)) (aj a8 a9)))) (u2 (aj t3 (u2 (al t3)))))))))) (aj (u2 (aj (ak (aj t5 (ak (al (c3))))) (u2 (u2 (u2 (ak (aj (k2 n11) s2))))))) (aj (u2 (u2 (u2 (aj (k3 (aj t6 (al (c4)))) (u2 (al t3)))))) (al (u2 (aj (k2 n11) t2)))))) (al (aj (k5 (k5 (k5 (aj (show(List.map (iv) x.of).length+[iv q].length=(List.map (iv) x.of++[iv q]).length by simp) (al (show x.en.length=(List.map (iv) x.en).length by simp)))))) t2)))))
 (fun a2=>
  .gu fun a3=>
  have c1:=Lp n (x.b.c) q a3;
  .rn 0 [70] [] [(45,hK c1 [] [])] [] (aj a2 (al (u2 (u2 (u2 (aj (k3 (aj t9 (k2 (al (c1))))) s2)))))) <|
  .br (fun a4=>
  .rt [93] [] [] [] [] [] (aj (aj a4 (al (ak (aj (k2 n11) t2)))) (al (aj (ak (k3 (k5 t9))) t2))))
  (fun a4=>
  .gu fun a5=>
  have c2:=kcl_c (x.s) (x.a) (x.b) (x.dn) (x.up) (x.of) (x.en) a5;
  .rn 0 [92] [] [(49,hK c2 [] [])] [] (aj a4 (al (u2 (aj (ak (aj (ak (k3 (k5 t9))) (al (c2)))) (al (k2 (show Nat.le 1 [AV.agg [uV x.s.q,bV x.s.o,iv x.s.c,iv x.s.f,uV x.a.l,iv x.a.t,bV x.a.s,iv x.a.r,iv x.a.c,iv x.b.c,iv x.b.t,bV x.b.s,bV x.b.f,AV.lst (List.map frA x.dn),AV.lst (List.map frA x.up),AV.lst (List.map (iv) x.of),AV.lst (List.map (iv) x.en)]].length from(nL rfl)))))))) <|
  .gu fun a6=>
  .gu fun a7=>
  have c3:=K9 ((AR x.s q p).s) (0);
  have c4:=sen_c (x.dn) ((AW (AR x.s q p).s 0).x);
  .rt [] [] [(60,hK c3 [] []),(66,hK c4 [] [])] [] [] [7,5] (aj (aj (u2 (u2 (u2 (u2 (u2 (aj (k2 (aj (show(List.map (iv) x.of).length=x.of.length by simp) (aj (aj (show nat_lit 1=nat_lit 1 from rfl) (show 1<=[iv q].length by simp)) (aj a6 a7)))) (u2 (aj t3 (u2 (al t3)))))))))) (aj (u2 (aj (ak (aj t5 (ak (al (c3))))) (u2 (u2 (u2 (ak (aj (k2 n11) s2))))))) (aj (u2 (u2 (u2 (aj (k3 (aj t6 (al (c4)))) (u2 (al t3)))))) (al (u2 (aj (k2 n11) t2)))))) (al (aj (k5 (k5 (k5 (aj (show(List.map (iv) x.of).length+[iv q].length=(List.map (iv) x.of++[iv q]).length by simp) (al (show x.en.length=(List.map (iv) x.en).length by simp)))))) t2))))))) (by kernel_rfl)
theorem J2(n:Aa)(x:RaD)(q p:Int)(r:Ret)(h:Aj (offStep n x q p) (He n x q p) r):CT Try.prog 32 ([]) ([Ad n,raA x,.int .i64 q,.int .i64 p]) r.1 r.2:=
 CT.mach (fn:=Try.f32) (c:=zB Try.f32) (S:=offSt n x q p) (hd:=offHd) Try.func32 (by kernel_rfl) (nL rfl)
  (fun s o ho=>match s,ho with
   | x,_=>x.elim)
  (fun o ho=>offEn_ok n x q p o ho) h
def rffSt(n:Aa)(x:RaD)(q p:Int):Empty->St
 | x=>x.elim
def rffHd:Empty->Nat
 | x=>x.elim
def GA(n:Aa)(x:RaD)(q p:Int):Option (Empty⊕Ret):=
 gu (0<=x.s.q/\x.s.q<=1000000) <|
 br ((AR x.s q p).e != 0)
 (some (.inr ([],AV.tup [AV.agg [uV 0,bV false,iV 0,iV 0,uV 0,iV 0,bV false,iV 0,iV 0,iV 0,iV 0,bV false,bV false,AV.nils,AV.nils,AV.nils,AV.nils],iV (AR x.s q p).e])))
 (br (decide (0<iN (List.map iV x.of).length))
  (gu (0<=i64.wrap (iN (List.map iV x.of).length-1)) <|
   el (x.of) ((i64.wrap (iN (List.map iV x.of).length-1)).toNat) fun(x40:Int)=>
   gu (Rows n.nx) <|
   br (!A8 n x40 q)
   (some (.inr ([],AV.tup [AV.agg [uV 0,bV false,iV 0,iV 0,uV 0,iV 0,bV false,iV 0,iV 0,iV 0,iV 0,bV false,bV false,AV.nils,AV.nils,AV.nils,AV.nils],iV 24])))
   (gu (∀(e:AV),e∈List.map iV x.of->e.cells.length=1) <|
    gu ((List.map iV x.of).length<=9223372036854775807) <|
    gu ((List.map iV x.of).length * 8<=140737488355328) <|
    gu ((List.map iV x.of).length+[iV q].length<=9223372036854775807) <|
    gu (((List.map iV x.of).length+[iV q].length) * 8<=140737488355328) <|
    some (.inr ([],AV.tup [rV (AR x.s q p).s x.a x.b [AV.lst (List.map frA (AE x.dn (AW (AR x.s q p).s 0).x)),AV.lst (List.map frA x.up),AV.lst (List.map iV x.of++[iV q]),AV.lst (List.map iV x.en)],iV 0]))))
  (gu (Rows n.nx) <|
   br (!A8 n x.b.c q)
   (some (.inr ([],AV.tup [AV.agg [uV 0,bV false,iV 0,iV 0,uV 0,iV 0,bV false,iV 0,iV 0,iV 0,iV 0,bV false,bV false,AV.nils,AV.nils,AV.nils,AV.nils],iV 24])))
   (gu (∀(e:AV),e∈List.map iV x.of->e.cells.length=1) <|
    gu ((List.map iV x.of).length<=9223372036854775807) <|
    gu ((List.map iV x.of).length * 8<=140737488355328) <|
    gu ((List.map iV x.of).length+[iV q].length<=9223372036854775807) <|
    gu (((List.map iV x.of).length+[iV q].length) * 8<=140737488355328) <|
    some (.inr ([],AV.tup [rV (AR x.s q p).s x.a x.b [AV.lst (List.map frA (AE x.dn (AW (AR x.s q p).s 0).x)),AV.lst (List.map frA x.up),AV.lst (List.map iV x.of++[iV q]),AV.lst (List.map iV x.en)],iV 0])))))
def rffStep(n:Aa)(x:RaD)(q p:Int):Empty->Option (Empty⊕Ret)
 | x=>x.elim
theorem rffEn_ok(n:Aa)(x:RaD)(q p:Int)(o:Empty⊕Ret)(h:GA n x q p=some o):Arr Try.prog Try.f57 0 (rffSt n x q p) rffHd (zB Try.f57) [] {n:=Try.f57.ntmps,fr:=An 0 ([Ad n,raA x,.int .i64 q,.int .i64 p]),hp:=([])} o:=
 Scr.ok h mix (
 .rn 0 [] [] [] [] (al (u2 (u2 t3))) <|
 .gu fun a0=>
 have c0:=rof_c (x.s) q p a0;
 .rn 1 [] [] [(20,hK c0 [] [])] [] (aj (u2 (u2 (u2 (u2 (aj (k3 (aj t5 (k2 (al (c0))))) (u2 (u2 (u2 (ak (aj (k2 n11) s2)))))))))) (al (u2 s2))) <|
 .br (fun a1=>
 .rt [49] [] [] [] [] [] (aj (aj a1 (al (ak (u2 (aj (k2 n11) s2))))) (al (aj (ak (k3 (k5 t9))) t2))))
 (fun a1=>
 .rn 1 [48] [] [] [] (aj a1 (aj (u2 (u2 (u2 s2))) (al (u2 (u2 (u2 s2)))))) <|
 .br (fun a2=>
  .gu fun a3=>
  .el fun x40 a4=>
  .rn 0 [67] [(40,iv x40)] [] [] (aj a2 (al (u2 (u2 (u2 (u2 (u2 (u2 (aj (k2 (aj a3 (A2 (f:=iv) a4))) (u2 s2)))))))))) <|
  .gu fun a5=>
  have c1:=Ls n x40 q a5;
  .rn 0 [] [] [(45,hK c1 [] [])] [] (al (u2 (u2 (u2 (aj (k3 (aj t9 (k2 (al (c1))))) s2))))) <|
  .br (fun a6=>
  .rt [93] [] [] [] [] [] (aj (aj a6 (al (ak (aj (k2 n11) t2)))) (al (aj (ak (k3 (k5 t9))) t2))))
  (fun a6=>
  have c2:=JZ ((AR x.s q p).s) (0);
  .rn 1 [92] [] [(50,hK c2 [] [])] [] (aj a6 (aj (u2 (aj (ak (aj t5 (ak (al (c2))))) (u2 (u2 (u2 (ak (aj (k2 n11) s2))))))) (al (u2 (u2 (al t3)))))) <|
  .gu fun a7=>
  .gu fun a8=>
  .gu fun a9=>
  .gu fun a10=>
  .gu fun a11=>
  have c3:=En (x.dn) ((AW (AR x.s q p).s 0).x);
  .rt [] [] [(65,hK c3 [] [])] [] [] [7] (aj (aj (u2 (u2 (aj (ak (aj a7 (aj a8 a9))) (u2 (u2 (aj (k2 (aj (show(List.map (iv) x.of).length=(List.map (iv) x.of).length from rfl) (aj (aj (show nat_lit 1=nat_lit 1 from rfl) (show 1<=[iv q].length by simp)) (aj a10 a11)))) (u2 (al t3)))))))) (aj (u2 (u2 (u2 (aj (k3 (aj t6 (al (c3)))) (u2 (al t3)))))) (al (u2 (aj (k2 n11) t2))))) (al (aj (k5 (k5 (k5 (aj (show(List.map (iv) x.of).length+[iv q].length=(List.map (iv) x.of++[iv q]).length by simp) t2)))) t2)))))
 (fun a2=>
  .gu fun a3=>
  have c1:=Ls n (x.b.c) q a3;
  .rn 0 [66] [] [(45,hK c1 [] [])] [] (aj a2 (al (u2 (u2 (u2 (aj (k3 (aj t9 (k2 (al (c1))))) s2)))))) <|
  .br (fun a4=>
  .rt [93] [] [] [] [] [] (aj (aj a4 (al (ak (aj (k2 n11) t2)))) (al (aj (ak (k3 (k5 t9))) t2))))
  (fun a4=>
  have c2:=JZ ((AR x.s q p).s) (0);
  .rn 1 [92] [] [(50,hK c2 [] [])] [] (aj a4 (aj (u2 (aj (ak (aj t5 (ak (al (c2))))) (u2 (u2 (u2 (ak (aj (k2 n11) s2))))))) (al (u2 (u2 (al t3)))))) <|
  .gu fun a5=>
  .gu fun a6=>
  .gu fun a7=>
  .gu fun a8=>
  .gu fun a9=>
  have c3:=En (x.dn) ((AW (AR x.s q p).s 0).x);
  .rt [] [] [(65,hK c3 [] [])] [] [] [7] (aj (aj (u2 (u2 (aj (ak (aj a5 (aj a6 a7))) (u2 (u2 (aj (k2 (aj (show(List.map (iv) x.of).length=(List.map (iv) x.of).length from rfl) (aj (aj (show nat_lit 1=nat_lit 1 from rfl) (show 1<=[iv q].length by simp)) (aj a8 a9)))) (u2 (al t3)))))))) (aj (u2 (u2 (u2 (aj (k3 (aj t6 (al (c3)))) (u2 (al t3)))))) (al (u2 (aj (k2 n11) t2))))) (al (aj (k5 (k5 (k5 (aj (show(List.map (iv) x.of).length+[iv q].length=(List.map (iv) x.of++[iv q]).length by simp) t2)))) t2))))))) (by kernel_rfl)
theorem JF(n:Aa)(x:RaD)(q p:Int)(r:Ret)(h:Aj (rffStep n x q p) (GA n x q p) r):CT Try.prog 57 ([]) ([Ad n,raA x,.int .i64 q,.int .i64 p]) r.1 r.2:=
 CT.mach (fn:=Try.f57) (c:=zB Try.f57) (S:=rffSt n x q p) (hd:=rffHd) Try.func57 (by kernel_rfl) (nL rfl)
  (fun s o ho=>match s,ho with
   | x,_=>x.elim)
  (fun o ho=>rffEn_ok n x q p o ho) h
def rsxSt(n:Aa)(x:RaD)(y:EvD):Empty->St
 | x=>x.elim
def rsxHd:Empty->Nat
 | x=>x.elim
def G6(n:Aa)(x:RaD)(y:EvD):Option (Empty⊕Ret):=
 br (y.k==2)
 (br ((Ag x.dn y.b).o)
  (br (!x.b.f)
   (gu (0<=(Ag x.dn y.b).x.q) <|
    gu ((heO x.a 0 (Ag x.dn y.b).x).l.length<=1000000) <|
    some (.inr ([],AV.tup [rV x.s (heO x.a 0 (Ag x.dn y.b).x).a x.b [AV.lst (List.map frA (Ag x.dn y.b).l),AV.lst (List.map frA (Ax x.up (heO x.a 0 (Ag x.dn y.b).x).l)),AV.lst (List.map iV x.of),AV.lst (List.map iV x.en)],bV (Ag x.dn y.b).o])))
   (some (.inr ([],AV.tup [rV x.s x.a x.b [AV.lst (List.map frA (Ag x.dn y.b).l),AV.lst (List.map frA x.up),AV.lst (List.map iV x.of),AV.lst (List.map iV x.en)],bV (Ag x.dn y.b).o]))))
  (some (.inr ([],AV.tup [rV x.s x.a x.b [AV.lst (List.map frA (Ag x.dn y.b).l),AV.lst (List.map frA x.up),AV.lst (List.map iV x.of),AV.lst (List.map iV x.en)],bV (Ag x.dn y.b).o]))))
 (br (y.k==3)
  (br ((Ag x.up y.b).o)
   (br ((Ag x.up y.b).x.k==2)
    (br (x.s.f==0)
     (some (.inr ([],AV.tup [rV (Cy x.s (Ag x.up y.b).x.q).s x.a x.b [AV.lst (List.map frA (AE x.dn (FrD.mk 3 0 (Ag x.up y.b).x.q 0 (Ag x.up y.b).x.f))),AV.lst (List.map frA (Ag x.up y.b).l),AV.lst (List.map iV x.of),AV.lst (List.map iV x.en)],bV (Ag x.up y.b).o])))
     (br ((Ag x.up y.b).x.f==2)
      (some (.inr ([],AV.tup [rV (Cy x.s (Ag x.up y.b).x.q).s x.a x.b [AV.lst (List.map frA (AE x.dn (FrD.mk 3 0 (Ag x.up y.b).x.q 0 (Ag x.up y.b).x.f))),AV.lst (List.map frA (Ag x.up y.b).l),AV.lst (List.map iV x.of),AV.lst (List.map iV x.en)],bV (Ag x.up y.b).o])))
      (some (.inr ([],AV.tup [rV x.s x.a x.b [AV.lst (List.map frA (AE x.dn (FrD.mk 3 0 (Ag x.up y.b).x.q 0 (Ag x.up y.b).x.f))),AV.lst (List.map frA (Ag x.up y.b).l),AV.lst (List.map iV x.of),AV.lst (List.map iV x.en)],bV (Ag x.up y.b).o])))))
    (some (.inr ([],AV.tup [rV x.s x.a x.b [AV.lst (List.map frA x.dn),AV.lst (List.map frA (Ag x.up y.b).l),AV.lst (List.map iV x.of),AV.lst (List.map iV x.en)],bV (Ag x.up y.b).o]))))
   (some (.inr ([],AV.tup [rV x.s x.a x.b [AV.lst (List.map frA x.dn),AV.lst (List.map frA (Ag x.up y.b).l),AV.lst (List.map iV x.of),AV.lst (List.map iV x.en)],bV (Ag x.up y.b).o]))))
  (br (y.k==4)
   (some (.inr ([],AV.tup [rV x.s x.a x.b [AV.lst (List.map frA (Bk x.dn y.b).l),AV.lst (List.map frA x.up),AV.lst (List.map iV x.of),AV.lst (List.map iV x.en)],bV (Bk x.dn y.b).o])))
   (br (y.k==5)
    (some (.inr ([],AV.tup [rV x.s x.a x.b [AV.lst (List.map frA x.dn),AV.lst (List.map frA (Bk x.up y.b).l),AV.lst (List.map iV x.of),AV.lst (List.map iV x.en)],bV (Bk x.up y.b).o])))
    (br (y.k==6)
     (some (.inr ([],AV.tup [rV x.s x.a x.b [AV.lst (List.map frA (A9 x.dn y.b).l),AV.lst (List.map frA x.up),AV.lst (List.map iV x.of),AV.lst (List.map iV x.en)],bV (A9 x.dn y.b).o])))
     (br (y.k==7)
      (some (.inr ([],AV.tup [rV x.s x.a x.b [AV.lst (List.map frA x.dn),AV.lst (List.map frA (A9 x.up y.b).l),AV.lst (List.map iV x.of),AV.lst (List.map iV x.en)],bV (A9 x.up y.b).o])))
      (br (y.k==8)
       (br ((AW x.s 0).o)
        (gu ((Bp x.a 0 x.b).length<=1000000) <|
         some (.inr ([],AV.tup [rV x.s x.a x.b [AV.lst (List.map frA (AE x.dn (AW x.s 0).x)),AV.lst (List.map frA (Ax x.up (Bp x.a 0 x.b))),AV.lst (List.map iV x.of),AV.lst (List.map iV x.en)],bV true])))
        (gu ((Bp x.a 0 x.b).length<=1000000) <|
         some (.inr ([],AV.tup [rV x.s x.a x.b [AV.lst (List.map frA x.dn),AV.lst (List.map frA (Ax x.up (Bp x.a 0 x.b))),AV.lst (List.map iV x.of),AV.lst (List.map iV x.en)],bV true]))))
       (br (y.k==9)
        (gu (Rows n.nx) <|
         gu ((Af n x.a 0 x.b).l.length<=1000000) <|
         br (!((Af n x.a 0 x.b).a.l==x.a.l&&((Af n x.a 0 x.b).a.t==x.a.t&&((Af n x.a 0 x.b).a.s==x.a.s&&((Af n x.a 0 x.b).a.r==x.a.r&&((Af n x.a 0 x.b).a.c==x.a.c&&true))))))
         (br (decide (0<iN (List.map frA (Af n x.a 0 x.b).l).length))
          (gu (∀(e:AV),e∈List.map iV x.en->e.cells.length=1) <|
           gu ((List.map iV x.en).length<=9223372036854775807) <|
           gu ((List.map iV x.en).length * 8<=140737488355328) <|
           gu ((List.map iV x.en).length+[iV (Af n x.a 0 x.b).b.c].length<=9223372036854775807) <|
           gu (((List.map iV x.en).length+[iV (Af n x.a 0 x.b).b.c].length) * 8<=140737488355328) <|
           some (.inr ([],AV.tup [rV x.s (Af n x.a 0 x.b).a (Af n x.a 0 x.b).b [AV.lst (List.map frA x.dn),AV.lst (List.map frA (Ax x.up (Af n x.a 0 x.b).l)),AV.lst (List.map iV x.of),AV.lst (List.map iV x.en++[iV (Af n x.a 0 x.b).b.c])],bV true])))
          (some (.inr ([],AV.tup [rV x.s (Af n x.a 0 x.b).a (Af n x.a 0 x.b).b [AV.lst (List.map frA x.dn),AV.lst (List.map frA (Ax x.up (Af n x.a 0 x.b).l)),AV.lst (List.map iV x.of),AV.lst (List.map iV x.en)],bV true]))))
         (br (decide (0<iN (List.map frA (Af n x.a 0 x.b).l).length))
          (gu (∀(e:AV),e∈List.map iV x.en->e.cells.length=1) <|
           gu ((List.map iV x.en).length<=9223372036854775807) <|
           gu ((List.map iV x.en).length * 8<=140737488355328) <|
           gu ((List.map iV x.en).length+[iV (Af n x.a 0 x.b).b.c].length<=9223372036854775807) <|
           gu (((List.map iV x.en).length+[iV (Af n x.a 0 x.b).b.c].length) * 8<=140737488355328) <|
           some (.inr ([],AV.tup [rV x.s (Af n x.a 0 x.b).a (Af n x.a 0 x.b).b [AV.lst (List.map frA x.dn),AV.lst (List.map frA (Ax x.up (Af n x.a 0 x.b).l)),AV.lst (List.map iV x.of),AV.lst (List.map iV x.en++[iV (Af n x.a 0 x.b).b.c])],bV !((Af n x.a 0 x.b).b.c==x.b.c&&((Af n x.a 0 x.b).b.t==x.b.t&&((Af n x.a 0 x.b).b.s==x.b.s&&((Af n x.a 0 x.b).b.f==x.b.f&&true))))])))
          (some (.inr ([],AV.tup [rV x.s (Af n x.a 0 x.b).a (Af n x.a 0 x.b).b [AV.lst (List.map frA x.dn),AV.lst (List.map frA (Ax x.up (Af n x.a 0 x.b).l)),AV.lst (List.map iV x.of),AV.lst (List.map iV x.en)],bV !((Af n x.a 0 x.b).b.c==x.b.c&&((Af n x.a 0 x.b).b.t==x.b.t&&((Af n x.a 0 x.b).b.s==x.b.s&&((Af n x.a 0 x.b).b.f==x.b.f&&true))))])))))
        (br (y.k==10)
         (br (x.b.c != -1)
          (br (x.b.s)
           (gu ((Aw x.a 0 x.b).l.length<=1000000) <|
            some (.inr ([],AV.tup [rV x.s (Aw x.a 0 x.b).a (Aw x.a 0 x.b).b [AV.lst (List.map frA x.dn),AV.lst (List.map frA (Ax x.up (Aw x.a 0 x.b).l)),AV.lst (List.map iV x.of),AV.lst (List.map iV x.en)],bV !x.b.f])))
           (gu ((Aw x.a 0 x.b).l.length<=1000000) <|
            some (.inr ([],AV.tup [rV x.s (Aw x.a 0 x.b).a (Aw x.a 0 x.b).b [AV.lst (List.map frA x.dn),AV.lst (List.map frA (Ax x.up (Aw x.a 0 x.b).l)),AV.lst (List.map iV x.of),AV.lst (List.map iV x.en)],bV false]))))
          (gu ((Aw x.a 0 x.b).l.length<=1000000) <|
           some (.inr ([],AV.tup [rV x.s (Aw x.a 0 x.b).a (Aw x.a 0 x.b).b [AV.lst (List.map frA x.dn),AV.lst (List.map frA (Ax x.up (Aw x.a 0 x.b).l)),AV.lst (List.map iV x.of),AV.lst (List.map iV x.en)],bV false]))))
         (br (y.k==11)
          (some (.inr ([],AV.tup [AV.agg [uV x.s.q,bV x.s.o,iV x.s.c,iV x.s.f,uV x.a.l,iV x.a.t,bV x.a.s,iV x.a.r,iV x.a.c,iV x.b.c,iV x.b.t,bV x.b.s,bV true,AV.lst (List.map frA x.dn),AV.lst (List.map frA x.up),AV.lst (List.map iV x.of),AV.lst (List.map iV x.en)],bV !x.b.f])))
          (some (.inr ([],AV.tup [rV x.s x.a x.b [AV.lst (List.map frA x.dn),AV.lst (List.map frA x.up),AV.lst (List.map iV x.of),AV.lst (List.map iV x.en)],bV false]))))))))))))
def rsxStep(n:Aa)(x:RaD)(y:EvD):Empty->Option (Empty⊕Ret)
 | x=>x.elim
theorem rsxEn_ok(n:Aa)(x:RaD)(y:EvD)(o:Empty⊕Ret)(h:G6 n x y=some o):Arr Try.prog Try.f77 0 (rsxSt n x y) rsxHd (zB Try.f77) [] {n:=Try.f77.ntmps,fr:=An 0 ([Ad n,raA x,evA y]),hp:=([])} o:=
 Scr.ok h mix (
 .rn 5 [] [] [] [] (aj (u2 (u2 (u2 t3))) (u2 (u2 (u2 (aj (u2 s2) (al (u2 s2))))))) <|
 .br (fun a0=>
 have c0:=K0 (x.dn) (y.b);
 .rn 0 [35] [] [(24,hK c0 [] [])] [] (aj a0 (al (u2 (u2 (u2 (u2 (aj (ak (k3 (al (c0)))) (u2 (u2 (u2 (u2 (aj (k2 n11) (u2 (aj t3 s2)))))))))))))) <|
 .br (fun a1=>
  .rn 0 [61] [] [] [] (al (u2 (u2 (ag a1 (ag a1 (ag a1 (ag a1 (al (aj a1 t2))))))))) <|
  .br (fun a2=>
  .gu fun a3=>
  have c1:=rHe_c (x.a) (0) ((Ag x.dn y.b).x) a3;
  .rn 0 [61,71] [] [(40,hK c1 [] [])] [] (aj a2 (al (u2 (u2 (u2 (aj (k2 (aj t6 (ak (aj t6 (al (c1)))))) (u2 (u2 (u2 (u2 (aj t3 s2))))))))))) <|
  .gu fun a4=>
  have c2:=E5 (x.up) ((heO x.a 0 (Ag x.dn y.b).x).l) a4;
  .rt [61] [] [(47,hK c2 [] [])] [] [] [] (aj (aj (u2 (u2 (u2 (aj (ak (k3 (al (c2)))) (u2 (al t3)))))) (al (u2 (u2 (aj (k2 n11) s2))))) (al (aj (ak (k3 (k5 t9))) t2))))
  (fun a2=>
  .rt [61,70] [] [] [] [] [] (aj (aj a2 (al (u2 (u2 (aj (k2 n11) s2))))) (al (aj (ak (k3 (k5 t9))) t2)))))
 (fun a1=>
  .rt [60] [] [] [] [] [] (aj (aj (u2 (u2 (aj a1 (aj a1 (aj a1 (aj a1 (al (aj a1 t2)))))))) (ak (al (u2 (u2 (aj (k2 n11) s2)))))) (al (aj (ak (k3 (k5 t9))) t2)))))
 (fun a0=>
 .rn 0 [34] [] [] [] (aj a0 (al (u2 s2))) <|
 .br (fun a1=>
  have c0:=K0 (x.up) (y.b);
  .rn 0 [99] [] [(56,hK c0 [] [])] [] (aj a1 (al (u2 (u2 (u2 (u2 (aj (ak (k3 (al (c0)))) (u2 (u2 (u2 (u2 (aj (k2 n11) (u2 (aj t3 s2)))))))))))))) <|
  .br (fun a2=>
  .rn 0 [125] [] [] [] (al (u2 (u2 (ag a2 (ag a2 (ag a2 (al (aj a2 t2)))))))) <|
  .br (fun a3=>
   .br (fun a4=>
   have c1:=rcf_c (x.s) ((Ag x.up y.b).x.q);
   have c2:=En (x.dn) (FrD.mk 3 0 (Ag x.up y.b).x.q 0 (Ag x.up y.b).x.f);
   .rt [125,133,143] [] [(81,hK c1 [] []),(92,hK c2 [] [])] [] [] [] (aj (aj a3 (aj (u2 (u2 (u2 (u2 (u2 (aj a4 (aj a4 (aj a4 (al (aj a4 t2)))))))))) (ak (aj (u2 (u2 (u2 (u2 (aj (k2 (aj t5 (ak (al (c1))))) (u2 (u2 (u2 (u2 (al t3)))))))))) (aj (u2 (u2 (u2 (u2 (u2 (u2 (aj t3 (aj (k3 (aj t6 (al (c2)))) (u2 (al t3)))))))))) (al (u2 (u2 (aj (k2 n11) s2))))))))) (al (aj (ak (k3 (k5 t9))) t2))))
   (fun a4=>
   .rn 0 [125,133,142] [] [] [] (aj a3 (al (u2 (u2 (u2 (u2 (u2 (ag a4 (ag a4 (ag a4 (al (aj a4 t2)))))))))))) <|
   .br (fun a5=>
    have c1:=rcf_c (x.s) ((Ag x.up y.b).x.q);
    have c2:=En (x.dn) (FrD.mk 3 0 (Ag x.up y.b).x.q 0 (Ag x.up y.b).x.f);
    .rt [125,142,151] [] [(81,hK c1 [] []),(92,hK c2 [] [])] [] [] [] (aj (aj a5 (aj (u2 (u2 (u2 (u2 (aj (k2 (aj t5 (ak (al (c1))))) (u2 (u2 (u2 (u2 (al t3)))))))))) (aj (u2 (u2 (u2 (u2 (u2 (u2 (aj t3 (aj (k3 (aj t6 (al (c2)))) (u2 (al t3)))))))))) (al (u2 (u2 (aj (k2 n11) s2))))))) (al (aj (ak (k3 (k5 t9))) t2))))
   (fun a5=>
    have c1:=En (x.dn) (FrD.mk 3 0 (Ag x.up y.b).x.q 0 (Ag x.up y.b).x.f);
    .rt [125,142,150] [] [(92,hK c1 [] [])] [] [] [] (aj (aj a5 (aj (u2 (u2 (u2 (u2 (u2 (u2 (aj t3 (aj (k3 (aj t6 (al (c1)))) (u2 (al t3)))))))))) (al (u2 (u2 (aj (k2 n11) s2)))))) (al (aj (ak (k3 (k5 t9))) t2))))))
  (fun a3=>
   .rt [125,132] [] [] [] [] [] (aj (aj a3 (al (u2 (u2 (aj (k2 n11) s2))))) (al (aj (ak (k3 (k5 t9))) t2)))))
  (fun a2=>
  .rt [124] [] [] [] [] [] (aj (aj (u2 (u2 (aj a2 (aj a2 (aj a2 (al (aj a2 t2))))))) (ak (al (u2 (u2 (aj (k2 n11) s2)))))) (al (aj (ak (k3 (k5 t9))) t2)))))
 (fun a1=>
  .rn 0 [98] [] [] [] (aj a1 (al (u2 s2))) <|
  .br (fun a2=>
  have c0:=rlo_c (x.dn) (y.b);
  .rt [189] [] [(101,hK c0 [] [])] [] [] [] (aj (aj a2 (aj (u2 (u2 (u2 (u2 (aj (ak (k3 (al (c0)))) (u2 (u2 (u2 (u2 (aj t3 s2)))))))))) (al (u2 (u2 (aj (k2 n11) s2)))))) (al (aj (ak (k3 (k5 t9))) t2))))
  (fun a2=>
  .rn 0 [188] [] [] [] (aj a2 (al (u2 s2))) <|
  .br (fun a3=>
   have c0:=rlo_c (x.up) (y.b);
   .rt [211] [] [(112,hK c0 [] [])] [] [] [] (aj (aj a3 (aj (u2 (u2 (u2 (u2 (aj (ak (k3 (al (c0)))) (u2 (u2 (u2 (u2 (aj t3 s2)))))))))) (al (u2 (u2 (aj (k2 n11) s2)))))) (al (aj (ak (k3 (k5 t9))) t2))))
  (fun a3=>
   .rn 0 [210] [] [] [] (aj a3 (al (u2 s2))) <|
   .br (fun a4=>
   have c0:=rdo_c (x.dn) (y.b);
   .rt [233] [] [(123,hK c0 [] [])] [] [] [] (aj (aj a4 (aj (u2 (u2 (u2 (u2 (aj (ak (k3 (al (c0)))) (u2 (u2 (u2 (u2 (aj t3 s2)))))))))) (al (u2 (u2 (aj (k2 n11) s2)))))) (al (aj (ak (k3 (k5 t9))) t2))))
   (fun a4=>
   .rn 0 [232] [] [] [] (aj a4 (al (u2 s2))) <|
   .br (fun a5=>
    have c0:=rdo_c (x.up) (y.b);
    .rt [255] [] [(134,hK c0 [] [])] [] [] [] (aj (aj a5 (aj (u2 (u2 (u2 (u2 (aj (ak (k3 (al (c0)))) (u2 (u2 (u2 (u2 (aj t3 s2)))))))))) (al (u2 (u2 (aj (k2 n11) s2)))))) (al (aj (ak (k3 (k5 t9))) t2))))
   (fun a5=>
    .rn 0 [254] [] [] [] (aj a5 (al (u2 s2))) <|
    .br (fun a6=>
    have c0:=JZ (x.s) (0);
    .rn 1 [277] [] [(143,hK c0 [] [])] [] (aj a6 (aj (u2 (u2 (aj (ak (aj t5 (ak (al (c0))))) (u2 (u2 (u2 (ak (aj (k2 n11) s2)))))))) (al s2))) <|
    .br (fun a7=>
     have c1:=En (x.dn) ((AW x.s 0).x);
     .rn 0 [293] [] [(150,hK c1 [] [])] [] (aj a7 (al (u2 (u2 (u2 (aj (k3 (aj t6 (al (c1)))) (u2 (al t3)))))))) <|
     .gu fun a8=>
     have c2:=rga_c (x.a) (0) (x.b);
     have c3:=E5 (x.up) (Bp x.a 0 x.b) a8;
     .rt [] [] [(158,hK c2 [] []),(159,hK c3 [] [])] [] [] [] (aj (aj (u2 (u2 (u2 (u2 (u2 (u2 (aj (k2 (aj t6 (ak (aj t5 (al (c2)))))) (aj (ak (k3 (al (c3)))) (u2 (al t3)))))))))) (al (u2 (u2 (aj (k2 n11) s2))))) (al (aj (ak (k3 (k5 t9))) t2))))
    (fun a7=>
     .gu fun a8=>
     have c1:=rga_c (x.a) (0) (x.b);
     have c2:=E5 (x.up) (Bp x.a 0 x.b) a8;
     .rt [292] [] [(158,hK c1 [] []),(159,hK c2 [] [])] [] [] [] (aj (aj a7 (aj (u2 (u2 (u2 (u2 (u2 (u2 (aj (k2 (aj t6 (ak (aj t5 (al (c1)))))) (aj (ak (k3 (al (c2)))) (u2 (al t3)))))))))) (al (u2 (u2 (aj (k2 n11) s2)))))) (al (aj (ak (k3 (k5 t9))) t2)))))
    (fun a6=>
    .rn 0 [276] [] [] [] (aj a6 (al (u2 s2))) <|
    .br (fun a7=>
     .rn 0 [323] [] [] [] (aj a7 (al (u2 (u2 (u2 (u2 (k2 (aj (k2 n11) (al (k2 n11)))))))))) <|
     .gu fun a8=>
     have c0:=rdr_c n (x.a) (0) (x.b) a8;
     .rn 0 [] [] [(171,hK c0 [] [])] [] (al (u2 (u2 (u2 (aj (k3 (aj t9 (aj t6 (ak (aj t5 (al (c0))))))) (u2 (u2 (u2 (u2 (u2 (aj t3 (u2 (aj t3 s2))))))))))))) <|
     .gu fun a9=>
     have c1:=E5 (x.up) ((Af n x.a 0 x.b).l) a9;
     .rn 0 [] [] [(180,hK c1 [] [])] [] (al (u2 (u2 (u2 (aj (ak (k3 (al (c1)))) (u2 (al t3))))))) <|
     .br (fun a10=>
     .rn 1 [373] [] [] [] (aj (u2 (u2 (u2 (aj t3 (u2 (aj a10 (aj a10 (aj a10 (aj a10 (ag a10 s2)))))))))) (al (u2 (u2 s2)))) <|
     .br (fun a11=>
      .gu fun a12=>
      .gu fun a13=>
      .gu fun a14=>
      .gu fun a15=>
      .gu fun a16=>
      .rt [373,389] [] [] [] [] [9] (aj (aj a11 (aj (u2 (u2 (aj (ak (aj a12 (aj a13 a14))) (u2 (u2 (u2 (u2 (aj (k2 (aj (show(List.map (iv) x.en).length=(List.map (iv) x.en).length from rfl) (aj (aj (show nat_lit 1=nat_lit 1 from rfl) (show 1<=[iv (Af n x.a 0 x.b).b.c].length by simp)) (aj a15 a16)))) (u2 (al t3)))))))))) (al (u2 (u2 (aj (k2 n11) s2)))))) (al (aj (ak (k5 (k5 (k5 (al (show(List.map (iv) x.en).length+[iv (Af n x.a 0 x.b).b.c].length=(List.map (iv) x.en++[iv (Af n x.a 0 x.b).b.c]).length by simp)))))) t2))))
     (fun a11=>
      .rt [373,388] [] [] [] [] [] (aj (aj a11 (al (u2 (u2 (aj (k2 n11) s2))))) (al (aj (ak (k3 (k5 t9))) t2)))))
     (fun a10=>
     .rn 1 [372] [] [] [] (aj (u2 (u2 (u2 (aj t3 (u2 (ag a10 (ag a10 (ag a10 (aj (aj a10 t3) (ag a10 s2)))))))))) (al (u2 (u2 s2)))) <|
     .br (fun a11=>
      .gu fun a12=>
      .gu fun a13=>
      .gu fun a14=>
      .gu fun a15=>
      .gu fun a16=>
      .rt [372,389] [] [] [] [] [9] (aj (aj a11 (aj (u2 (u2 (aj (ak (aj a12 (aj a13 a14))) (u2 (u2 (u2 (u2 (aj (k2 (aj (show(List.map (iv) x.en).length=(List.map (iv) x.en).length from rfl) (aj (aj (show nat_lit 1=nat_lit 1 from rfl) (show 1<=[iv (Af n x.a 0 x.b).b.c].length by simp)) (aj a15 a16)))) (u2 (al t3)))))))))) (al (u2 (u2 (aj (k2 n11) s2)))))) (al (aj (ak (k5 (k5 (k5 (al (show(List.map (iv) x.en).length+[iv (Af n x.a 0 x.b).b.c].length=(List.map (iv) x.en++[iv (Af n x.a 0 x.b).b.c]).length by simp)))))) t2))))
     (fun a11=>
      .rt [372,388] [] [] [] [] [] (aj (aj a11 (al (u2 (u2 (aj (k2 n11) s2))))) (al (aj (ak (k3 (k5 t9))) t2))))))
    (fun a7=>
     .rn 0 [322] [] [] [] (aj a7 (al (u2 s2))) <|
     .br (fun a8=>
     .br (fun a9=>
      .br (fun a10=>
      have c0:=Kn (x.a) (0) (x.b);
      .rn 1 [409,421,431] [] [(226,hK c0 [] [])] [] (aj a8 (aj (u2 (u2 (u2 (u2 (u2 (ag a9 (ag a9 (ag a9 (ag a9 (u2 (ag a10 (ag a10 (ag a10 (ag a10 (ag a10 s2))))))))))))))) (al (u2 (u2 (u2 (u2 (aj (k2 (aj t6 (ak (aj t5 (al (c0)))))) (u2 (u2 (u2 (u2 (u2 (aj t3 (u2 (aj t3 s2)))))))))))))))) <|
      .gu fun a11=>
      have c1:=E5 (x.up) ((Aw x.a 0 x.b).l) a11;
      .rt [421,431] [] [(235,hK c1 [] [])] [] [] [] (aj (aj (u2 (u2 (u2 (aj (ak (k3 (al (c1)))) (u2 (al t3)))))) (al (u2 (u2 (aj (k2 n11) s2))))) (al (aj (ak (k3 (k5 t9))) t2))))
      (fun a10=>
      have c0:=Kn (x.a) (0) (x.b);
      .rn 1 [409,421,430] [] [(226,hK c0 [] [])] [] (aj a8 (aj (u2 (u2 (u2 (u2 (u2 (ag a9 (ag a9 (ag a9 (ag a9 (u2 (aj a10 (aj a10 (aj a10 (aj a10 (ag a10 s2))))))))))))))) (al (u2 (u2 (u2 (u2 (aj (k2 (aj t6 (ak (aj t5 (al (c0)))))) (u2 (u2 (u2 (u2 (u2 (aj t3 (u2 (aj t3 s2)))))))))))))))) <|
      .gu fun a11=>
      have c1:=E5 (x.up) ((Aw x.a 0 x.b).l) a11;
      .rt [421,430] [] [(235,hK c1 [] [])] [] [] [] (aj (aj (u2 (u2 (u2 (aj (ak (k3 (al (c1)))) (u2 (al t3)))))) (al (u2 (u2 (aj (k2 n11) s2))))) (al (aj (ak (k3 (k5 t9))) t2)))))
     (fun a9=>
      have c0:=Kn (x.a) (0) (x.b);
      .rn 1 [409,420] [] [(226,hK c0 [] [])] [] (aj a8 (aj (u2 (u2 (u2 (u2 (u2 (aj a9 (aj a9 (aj a9 (ag a9 (u2 (ak (k3 (aj t3 s2))))))))))))) (al (u2 (u2 (u2 (u2 (aj (k2 (aj t6 (ak (aj t5 (al (c0)))))) (u2 (u2 (u2 (u2 (u2 (aj t3 (u2 (aj t3 s2)))))))))))))))) <|
      .gu fun a10=>
      have c1:=E5 (x.up) ((Aw x.a 0 x.b).l) a10;
      .rt [420] [] [(235,hK c1 [] [])] [] [] [] (aj (aj (u2 (u2 (u2 (aj (ak (k3 (al (c1)))) (u2 (al t3)))))) (al (u2 (u2 (aj (k2 n11) s2))))) (al (aj (ak (k3 (k5 t9))) t2)))))
     (fun a8=>
     .rn 0 [408] [] [] [] (aj a8 (al (u2 s2))) <|
     .br (fun a9=>
      .rt [475] [] [] [] [] [] (aj (aj a9 (aj (u2 (u2 (u2 (u2 s2)))) (aj (u2 (u2 s2)) (al (u2 (u2 (aj (k2 n11) s2))))))) (al (aj (ak (k3 (k5 t9))) t2))))
     (fun a9=>
      .rt [474] [] [] [] [] [] (aj (aj a9 (u2 (al (u2 (u2 (aj (k2 n11) s2)))))) (al (aj (ak (k3 (k5 t9))) t2)))))))))))))) (by kernel_rfl)
theorem rsx_ct(n:Aa)(x:RaD)(y:EvD)(r:Ret)(h:Aj (rsxStep n x y) (G6 n x y) r):CT Try.prog 77 ([]) ([Ad n,raA x,evA y]) r.1 r.2:=
 CT.mach (fn:=Try.f77) (c:=zB Try.f77) (S:=rsxSt n x y) (hd:=rsxHd) Try.func77 (by kernel_rfl) (nL rfl)
  (fun s o ho=>match s,ho with
   | x,_=>x.elim)
  (fun o ho=>rsxEn_ok n x y o ho) h
end Go.Proofs.Ytifigemlifbkcaa
namespace Go.Proofs.Ytifigemlifbkcaa
def plO(x:RaD):Int:=if 0<x.of.length then x.of.getD (x.of.length-1) 0 else x.b.c
def CJ(n:Aa)(x:RaD)(q p:Int):NwD:=bif (AR x.s q p).e != 0 then ⟨ra0,(AR x.s q p).e⟩ else bif A8 n (plO x) q then ⟨⟨(AR x.s q p).s,x.a,x.b,AE x.dn (AW (AR x.s q p).s 0).x,x.up,x.of++[q],x.en⟩,0⟩ else ⟨ra0,24⟩
def raZ:AV:=.agg [.int .u64 0,.bool false,.int .i64 0,.int .i64 0,.int .u64 0,.int .i64 0,.bool false,.int .i64 0,.int .i64 0,.int .i64 0,.int .i64 0,.bool false,.bool false,.nils,.nils,.nils,.nils]
def OfL(x:RaD):Prop:=RaS x/\0<=x.s.q/\x.s.q<=1000000
theorem CT.nw{f:FuncId}{args:List AV}{x y:AV}{z:NwD}(h:CT Try.prog f [] args [] (.tup [x,y]))(e:AV.tup [wkr x,y]=nwA z):CT Try.prog f [] args [] (nwA z):=by
 rw[<-e]
 exact h.less fun φ A w v hv=>Kg hv
theorem K7(x:RaD)(h:0<x.of.length):x.of[(i64.wrap (iN (x.of.map (AV.int .i64)).length-1)).toNat]?=some (plO x)\/1000000<x.of.length:=by
 by_cases hl:1000000<x.of.length
 .exact .inr hl
 refine .inl ?_
 rw[Bn,Dj (by omega) (by omega),show((x.of.length:Int)-1).toNat=x.of.length-1 by omega,plO,if_pos h]
 exact Cs 0 (by omega)
theorem off_c(n:Aa)(x:RaD)(q p:Int)(hrw:Rows n.nx)(hx:OfL x):CT Try.prog 32 [] [Ad n,raA x,.int .i64 q,.int .i64 p] [] (nwA (CJ n x q p)):=by
 obtain⟨hs,h0,h1⟩:=hx
 have hs':=hs
 obtain⟨g1,g2,g3,g4⟩:=hs'
 unfold CJ
 cases he:(AR x.s q p).e != 0 with
 | true=>exact CT.nw (J2 n x q p ([],_) (.val (by unfold He;rw[Ac ⟨h0,h1⟩,Au he]))) rfl
 | false=>
  have key:He n x q p=br (!A8 n (plO x) q) (some (.inr ([],.tup [raZ,.int .i64 24]))) (some (.inr ([],nwA ⟨⟨(AR x.s q p).s,x.a,x.b,AE x.dn (AW (AR x.s q p).s 0).x,x.up,x.of++[q],x.en⟩,0⟩))):=by
   unfold He
   rw[Ac ⟨h0,h1⟩,Ao he]
   have e2:(x.of.map (AV.int .i64))++[AV.int .i64 q]=(x.of++[q]).map (AV.int .i64):=by simp
   by_cases hl:0<x.of.length
   .rw[Au (AN (by rw[Bn];omega)),Ac (by rw[Bn,Dj (by omega) (by omega)];omega),Bi ((K7 x hl).resolve_right (by omega)),Ac hrw,Ac hs,Ac (by simp only[Re,RP];omega),Ac (by simp only[Re,RP];omega),e2];rfl
   .rw[Ao (AF (by rw[Bn];omega)),Ac hrw,Ac hs,Ac (by simp only[Re,RP];omega),Ac (by simp only[Re,RP];omega),e2,plO,if_neg hl];rfl
  cases hf:A8 n (plO x) q with
  | true=>exact J2 n x q p ([],_) (.val (by rw[key,hf];rfl))
  | false=>exact CT.nw (x:=raZ) (y:=.int .i64 24) (J2 n x q p ([],_) (.val (by rw[key,hf];rfl))) rfl
theorem rff_c(n:Aa)(x:RaD)(q p:Int)(hrw:Rows n.nx)(hx:OfL x):CT Try.prog 57 [] [Ad n,raA x,.int .i64 q,.int .i64 p] [] (nwA (CJ n x q p)):=by
 obtain⟨hs,h0,h1⟩:=hx
 have hs':=hs
 obtain⟨g1,g2,g3,g4⟩:=hs'
 unfold CJ
 cases he:(AR x.s q p).e != 0 with
 | true=>exact CT.nw (JF n x q p ([],_) (.val (by unfold GA;rw[Ac ⟨h0,h1⟩,Au he]))) rfl
 | false=>
  have key:GA n x q p=br (!A8 n (plO x) q) (some (.inr ([],.tup [raZ,.int .i64 24]))) (some (.inr ([],nwA ⟨⟨(AR x.s q p).s,x.a,x.b,AE x.dn (AW (AR x.s q p).s 0).x,x.up,x.of++[q],x.en⟩,0⟩))):=by
   unfold GA
   rw[Ac ⟨h0,h1⟩,Ao he]
   have e2:(x.of.map (AV.int .i64))++[AV.int .i64 q]=(x.of++[q]).map (AV.int .i64):=by simp
   by_cases hl:0<x.of.length
   .rw[Au (AN (by rw[Bn];omega)),Ac (by rw[Bn,Dj (by omega) (by omega)];omega),Bi ((K7 x hl).resolve_right (by omega)),Ac hrw,Ac (fun e he=>by obtain⟨x,_,rfl⟩:=RF.1 he;rfl),Ac (by rw[Re];omega),Ac (by rw[Re];omega),Ac (by simp only[Re,RP];omega),Ac (by simp only[Re,RP];omega),e2];rfl
   .rw[Ao (AF (by rw[Bn];omega)),Ac hrw,Ac (fun e he=>by obtain⟨x,_,rfl⟩:=RF.1 he;rfl),Ac (by rw[Re];omega),Ac (by rw[Re];omega),Ac (by simp only[Re,RP];omega),Ac (by simp only[Re,RP];omega),e2,plO,if_neg hl];rfl
  cases hf:A8 n (plO x) q with
  | true=>exact JF n x q p ([],_) (.val (by rw[key,hf];rfl))
  | false=>exact CT.nw (x:=raZ) (y:=.int .i64 24) (JF n x q p ([],_) (.val (by rw[key,hf];rfl))) rfl
theorem Fy(d:BdD):bdB d d=true:=by simp[bdB]
theorem Fr(d:AgD):agB d d=true:=by simp[agB]
theorem MS(n:Aa)(a:AgD)(q:Int)(b:BdD):(Af n a q b=⟨a,b,[]⟩)\/
  ((b.t = -1/\b.c≠-1/\b.f=false/\b.s=false/\a.t≠-1/\A8 n b.c a.t=true)/\Af n a q b=⟨a,⟨b.c,a.t,b.s,b.f⟩,[]⟩)\/
  ((b.t≠-1/\b.c≠-1/\b.f=false)/\Af n a q b=⟨⟨a.l,-1,a.s,1,b.t⟩,⟨b.t,-1,b.s||a.s,b.f⟩,[Ay ⟨a.l,-1,a.s,1,b.t⟩ q]⟩):=by
 unfold Af
 cases h1:b.c == -1 with
 | true=>exact .inl rfl
 | false=>cases h2:b.f with
  | true=>exact .inl rfl
  | false=>cases h3:b.t == -1 with
   | true=>cases h4:!b.s&&(!(a.t == -1)&&A8 n b.c a.t) with
    | true=>
     simp only[Rj,RX,RL] at h4
     exact .inr (.inl ⟨⟨eq_of_beq h3,by simpa using h1,rfl,h4.1,h4.2.1,h4.2.2⟩,rfl⟩)
    | false=>exact .inl rfl
   | false=>exact .inr (.inr ⟨⟨by simpa using h3,by simpa using h1,rfl⟩,rfl⟩)
theorem DD{α:Type}(x y:Option α):br true x y=x:=rfl
theorem Dn{α:Type}(x y:Option α):br false x y=y:=rfl
theorem N2(n:Aa)(x:RaD)(y:EvD)(hrw:Rows n.nx)(hx:RaS x)(hq:∀f∈x.dn,0<=f.q):∃z:SoD,G6 n x y=some (.inr ([],soA z))/\z.o=(stO n x y).o/\(z.o=true->z.x=(stO n x y).x):=by
 obtain⟨g1,g2,g3,g4⟩:=hx
 have hdq:0<=(Ag x.dn y.b).x.q:=by
  unfold Ag
  cases hh:BN x.dn y.b with
  | false=>exact Int.le_refl 0
  | true=>
   obtain⟨h2,h0,h1⟩:=Em.1 hh
   have hl:y.b.toNat<x.dn.length:=by omega
   show 0<=(x.dn.getD y.b.toNat fr0).q
   rw[Rc,Rb hl]
   exact hq _ (RG hl)
 have hhe:(heO x.a 0 (Ag x.dn y.b).x).l.length<=1000000:=by have:=Lo x.a 0 (Ag x.dn y.b).x;omega
 obtain⟨k,ea,eb⟩:=y
 obtain⟨z,g,⟨dc,dt,ds,df⟩,dn,up,of,en⟩:=x
 unfold G6
 dsimp only at hdq hhe g4 ⊢
 by_cases k2:k=2
 .subst k2
  simp only[Int.reduceBEq,DD,Dn]
  unfold stO AD
  cases (Ag dn eb).o with
  | false=>exact⟨⟨⟨z,g,⟨dc,dt,ds,df⟩,_,_,of,en⟩,false⟩,rfl,rfl,fun h=>nomatch h⟩
  | true=>cases df with
   | true=>exact⟨⟨⟨z,g,⟨dc,dt,ds,true⟩,_,_,of,en⟩,true⟩,rfl,rfl,fun _=>rfl⟩
   | false=>exact⟨⟨⟨z,(heO g 0 (Ag dn eb).x).a,⟨dc,dt,ds,false⟩,_,_,of,en⟩,true⟩,(Ac hdq).trans (Ac hhe),rfl,fun _=>rfl⟩
 by_cases k3:k=3
 .subst k3
  simp only[Int.reduceBEq,DD,Dn]
  unfold stO AI Bg
  cases (Ag up eb).o with
  | false=>exact⟨⟨⟨z,g,⟨dc,dt,ds,df⟩,_,_,of,en⟩,false⟩,rfl,rfl,fun h=>nomatch h⟩
  | true=>cases (Ag up eb).x.k==2 with
   | false=>exact⟨⟨⟨z,g,⟨dc,dt,ds,df⟩,_,_,of,en⟩,true⟩,rfl,rfl,fun _=>rfl⟩
   | true=>cases z.f==0 with
    | true=>exact⟨⟨⟨(Cy z (Ag up eb).x.q).s,g,⟨dc,dt,ds,df⟩,_,_,of,en⟩,true⟩,rfl,rfl,fun _=>rfl⟩
    | false=>cases (Ag up eb).x.f==2 with
     | true=>exact⟨⟨⟨(Cy z (Ag up eb).x.q).s,g,⟨dc,dt,ds,df⟩,_,_,of,en⟩,true⟩,rfl,rfl,fun _=>rfl⟩
     | false=>exact⟨⟨⟨z,g,⟨dc,dt,ds,df⟩,_,_,of,en⟩,true⟩,rfl,rfl,fun _=>rfl⟩
 by_cases k4:k=4
 .subst k4
  simp only[Int.reduceBEq,DD,Dn]
  exact⟨⟨⟨z,g,⟨dc,dt,ds,df⟩,_,_,of,en⟩,_⟩,rfl,rfl,fun _=>rfl⟩
 by_cases k5:k=5
 .subst k5
  simp only[Int.reduceBEq,DD,Dn]
  exact⟨⟨⟨z,g,⟨dc,dt,ds,df⟩,_,_,of,en⟩,_⟩,rfl,rfl,fun _=>rfl⟩
 by_cases k6:k=6
 .subst k6
  simp only[Int.reduceBEq,DD,Dn]
  exact⟨⟨⟨z,g,⟨dc,dt,ds,df⟩,_,_,of,en⟩,_⟩,rfl,rfl,fun _=>rfl⟩
 by_cases k7:k=7
 .subst k7
  simp only[Int.reduceBEq,DD,Dn]
  exact⟨⟨⟨z,g,⟨dc,dt,ds,df⟩,_,_,of,en⟩,_⟩,rfl,rfl,fun _=>rfl⟩
 by_cases k8:k=8
 .subst k8
  simp only[Int.reduceBEq,DD,Dn]
  unfold stO
  cases (AW z 0).o with
  | true=>exact⟨⟨⟨z,g,⟨dc,dt,ds,df⟩,_,_,of,en⟩,_⟩,Ac (Iw _ _ _),rfl,fun _=>rfl⟩
  | false=>exact⟨⟨⟨z,g,⟨dc,dt,ds,df⟩,_,_,of,en⟩,_⟩,Ac (Iw _ _ _),rfl,fun _=>rfl⟩
 by_cases k9:k=9
 .subst k9
  simp only[Int.reduceBEq,DD,Dn]
  have hst:stO n ⟨z,g,⟨dc,dt,ds,df⟩,dn,up,of,en⟩ ⟨9,ea,eb⟩=bif agB (Af n g 0 ⟨dc,dt,ds,df⟩).a g&&bdB (Af n g 0 ⟨dc,dt,ds,df⟩).b ⟨dc,dt,ds,df⟩ then ⟨⟨z,g,⟨dc,dt,ds,df⟩,dn,up,of,en⟩,false⟩ else
   ⟨⟨z,(Af n g 0 ⟨dc,dt,ds,df⟩).a,(Af n g 0 ⟨dc,dt,ds,df⟩).b,dn,Ax up (Af n g 0 ⟨dc,dt,ds,df⟩).l,of,bif (Af n g 0 ⟨dc,dt,ds,df⟩).b.t == -1 then en++[(Af n g 0 ⟨dc,dt,ds,df⟩).b.c] else en⟩,true⟩:=rfl
  rw[hst]
  clear hst
  have hc:=MS n g 0 ⟨dc,dt,ds,df⟩
  generalize Af n g 0 ⟨dc,dt,ds,df⟩=rr at hc ⊢
  have one:∀e∈en.map (AV.int .i64),e.cells.length=1:=fun e he=>by obtain⟨x,_,rfl⟩:=RF.1 he;rfl
  rcases hc with rfl | ⟨⟨h1,h2,h3,h4,h5,h6⟩,rfl⟩ | ⟨⟨h1,h2,h3⟩,rfl⟩
  .refine⟨⟨⟨z,g,⟨dc,dt,ds,df⟩,dn,up,of,en⟩,!bdB ⟨dc,dt,ds,df⟩ ⟨dc,dt,ds,df⟩⟩,(Ac hrw).trans ((Ac (Rn _)).trans (Ao (show(!agB g g)=false by rw[Fr];rfl))),?_,?_⟩
   .rw[Fr,Fy];rfl
   .rw[Fy];intro h;cases h
  .have hb:bdB ⟨dc,g.t,ds,df⟩ ⟨dc,dt,ds,df⟩=false:=by
    have:(g.t==dt)=false:=RL.2 (fun e=>h5 (e.trans h1))
    simp[bdB,this]
   have ht:(g.t == -1)=false:=RL.2 h5
   refine⟨⟨⟨z,g,⟨dc,g.t,ds,df⟩,dn,up,of,en⟩,!bdB ⟨dc,g.t,ds,df⟩ ⟨dc,dt,ds,df⟩⟩,(Ac hrw).trans ((Ac (Rn _)).trans (Ao (show(!agB g g)=false by rw[Fr];rfl))),?_,fun _=>?_⟩
   .rw[Fr,hb];rfl
   .rw[Fr,hb]
    show _=RaD.mk z g ⟨dc,g.t,ds,df⟩ dn up of (bif g.t == -1 then en++[dc] else en)
    rw[ht];rfl
  .have hb:bdB ⟨dt,-1,ds||g.s,df⟩ ⟨dc,dt,ds,df⟩=false:=by
    have:((-1:Int)==dt)=false:=RL.2 (fun e=>h1 e.symm)
    simp[bdB,this]
   refine⟨⟨⟨z,⟨g.l,-1,g.s,1,dt⟩,⟨dt,-1,ds||g.s,df⟩,dn,Ax up [Ay ⟨g.l,-1,g.s,1,dt⟩ 0],of,en++[dt]⟩,true⟩,(Ac hrw).trans ((Ac (nL rfl)).trans ?_),?_,fun _=>?_⟩
   .have e2:(en.map (AV.int .i64))++[AV.int .i64 dt]=(en++[dt]).map (AV.int .i64):=by simp
    have e3:∀k:Option (Empty⊕Ret),gu (∀(e:AV),e∈List.map (AV.int .i64) en->e.cells.length=1) (gu ((List.map (AV.int .i64) en).length<=9223372036854775807) (gu ((List.map (AV.int .i64) en).length * 8<=140737488355328) (gu ((List.map (AV.int .i64) en).length+[AV.int .i64 dt].length<=9223372036854775807) (gu (((List.map (AV.int .i64) en).length+[AV.int .i64 dt].length) * 8<=140737488355328) k))))=k:=fun k=>by
     rw[Ac one,Ac (by rw[Re];omega),Ac (by rw[Re];omega),Ac (by simp only[Re,RP];omega),Ac (by simp only[Re,RP];omega)]
    cases hA:!agB ⟨g.l,-1,g.s,1,dt⟩ g with
    | true=>refine(Au hA).trans ((e3 _).trans ?_);show some (Sum.inr ([],AV.tup [AV.agg [_,_,_,_,_,_,_,_,_,_,_,_,_,_,_,_,AV.lst (List.map (AV.int .i64) en++[AV.int .i64 dt])],_]))=_;rw[e2];rfl
    | false=>
     refine(Ao hA).trans ((e3 _).trans ?_)
     show some (Sum.inr ([],AV.tup [AV.agg [_,_,_,_,_,_,_,_,_,_,_,_,_,_,_,_,AV.lst (List.map (AV.int .i64) en++[AV.int .i64 dt])],AV.bool (!bdB ⟨dt,-1,ds||g.s,df⟩ ⟨dc,dt,ds,df⟩)]))=_
     rw[e2,hb];rfl
   .rw[hb,Bool.and_false];rfl
   .rw[hb,Bool.and_false];rfl
 by_cases k10:k=10
 .subst k10
  simp only[Int.reduceBEq,DD,Dn]
  have hst:stO n ⟨z,g,⟨dc,dt,ds,df⟩,dn,up,of,en⟩ ⟨10,ea,eb⟩=bif bdB (Aw g 0 ⟨dc,dt,ds,df⟩).b ⟨dc,dt,ds,df⟩ then ⟨⟨z,g,⟨dc,dt,ds,df⟩,dn,up,of,en⟩,false⟩ else
   ⟨⟨z,(Aw g 0 ⟨dc,dt,ds,df⟩).a,(Aw g 0 ⟨dc,dt,ds,df⟩).b,dn,Ax up (Aw g 0 ⟨dc,dt,ds,df⟩).l,of,en⟩,true⟩:=rfl
  rw[hst]
  clear hst
  have hl:=NE g 0 ⟨dc,dt,ds,df⟩
  have hn:Aw g 0 ⟨dc,dt,ds,df⟩=⟨g,⟨dc,dt,ds,df⟩,[]⟩->bdB (Aw g 0 ⟨dc,dt,ds,df⟩).b ⟨dc,dt,ds,df⟩=true:=fun h=>by rw[h];exact Fy _
  simp only[bne]
  cases hc:dc == -1 with
  | true=>
   have h:=hn (by unfold Aw;rw[hc];rfl)
   rw[h]
   exact⟨⟨⟨z,(Aw g 0 ⟨dc,dt,ds,df⟩).a,(Aw g 0 ⟨dc,dt,ds,df⟩).b,_,_,of,en⟩,false⟩,Ac hl,rfl,fun h=>nomatch h⟩
  | false=>cases ds with
   | false=>
    have h:=hn (by unfold Aw;rw[hc];rfl)
    rw[h]
    exact⟨⟨⟨z,(Aw g 0 ⟨dc,dt,false,df⟩).a,(Aw g 0 ⟨dc,dt,false,df⟩).b,_,_,of,en⟩,false⟩,Ac hl,rfl,fun h=>nomatch h⟩
   | true=>cases df with
    | true=>
     have h:=hn (by unfold Aw;rw[hc];rfl)
     rw[h]
     exact⟨⟨⟨z,(Aw g 0 ⟨dc,dt,true,true⟩).a,(Aw g 0 ⟨dc,dt,true,true⟩).b,_,_,of,en⟩,false⟩,Ac hl,rfl,fun h=>nomatch h⟩
    | false=>
     have h:bdB (Aw g 0 ⟨dc,dt,true,false⟩).b ⟨dc,dt,true,false⟩=false:=by unfold Aw;rw[hc];simp[bdB]
     rw[h]
     exact⟨⟨⟨z,(Aw g 0 ⟨dc,dt,true,false⟩).a,(Aw g 0 ⟨dc,dt,true,false⟩).b,_,_,of,en⟩,true⟩,Ac hl,rfl,fun _=>rfl⟩
 by_cases k11:k=11
 .subst k11
  simp only[Int.reduceBEq,DD,Dn]
  exact⟨⟨⟨z,g,⟨dc,dt,ds,true⟩,_,_,of,en⟩,_⟩,rfl,rfl,fun _=>rfl⟩
 have e:∀i:Int,k≠i->(k==i)=false:=fun i h=>RL.2 h
 unfold stO
 simp only[e 2 k2,e 3 k3,e 4 k4,e 5 k5,e 6 k6,e 7 k7,e 8 k8,e 9 k9,e 10 k10,e 11 k11,Dn]
 exact⟨⟨⟨z,g,⟨dc,dt,ds,df⟩,_,_,of,en⟩,_⟩,rfl,rfl,fun _=>rfl⟩
open Classical in
def rfO(n:Aa)(x:RaD)(y:EvD):SoD:=if h:Rows n.nx/\RaS x/\∀f∈x.dn,0<=f.q then Classical.choose (N2 n x y h.1 h.2.1 h.2.2) else ⟨x,false⟩
@[irreducible] def rfJ(n:Aa)(x:RaD)(y:EvD):SoD:=rfO n x y
theorem Mw{n:Aa}{x:RaD}{y:EvD}(h:Rows n.nx/\RaS x/\∀f∈x.dn,0<=f.q):G6 n x y=some (.inr ([],soA (rfJ n x y)))/\(rfJ n x y).o=(stO n x y).o/\((rfJ n x y).o=true->(rfJ n x y).x=(stO n x y).x):=by
 unfold rfJ rfO
 rw[dif_pos h]
 exact RO (N2 n x y h.1 h.2.1 h.2.2)
theorem rsx_c(n:Aa)(x:RaD)(y:EvD)(h:Rows n.nx/\RaS x/\∀f∈x.dn,0<=f.q):CT Try.prog 77 [] [Ad n,raA x,evA y] [] (soA (rfJ n x y)):=rsx_ct n x y ([],_) (.val (Mw h).1)
def rspSt(n:Aa)(x:RaD)(y:EvD):Empty->St
 | x=>x.elim
def rspHd:Empty->Nat
 | x=>x.elim
def K2(n:Aa)(x:RaD)(y:EvD):Option (Empty⊕Ret):=
 br (y.a != 0)
 (some (.inr ([],AV.tup [rV x.s x.a x.b [AV.lst (List.map frA x.dn),AV.lst (List.map frA x.up),AV.lst (List.map iV x.of),AV.lst (List.map iV x.en)],bV false])))
 (gu (Rows n.nx/\RaS x/\∀(f:FrD),f∈x.dn->0<=f.q) <|
  br (!(rfJ n x y).o)
  (some (.inr ([],AV.tup [rV x.s x.a x.b [AV.lst (List.map frA x.dn),AV.lst (List.map frA x.up),AV.lst (List.map iV x.of),AV.lst (List.map iV x.en)],bV false])))
  (some (.inr ([],AV.tup [rV (rfJ n x y).x.s (rfJ n x y).x.a (rfJ n x y).x.b [AV.lst (List.map frA (rfJ n x y).x.dn),AV.lst (List.map frA (rfJ n x y).x.up),AV.lst (List.map iV (rfJ n x y).x.of),AV.lst (List.map iV (rfJ n x y).x.en)],bV true]))))
def rspStep(n:Aa)(x:RaD)(y:EvD):Empty->Option (Empty⊕Ret)
 | x=>x.elim
theorem rspEn_ok(n:Aa)(x:RaD)(y:EvD)(o:Empty⊕Ret)(h:K2 n x y=some o):Arr Try.prog Try.f58 0 (rspSt n x y) rspHd (zB Try.f58) [] {n:=Try.f58.ntmps,fr:=An 0 ([Ad n,raA x,evA y]),hp:=([])} o:=
 Scr.ok h mix (
 .rn 1 [] [] [] [] (aj (u2 (u2 (u2 t3))) (al (u2 (u2 s2)))) <|
 .br (fun a0=>
 .rt [25] [] [] [] [] [] (aj (aj a0 (al (u2 (aj (k2 n11) t2)))) (al (aj (ak (k3 (k5 t9))) t2))))
 (fun a0=>
 .gu fun a1=>
 have c0:=rsx_c n x y a1;
 .rn 1 [24] [] [(18,hK c0 [] [])] [] (aj a0 (aj (u2 (u2 (u2 (aj (k3 (aj t9 (aj (ak (k3 (k5 t9))) (aj t5 (al (c0)))))) (u2 (u2 (u2 (ak (aj (k2 n11) s2))))))))) (al (u2 s2)))) <|
 .br (fun a2=>
  .rt [45] [] [] [] [] [] (aj (aj a2 (al (u2 (aj (k2 n11) t2)))) (al (aj (ak (k3 (k5 t9))) t2))))
 (fun a2=>
  .rt [44] [] [] [] [] [] (aj (aj a2 (al (u2 (aj (k2 n11) t2)))) (al (aj (ak (k3 (k5 t9))) t2)))))) (by kernel_rfl)
theorem rsp_ct(n:Aa)(x:RaD)(y:EvD)(r:Ret)(h:Aj (rspStep n x y) (K2 n x y) r):CT Try.prog 58 ([]) ([Ad n,raA x,evA y]) r.1 r.2:=
 CT.mach (fn:=Try.f58) (c:=zB Try.f58) (S:=rspSt n x y) (hd:=rspHd) Try.func58 (by kernel_rfl) (nL rfl)
  (fun s o ho=>match s,ho with
   | x,_=>x.elim)
  (fun o ho=>rspEn_ok n x y o ho) h
def ofeSt(L:List Int)(kk:Nat)(n:Aa)(x:RaD):Empty->St
 | x=>x.elim
def ofeHd:Empty->Nat
 | x=>x.elim
def HX(L:List Int)(kk:Nat)(n:Aa)(x:RaD):Option (Empty⊕Ret):=
 br (decide (0<iN (List.map iV x.of).length))
 (gu (0<=i64.wrap (iN (List.map iV x.of).length-1)) <|
  el (x.of) ((i64.wrap (iN (List.map iV x.of).length-1)).toNat) fun(x24:Int)=>
  gu (Rows n.nx) <|
  br (ckE n x24 != 0)
  (gu (Aq n) <|
   gu (kk<9223372036854775807) <|
   gu (kk+1<9223372036854775807) <|
   some (.inr ([some (bK [AV.agg [AV.lst (List.map iV L),iV (iN (kk+1+1))]] 2)],AV.tup [iV (Ae L kk (iN (Az n))),iV (Ae L (kk+1) 2)])))
  (br (iN (List.map iV (nxO n x24)).length==0)
   (gu (Aq n) <|
    gu (kk<9223372036854775807) <|
    gu (kk+1<9223372036854775807) <|
    some (.inr ([some (bK [AV.agg [AV.lst (List.map iV L),iV (iN (kk+1+1))]] 2)],AV.tup [iV (Ae L kk (iN (Az n))),iV (Ae L (kk+1) 2)])))
   (gu (kk<9223372036854775807) <|
    br (Ae L kk 8==0)
    (gu (Aq n) <|
     gu (kk+1<9223372036854775807) <|
     gu (kk+1+1<9223372036854775807) <|
     some (.inr ([some (bK [AV.agg [AV.lst (List.map iV L),iV (iN (kk+1+1+1))]] 2)],AV.tup [iV (Ae L (kk+1) (iN (Az n))),iV (Ae L (kk+1+1) 2)])))
    (gu (kk+1<9223372036854775807) <|
     gu (0<=Ae L (kk+1) (iN (List.map iV (nxO n x24)).length)) <|
     el (nxO n x24) ((Ae L (kk+1) (iN (List.map iV (nxO n x24)).length)).toNat) fun(x55:Int)=>
     gu (kk+1+1<9223372036854775807) <|
     some (.inr ([some (bK [AV.agg [AV.lst (List.map iV L),iV (iN (kk+1+1+1))]] 2)],AV.tup [iV x55,iV (i64.wrap ((Ae L (kk+1+1) 4).tdiv 3))]))))))
 (gu (Rows n.nx) <|
  br (ckE n x.b.c != 0)
  (gu (Aq n) <|
   gu (kk<9223372036854775807) <|
   gu (kk+1<9223372036854775807) <|
   some (.inr ([some (bK [AV.agg [AV.lst (List.map iV L),iV (iN (kk+1+1))]] 2)],AV.tup [iV (Ae L kk (iN (Az n))),iV (Ae L (kk+1) 2)])))
  (br (iN (List.map iV (nxO n x.b.c)).length==0)
   (gu (Aq n) <|
    gu (kk<9223372036854775807) <|
    gu (kk+1<9223372036854775807) <|
    some (.inr ([some (bK [AV.agg [AV.lst (List.map iV L),iV (iN (kk+1+1))]] 2)],AV.tup [iV (Ae L kk (iN (Az n))),iV (Ae L (kk+1) 2)])))
   (gu (kk<9223372036854775807) <|
    br (Ae L kk 8==0)
    (gu (Aq n) <|
     gu (kk+1<9223372036854775807) <|
     gu (kk+1+1<9223372036854775807) <|
     some (.inr ([some (bK [AV.agg [AV.lst (List.map iV L),iV (iN (kk+1+1+1))]] 2)],AV.tup [iV (Ae L (kk+1) (iN (Az n))),iV (Ae L (kk+1+1) 2)])))
    (gu (kk+1<9223372036854775807) <|
     gu (0<=Ae L (kk+1) (iN (List.map iV (nxO n x.b.c)).length)) <|
     el (nxO n x.b.c) ((Ae L (kk+1) (iN (List.map iV (nxO n x.b.c)).length)).toNat) fun(x55:Int)=>
     gu (kk+1+1<9223372036854775807) <|
     some (.inr ([some (bK [AV.agg [AV.lst (List.map iV L),iV (iN (kk+1+1+1))]] 2)],AV.tup [iV x55,iV (i64.wrap ((Ae L (kk+1+1) 4).tdiv 3))]))))))
def ofeStep(L:List Int)(kk:Nat)(n:Aa)(x:RaD):Empty->Option (Empty⊕Ret)
 | x=>x.elim
theorem ofeEn_ok(L:List Int)(kk:Nat)(n:Aa)(x:RaD)(o:Empty⊕Ret)(h:HX L kk n x=some o):Arr Try.prog Try.f31 1 (ofeSt L kk n x) ofeHd (zB Try.f31) [] {n:=Try.f31.ntmps,fr:=An 0 ([.ptr 0 0 0,Ad n,raA x]),hp:=([some (Ab L kk)])} o:=
 Scr.ok h mix (
 .rn 2 [] [] [] [] (aj (u2 (u2 t3)) (aj (u2 (u2 (u2 s2))) (al (u2 (u2 (u2 s2)))))) <|
 .br (fun a0=>
 .gu fun a1=>
 .el fun x24 a2=>
 .rn 0 [35] [(24,iv x24)] [] [] (aj a0 (al (u2 (u2 (u2 (u2 (u2 (u2 (aj (k2 (aj a1 (A2 (f:=iv) a2))) (u2 s2)))))))))) <|
 .gu fun a3=>
 have c0:=Ib n x24 a3;
 .rn 0 [] [] [(29,hK c0 [] [])] [] (al (u2 (u2 (aj (k2 (aj t9 (ak (al (c0))))) (u2 (u2 (u2 (u2 s2)))))))) <|
 .br (fun a4=>
  .rn 0 [69] [] [] [] (al (u2 (u2 (u2 (aj a4 (aj a4 (aj a4 (ag a4 (u2 (k3 (al t3))))))))))) <|
  .gu fun a5=>
  .gu fun a6=>
  .gu fun a7=>
  have c1:=DB a5;
  have c2:=AA (L) (kk) (iN (Az n)) a6;
  have c3:=AA (L) (kk+1) (2) a7;
  .rt [69] [] [(46,hK c1 [] []),(47,hK c2 [0] []),(49,hK c3 [0] [])] [] [0] [] (aj (ak (al (u2 (u2 (aj (ak (aj t9 (al (c1)))) (aj (k5 (al (c2))) (u2 (aj (ak (k3 (al (c3)))) (u2 s2))))))))) (aj t3 t2)))
 (fun a4=>
  .br (fun a5=>
  .rn 0 [68,79] [] [] [] (al (u2 (u2 (u2 (ag a4 (ag a4 (ag a4 (ag a4 (u2 (aj a5 (aj a5 (aj a5 (al (aj a5 t2)))))))))))))) <|
  .gu fun a6=>
  .gu fun a7=>
  .gu fun a8=>
  have c1:=DB a6;
  have c2:=AA (L) (kk) (iN (Az n)) a7;
  have c3:=AA (L) (kk+1) (2) a8;
  .rt [68,79] [] [(46,hK c1 [] []),(47,hK c2 [0] []),(49,hK c3 [0] [])] [] [0] [] (aj (ak (al (u2 (u2 (aj (ak (aj t9 (al (c1)))) (aj (k5 (al (c2))) (u2 (aj (ak (k3 (al (c3)))) (u2 s2))))))))) (aj t3 t2)))
  (fun a5=>
  .gu fun a6=>
  have c1:=AA (L) (kk) (8) a6;
  .rn 0 [68,78] [] [(41,hK c1 [0] [])] [] (al (u2 (u2 (u2 (ag a4 (ag a4 (ag a4 (ag a4 (u2 (ag a5 (aj (aj a5 (ak (k3 (al (c1))))) (ag a5 (al (aj a5 t2)))))))))))))) <|
  .br (fun a7=>
   .gu fun a8=>
   .gu fun a9=>
   .gu fun a10=>
   have c2:=DB a8;
   have c3:=AA (L) (kk+1) (iN (Az n)) a9;
   have c4:=AA (L) (kk+1+1) (2) a10;
   .rt [68,78,87] [] [(46,hK c2 [] []),(47,hK c3 [0] []),(49,hK c4 [0] [])] [] [0] [] (aj (aj a7 (al (u2 (u2 (aj (ak (aj t9 (al (c2)))) (aj (k5 (al (c3))) (u2 (aj (ak (k3 (al (c4)))) (u2 s2))))))))) (aj t3 t2)))
  (fun a7=>
   .gu fun a8=>
   .gu fun a9=>
   .el fun x55 a10=>
   .gu fun a11=>
   have c2:=AA (L) (kk+1) (iN (List.map (iv) (nxO n x24)).length) a8;
   have c3:=AA (L) (kk+1+1) (4) a11;
   .rt [68,78,86] [(55,iv x55)] [(54,hK c2 [0] []),(58,hK c3 [0] [])] [] [0] [] (aj (aj a7 (al (u2 (u2 (u2 (u2 (aj (k5 (al (c2))) (aj (k2 (aj a9 (A2 (f:=iv) a10))) (u2 (u2 (aj (ak (k3 (al (c3)))) (aj (ak (show(3:Int)=(0:Int)->False from(by first | decide | exact Int.NonNeg.mk _))) (u2 s2))))))))))))) (aj t3 t2))))))
 (fun a0=>
 .gu fun a1=>
 have c0:=Ib n (x.b.c) a1;
 .rn 0 [34] [] [(29,hK c0 [] [])] [] (aj a0 (al (u2 (u2 (aj (k2 (aj t9 (ak (al (c0))))) (u2 (u2 (u2 (u2 s2))))))))) <|
 .br (fun a2=>
  .rn 0 [69] [] [] [] (al (u2 (u2 (u2 (aj a2 (aj a2 (aj a2 (ag a2 (u2 (k3 (al t3))))))))))) <|
  .gu fun a3=>
  .gu fun a4=>
  .gu fun a5=>
  have c1:=DB a3;
  have c2:=AA (L) (kk) (iN (Az n)) a4;
  have c3:=AA (L) (kk+1) (2) a5;
  .rt [69] [] [(46,hK c1 [] []),(47,hK c2 [0] []),(49,hK c3 [0] [])] [] [0] [] (aj (ak (al (u2 (u2 (aj (ak (aj t9 (al (c1)))) (aj (k5 (al (c2))) (u2 (aj (ak (k3 (al (c3)))) (u2 s2))))))))) (aj t3 t2)))
 (fun a2=>
  .br (fun a3=>
  .rn 0 [68,79] [] [] [] (al (u2 (u2 (u2 (ag a2 (ag a2 (ag a2 (ag a2 (u2 (aj a3 (aj a3 (aj a3 (al (aj a3 t2)))))))))))))) <|
  .gu fun a4=>
  .gu fun a5=>
  .gu fun a6=>
  have c1:=DB a4;
  have c2:=AA (L) (kk) (iN (Az n)) a5;
  have c3:=AA (L) (kk+1) (2) a6;
  .rt [68,79] [] [(46,hK c1 [] []),(47,hK c2 [0] []),(49,hK c3 [0] [])] [] [0] [] (aj (ak (al (u2 (u2 (aj (ak (aj t9 (al (c1)))) (aj (k5 (al (c2))) (u2 (aj (ak (k3 (al (c3)))) (u2 s2))))))))) (aj t3 t2)))
  (fun a3=>
  .gu fun a4=>
  have c1:=AA (L) (kk) (8) a4;
  .rn 0 [68,78] [] [(41,hK c1 [0] [])] [] (al (u2 (u2 (u2 (ag a2 (ag a2 (ag a2 (ag a2 (u2 (ag a3 (aj (aj a3 (ak (k3 (al (c1))))) (ag a3 (al (aj a3 t2)))))))))))))) <|
  .br (fun a5=>
   .gu fun a6=>
   .gu fun a7=>
   .gu fun a8=>
   have c2:=DB a6;
   have c3:=AA (L) (kk+1) (iN (Az n)) a7;
   have c4:=AA (L) (kk+1+1) (2) a8;
   .rt [68,78,87] [] [(46,hK c2 [] []),(47,hK c3 [0] []),(49,hK c4 [0] [])] [] [0] [] (aj (aj a5 (al (u2 (u2 (aj (ak (aj t9 (al (c2)))) (aj (k5 (al (c3))) (u2 (aj (ak (k3 (al (c4)))) (u2 s2))))))))) (aj t3 t2)))
  (fun a5=>
   .gu fun a6=>
   .gu fun a7=>
   .el fun x55 a8=>
   .gu fun a9=>
   have c2:=AA (L) (kk+1) (iN (List.map (iv) (nxO n x.b.c)).length) a6;
   have c3:=AA (L) (kk+1+1) (4) a9;
   .rt [68,78,86] [(55,iv x55)] [(54,hK c2 [0] []),(58,hK c3 [0] [])] [] [0] [] (aj (aj a5 (al (u2 (u2 (u2 (u2 (aj (k5 (al (c2))) (aj (k2 (aj a7 (A2 (f:=iv) a8))) (u2 (u2 (aj (ak (k3 (al (c3)))) (aj (ak (show(3:Int)=(0:Int)->False from(by first | decide | exact Int.NonNeg.mk _))) (u2 s2))))))))))))) (aj t3 t2))))))) (by kernel_rfl)
theorem ON(L:List Int)(kk:Nat)(n:Aa)(x:RaD)(r:Ret)(h:Aj (ofeStep L kk n x) (HX L kk n x) r):CT Try.prog 31 ([some (Ab L kk)]) ([.ptr 0 0 0,Ad n,raA x]) r.1 r.2:=
 CT.mach (fn:=Try.f31) (c:=zB Try.f31) (S:=ofeSt L kk n x) (hd:=ofeHd) Try.func31 (by kernel_rfl) (nL rfl)
  (fun s o ho=>match s,ho with
   | x,_=>x.elim)
  (fun o ho=>ofeEn_ok L kk n x o ho) h
def LiO(x:RaD):Prop:=OfL x/\∀f∈x.dn,0<=f.q
theorem rsp_c(n:Aa)(x:RaD)(y:EvD)(hrw:Rows n.nx)(h:LiO x):CT Try.prog 58 [] [Ad n,raA x,evA y] [] (soA (evO n x y)):=by
 have hh:Rows n.nx/\RaS x/\∀f∈x.dn,0<=f.q:=⟨hrw,h.1.1,h.2⟩
 obtain⟨_,e2,e3⟩:=Mw (y:=y) hh
 refine rsp_ct n x y ([],_) (.val ?_)
 unfold K2 evO
 rw[Ac hh]
 cases y.a != 0 with
 | true=>rfl
 | false=>
  rw[<-e2]
  cases ho:(rfJ n x y).o with
  | true=>rw[e3 ho];rfl
  | false=>rfl
theorem Iu(L:List Int)(kk:Nat)(n:Aa)(x:RaD):∃p:(Int×Int)×Nat,kk<=1000000->Aq n->Rows n.nx->x.of.length<=1000000->p.2<=kk+3/\CT Try.prog 31 [some (Ab L kk)] [.ptr 0 0 0,Ad n,raA x] [some (Ab L p.2)] (.tup [.int .i64 p.1.1,.int .i64 p.1.2]):=by
 by_cases h:kk<=1000000/\Aq n/\Rows n.nx/\x.of.length<=1000000
 .obtain⟨hk,hv,hrw,hl⟩:=h
  have key:∀c:Int,∃p:(Int×Int)×Nat,p.2<=kk+3/\((gu (Rows n.nx) <| br (ckE n c != 0) (gu (Aq n) <| gu (kk<9223372036854775807) <| gu (kk+1<9223372036854775807) <| some (.inr ([some (Blk.mk [AV.agg [AV.lst (List.map (AV.int .i64) L),(AV.int .i64) (iN (kk+1+1))]] 2 true true none)],AV.tup [(AV.int .i64) (Ae L kk (iN (Az n))),(AV.int .i64) (Ae L (kk+1) 2)]))) (br (iN (List.map (AV.int .i64) (nxO n c)).length==0) (gu (Aq n) <| gu (kk<9223372036854775807) <| gu (kk+1<9223372036854775807) <| some (.inr ([some (Blk.mk [AV.agg [AV.lst (List.map (AV.int .i64) L),(AV.int .i64) (iN (kk+1+1))]] 2 true true none)],AV.tup [(AV.int .i64) (Ae L kk (iN (Az n))),(AV.int .i64) (Ae L (kk+1) 2)]))) (gu (kk<9223372036854775807) <| br (Ae L kk 8==0) (gu (Aq n) <| gu (kk+1<9223372036854775807) <| gu (kk+1+1<9223372036854775807) <| some (.inr ([some (Blk.mk [AV.agg [AV.lst (List.map (AV.int .i64) L),(AV.int .i64) (iN (kk+1+1+1))]] 2 true true none)],AV.tup [(AV.int .i64) (Ae L (kk+1) (iN (Az n))),(AV.int .i64) (Ae L (kk+1+1) 2)]))) (gu (kk+1<9223372036854775807) <| gu (0<=Ae L (kk+1) (iN (List.map (AV.int .i64) (nxO n c)).length)) <| el (nxO n c) ((Ae L (kk+1) (iN (List.map (AV.int .i64) (nxO n c)).length)).toNat) fun(x55:Int)=>gu (kk+1+1<9223372036854775807) <| some (.inr ([some (Blk.mk [AV.agg [AV.lst (List.map (AV.int .i64) L),(AV.int .i64) (iN (kk+1+1+1))]] 2 true true none)],AV.tup [(AV.int .i64) x55,(AV.int .i64) (i64.wrap ((Ae L (kk+1+1) 4).tdiv 3))])))))):Option (Empty⊕Ret))=some (.inr (([some (Ab L p.2)],.tup [.int .i64 p.1.1,.int .i64 p.1.2]):Ret)):=by
   intro c
   rw[Ac hrw]
   repeat rw[Ac hv]
   repeat rw[Ac (show kk<9223372036854775807 by omega)]
   repeat rw[Ac (show kk+1<9223372036854775807 by omega)]
   repeat rw[Ac (show kk+1+1<9223372036854775807 by omega)]
   cases ckE n c != 0 with
   | true=>exact⟨((_,_),_),by simp only;omega,rfl⟩
   | false=>cases hn:iN (List.map (AV.int .i64) (nxO n c)).length==0 with
    | true=>exact⟨((_,_),_),by simp only;omega,rfl⟩
    | false=>cases Ae L kk 8==0 with
     | true=>exact⟨((_,_),_),by simp only;omega,rfl⟩
     | false=>
      have hn':(nxO n c).length≠0:=fun e=>by rw[Bn,e] at hn;cases hn
      have hxl:=JP hrw c
      have hr:=AY L (kk+1) ((nxO n c).length:Int) (by omega) (by omega)
      rw[Bn,Ac (by omega),Bi (Cs 0 (show(Ae L (kk+1) ((nxO n c).length:Int)).toNat<(nxO n c).length by omega))]
      exact⟨((_,_),kk+1+1+1),by simp only;omega,Ac (by omega)⟩
  by_cases hp:0<x.of.length
  .obtain⟨p,h1,h2⟩:=key (plO x)
   refine⟨p,fun _ _ _ _=>⟨h1,ON L kk n x ([_],_) (.val ?_)⟩⟩
   unfold HX
   rw[Au (AN (by rw[Bn];omega)),Ac (by rw[Bn,Dj (by omega) (by omega)];omega),Bi ((K7 x hp).resolve_right (by omega))]
   exact h2
  .obtain⟨p,h1,h2⟩:=key x.b.c
   refine⟨p,fun _ _ _ _=>⟨h1,ON L kk n x ([_],_) (.val ?_)⟩⟩
   unfold HX
   rw[Ao (AF (by rw[Bn];omega))]
   exact h2
 .exact⟨((0,0),0),fun a b c d=>absurd ⟨a,b,c,d⟩ h⟩
@[irreducible] def Fb(L:List Int)(kk:Nat)(n:Aa)(x:RaD):Int:=(Classical.choose (Iu L kk n x)).1.1
@[irreducible] def Fq(L:List Int)(kk:Nat)(n:Aa)(x:RaD):Int:=(Classical.choose (Iu L kk n x)).1.2
@[irreducible] def FI(L:List Int)(kk:Nat)(n:Aa)(x:RaD):Nat:=(Classical.choose (Iu L kk n x)).2
theorem N5{L:List Int}{kk:Nat}{n:Aa}{x:RaD}(h1:kk<=1000000)(h2:Aq n)(h3:Rows n.nx)(h4:x.of.length<=1000000):FI L kk n x<=kk+3/\CT Try.prog 31 [some (Ab L kk)] [.ptr 0 0 0,Ad n,raA x] [some (Ab L (FI L kk n x))] (.tup [.int .i64 (Fb L kk n x),.int .i64 (Fq L kk n x)]):=by
 unfold Fb Fq FI;exact RO (Iu L kk n x) h1 h2 h3 h4
theorem ofe_c(L:List Int)(kk:Nat)(n:Aa)(x:RaD)(h1:kk<=1000000)(h2:Aq n)(h3:Rows n.nx)(h4:x.of.length<=1000000):CT Try.prog 31 [some (Ab L kk)] [.ptr 0 0 0,Ad n,raA x] [some (Ab L (FI L kk n x))] (.tup [.int .i64 (Fb L kk n x),.int .i64 (Fq L kk n x)]):=(N5 h1 h2 h3 h4).2
@[irreducible] def evJ(n:Aa)(x:RaD)(y:EvD):SoD:=evO n x y
theorem GZ:evJ=evO:=by funext n x y;unfold evJ;rfl
theorem stp_j(n:Aa)(x:RaD)(y:EvD)(hrw:Rows n.nx)(hx:RaS x):CT Try.prog 33 [] [Ad n,raA x,evA y] [] (soA (evJ n x y)):=by rw[GZ];exact stp_c n x y hrw hx
theorem rsp_j(n:Aa)(x:RaD)(y:EvD)(hrw:Rows n.nx)(h:LiO x):CT Try.prog 58 [] [Ad n,raA x,evA y] [] (soA (evJ n x y)):=by rw[GZ];exact rsp_c n x y hrw h
@[irreducible] def ofJ(n:Aa)(x:RaD)(q p:Int):NwD:=CJ n x q p
theorem I3:ofJ=CJ:=by funext n x q p;unfold ofJ;rfl
theorem off_j(n:Aa)(x:RaD)(q p:Int)(hrw:Rows n.nx)(hx:OfL x):CT Try.prog 32 [] [Ad n,raA x,.int .i64 q,.int .i64 p] [] (nwA (ofJ n x q p)):=by rw[I3];exact off_c n x q p hrw hx
theorem rff_j(n:Aa)(x:RaD)(q p:Int)(hrw:Rows n.nx)(hx:OfL x):CT Try.prog 57 [] [Ad n,raA x,.int .i64 q,.int .i64 p] [] (nwA (ofJ n x q p)):=by rw[I3];exact rff_c n x q p hrw hx
@[irreducible] def nwJ(n:Aa)(q:Int):NwD:=EC n q
theorem Jy:nwJ=EC:=by funext n q;unfold nwJ;rfl
theorem rnw_j(n:Aa)(q:Int)(hrw:Rows n.nx):CT Try.prog 30 [] [Ad n,.int .i64 q] [] (nwA (nwJ n q)):=by rw[Jy];exact rnw_c n q hrw
theorem rrn_j(n:Aa)(q:Int)(hrw:Rows n.nx):CT Try.prog 56 [] [Ad n,.int .i64 q] [] (nwA (nwJ n q)):=by rw[Jy];exact rrn_c n q hrw
inductive D0 where
 | l0 (v0:NwD) (v1:Int) (v2:RaD)
def Jd:D0->St
 | .l0 v0 v1 v2=>St.mk 83 [(1,AV.ptr 0 0 0),(2,AV.ptr 1 0 0),(3,iv v0.e),(4,AV.lst (List.map (iv) (nxO (AK [2] 0 4) 0))),(6,AV.lst [AV.agg [iv 6,iv 0,iv 0,AV.str (ByteArray.mk #[])],AV.agg [iv 2,iv 0,iv 0,AV.str (ByteArray.mk #[])],AV.agg [iv 2,iv 0,iv 0,AV.str (ByteArray.mk #[])],AV.agg [iv 9,iv 0,iv 0,AV.str (ByteArray.mk #[])],AV.agg [iv 9,iv 0,iv 0,AV.str (ByteArray.mk #[])],AV.agg [iv 9,iv 0,iv 0,AV.str (ByteArray.mk #[])]]),(7,iv v1)] [some (bK [Ad (AK [2] 0 4)] 8),some (bK [AV.agg [uV v2.s.q,bV v2.s.o,iv v2.s.c,iv v2.s.f,uV v2.a.l,iv v2.a.t,bV v2.a.s,iv v2.a.r,iv v2.a.c,iv v2.b.c,iv v2.b.t,bV v2.b.s,bV v2.b.f,AV.lst (List.map frA v2.dn),AV.lst (List.map frA v2.up),AV.lst (List.map (iv) v2.of),AV.lst (List.map (iv) v2.en)]] 17)]
def KC:D0->Nat
 | .l0 _ _ _=>0
def Jn:Option (D0⊕Ret):=
 gu (Rows (AK [(2:Int)] (nat_lit 0) (4:Int)).nx) <|
 br ((nwJ (AK [2] 0 4) 0).e != 0)
 (some (.inr ([],bV false)))
 (br (ckE (AK [2] 0 4) 0 != 0)
  (some (.inr ([],bV false)))
  (br (iN (List.map iV (nxO (AK [2] 0 4) 0)).length==0)
   (some (.inr ([],bV false)))
   (el (nxO (AK [2] 0 4) 0) (Int.toNat 0) fun(x37:Int)=>
    gu (OfL (nwJ (AK [(2:Int)] (nat_lit 0) (4:Int)) (0:Int)).1) <|
    some (.inl (.l0 (ofJ (AK [2] 0 4) (nwJ (AK [2] 0 4) 0).1 x37 0) ((0:Int)) ((ofJ (AK [2] 0 4) (nwJ (AK [2] 0 4) 0).1 x37 0).x))))))
def Gc(v0:NwD)(v1:Int)(v2:RaD):Option (D0⊕Ret):=
 br (decide (v1<6))
 (gu (0<=v1) <|
  el ([EvD.mk 6 0 0,EvD.mk 2 0 0,EvD.mk 2 0 0,EvD.mk 9 0 0,EvD.mk 9 0 0,EvD.mk 9 0 0]) (v1.toNat) fun(x60:EvD)=>
  gu (Rows (AK [(2:Int)] (nat_lit 0) (4:Int)).nx) <|
  gu (RaS v2) <|
  some (.inl (.l0 v0 (i64.wrap (v1+1)) ((evJ (AK [2] 0 4) v2 x60).x))))
 (br (v0.e==0)
  (br (iN (List.map iV v2.en).length==1)
   (el (v2.en) (Int.toNat 0) fun(x76:Int)=>
    el (nxO (AK [2] 0 4) 0) (Int.toNat 0) fun(x79:Int)=>
    some (.inr ([],bV (x76==x79))))
   (some (.inr ([],bV false))))
  (some (.inr ([],bV false))))
def kn8Step:D0->Option (D0⊕Ret)
 | .l0 v0 v1 v2=>Gc v0 v1 v2
theorem kn8En_ok(o:D0⊕Ret)(h:Jn=some o):Arr Try.prog Try.f29 0 (Jd) KC (zB Try.f29) [] {n:=Try.f29.ntmps,fr:=An 0 ([]),hp:=([])} o:=
 Scr.ok h mix (
 have c0:=net_ct ([2]) (0) (4) (show nat_lit 0<=(5000:Nat) from(by first | exact nL rfl | decide)) (show(1:Int)<=(4:Int)/\(4:Int)<=(20:Int) from ⟨(by first | exact nL rfl | decide),(by first | exact nL rfl | decide)⟩);
 .rn 1 [] [(8,AV.lst [])] [(11,hK c0 [0] [])] [] (u2 (al (ak (u2 (u2 (aj (ak (k3 (al (c0)))) (ak (al (k2 n11))))))))) <|
 .gu fun a0=>
 have c1:=rnw_j (AK [2] 0 4) (0) a0;
 have c2:=Ib (AK [2] 0 4) (0) a0;
 .rn 1 [] [] [(14,hK c1 [] []),(19,hK c2 [] [])] [] (aj (u2 (aj (ak (aj t9 (ak (al (c1))))) (u2 (u2 (u2 (ak (aj (k2 n11) s2))))))) (al (u2 (aj (ak (aj t9 (ak (al (c2))))) (u2 (u2 (u2 (u2 s2)))))))) <|
 .br (fun a1=>
 .rt [49] [] [] [] [] [] (aj (aj (u2 (u2 (u2 (aj a1 (aj a1 (ag a1 (u2 (k3 (al t3))))))))) (ak s2)) t2))
 (fun a1=>
 .br (fun a2=>
  .rt [48,57] [] [] [] [] [] (aj (aj (u2 (u2 (u2 (ag a1 (ag a1 (ag a1 (u2 (aj a2 (aj a2 (aj a2 (al (aj a2 t2)))))))))))) (ak s2)) t2))
 (fun a2=>
  .rn 0 [48,56] [] [] [] (al (u2 (u2 (u2 (ag a1 (ag a1 (ag a1 (u2 (ag a2 (ag a2 (ag a2 (al (aj a2 t2))))))))))))) <|
  .br (fun a3=>
  .rt [48,56,65] [] [] [] [] [] (aj (aj a3 s2) t2))
  (fun a3=>
  .el fun x37 a4=>
  .gu fun a5=>
  have c3:=off_j (AK [2] 0 4) ((nwJ (AK [2] 0 4) 0).1) x37 (0) a0 a5;
  .lp [48,56,64] [(37,iv x37),(48,AV.lst [])] [(39,hK c3 [] [])] [] [] [1,2] [1,2,3,4,6,7] (aj (aj a3 (aj (u2 (u2 (u2 (aj (ak (aj (show(0:Int)<=(0:Int) from(by first | exact nL rfl | decide)) (A2 (f:=iv) a4))) (u2 (aj (k3 (aj t9 (aj (ak (k3 (k5 t9))) (k2 (al (c3)))))) (u2 (u2 (u2 (aj (k2 (show Nat.le (nat_lit 1) [AV.agg [uV (nwJ (AK [(2:Int)] (nat_lit 0) (4:Int)) (0:Int)).x.s.q,bV (nwJ (AK [(2:Int)] (nat_lit 0) (4:Int)) (0:Int)).x.s.o,iv (nwJ (AK [(2:Int)] (nat_lit 0) (4:Int)) (0:Int)).x.s.c,iv (nwJ (AK [(2:Int)] (nat_lit 0) (4:Int)) (0:Int)).x.s.f,uV (nwJ (AK [(2:Int)] (nat_lit 0) (4:Int)) (0:Int)).x.a.l,iv (nwJ (AK [(2:Int)] (nat_lit 0) (4:Int)) (0:Int)).x.a.t,bV (nwJ (AK [(2:Int)] (nat_lit 0) (4:Int)) (0:Int)).x.a.s,iv (nwJ (AK [(2:Int)] (nat_lit 0) (4:Int)) (0:Int)).x.a.r,iv (nwJ (AK [(2:Int)] (nat_lit 0) (4:Int)) (0:Int)).x.a.c,iv (nwJ (AK [(2:Int)] (nat_lit 0) (4:Int)) (0:Int)).x.b.c,iv (nwJ (AK [(2:Int)] (nat_lit 0) (4:Int)) (0:Int)).x.b.t,bV (nwJ (AK [(2:Int)] (nat_lit 0) (4:Int)) (0:Int)).x.b.s,bV (nwJ (AK [(2:Int)] (nat_lit 0) (4:Int)) (0:Int)).x.b.f,AV.lst (List.map frA (nwJ (AK [(2:Int)] (nat_lit 0) (4:Int)) (0:Int)).x.dn),AV.lst (List.map frA (nwJ (AK [(2:Int)] (nat_lit 0) (4:Int)) (0:Int)).x.up),AV.lst (List.map (iv) (nwJ (AK [(2:Int)] (nat_lit 0) (4:Int)) (0:Int)).x.of),AV.lst (List.map (iv) (nwJ (AK [(2:Int)] (nat_lit 0) (4:Int)) (0:Int)).x.en)]].length from(nL rfl))) s2)))))))))) (aj (ak (k5 (aj t7 s2))) s2))) t9))))) (by kernel_rfl)
theorem kn8S0_ok(v0:NwD)(v1:Int)(v2:RaD)(o:D0⊕Ret)(h:Gc v0 v1 v2=some o):Arr Try.prog Try.f29 0 (Jd) KC (AM Try.f29 0) (.rnd (AM Try.f29 0)::Bw Try.f29 0) (Jd (.l0 v0 v1 v2)) o:=
 Scr.ok h mix (
 .rn 0 [] [] [] [] (al (u2 (u2 (u2 (al t3))))) <|
 .br (fun a0=>
 .gu fun a1=>
 .el fun x60 a2=>
 .gu fun a3=>
 .gu fun a4=>
 have c0:=stp_j (AK [2] 0 4) v2 x60 a3 a4;
 .lp [105] [(60,evA x60)] [(62,hK c0 [] [])] [] [] [0,1] [1,2,3,4,6,7] (aj (aj a0 (aj (u2 (u2 (u2 (u2 (aj (k2 (aj a1 (A2 (f:=evA) a2))) (u2 (aj (k3 (aj t9 (aj (ak (k3 (k5 t9))) (aj t5 (al (c0)))))) (u2 (u2 (u2 (al (k2 (show Nat.le 1 [AV.agg [uV v2.s.q,bV v2.s.o,iv v2.s.c,iv v2.s.f,uV v2.a.l,iv v2.a.t,bV v2.a.s,iv v2.a.r,iv v2.a.c,iv v2.b.c,iv v2.b.t,bV v2.b.s,bV v2.b.f,AV.lst (List.map frA v2.dn),AV.lst (List.map frA v2.up),AV.lst (List.map (iv) v2.of),AV.lst (List.map (iv) v2.en)]].length from(nL rfl)))))))))))))) (al (u2 (u2 s2))))) t9))
 (fun a0=>
 .br (fun a1=>
  .br (fun a2=>
  .el fun x76 a3=>
  .el fun x79 a4=>
  .rt [104,135,147] [(76,iv x76),(79,iv x79)] [] [] [] [] (aj (aj a0 (al (u2 (u2 (u2 (ag a1 (ag a1 (ag a1 (ag a1 (ag a1 (u2 (ag a2 (ag a2 (aj (aj a2 (ak (aj (show(0:Int)<=(0:Int) from(by first | exact nL rfl | decide)) (A2 (f:=iv) a3)))) (ag a2 (ag a2 (aj (aj a2 (ak (aj (show(0:Int)<=(0:Int) from(by first | exact nL rfl | decide)) (A2 (f:=iv) a4)))) (ag a2 (aj (aj a2 t3) (ag a2 s2)))))))))))))))))))) t2))
  (fun a2=>
  .rt [104,135,146] [] [] [] [] [] (aj (aj a0 (al (u2 (u2 (u2 (ag a1 (ag a1 (ag a1 (ag a1 (ag a1 (u2 (aj a2 (aj a2 (aj a2 (aj a2 (aj a2 (aj a2 (aj a2 (aj a2 (ag a2 s2)))))))))))))))))))) t2)))
 (fun a1=>
  .rt [104,134] [] [] [] [] [] (aj (aj a0 (al (u2 (u2 (u2 (aj a1 (aj a1 (aj a1 (aj a1 (ag a1 (u2 (k3 (k5 (aj t3 s2)))))))))))))) t2)))) (by kernel_rfl)
theorem kn8_ct(r:Ret)(h:Aj (kn8Step) (Jn) r):CT Try.prog 29 ([]) ([]) r.1 r.2:=
 CT.mach (fn:=Try.f29) (c:=zB Try.f29) (S:=Jd) (hd:=KC) Try.func29 (by kernel_rfl) (nL rfl)
  (fun s o ho=>match s,ho with
   | .l0 v0 v1 v2,ho=>kn8S0_ok v0 v1 v2 o ho
  )
  (fun o ho=>kn8En_ok o ho) h
inductive Ez where
 | l0 (v0:Int) (v1:Nat) (v2:RaD)
def ID(L:List Int)(kk:Nat)(p:Int):Ez->St
 | .l0 v0 v1 v2=>St.mk 61 [(0,AV.ptr 0 0 0),(1,iv p),(4,AV.ptr 1 0 0),(5,AV.ptr 2 0 0),(6,AV.ptr 3 0 0),(7,AV.ptr 4 0 0),(9,iv v0)] [some (Ab L v1),some (bK [AV.agg [AV.nils,AV.nils,AV.nils,AV.nils,iv 0,iv 0,iv 0,iv 0]] 8),some (bK [AV.agg [uV 0,bV false,iv 0,iv 0,uV 0,iv 0,bV false,iv 0,iv 0,iv 0,iv 0,bV false,bV false,AV.nils,AV.nils,AV.nils,AV.nils]] 17),some (bK [Ad (AJ L kk 6)] 8),some (bK [AV.agg [uV v2.s.q,bV v2.s.o,iv v2.s.c,iv v2.s.f,uV v2.a.l,iv v2.a.t,bV v2.a.s,iv v2.a.r,iv v2.a.c,iv v2.b.c,iv v2.b.t,bV v2.b.s,bV v2.b.f,AV.lst (List.map frA v2.dn),AV.lst (List.map frA v2.up),AV.lst (List.map (iv) v2.of),AV.lst (List.map (iv) v2.en)]] 17)]
def Kx:Ez->Nat
 | .l0 _ _ _=>0
def Ji(L:List Int)(kk:Nat)(p:Int):Option (Ez⊕Ret):=
 gu (kk<=5000) <|
 gu (Aq (AJ L kk 6)) <|
 gu (CF L kk 6<9223372036854775807) <|
 gu (Rows (AJ L kk 6).nx) <|
 some (.inl (.l0 ((0:Int)) (CF L kk 6+1) ((nwJ (AJ L kk 6) (Ae L (CF L kk 6) (iN (Az (AJ L kk 6))))).x)))
def Fn(L:List Int)(kk:Nat)(p v0:Int)(v1:Nat)(v2:RaD):Option (Ez⊕Ret):=
 br (decide (v0<p))
 (gu (v1<9223372036854775807) <|
  br (Ae L v1 3==0)
  (gu (v1+1<=1000000) <|
   gu (Aq (AJ L kk 6)) <|
   gu (Rows (AJ L kk 6).nx) <|
   gu (v2.of.length<=1000000) <|
   gu (OfL v2) <|
   br ((ofJ (AJ L kk 6) v2 (Fb L (v1+1) (AJ L kk 6) v2) (Fq L (v1+1) (AJ L kk 6) v2)).e==0)
   (some (.inl (.l0 (i64.wrap (v0+1)) (FI L (v1+1) (AJ L kk 6) v2) ((ofJ (AJ L kk 6) v2 (Fb L (v1+1) (AJ L kk 6) v2) (Fq L (v1+1) (AJ L kk 6) v2)).x))))
   (some (.inl (.l0 (i64.wrap (v0+1)) (FI L (v1+1) (AJ L kk 6) v2) v2))))
  (gu (v1+1<=1000000) <|
   gu (Rows (AJ L kk 6).nx) <|
   gu (LiO v2) <|
   some (.inl (.l0 (i64.wrap (v0+1)) (GK L (v1+1)) ((evJ (AJ L kk 6) v2 (Hf L (v1+1))).x)))))
 (some (.inr ([some (bK [AV.agg [AV.lst (List.map iV L),iV (iN v1)]] 2)],AV.tup [AV.agg [AV.lst (List.map bA (AJ L kk 6).bs),AV.lst (gL (AJ L kk 6).nx),AV.lst (List.map sA (AJ L kk 6).ss),AV.lst (List.map iV (AJ L kk 6).rs),iV (AJ L kk 6).q,iV (AJ L kk 6).a,iV (AJ L kk 6).d,iV (AJ L kk 6).p],rV v2.s v2.a v2.b [AV.lst (List.map frA v2.dn),AV.lst (List.map frA v2.up),AV.lst (List.map iV v2.of),AV.lst (List.map iV v2.en)]])))
def HZ(L:List Int)(kk:Nat)(p:Int):Ez->Option (Ez⊕Ret)
 | .l0 v0 v1 v2=>Fn L kk p v0 v1 v2
theorem lifEn_ok(L:List Int)(kk:Nat)(p:Int)(o:Ez⊕Ret)(h:Ji L kk p=some o):Arr Try.prog Try.f35 1 (ID L kk p) Kx (zB Try.f35) [] {n:=Try.f35.ntmps,fr:=An 0 ([.ptr 0 0 0,.int .i64 p]),hp:=([some (Ab L kk)])} o:=
 Scr.ok h mix (
 .rn 0 [] [] [] [] (al t3) <|
 .gu fun a0=>
 have c0:=loose_ct (L) (kk) (6) a0 (show(1:Int)<=(6:Int)/\(6:Int)<=(20:Int) from ⟨(by first | exact nL rfl | decide),(by first | exact nL rfl | decide)⟩);
 .rn 0 [] [] [(15,hK c0 [0] [])] [] (al (u2 (aj (ak (k3 (al (c0)))) (ak (al (k2 n11)))))) <|
 .gu fun a1=>
 .gu fun a2=>
 .gu fun a3=>
 have c1:=DB a1;
 have c2:=AA (L) (CF L kk 6) (iN (Az (AJ L kk 6))) a2;
 have c3:=rrn_j (AJ L kk 6) (Ae L (CF L kk 6) (iN (Az (AJ L kk 6)))) a3;
 .lp [] [] [(20,hK c1 [] []),(21,hK c2 [0] []),(22,hK c3 [] [])] [] [] [0,1,2,3,4] [0,1,4,5,6,7,9] (aj (aj (u2 (u2 (u2 (aj (ak (aj t9 (al (c1)))) (aj (k5 (al (c2))) (aj (k2 (aj t9 (ak (al (c3))))) (u2 (u2 (u2 (ak (aj (k2 n11) s2))))))))))) s2) (ak (k3 t9)))) (by kernel_rfl)
theorem lifS0_ok(L:List Int)(kk:Nat)(p v0:Int)(v1:Nat)(v2:RaD)(o:Ez⊕Ret)(h:Fn L kk p v0 v1 v2=some o):Arr Try.prog Try.f35 1 (ID L kk p) Kx (AM Try.f35 0) (.rnd (AM Try.f35 0)::Bw Try.f35 0) (ID L kk p (.l0 v0 v1 v2)) o:=
 Scr.ok h mix (
 .rn 0 [] [] [] [] (al (u2 (u2 (al t3)))) <|
 .br (fun a0=>
 .gu fun a1=>
 have c0:=AA (L) v1 (3) a1;
 .rn 0 [55] [] [(31,hK c0 [0] [])] [] (aj a0 (al (u2 (aj (ak (k3 (al (c0)))) s2)))) <|
 .br (fun a2=>
  .gu fun a3=>
  .gu fun a4=>
  .gu fun a5=>
  .gu fun a6=>
  have c1:=ofe_c (L) (v1+1) (AJ L kk 6) v2 a3 a4 a5 a6;
  .rn 0 [65] [] [(37,hK c1 [0] [])] [] (aj a2 (al (u2 (u2 (u2 (aj (ak (k3 (aj t9 (aj (ak (k3 (k5 t9))) (ak (al (c1))))))) (u2 (u2 (u2 (u2 s2)))))))))) <|
  .gu fun a7=>
  have c2:=rff_j (AJ L kk 6) v2 (Fb L (v1+1) (AJ L kk 6) v2) (Fq L (v1+1) (AJ L kk 6) v2) a5 a7;
  .rn 1 [] [] [(45,hK c2 [] [])] [] (aj (u2 (u2 (u2 (u2 (aj (ak (k3 (aj t9 (aj (ak (k3 (k5 t9))) (k2 (al (c2))))))) (u2 (u2 (u2 (ak (aj (k2 n11) s2)))))))))) (al (u2 s2))) <|
  .br (fun a8=>
  .lp [99] [] [] [] [] [0,1,2,3,4] [0,1,4,5,6,7,9] (aj (aj a8 (aj (u2 (al (k2 (show Nat.le 1 [AV.agg [uV v2.s.q,bV v2.s.o,iv v2.s.c,iv v2.s.f,uV v2.a.l,iv v2.a.t,bV v2.a.s,iv v2.a.r,iv v2.a.c,iv v2.b.c,iv v2.b.t,bV v2.b.s,bV v2.b.f,AV.lst (List.map frA v2.dn),AV.lst (List.map frA v2.up),AV.lst (List.map (iv) v2.of),AV.lst (List.map (iv) v2.en)]].length from(nL rfl))))) (al (u2 (u2 s2))))) (ak (k3 t9))))
  (fun a8=>
  .lp [98] [] [] [] [] [0,1,2,3,4] [0,1,4,5,6,7,9] (aj (aj a8 (al (u2 (u2 s2)))) (ak (k3 t9)))))
 (fun a2=>
  .gu fun a3=>
  .gu fun a4=>
  .gu fun a5=>
  have c1:=evt_c (L) (v1+1) a3;
  have c2:=rsp_j (AJ L kk 6) v2 (Hf L (v1+1)) a4 a5;
  .lp [64] [] [(55,hK c1 [0] []),(56,hK c2 [] [])] [] [] [0,1,2,3,4] [0,1,4,5,6,7,9] (aj (aj a2 (aj (u2 (u2 (u2 (aj (k3 (al (c1))) (aj (k3 (aj t9 (aj (ak (k3 (k5 t9))) (aj t5 (al (c2)))))) (u2 (u2 (u2 (al (k2 (show Nat.le 1 [AV.agg [uV v2.s.q,bV v2.s.o,iv v2.s.c,iv v2.s.f,uV v2.a.l,iv v2.a.t,bV v2.a.s,iv v2.a.r,iv v2.a.c,iv v2.b.c,iv v2.b.t,bV v2.b.s,bV v2.b.f,AV.lst (List.map frA v2.dn),AV.lst (List.map frA v2.up),AV.lst (List.map (iv) v2.of),AV.lst (List.map (iv) v2.en)]].length from(nL rfl)))))))))))) (al (u2 (u2 s2))))) (ak (k3 t9)))))
 (fun a0=>
 .rt [54] [] [] [] [0] [] (aj (aj a0 (al (u2 (u2 (aj (k2 n11) (al (k2 n11))))))) (aj (aj t9 (al (ak (k3 (k5 t9))))) t2)))) (by kernel_rfl)
theorem lif_ct(L:List Int)(kk:Nat)(p:Int)(r:Ret)(h:Aj (HZ L kk p) (Ji L kk p) r):CT Try.prog 35 ([some (Ab L kk)]) ([.ptr 0 0 0,.int .i64 p]) r.1 r.2:=
 CT.mach (fn:=Try.f35) (c:=zB Try.f35) (S:=ID L kk p) (hd:=Kx) Try.func35 (by kernel_rfl) (nL rfl)
  (fun s o ho=>match s,ho with
   | .l0 v0 v1 v2,ho=>lifS0_ok L kk p v0 v1 v2 o ho
  )
  (fun o ho=>lifEn_ok L kk p o ho) h
inductive DQ where
 | l0 (v0:Int)
 | l1 (v0:Int)
def F1(x:RaD):DQ->St
 | .l0 v0=>St.mk 94 [(1,AV.ptr 0 0 0),(2,AV.ptr 1 0 0),(4,iv v0)] [some (bK [AV.agg [uV x.s.q,bV x.s.o,iv x.s.c,iv x.s.f,uV x.a.l,iv x.a.t,bV x.a.s,iv x.a.r,iv x.a.c,iv x.b.c,iv x.b.t,bV x.b.s,bV x.b.f,AV.lst (List.map frA x.dn),AV.lst (List.map frA x.up),AV.lst (List.map (iv) x.of),AV.lst (List.map (iv) x.en)]] 17),some (bK [AV.agg [iv 0,iv 0,iv 0,AV.str (ByteArray.mk #[])]] 4)]
 | .l1 v0=>St.mk 94 [(1,AV.ptr 0 0 0),(2,AV.ptr 1 0 0),(6,iv v0)] [some (bK [AV.agg [uV x.s.q,bV x.s.o,iv x.s.c,iv x.s.f,uV x.a.l,iv x.a.t,bV x.a.s,iv x.a.r,iv x.a.c,iv x.b.c,iv x.b.t,bV x.b.s,bV x.b.f,AV.lst (List.map frA x.dn),AV.lst (List.map frA x.up),AV.lst (List.map (iv) x.of),AV.lst (List.map (iv) x.en)]] 17),some (bK [AV.agg [iv 0,iv 0,iv 0,AV.str (ByteArray.mk #[])]] 4)]
def H6:DQ->Nat
 | .l0 _=>0
 | .l1 _=>1
def IS(x:RaD):Option (DQ⊕Ret):=
 br (x.b.s)
 (some (.inr ([],AV.agg [iV 10,iV 0,iV 0,AV.str (ByteArray.mk #[])])))
 (br (x.b.t != -1)
  (some (.inr ([],AV.agg [iV 9,iV 0,iV 0,AV.str (ByteArray.mk #[])])))
  (br (x.a.t != -1)
   (some (.inr ([],AV.agg [iV 9,iV 0,iV 0,AV.str (ByteArray.mk #[])])))
   (some (.inl (.l0 ((0:Int)))))))
def Ev(x:RaD)(v0:Int):Option (DQ⊕Ret):=
 br (decide (v0<iN (List.map frA x.up).length))
 (gu (0<=v0) <|
  el (x.up) (v0.toNat) fun(x35:FrD)=>
  br (x35.k==2)
  (br (x35.q==x.s.q)
   (some (.inr ([],AV.agg [iV 3,iV 0,iV v0,AV.str (ByteArray.mk #[])])))
   (some (.inl (.l0 (i64.wrap (v0+1))))))
  (some (.inl (.l0 (i64.wrap (v0+1))))))
 (some (.inl (.l1 ((0:Int)))))
def EZ(x:RaD)(v0:Int):Option (DQ⊕Ret):=
 br (decide (v0<iN (List.map frA x.dn).length))
 (gu (0<=v0) <|
  el (x.dn) (v0.toNat) fun(x60:FrD)=>
  br (x60.k==1)
  (br (x60.q==x.s.q)
   (br (decide (x.a.l<x60.q))
    (some (.inr ([],AV.agg [iV 2,iV 0,iV v0,AV.str (ByteArray.mk #[])])))
    (some (.inl (.l1 (i64.wrap (v0+1))))))
   (some (.inl (.l1 (i64.wrap (v0+1))))))
  (some (.inl (.l1 (i64.wrap (v0+1))))))
 (br (iN (List.map frA x.up).length==6)
  (some (.inr ([],AV.agg [iV 5,iV 0,iV 0,AV.str (ByteArray.mk #[])])))
  (br (iN (List.map frA x.dn).length==6)
   (some (.inr ([],AV.agg [iV 4,iV 0,iV 0,AV.str (ByteArray.mk #[])])))
   (some (.inr ([],AV.agg [iV 8,iV 0,iV 0,AV.str (ByteArray.mk #[])])))))
def Ip(x:RaD):DQ->Option (DQ⊕Ret)
 | .l0 v0=>Ev x v0
 | .l1 v0=>EZ x v0
theorem turEn_ok(x:RaD)(o:DQ⊕Ret)(h:IS x=some o):Arr Try.prog Try.f36 0 (F1 x) H6 (zB Try.f36) [] {n:=Try.f36.ntmps,fr:=An 0 ([raA x]),hp:=([])} o:=
 Scr.ok h mix (
 .rn 2 [] [] [] [] (ag t2 (aj (u2 (u2 (ak (al (k2 n11))))) (al (u2 (u2 s2))))) <|
 .br (fun a0=>
 .rt [21] [] [] [] [] [] (aj (aj a0 (al (ak (al (k2 n11))))) (al t5)))
 (fun a0=>
 .br (fun a1=>
  .rt [20,37] [] [] [] [] [] (aj (aj a0 (aj (u2 (u2 (u2 (u2 (aj a1 (aj a1 (aj a1 (aj a1 (ag a1 s2))))))))) (ak (al (ak (al (k2 n11))))))) (al t5)))
 (fun a1=>
  .rn 0 [20,36] [] [] [] (aj a0 (al (u2 (u2 (u2 (u2 (ag a1 (ag a1 (ag a1 (ag a1 (ag a1 s2))))))))))) <|
  .br (fun a2=>
  .rt [36,29] [] [] [] [] [] (aj (aj a2 (al (ak (al (k2 n11))))) (al t5)))
  (fun a2=>
  .lp [36,28] [] [] [] [] [0,1] [1,2,4] (aj (aj a2 s2) t6))))) (by kernel_rfl)
theorem turS0_ok(x:RaD)(v0:Int)(o:DQ⊕Ret)(h:Ev x v0=some o):Arr Try.prog Try.f36 0 (F1 x) H6 (AM Try.f36 0) (.rnd (AM Try.f36 0)::Bw Try.f36 0) (F1 x (.l0 v0)) o:=
 Scr.ok h mix (
 .rn 0 [] [] [] [] (al (u2 (u2 (u2 (u2 (al t3)))))) <|
 .br (fun a0=>
 .gu fun a1=>
 .el fun x35 a2=>
 .rn 0 [59] [(35,frA x35)] [] [] (aj a0 (al (u2 (u2 (u2 (aj (k2 (aj a1 (A2 (f:=frA) a2))) (u2 (ak (al (k2 n11)))))))))) <|
 .br (fun a3=>
  .rn 0 [81] [] [] [] (al (u2 (u2 (u2 (u2 (ag a3 (ag a3 (ag a3 (ag a3 (ag a3 (aj (aj a3 t3) (al (aj a3 t2))))))))))))) <|
  .br (fun a4=>
  .rt [81,95] [] [] [] [] [] (aj (aj a4 (al (u2 (u2 (al (k2 n11)))))) (al t5)))
  (fun a4=>
  .lp [81,94] [] [] [] [] [0,1] [1,2,4] (aj (aj a4 (al (u2 (u2 s2)))) t6)))
 (fun a3=>
  .lp [80] [] [] [] [] [0,1] [1,2,4] (aj (aj (u2 (u2 (u2 (u2 (aj a3 (aj a3 (aj a3 (aj a3 (aj a3 (aj a3 (al (aj a3 t2)))))))))))) (ak (al (u2 (u2 s2))))) t6)))
 (fun a0=>
 .lp [58] [] [] [] [] [0,1] [1,2,6] (aj (aj a0 s2) t6))) (by kernel_rfl)
theorem turS1_ok(x:RaD)(v0:Int)(o:DQ⊕Ret)(h:EZ x v0=some o):Arr Try.prog Try.f36 0 (F1 x) H6 (AM Try.f36 1) (.rnd (AM Try.f36 1)::Bw Try.f36 1) (F1 x (.l1 v0)) o:=
 Scr.ok h mix (
 .rn 0 [] [] [] [] (al (u2 (u2 (u2 (u2 (al t3)))))) <|
 .br (fun a0=>
 .gu fun a1=>
 .el fun x60 a2=>
 .rn 0 [109] [(60,frA x60)] [] [] (aj a0 (al (u2 (u2 (u2 (aj (k2 (aj a1 (A2 (f:=frA) a2))) (u2 (ak (al (k2 n11)))))))))) <|
 .br (fun a3=>
  .br (fun a4=>
  .rn 0 [131,147] [] [] [] (al (u2 (u2 (u2 (u2 (ag a3 (ag a3 (ag a3 (ag a3 (ag a3 (aj (aj a3 t3) (ag a3 (u2 (ag a4 (ag a4 (ag a4 (ag a4 (ag a4 (aj (aj a4 t3) (al (aj a4 t2))))))))))))))))))))) <|
  .br (fun a5=>
   .rt [131,147,161] [] [] [] [] [] (aj (aj a5 (al (u2 (u2 (al (k2 n11)))))) (al t5)))
  (fun a5=>
   .lp [131,147,160] [] [] [] [] [0,1] [1,2,6] (aj (aj a5 (al (u2 (u2 s2)))) t6)))
  (fun a4=>
  .lp [131,146] [] [] [] [] [0,1] [1,2,6] (aj (aj (u2 (u2 (u2 (u2 (ag a3 (ag a3 (ag a3 (ag a3 (ag a3 (aj (aj a3 t3) (ag a3 (u2 (aj a4 (aj a4 (aj a4 (aj a4 (aj a4 (aj a4 (al (aj a4 t2)))))))))))))))))))) (ak (al (u2 (u2 s2))))) t6)))
 (fun a3=>
  .lp [130] [] [] [] [] [0,1] [1,2,6] (aj (aj (u2 (u2 (u2 (u2 (aj a3 (aj a3 (aj a3 (aj a3 (aj a3 (aj a3 (ag a3 (u2 (ak (k5 (al t3))))))))))))))) (ak (al (u2 (u2 s2))))) t6)))
 (fun a0=>
 .rn 0 [108] [] [] [] (aj a0 (al (u2 (u2 (u2 s2))))) <|
 .br (fun a1=>
  .rt [173] [] [] [] [] [] (aj (aj a1 (al (ak (al (k2 n11))))) (al t5)))
 (fun a1=>
  .rn 0 [172] [] [] [] (aj a1 (al (u2 (u2 (u2 s2))))) <|
  .br (fun a2=>
  .rt [183] [] [] [] [] [] (aj (aj a2 (al (ak (al (k2 n11))))) (al t5)))
  (fun a2=>
  .rt [182] [] [] [] [] [] (aj (aj a2 (al (ak (al (k2 n11))))) (al t5)))))) (by kernel_rfl)
theorem tur_ct(x:RaD)(r:Ret)(h:Aj (Ip x) (IS x) r):CT Try.prog 36 ([]) ([raA x]) r.1 r.2:=
 CT.mach (fn:=Try.f36) (c:=zB Try.f36) (S:=F1 x) (hd:=H6) Try.func36 (by kernel_rfl) (nL rfl)
  (fun s o ho=>match s,ho with
   | .l0 v0,ho=>turS0_ok x v0 o ho
   | .l1 v0,ho=>turS1_ok x v0 o ho
  )
  (fun o ho=>turEn_ok x o ho) h
def DT(z:SeD)(of en:List Int)(f:FrD):Prop:=0<=f.q/\(f.k=1->f.q<=z.q/\1<=f.q/\f.r=0/\of[(f.q-1).toNat]?=some f.c/\0<=f.c/\f.c<48/\(f.f=0\/f.f=1)/\(f.q=z.q->f.f=z.f))/\
 (f.k=3->f.q<=(en.length:Int)/\(z.o=true->f.q=z.q->z.f=1/\f.f≠2))
def E8(z:SeD)(en:List Int)(t:Bool)(f:FrD):Prop:=0<=f.q/\(f.k=2->f.q<=(en.length:Int)/\(t=true->f.q=z.q->f.f≠2))
structure RC(n:Aa)(c0:Int)(z:SeD)(g:AgD)(d:BdD)(of en:List Int):Prop where
 sq:z.q=(of.length:Int)
 l0:g.l<=z.q
 l1:z.q<=g.l+1
 et:en=of.take en.length
 ol:en.length<=of.length
 e1:g.t = -1->(en.length:Int)=g.l
 e2:g.t≠-1->(en.length:Int)+1=g.l/\of[en.length]?=some g.t
 cl:z.o=false->en.length=of.length
 lt:g.l<z.q->g.t = -1
 bt:d.t≠-1->d.t=g.t
 rp:g.r≠0->g.t = -1
 sc:z.o=true->of[of.length-1]?=some z.c/\0<=z.c/\z.c<48/\1<=z.q/\(z.f=0\/z.f=1)
 sv:d.s=true->z.o=true/\g.l=z.q/\z.f=1/\g.t = -1/\g.r≠2
 fl:g.t≠-1->g.s=(z.f==1)
 fn:z.o=true->g.l=z.q->g.t = -1->d.s=false->g.r=if z.f=0 then 1 else 2
 bc:0<=d.c
 pl:∀(i:Nat) c,of[i]?=some c->A8 n (if i=0 then c0 else of.getD (i-1) 0) c=true/\0<=c
 pb:d.c=if en.length=0 then c0 else of.getD (en.length-1) 0
theorem RC.accept{n:Aa}{c0:Int}{z:SeD}{g:AgD}{d:BdD}{of en:List Int}{f:FrD}(h:RC n c0 z g d of en)(hf:DT z of en f)(hk:f.k=1)(hl:g.l<f.q):RC n c0 z ⟨f.q,f.c,f.f==1,0,0⟩ d of en:=by
 obtain⟨sq,l0,l1,he,ol,e1,e2,cl,lt,bt,rp,sc,sv,fl,fn,bc,pl,pb⟩:=h
 obtain⟨h0,h1,_⟩:=hf
 obtain⟨k1,k2,k3,k4,k5,k6,k7,k8⟩:=h1 hk
 have hq:f.q=z.q:=by omega
 have ht:=lt (by omega)
 have h1:=e1 ht
 have hn:(f.q-1).toNat=en.length:=by omega
 refine⟨sq,by simp only;omega,by simp only;omega,he,ol,fun h=>?_,fun _=>⟨by simp only;omega,by rw[hn] at k4;exact k4⟩,cl,fun h=>?_,fun h=>?_,fun h=>absurd rfl h,sc,fun h=>?_,fun _=>?_,fun _ _ h=>?_,bc,pl,pb⟩
 .simp only at h;omega
 .simp only at h;omega
 .exact absurd ((bt h).trans ht) h
 .have:=sv h;omega
 .simp only[k8 hq]
 .simp only at h;omega
theorem RC.acked{n:Aa}{c0:Int}{z:SeD}{g:AgD}{d:BdD}{of en:List Int}{f:FrD}(h:RC n c0 z g d of en)(hf:DT z of en f)(hk:f.k=3)(hq:f.q=g.l)(hr:f.f=g.r):RC n c0 z ⟨g.l,g.t,g.s,0,0⟩ d of en:=by
 obtain⟨sq,l0,l1,he,ol,e1,e2,cl,lt,bt,rp,sc,sv,fl,fn,bc,pl,pb⟩:=h
 obtain⟨h0,_,h1⟩:=hf
 refine⟨sq,l0,l1,he,ol,e1,e2,cl,lt,bt,fun h=>absurd rfl h,sc,fun h=>?_,fl,fun a b c e=>?_,bc,pl,pb⟩
 .obtain⟨a,b,c,e,_⟩:=sv h;exact⟨a,b,c,e,fun h=>by simp at h⟩
 .have h2:=fn a b c e
  obtain⟨h3,h4⟩:=h1 hk
  obtain⟨h5,h6⟩:=h4 a (hq.trans b)
  rw[if_neg (by omega)] at h2
  omega
theorem RC.close{n:Aa}{c0:Int}{z:SeD}{g:AgD}{d:BdD}{of en:List Int}{f:FrD}(h:RC n c0 z g d of en)(hf:E8 z en d.s f)(hk:f.k=2)(hq:f.q=z.q)(hr:z.f=0\/f.f=2):RC n c0 ⟨z.q,false,z.c,z.f⟩ g d of en:=by
 obtain⟨sq,l0,l1,he,ol,e1,e2,cl,lt,bt,rp,sc,sv,fl,fn,bc,pl,pb⟩:=h
 obtain⟨h1,h2⟩:=hf.2 hk
 refine⟨sq,l0,l1,he,ol,e1,e2,fun _=>by omega,lt,bt,rp,(nomatch ·),fun h=>?_,fl,(nomatch ·),bc,pl,pb⟩
 have:=sv h
 have h3:=h2 h hq
 omega
theorem RC.start{n:Aa}{c0:Int}{z:SeD}{g:AgD}{d:BdD}{of en:List Int}(h:RC n c0 z g d of en):RC n c0 z g ⟨d.c,g.t,d.s,d.f⟩ of en:=by
 obtain⟨sq,l0,l1,he,ol,e1,e2,cl,lt,bt,rp,sc,sv,fl,fn,bc,pl,pb⟩:=h
 exact⟨sq,l0,l1,he,ol,e1,e2,cl,lt,fun _=>rfl,rp,sc,sv,fl,fn,bc,pl,pb⟩
theorem RC.fault{n:Aa}{c0:Int}{z:SeD}{g:AgD}{d:BdD}{of en:List Int}(h:RC n c0 z g d of en)(t:Bool):RC n c0 z g ⟨d.c,d.t,d.s,t⟩ of en:=by
 obtain⟨sq,l0,l1,he,ol,e1,e2,cl,lt,bt,rp,sc,sv,fl,fn,bc,pl,pb⟩:=h
 exact⟨sq,l0,l1,he,ol,e1,e2,cl,lt,bt,rp,sc,sv,fl,fn,bc,pl,pb⟩
theorem RC.serve{n:Aa}{c0:Int}{z:SeD}{g:AgD}{d:BdD}{of en:List Int}(h:RC n c0 z g d of en)(hs:d.s=true)(c:Int):RC n c0 z ⟨g.l,g.t,g.s,2,c⟩ ⟨d.c,d.t,false,d.f⟩ of en:=by
 obtain⟨sq,l0,l1,he,ol,e1,e2,cl,lt,bt,rp,sc,sv,fl,fn,bc,pl,pb⟩:=h
 obtain⟨s1,s2,s3,s4,s5⟩:=sv hs
 exact⟨sq,l0,l1,he,ol,e1,e2,cl,lt,bt,fun _=>s4,sc,(nomatch ·),fl,fun _ _ _ _=>by rw[if_neg (by omega)],bc,pl,pb⟩
theorem QM{of en:List Int}{t:Int}(he:en=of.take en.length)(ht:of[en.length]?=some t):en++[t]=of.take (en++[t]).length:=by
 rw[Ru,RP,List.take_add_one,ht,<-he];rfl
theorem RC.arrive{n:Aa}{c0:Int}{z:SeD}{g:AgD}{d:BdD}{of en:List Int}(h:RC n c0 z g d of en)(hd:d.t≠-1):RC n c0 z ⟨g.l,-1,g.s,1,d.t⟩ ⟨d.t,-1,d.s||g.s,d.f⟩ of (en++[d.t]):=by
 obtain⟨sq,l0,l1,he,ol,e1,e2,cl,lt,bt,rp,sc,sv,fl,fn,bc,pl,pb⟩:=h
 have ht:=bt hd
 have hg:g.t≠-1:=fun e=>hd (ht.trans e)
 obtain⟨h1,h2⟩:=e2 hg
 have hl:en.length<of.length:=(Rd.1 h2).1
 have ho:z.o=true:=by
  cases h:z.o with
  | true=>rfl
  | false=>have:=cl h;omega
 have hz:g.l=z.q:=by
  rcases Decidable.em (g.l<z.q) with h | h
  .exact absurd (lt h) hg
  .omega
 have hs:d.s=false:=by
  cases h:d.s with
  | false=>rfl
  | true=>exact absurd (sv h).2.2.2.1 hg
 have hfl:=fl hg
 have hsc:=(sc ho).2.2.2.2
 have len:((en++[d.t]).length:Int)=en.length+1:=by simp
 have hgd:of.getD en.length 0=d.t:=by rw[Rc,h2,ht];rfl
 refine⟨sq,l0,l1,QM he (by rw[ht];exact h2),by simp only[Ru,RP];omega,fun _=>by rw[len];exact h1,fun h=>absurd rfl h,fun h=>(by rw[ho] at h;cases h),fun _=>rfl,fun h=>absurd rfl h,fun _=>rfl,sc,fun h=>?_,fun h=>absurd rfl h,fun _ _ _ h=>?_,?_,pl,?_⟩
 .rw[hs,hfl] at h
  exact⟨ho,hz,by simpa using h,rfl,(fun h=>absurd (show(1:Int)=2 from h) (by decide))⟩
 .simp only[hs,hfl,Bool.false_or,RL] at h
  rw[if_pos (by omega)]
 .have:=(pl _ _ h2).2;simp only;omega
 .rw[Ru,RP,if_neg (by omega)]
  simp only[Nat.add_sub_cancel,hgd]
theorem RC.offer{n:Aa}{c0:Int}{z:SeD}{g:AgD}{d:BdD}{of en:List Int}(h:RC n c0 z g d of en)(ho:z.o=false){c f:Int}(hc:0<=c/\c<48)(hf:0<=f/\f<=1)(hp:A8 n (if 0<of.length then of.getD (of.length-1) 0 else d.c) c=true):RC n c0 ⟨z.q+1,true,c,f⟩ g d (of++[c]) en:=by
 obtain⟨sq,l0,l1,he,ol,e1,e2,cl,lt,bt,rp,sc,sv,fl,fn,bc,pl,pb⟩:=h
 have hcl:=cl ho
 have ht:g.t = -1:=by
  rcases Decidable.em (g.t = -1) with h | h
  .exact h
  .obtain⟨h1,h2⟩:=e2 h
   have:=(Rd.1 h2).1
   omega
 have h1:=e1 ht
 refine⟨by simp only[Ru,RP];omega,by simp only;omega,by simp only;omega,?_,by simp only[Ru];omega,e1,fun h=>absurd ht h,(nomatch ·),fun _=>ht,bt,rp,fun _=>⟨?_,hc.1,hc.2,by simp only;omega,by simp only;omega⟩,fun h=>?_,fun h=>absurd ht h,fun _ h=>?_,bc,fun i c' h=>?_,?_⟩
 .rw[List.take_append_of_le_length ol];exact he
 .simp
 .have:=(sv h).1;rw[ho] at this;cases this
 .simp only at h;omega
 .rcases R3 i of.length with hi | hi
  .rw[List.getElem?_append_left hi] at h
   rw[Rc,List.getElem?_append_left (by omega),<-Rc]
   exact pl i c' h
  .have hi':i=of.length:=by
    have:=(Rd.1 h).1
    simp only[Ru,RP] at this;omega
   subst hi'
   rw[List.getElem?_concat_length] at h
   cases h
   refine⟨?_,hc.1⟩
   by_cases h0:of.length=0
   .rw[if_pos h0]
    rw[if_neg (by omega),pb,if_pos (by omega)] at hp;exact hp
   .rw[if_neg h0,Rc,List.getElem?_append_left (by omega),<-Rc]
    rw[if_pos (by omega)] at hp;exact hp
 .by_cases h0:en.length=0
  .rw[if_pos h0];rw[if_pos h0] at pb;exact pb
  .rw[if_neg h0,Rc,List.getElem?_append_left (by omega),<-Rc]
   rw[if_neg h0] at pb;exact pb
theorem E3{l:List FrD}{y f:FrD}(h:f∈AE l y):f∈l\/f=y:=by
 unfold AE at h
 split at h
 .cases h
 .split at h
  .rcases RE.1 h with h | h
   .exact .inl h
   .exact .inr (List.mem_singleton.1 h)
  .exact .inl h
theorem Fa{l:List FrD}{y:FrD}(h:l.length<=6):(AE l y).length<=6:=by
 unfold AE
 rw[if_neg (by omega)]
 split
 .rw[Ru,RP];omega
 .exact h
theorem Jj{m:List FrD}:∀{l:List FrD} {f:FrD},f∈Ax l m->f∈l\/f∈m:=by
 unfold Ax
 induction m with
 | nil=>intro l f h;exact .inl h
 | cons y m ih=>
  intro l f h
  rcases ih h with h | h
  .rcases E3 h with h | h
   .exact .inl h
   .exact .inr (by rw[h];exact List.mem_cons_self)
  .exact .inr (Rs _ h)
theorem Gf{m:List FrD}:∀{l:List FrD},l.length<=6->(Ax l m).length<=6:=by
 unfold Ax
 induction m with
 | nil=>intro l h;exact h
 | cons y m ih=>intro l h;exact ih (Fa h)
theorem Is{l:List FrD}{q:Int}{f:FrD}(h:f∈(Ag l q).l):f∈l:=by
 unfold Ag at h
 cases hh:BN l q with
 | false=>rw[hh] at h;cases h
 | true=>
  rw[hh] at h
  rcases RE.1 h with h | h
  .exact List.mem_of_mem_take h
  .exact List.mem_of_mem_drop h
theorem H1{l:List FrD}{q:Int}:(Ag l q).l.length<=l.length:=by
 unfold Ag
 cases hh:BN l q with
 | false=>exact Rn _
 | true=>
  show(l.take q.toNat++l.drop (q.toNat+1)).length<=_
  rw[Ru,RB,List.length_drop];omega
theorem del_x{l:List FrD}{q:Int}(h:(Ag l q).o=true):(Ag l q).x∈l:=by
 unfold Ag at h ⊢
 cases hh:BN l q with
 | false=>rw[hh] at h;cases h
 | true=>
  obtain⟨h2,h0,h1⟩:=Em.1 hh
  have hl:q.toNat<l.length:=by omega
  show l.getD q.toNat fr0∈l
  rw[Rc,Rb hl]
  exact RG hl
theorem NI{l:List FrD}{q:Int}{f:FrD}(h:f∈(A9 l q).l):f∈l:=by
 unfold A9 at h
 cases hh:BN l q with
 | false=>rw[hh] at h;cases h
 | true=>
  rw[hh] at h
  obtain⟨h2,h0,h1⟩:=Em.1 hh
  have hl:q.toNat<l.length:=by omega
  rcases E3 h with h | h
  .exact h
  .rw[h,Rc,Rb hl]
   exact RG hl
theorem Mm{l:List FrD}{q:Int}(h:l.length<=6):(A9 l q).l.length<=6:=by
 unfold A9
 cases hh:BN l q with
 | false=>exact Rn _
 | true=>exact Fa h
structure RI(n:Aa)(c0:Int)(x:RaD):Prop where
 c:RC n c0 x.s x.a x.b x.of x.en
 dn:∀f∈x.dn,DT x.s x.of x.en f
 up:∀f∈x.up,E8 x.s x.en x.b.s f
 dl:x.dn.length<=6
 ul:x.up.length<=6
theorem Lc{z:SeD}{of en:List Int}{t:Bool}{f:FrD}(h:E8 z en t f)(hk:f.k=2)(hz:z.o=true->f.q=z.q->z.f=1/\f.f≠2):DT z of en ⟨3,0,f.q,0,f.f⟩:=
 ⟨h.1,fun h=>absurd (show(3:Int)=1 from h) (by decide),fun _=>⟨(h.2 hk).1,hz⟩⟩
theorem KR{n:Aa}{c0:Int}{z:SeD}{g:AgD}{d:BdD}{of en:List Int}(h:RC n c0 z g d of en)(hr:g.r≠0)(q:Int):E8 z en d.s (Ay g q):=by
 have ht:=h.rp hr
 have h1:=h.e1 ht
 refine⟨by show 0<=g.l;omega,fun _=>⟨by show g.l<=_;omega,fun hs _=>(h.sv hs).2.2.2.2⟩⟩
theorem hea_ok{n:Aa}{c0:Int}{z:SeD}{g:AgD}{d:BdD}{of en:List Int}{f:FrD}(h:RC n c0 z g d of en)(hf:DT z of en f):RC n c0 z (heO g 0 f).a d of en/\∀y∈(heO g 0 f).l,E8 z en d.s y:=by
 unfold heO
 cases frV f&&f.r==0 with
 | false=>exact⟨h,fun y hy=>nomatch hy⟩
 | true=>
  show RC n c0 z (B9 g f).a d of en/\∀y∈(B9 g f).l,E8 z en d.s y
  unfold B9
  cases hk:f.k==1 with
  | true=>
   have hk:=eq_of_beq hk
   refine⟨?_,fun y hy=>?_⟩
   .show RC n c0 z (bif decide (g.l<f.q) then _ else g) d of en
    by_cases hl:g.l<f.q
    .rw[AN hl];exact h.accept hf hk hl
    .rw[AF hl];exact h
   .rw[List.mem_singleton.1 hy]
    exact⟨hf.1,fun h=>absurd (show(3:Int)=2 from h) (by decide)⟩
  | false=>
   cases hc:f.k==3&&(!(g.r==0)&&(f.q==g.l&&f.f==g.r)) with
   | false=>exact⟨h,fun y hy=>nomatch hy⟩
   | true=>
    simp only[Rj,beq_iff_eq] at hc
    exact⟨h.acked hf hc.1 hc.2.2.1 hc.2.2.2,fun y hy=>nomatch hy⟩
theorem cnf_ok{n:Aa}{c0:Int}{z:SeD}{g:AgD}{d:BdD}{of en:List Int}{f:FrD}{dn:List FrD}(h:RC n c0 z g d of en)(hd:∀f∈dn,DT z of en f)(hl:dn.length<=6)(hf:E8 z en d.s f):
  RC n c0 (Bg z dn f).s g d of en/\(∀y∈(Bg z dn f).dn,DT (Bg z dn f).s of en y)/\(Bg z dn f).dn.length<=6/\(Bg z dn f).s.q=z.q:=by
 unfold Bg
 cases hk:f.k==2 with
 | false=>exact⟨h,hd,hl,rfl⟩
 | true=>
  have hk:=eq_of_beq hk
  cases hc:z.f==0||f.f==2 with
  | false=>
   simp only[Bool.or_eq_false_iff,RL] at hc
   refine⟨h,fun y hy=>?_,Fa hl,rfl⟩
   rcases E3 hy with hy | hy
   .exact hd y hy
   .rw[hy];exact Lc hf hk fun ho _=>⟨((h.sc ho).2.2.2.2).resolve_left hc.1,hc.2⟩
  | true=>
   have hc':z.f=0\/f.f=2:=by simpa using hc
   show RC n c0 (Cy z f.q).s g d of en/\(∀y∈AE dn ⟨3,0,f.q,0,f.f⟩,DT (Cy z f.q).s of en y)/\(AE dn ⟨3,0,f.q,0,f.f⟩).length<=6/\(Cy z f.q).s.q=z.q
   unfold Cy
   cases hq:z.o&&f.q==z.q with
   | false=>
    refine⟨h,fun y hy=>?_,Fa hl,rfl⟩
    rcases E3 hy with hy | hy
    .exact hd y hy
    .rw[hy];exact Lc hf hk fun ho he=>by show z.f=1/\_;rw[show z.o=true from ho,show f.q=z.q from he] at hq;simp at hq
   | true=>
    simp only[Rj,beq_iff_eq] at hq
    refine⟨h.close hf hk hq.2 hc',fun y hy=>?_,Fa hl,rfl⟩
    rcases E3 hy with hy | hy
    .obtain⟨a,b,c⟩:=hd y hy
     exact⟨a,b,fun h=>⟨(c h).1,fun h=>nomatch h⟩⟩
    .rw[hy];exact Lc (z:=⟨z.q,false,z.c,z.f⟩) hf hk fun ho _=>nomatch ho
theorem trd_ok{n:Aa}{c0:Int}{x:RaD}(h:RI n c0 x)(y:EvD)(hy:(y.k==3)=false):RI n c0 ⟨(AD x.s x.a x.b x.dn x.up y).z,(AD x.s x.a x.b x.dn x.up y).g,x.b,(AD x.s x.a x.b x.dn x.up y).dn,(AD x.s x.a x.b x.dn x.up y).up,x.of,x.en⟩\/(AD x.s x.a x.b x.dn x.up y).o=false:=by
 obtain⟨z,g,d,dn,up,of,en⟩:=x
 obtain⟨hc,hd,hu,hdl,hul⟩:=h
 dsimp only at hc hd hu hdl hul ⊢
 unfold AD
 cases y.k==4||y.k==5 with
 | true=>exact .inl ⟨hc,fun f hf=>hd f (Is hf),hu,RV H1 hdl,hul⟩
 | false=>cases y.k==6||y.k==7 with
  | true=>exact .inl ⟨hc,fun f hf=>hd f (NI hf),hu,Mm hdl,hul⟩
  | false=>cases ho:(Ag dn y.b).o with
   | false=>exact .inr rfl
   | true=>
    have hf:=hd _ (del_x ho)
    have hd':∀f∈(Ag dn y.b).l,DT z of en f:=fun f hf=>hd f (Is hf)
    have hdl':(Ag dn y.b).l.length<=6:=RV H1 hdl
    rw[hy]
    cases d.f with
    | true=>exact .inl ⟨hc,hd',hu,hdl',hul⟩
    | false=>
     obtain⟨h1,h2⟩:=hea_ok hc hf
     exact .inl ⟨h1,hd',fun f hf=>(Jj hf).elim (hu f) (h2 f),hdl',Gf hul⟩
theorem tru_ok{n:Aa}{c0:Int}{x:RaD}(h:RI n c0 x)(y:EvD)(hy:(y.k==3)=true\/(y.k==5)=true\/(y.k==7)=true):RI n c0 ⟨(AI x.s x.a x.b x.dn x.up y).z,(AI x.s x.a x.b x.dn x.up y).g,x.b,(AI x.s x.a x.b x.dn x.up y).dn,(AI x.s x.a x.b x.dn x.up y).up,x.of,x.en⟩\/(AI x.s x.a x.b x.dn x.up y).o=false:=by
 obtain⟨z,g,d,dn,up,of,en⟩:=x
 obtain⟨hc,hd,hu,hdl,hul⟩:=h
 dsimp only at hc hd hu hdl hul ⊢
 unfold AI
 cases h45:y.k==4||y.k==5 with
 | true=>exact .inl ⟨hc,hd,fun f hf=>hu f (Is hf),hdl,RV H1 hul⟩
 | false=>cases h67:y.k==6||y.k==7 with
  | true=>exact .inl ⟨hc,hd,fun f hf=>hu f (NI hf),hdl,Mm hul⟩
  | false=>cases ho:(Ag up y.b).o with
   | false=>exact .inr rfl
   | true=>
    have hy':(y.k==3)=true:=by
     simp only[Bool.or_eq_false_iff] at h45 h67
     rcases hy with h | h | h
     .exact h
     .rw[h45.2] at h;cases h
     .rw[h67.2] at h;cases h
    rw[hy']
    have hf:=hu _ (del_x ho)
    obtain⟨h1,h2,h3,h4⟩:=cnf_ok hc hd hdl hf
    refine .inl ⟨h1,h2,fun f hf=>?_,h3,RV H1 hul⟩
    obtain⟨a,b⟩:=hu f (Is hf)
    exact⟨a,fun hk=>⟨(b hk).1,fun t e=>(b hk).2 t (e.trans h4)⟩⟩
theorem st_ok{n:Aa}{c0:Int}{x:RaD}(h:RI n c0 x)(y:EvD):RI n c0 (stO n x y).x\/(stO n x y).o=false:=by
 unfold stO
 cases h3:y.k==3||(y.k==5||y.k==7) with
 | true=>exact tru_ok h y (by simpa using h3)
 | false=>
  simp only[Bool.or_eq_false_iff] at h3
  cases y.k==2||(y.k==4||y.k==6) with
  | true=>exact trd_ok h y h3.1
  | false=>
   obtain⟨z,g,d,dn,up,of,en⟩:=x
   obtain⟨hc,hd,hu,hdl,hul⟩:=h
   dsimp only at hc hd hu hdl hul ⊢
   cases y.k==8 with
   | true=>
    refine .inl ⟨hc,fun f hf=>?_,fun f hf=>?_,?_,Gf hul⟩
    .have hf:f∈(bif (AW z 0).o then AE dn (AW z 0).x else dn):=hf
     cases ho:(AW z 0).o with
     | false=>rw[ho] at hf;exact hd f hf
     | true=>
      rw[ho] at hf
      rcases E3 hf with hf | hf
      .exact hd f hf
      .have hz:z.o=true:=by unfold AW at ho;cases hz:z.o with | true=>rfl | false=>rw[hz] at ho;cases ho
       obtain⟨s1,s2,s3,s4,s5⟩:=hc.sc hz
       have e:(AW z 0).x=⟨1,0,z.q,z.c,z.f⟩:=by unfold AW;rw[hz];rfl
       rw[hf,e]
       have sq:=hc.sq
       refine⟨by simp only;omega,fun _=>⟨Int.le_refl _,s4,rfl,?_,s2,s3,s5,fun _=>rfl⟩,fun h=>absurd (show(1:Int)=3 from h) (by decide)⟩
       show of[(z.q-1).toNat]?=some z.c
       rw[show (z.q-1).toNat=of.length-1 by omega];exact s1
    .rcases Jj hf with hf | hf
     .exact hu f hf
     .unfold Bp at hf
      cases hr:g.r==0 with
      | true=>rw[hr] at hf;cases hf
      | false=>
       rw[hr] at hf
       cases hdf:d.f with
       | true=>rw[hdf] at hf;cases hf
       | false=>
        rw[hdf] at hf
        rw[List.mem_singleton.1 hf]
        exact KR hc (by simpa using hr) 0
    .show(bif (AW z 0).o then AE dn (AW z 0).x else dn).length<=6
     cases (AW z 0).o with
     | true=>exact Fa hdl
     | false=>exact hdl
   | false=>cases y.k==9 with
    | true=>
     rcases MS n g 0 d with e | ⟨⟨h1,h2,h3,h4,h5,h6⟩,e⟩ | ⟨⟨h1,h2,h3⟩,e⟩
     .rw[e]
      exact .inr (by show(bif agB g g&&bdB d d then (_:SoD) else _).o=false;rw[Fr,Fy];rfl)
     .rw[e]
      cases agB g g&&bdB ⟨d.c,g.t,d.s,d.f⟩ d with
      | true=>exact .inr rfl
      | false=>
       have ht:(g.t == -1)=false:=by simpa using h5
       refine .inl ?_
       show RI n c0 ⟨z,g,⟨d.c,g.t,d.s,d.f⟩,dn,up,of,bif g.t == -1 then en++[d.c] else en⟩
       rw[ht]
       exact⟨hc.start,hd,hu,hdl,hul⟩
     .rw[e]
      cases agB ⟨g.l,-1,g.s,1,d.t⟩ g&&bdB ⟨d.t,-1,d.s||g.s,d.f⟩ d with
      | true=>exact .inr rfl
      | false=>
       refine .inl ?_
       show RI n c0 ⟨z,⟨g.l,-1,g.s,1,d.t⟩,⟨d.t,-1,d.s||g.s,d.f⟩,dn,Ax up [Ay ⟨g.l,-1,g.s,1,d.t⟩ 0],of,en++[d.t]⟩
       have hc':=hc.arrive h1
       have hl:((en++[d.t]).length:Int)=en.length+1:=by simp
       have sq:=hc.sq
       have ho:(en++[d.t]).length<=of.length:=hc'.ol
       refine⟨hc',fun f hf=>?_,fun f hf=>?_,hdl,Gf hul⟩
       .obtain⟨a,b,c⟩:=hd f hf
        exact⟨a,b,fun h=>⟨by have:=(c h).1;simp only;omega,(c h).2⟩⟩
       .rcases Jj hf with hf | hf
        .obtain⟨a,b⟩:=hu f hf
         refine⟨a,fun hk=>⟨by have:=(b hk).1;simp only;omega,fun _ hq=>?_⟩⟩
         have:=(b hk).1;simp only at hq;omega
        .rw[List.mem_singleton.1 hf]
         exact KR hc' (by show(1:Int)≠0;decide) 0
    | false=>cases y.k==10 with
     | true=>
      cases hb:bdB (Aw g 0 d).b d with
      | true=>exact .inr rfl
      | false=>
       refine .inl ?_
       show RI n c0 ⟨z,(Aw g 0 d).a,(Aw g 0 d).b,dn,Ax up (Aw g 0 d).l,of,en⟩
       unfold Aw at hb ⊢
       cases hcc:d.c == -1 with
       | true=>rw[hcc] at hb;exact absurd (show bdB d d=false from hb) (by rw[Fy];decide)
       | false=>
        rw[hcc] at hb
        cases hs:d.s&&!d.f with
        | false=>rw[hs] at hb;exact absurd (show bdB d d=false from hb) (by rw[Fy];decide)
        | true=>
         simp only[Rj] at hs
         have hc':=hc.serve hs.1 d.c
         refine⟨hc',hd,fun f hf=>?_,hdl,Gf hul⟩
         rcases Jj hf with hf | hf
         .obtain⟨a,b⟩:=hu f hf
          exact⟨a,fun hk=>⟨(b hk).1,fun h=>nomatch h⟩⟩
         .rw[List.mem_singleton.1 hf]
          exact KR hc' (by show(2:Int)≠0;decide) 0
     | false=>cases y.k==11 with
      | true=>exact .inl ⟨hc.fault true,hd,hu,hdl,hul⟩
      | false=>exact .inr rfl
theorem RI.ev{n:Aa}{c0:Int}{x:RaD}(h:RI n c0 x)(y:EvD):RI n c0 (evO n x y).x:=by
 unfold evO
 cases y.a != 0 with
 | true=>exact h
 | false=>
  cases ho:(stO n x y).o with
  | true=>exact(st_ok h y).resolve_right (by rw[ho];decide)
  | false=>exact h
theorem st_of(n:Aa)(x:RaD)(y:EvD):(stO n x y).x.of=x.of:=by
 unfold stO
 cases y.k==3||(y.k==5||y.k==7) with
 | true=>rfl
 | false=>cases y.k==2||(y.k==4||y.k==6) with
  | true=>rfl
  | false=>cases y.k==8 with
   | true=>rfl
   | false=>cases y.k==9 with
    | true=>cases agB (Af n x.a 0 x.b).a x.a&&bdB (Af n x.a 0 x.b).b x.b<;>rfl
    | false=>cases y.k==10 with
     | true=>cases bdB (Aw x.a 0 x.b).b x.b<;>rfl
     | false=>cases y.k==11<;>rfl
theorem ev_of(n:Aa)(x:RaD)(y:EvD):(evO n x y).x.of=x.of:=by
 unfold evO
 cases y.a != 0 with
 | true=>rfl
 | false=>cases (stO n x y).o with
  | true=>exact st_of n x y
  | false=>rfl
theorem offO_ok{z:SeD}{c f:Int}(h:(AR z c f).e=0):z.o=false/\(0<=c/\c<48)/\(0<=f/\f<=1)/\(AR z c f).s=⟨z.q+1,true,c,f⟩:=by
 unfold AR at h ⊢
 by_cases h1:c<0
 .rw[AN h1] at h;cases h
 by_cases h2:48<=c
 .rw[AF h1,AN h2] at h;cases h
 by_cases h3:f<0
 .rw[AF h1,AF h2,AN h3] at h;cases h
 by_cases h4:1<f
 .rw[AF h1,AF h2,AF h3,AN h4] at h;cases h
 rw[AF h1,AF h2,AF h3,AF h4] at h ⊢
 cases ho:z.o with
 | true=>rw[ho] at h;cases h
 | false=>exact⟨rfl,by omega,by omega,rfl⟩
theorem ofd_ok{n:Aa}{x:RaD}{c f:Int}(h:(CJ n x c f).e=0):(AR x.s c f).e=0/\A8 n (plO x) c=true/\(CJ n x c f).x=⟨(AR x.s c f).s,x.a,x.b,AE x.dn (AW (AR x.s c f).s 0).x,x.up,x.of++[c],x.en⟩:=by
 unfold CJ at h ⊢
 cases he:(AR x.s c f).e != 0 with
 | true=>rw[he] at h;exact absurd h (by simpa using he)
 | false=>
  rw[he] at h
  cases hf:A8 n (plO x) c with
  | false=>rw[hf] at h;cases h
  | true=>exact⟨by simpa using he,rfl,rfl⟩
theorem RI.offer{n:Aa}{c0:Int}{x:RaD}(h:RI n c0 x){c f:Int}(he:(CJ n x c f).e=0):RI n c0 (CJ n x c f).x/\(CJ n x c f).x.s.q=x.s.q+1:=by
 obtain⟨h1,h2,h3⟩:=ofd_ok he
 obtain⟨g1,g2,g3,g4⟩:=offO_ok h1
 obtain⟨z,g,d,dn,up,of,en⟩:=x
 obtain⟨hc,hd,hu,hdl,hul⟩:=h
 dsimp only at hc hd hu hdl hul h1 h2 h3 g1 g2 g3 g4 ⊢
 rw[h3,g4]
 have sq:=hc.sq
 have ol:=hc.ol
 refine⟨⟨hc.offer g1 g2 g3 h2,fun y hy=>?_,fun y hy=>?_,Fa hdl,hul⟩,rfl⟩
 .rcases E3 hy with hy | hy
  .obtain⟨a,b,e⟩:=hd y hy
   refine⟨a,fun hk=>?_,fun hk=>⟨(e hk).1,fun _ hq=>?_⟩⟩
   .obtain⟨k1,k2,k3,k4,k5,k6,k7,k8⟩:=b hk
    exact⟨by simp only;omega,k2,k3,by rw[List.getElem?_append_left (Rd.1 k4).1];exact k4,k5,k6,k7,fun hq=>by simp only at hq;omega⟩
   .have:=(e hk).1;simp only at hq;omega
  .rw[hy]
   refine⟨by show 0<=z.q+1;omega,fun _=>⟨Int.le_refl _,by show 1<=z.q+1;omega,rfl,?_,g2.1,g2.2,by show f=0\/f=1;omega,fun _=>rfl⟩,fun h=>absurd (show(1:Int)=3 from h) (by decide)⟩
   show(of++[c])[(z.q+1-1).toNat]?=some c
   rw[show (z.q+1-1).toNat=of.length by omega,List.getElem?_concat_length]
 .obtain⟨a,b⟩:=hu y hy
  refine⟨a,fun hk=>⟨(b hk).1,fun ht=>?_⟩⟩
  have:=(hc.sv ht).1
  rw[g1] at this;cases this
theorem RI.new{n:Aa}{q:Int}(h:0<=q):RI n q (raN q):=by
 refine⟨⟨rfl,Int.le_refl _,by show(0:Int)<=0+1;decide,rfl,Rm _,fun _=>rfl,fun h=>absurd rfl h,fun _=>rfl,fun _=>rfl,fun h=>absurd rfl h,fun h=>absurd rfl h,(nomatch ·),(nomatch ·),fun h=>absurd rfl h,(nomatch ·),h,fun i c h=>(nomatch h),rfl⟩,fun f hf=>(nomatch hf),fun f hf=>(nomatch hf),Rn _,Rn _⟩
theorem RI.lio{n:Aa}{c0:Int}{x:RaD}(h:RI n c0 x)(hq:x.s.q<=1000000):LiO x:=by
 have sq:=h.c.sq
 have ol:=h.c.ol
 have hd:=h.dl
 have hu:=h.ul
 exact⟨⟨⟨by omega,by omega,by omega,by omega⟩,by omega,hq⟩,fun f hf=>(h.dn f hf).1⟩
theorem RI.evq{n:Aa}{c0:Int}{x:RaD}(h:RI n c0 x)(y:EvD):(evO n x y).x.s.q=x.s.q:=by
 rw[(h.ev y).c.sq,h.c.sq,ev_of]
theorem ML{n:Aa}(hv:Aq n){q:Int}(h0:0<=q)(h1:q<(Az n:Int)):EC n q=⟨raN q,0⟩:=by
 unfold EC
 rw[if_pos (Jl hv h0 h1)]
theorem lif_run{L:List Int}{kk:Nat}{p:Int}{n:Aa}(hn:AJ L kk 6=n)(hv:Aq n)(hrw:Rows n.nx){c0:Int}{K:Nat}(hK:K<=6000)(hp:p<=1000):∀(m k:Nat) (t:Nat) (x:RaD),(k:Int)+m=p->t<=K+10 * k->RI n c0 x->x.s.q<=k->
  ∃q:RaD×Nat,RI n c0 q.1/\q.1.s.q<=p/\q.2<=K+10 * (k+m)/\Aj (HZ L kk p) (some (.inl (.l0 (k:Int) t x))) ([some (Ab L q.2)],.tup [Ad n,raA q.1]):=by
 intro m
 induction m with
 | zero=>
  intro k t x hk ht hx hq
  refine⟨(x,t),hx,by simp only;omega,by simp only;omega,.to (show Fn L kk p (k:Int) t x=_ from ?_) (.ret _)⟩
  unfold Fn
  rw[Ao (AF (by omega)),hn];rfl
 | succ m ih=>
  intro k t x hk ht hx hq
  have sq:=hx.c.sq
  have go:∀t' x',t'<=K+10 * (k+1)->RI n c0 x'->x'.s.q<=k+1->∃q:RaD×Nat,RI n c0 q.1/\q.1.s.q<=p/\q.2<=K+10 * (k+(m+1))/\Aj (HZ L kk p) (some (.inl (.l0 (i64.wrap ((k:Int)+1)) t' x'))) ([some (Ab L q.2)],.tup [Ad n,raA q.1]):=by
   intro t' x' h1 h2 h3
   obtain⟨q,a,b,c,d⟩:=ih (k+1) t' x' (by omega) h1 h2 (by omega)
   rw[zW k (by omega)]
   exact⟨q,a,b,by omega,d⟩
  suffices hs:∃o,Fn L kk p (k:Int) t x=o/\∃q:RaD×Nat,RI n c0 q.1/\q.1.s.q<=p/\q.2<=K+10 * (k+(m+1))/\Aj (HZ L kk p) o ([some (Ab L q.2)],.tup [Ad n,raA q.1]) by
   obtain⟨o,h1,q,a,b,c,d⟩:=hs
   exact⟨q,a,b,c,.to (show Fn L kk p (k:Int) t x=o from h1) d⟩
  unfold Fn
  rw[Au (AN (by omega)),Ac (by omega),hn]
  obtain⟨e1,_⟩:=Om (L:=L) (kk:=t+1) (by omega)
  obtain⟨e2,_⟩:=N5 (L:=L) (kk:=t+1) (n:=n) (x:=x) (by omega) hv hrw (by omega)
  have hl:=hx.lio (by omega)
  cases Ae L t 3==0 with
  | true=>
   rw[Au rfl,Ac (by omega),Ac hv,Ac hrw,Ac (by omega),Ac hl.1,I3]
   cases he:(CJ n x (Fb L (t+1) n x) (Fq L (t+1) n x)).e==0 with
   | true=>
    obtain⟨h1,h2⟩:=hx.offer (eq_of_beq he)
    exact⟨_,rfl,go _ _ (by omega) h1 (by omega)⟩
   | false=>exact⟨_,rfl,go _ _ (by omega) hx (by omega)⟩
  | false=>
   rw[Ao rfl,Ac (by omega),Ac hrw,Ac hl,GZ]
   exact⟨_,rfl,go _ _ (by omega) (hx.ev _) (by rw[hx.evq];omega)⟩
theorem Ko(L:List Int)(kk:Nat)(p:Int):∃q:RaD×Nat,kk<=5000->0<=p->p<=1000->(∃c0,RI (AJ L kk 6) c0 q.1)/\q.1.s.q<=p/\q.2<=kk+20000/\CT Try.prog 35 [some (Ab L kk)] [.ptr 0 0 0,.int .i64 p] [some (Ab L q.2)] (.tup [Ad (AJ L kk 6),raA q.1]):=by
 by_cases h:kk<=5000/\0<=p/\p<=1000
 .obtain⟨hk,hp0,hp1⟩:=h
  obtain⟨hlo,hlk,_⟩:=JG (L:=L) hk (most:=6) (by decide)
  have hcel:=hlo.v.cel
  have hnb:=hlo.v.nb24
  have hz:=AY L (CF L kk 6) (iN (Az (AJ L kk 6))) (by simp only[iN];omega) (by simp only[iN];omega)
  simp only[iN] at hz
  obtain⟨q,a,b,c,d⟩:=lif_run rfl hlo.v hlo.rows (K:=CF L kk 6+1) (by omega) hp1 p.toNat 0 (CF L kk 6+1) (raN (Ae L (CF L kk 6) (Az (AJ L kk 6)))) (by omega) (by omega) (RI.new hz.1) (Int.le_refl _)
  have he:Ji L kk p=some (.inl (.l0 ((0:Nat):Int) (CF L kk 6+1) (raN (Ae L (CF L kk 6) (Az (AJ L kk 6)))))):=by
   unfold Ji
   rw[Ac hk,Ac hlo.v,Ac (by omega),Ac hlo.rows,Jy]
   simp only[iN]
   rw[ML hlo.v hz.1 hz.2];rfl
  exact⟨q,fun _ _ _=>⟨⟨_,a⟩,b,by omega,lif_ct L kk p (_,_) (by rw[he];exact d)⟩⟩
 .exact⟨(ra0,0),fun a b c=>absurd ⟨a,b,c⟩ h⟩
@[irreducible] def EP(L:List Int)(kk:Nat)(p:Int):RaD:=(Classical.choose (Ko L kk p)).1
@[irreducible] def IX(L:List Int)(kk:Nat)(p:Int):Nat:=(Classical.choose (Ko L kk p)).2
theorem M9{L:List Int}{kk:Nat}{p:Int}(h1:kk<=5000)(h2:0<=p)(h3:p<=1000):(∃c0,RI (AJ L kk 6) c0 (EP L kk p))/\(EP L kk p).s.q<=p/\IX L kk p<=kk+20000/\CT Try.prog 35 [some (Ab L kk)] [.ptr 0 0 0,.int .i64 p] [some (Ab L (IX L kk p))] (.tup [Ad (AJ L kk 6),raA (EP L kk p)]):=by
 unfold EP IX;exact RO (Ko L kk p) h1 h2 h3
theorem lif_c(L:List Int)(kk:Nat)(p:Int)(h1:kk<=5000)(h2:0<=p)(h3:p<=1000):CT Try.prog 35 [some (Ab L kk)] [.ptr 0 0 0,.int .i64 p] [some (Ab L (IX L kk p))] (.tup [Ad (AJ L kk 6),raA (EP L kk p)]):=(M9 h1 h2 h3).2.2.2
theorem ev_dbl{n:Aa}{x:RaD}{f:FrD}(h:x.dn=[f]):(evO n x ⟨6,0,0⟩).x=⟨x.s,x.a,x.b,[f,f],x.up,x.of,x.en⟩:=by
 obtain⟨z,g,d,dn,up,of,en⟩:=x
 subst h;rfl
theorem ev_dn{n:Aa}{x:RaD}{f:FrD}{l:List FrD}(h:x.dn=f::l)(hl:l.length<=5)(hf:x.b.f=false):(evO n x ⟨2,0,0⟩).x=⟨x.s,(heO x.a 0 f).a,x.b,l,Ax x.up (heO x.a 0 f).l,x.of,x.en⟩:=by
 obtain⟨z,g,⟨dc,dt,ds,df⟩,dn,up,of,en⟩:=x
 dsimp only at h hf;subst h;subst hf
 have hh:BN (f::l) 0=true:=Em.2 ⟨by simp only[RR];omega,Int.le_refl _,by simp only[RR];omega⟩
 have hd:Ag (f::l) 0=⟨f,l,true⟩:=by unfold Ag;rw[hh];rfl
 have ht:AD z g ⟨dc,dt,ds,false⟩ (f::l) up ⟨2,0,0⟩=⟨z,(heO g 0 f).a,l,Ax up (heO g 0 f).l,true⟩:=by
  unfold AD;simp only[hd];rfl
 have hs:stO n ⟨z,g,⟨dc,dt,ds,false⟩,f::l,up,of,en⟩ ⟨2,0,0⟩=⟨⟨z,(heO g 0 f).a,⟨dc,dt,ds,false⟩,l,Ax up (heO g 0 f).l,of,en⟩,true⟩:=by
  show(⟨⟨(AD z g ⟨dc,dt,ds,false⟩ (f::l) up ⟨2,0,0⟩).z,_,_,_,_,_,_⟩,_⟩:SoD)=_
  rw[ht]
 unfold evO
 rw[hs];rfl
theorem Ox{g:AgD}{q c:Int}(hg:g.l<q)(hq:1<=q)(hc:0<=c/\c<48){f:Int}(hf:f=0\/f=1):heO g 0 ⟨1,0,q,c,f⟩=⟨⟨q,c,f==1,0,0⟩,[⟨3,0,q,0,0⟩]⟩:=by
 have h1:frV ⟨1,0,q,c,f⟩=true:=by
  have e1:(q==0)=false:=RL.2 (by omega)
  have e2:decide (c<0)=false:=AF (by omega)
  have e3:decide (48<=c)=false:=AF (by omega)
  have e4:decide (f<0)=false:=AF (by omega)
  have e5:decide (2<f)=false:=AF (by omega)
  have e6:decide (f<2)=true:=AN (by omega)
  unfold frV knK
  simp only[e1,e2,e3,e4,e5,e6];rfl
 unfold heO
 rw[h1]
 show B9 g ⟨1,0,q,c,f⟩=_
 unfold B9
 show(⟨bif decide (g.l<q) then ⟨q,c,f==1,0,0⟩ else g,[⟨3,0,q,0,0⟩]⟩:HeD)=_
 rw[AN hg];rfl
theorem hea_old{g:AgD}{q c:Int}(hg:g.l=q)(hq:1<=q)(hc:0<=c/\c<48){f:Int}(hf:f=0\/f=1):heO g 0 ⟨1,0,q,c,f⟩=⟨g,[⟨3,0,q,0,0⟩]⟩:=by
 have h1:frV ⟨1,0,q,c,f⟩=true:=by
  have e1:(q==0)=false:=RL.2 (by omega)
  have e2:decide (c<0)=false:=AF (by omega)
  have e3:decide (48<=c)=false:=AF (by omega)
  have e4:decide (f<0)=false:=AF (by omega)
  have e5:decide (2<f)=false:=AF (by omega)
  have e6:decide (f<2)=true:=AN (by omega)
  unfold frV knK
  simp only[e1,e2,e3,e4,e5,e6];rfl
 unfold heO
 rw[h1]
 show B9 g ⟨1,0,q,c,f⟩=_
 unfold B9
 show(⟨bif decide (g.l<q) then ⟨q,c,f==1,0,0⟩ else g,[⟨3,0,q,0,0⟩]⟩:HeD)=_
 rw[AF (by omega)];rfl
theorem ev_go{n:Aa}{x:RaD}(h1:x.b.t = -1)(h2:x.b.c≠-1)(h3:x.b.f=false)(h4:x.b.s=false)(h5:x.a.t≠-1)(h6:A8 n x.b.c x.a.t=true):evO n x ⟨9,0,0⟩=⟨⟨x.s,x.a,⟨x.b.c,x.a.t,false,false⟩,x.dn,x.up,x.of,x.en⟩,true⟩:=by
 obtain⟨z,g,⟨dc,dt,ds,df⟩,dn,up,of,en⟩:=x
 dsimp only at h1 h2 h3 h4 h5 h6;subst h1 h3 h4
 have hd:Af n g 0 ⟨dc,-1,false,false⟩=⟨g,⟨dc,g.t,false,false⟩,[]⟩:=by
  unfold Af
  rw[show (dc == -1)=false from RL.2 h2,show(g.t == -1)=false from RL.2 h5]
  simp only[h6];rfl
 have hb:bdB ⟨dc,g.t,false,false⟩ ⟨dc,-1,false,false⟩=false:=by
  have:(g.t == -1)=false:=RL.2 h5
  simp[bdB,this]
 have hs:stO n ⟨z,g,⟨dc,-1,false,false⟩,dn,up,of,en⟩ ⟨9,0,0⟩=⟨⟨z,g,⟨dc,g.t,false,false⟩,dn,up,of,en⟩,true⟩:=by
  show(bif agB (Af n g 0 ⟨dc,-1,false,false⟩).a g&&bdB (Af n g 0 ⟨dc,-1,false,false⟩).b ⟨dc,-1,false,false⟩ then (⟨⟨z,g,⟨dc,-1,false,false⟩,dn,up,of,en⟩,false⟩:SoD) else
   ⟨⟨z,(Af n g 0 ⟨dc,-1,false,false⟩).a,(Af n g 0 ⟨dc,-1,false,false⟩).b,dn,Ax up (Af n g 0 ⟨dc,-1,false,false⟩).l,of,bif (Af n g 0 ⟨dc,-1,false,false⟩).b.t == -1 then en++[(Af n g 0 ⟨dc,-1,false,false⟩).b.c] else en⟩,true⟩)=_
  rw[hd]
  dsimp only
  rw[hb,Bool.and_false,show(g.t == -1)=false from RL.2 h5];rfl
 unfold evO
 rw[hs];rfl
theorem ev_in{n:Aa}{x:RaD}(h1:x.b.t≠-1)(h2:x.b.c≠-1)(h3:x.b.f=false):evO n x ⟨9,0,0⟩=⟨⟨x.s,⟨x.a.l,-1,x.a.s,1,x.b.t⟩,⟨x.b.t,-1,x.b.s||x.a.s,false⟩,x.dn,Ax x.up [Ay ⟨x.a.l,-1,x.a.s,1,x.b.t⟩ 0],x.of,x.en++[x.b.t]⟩,true⟩:=by
 obtain⟨z,g,⟨dc,dt,ds,df⟩,dn,up,of,en⟩:=x
 dsimp only at h1 h2 h3 ⊢;subst h3
 have hd:Af n g 0 ⟨dc,dt,ds,false⟩=⟨⟨g.l,-1,g.s,1,dt⟩,⟨dt,-1,ds||g.s,false⟩,[Ay ⟨g.l,-1,g.s,1,dt⟩ 0]⟩:=by
  unfold Af
  rw[show (dc == -1)=false from RL.2 h2,show(dt == -1)=false from RL.2 h1];rfl
 have hb:bdB ⟨dt,-1,ds||g.s,false⟩ ⟨dc,dt,ds,false⟩=false:=by
  have:((-1:Int)==dt)=false:=RL.2 (fun e=>h1 e.symm)
  simp[bdB,this]
 have hs:stO n ⟨z,g,⟨dc,dt,ds,false⟩,dn,up,of,en⟩ ⟨9,0,0⟩=⟨⟨z,⟨g.l,-1,g.s,1,dt⟩,⟨dt,-1,ds||g.s,false⟩,dn,Ax up [Ay ⟨g.l,-1,g.s,1,dt⟩ 0],of,en++[dt]⟩,true⟩:=by
  show(bif agB (Af n g 0 ⟨dc,dt,ds,false⟩).a g&&bdB (Af n g 0 ⟨dc,dt,ds,false⟩).b ⟨dc,dt,ds,false⟩ then (⟨⟨z,g,⟨dc,dt,ds,false⟩,dn,up,of,en⟩,false⟩:SoD) else
   ⟨⟨z,(Af n g 0 ⟨dc,dt,ds,false⟩).a,(Af n g 0 ⟨dc,dt,ds,false⟩).b,dn,Ax up (Af n g 0 ⟨dc,dt,ds,false⟩).l,of,bif (Af n g 0 ⟨dc,dt,ds,false⟩).b.t == -1 then en++[(Af n g 0 ⟨dc,dt,ds,false⟩).b.c] else en⟩,true⟩)=_
  rw[hd]
  dsimp only
  rw[hb,Bool.and_false];rfl
 unfold evO
 rw[hs];rfl
theorem nx0_ne{n:Aa}(h:DZ n)(hb:1<n.bs.length):∃c l,nxO n 0=c::l/\0<=c/\c<48/\A8 n 0 c=true/\ckE n 0=0:=by
 have hcel:=h.v.cel
 have hk:ckE n 0=0:=Jl h.v (Int.le_refl _) (by omega)
 have hp:plF n 0=none:=by
  cases hp:plF n 0 with
  | none=>rfl
  | some i=>
   obtain⟨s,hs,_,h1,h2,_⟩:=IW hp
   have:=h.v.sb hs
   omega
 have hm:(((0+1) % n.bs.length:Nat):Int)∈nxO n 0:=by
  unfold nxO Cu
  rw[if_pos hk,hp]
  exact RE.2 (.inl (h.rng hb 0 (by omega)))
 have hr:=Ot h.rows h.v (Int.le_refl 0) (show(0:Int)<(Az n:Int) by omega)
 cases e:nxO n 0 with
 | nil=>rw[e] at hm;cases hm
 | cons c l=>
  have hc:c∈nxO n 0:=by rw[e];exact List.mem_cons_self
  have hc':c∈Cu n 0:=by unfold nxO at hc;rw[if_pos hk] at hc;exact hc
  have:=hr c hc'
  exact⟨c,l,rfl,by omega,by omega,by unfold A8;exact Dy.2 hc,hk⟩
def k8X(c:Int):Nat->RaD
 | 0=>⟨⟨1,true,c,0⟩,ag0,⟨0,-1,false,false⟩,[⟨1,0,1,c,0⟩],[],[c],[]⟩
 | 1=>⟨⟨1,true,c,0⟩,ag0,⟨0,-1,false,false⟩,[⟨1,0,1,c,0⟩,⟨1,0,1,c,0⟩],[],[c],[]⟩
 | 2=>⟨⟨1,true,c,0⟩,⟨1,c,false,0,0⟩,⟨0,-1,false,false⟩,[⟨1,0,1,c,0⟩],[⟨3,0,1,0,0⟩],[c],[]⟩
 | 3=>⟨⟨1,true,c,0⟩,⟨1,c,false,0,0⟩,⟨0,-1,false,false⟩,[],[⟨3,0,1,0,0⟩,⟨3,0,1,0,0⟩],[c],[]⟩
 | 4=>⟨⟨1,true,c,0⟩,⟨1,c,false,0,0⟩,⟨0,c,false,false⟩,[],[⟨3,0,1,0,0⟩,⟨3,0,1,0,0⟩],[c],[]⟩
 | _=>⟨⟨1,true,c,0⟩,⟨1,-1,false,1,c⟩,⟨c,-1,false,false⟩,[],[⟨3,0,1,0,0⟩,⟨3,0,1,0,0⟩,⟨2,0,1,c,1⟩],[c],[c]⟩
def k8E:List EvD:=[EvD.mk 6 0 0,EvD.mk 2 0 0,EvD.mk 2 0 0,EvD.mk 9 0 0,EvD.mk 9 0 0,EvD.mk 9 0 0]
theorem k8_step{n:Aa}{c:Int}(h0:0<=c)(h1:c<48)(hf:A8 n 0 c=true)(i:Nat)(hi:i<6):(evO n (k8X c i) (k8E.getD i ⟨0,0,0⟩)).x=k8X c (i+1):=by
 match i,hi with
 | 0,_=>exact ev_dbl rfl
 | 1,_=>
  refine(ev_dn rfl (nL rfl) rfl).trans ?_
  rw[show (k8X c 1).a=ag0 from rfl,Ox (by decide) (by decide) ⟨h0,h1⟩ (.inl rfl)];rfl
 | 2,_=>
  refine(ev_dn rfl (nL rfl) rfl).trans ?_
  rw[show (k8X c 2).a=⟨1,c,false,0,0⟩ from rfl,hea_old rfl (Int.le_refl 1) ⟨h0,h1⟩ (.inl rfl)];rfl
 | 3,_=>
  show(evO n (k8X c 3) ⟨9,0,0⟩).x=_
  rw[ev_go (x:=k8X c 3) rfl (by show(0:Int)≠-1;decide) rfl rfl (by show c≠-1;omega) hf];rfl
 | 4,_=>
  show(evO n (k8X c 4) ⟨9,0,0⟩).x=_
  rw[ev_in (x:=k8X c 4) (by show c≠-1;omega) (by show(0:Int)≠-1;decide) rfl];rfl
 | 5,_=>
  have hd:Af n ⟨1,-1,false,1,c⟩ 0 ⟨c,-1,false,false⟩=⟨⟨1,-1,false,1,c⟩,⟨c,-1,false,false⟩,[]⟩:=by
   unfold Af
   rw[show (c == -1)=false from RL.2 (by omega)];rfl
  have hs:stO n (k8X c 5) ⟨9,0,0⟩=⟨k8X c 5,false⟩:=by
   show(bif agB (Af n ⟨1,-1,false,1,c⟩ 0 ⟨c,-1,false,false⟩).a ⟨1,-1,false,1,c⟩&&bdB (Af n ⟨1,-1,false,1,c⟩ 0 ⟨c,-1,false,false⟩).b ⟨c,-1,false,false⟩ then (⟨k8X c 5,false⟩:SoD) else _)=_
   rw[hd]
   dsimp only
   rw[Fr,Fy];rfl
  show(evO n (k8X c 5) ⟨9,0,0⟩).x=_
  unfold evO
  rw[hs];rfl
theorem k8_ras(c:Int)(i:Nat):RaS (k8X c i):=by
 match i with
 | 0 | 1 | 2 | 3 | 4=>exact⟨nL rfl,nL rfl,nL rfl,nL rfl⟩
 | _+5=>exact⟨nL rfl,nL rfl,nL rfl,nL rfl⟩
theorem kn8_c:CT Try.prog 29 [] [] [] (.bool true):=by
 have hn:=(Mc (L:=[2]) (kk:=0) (most:=4) (by decide) (by decide)).1
 have hb:1<(AK [2] 0 4).bs.length:=by
  have e:Ae [2] 0 4=2:=by decide +kernel
  have:=net_nb (L:=[2]) (kk:=0) (most:=4) (by decide) (by decide)
  rw[e] at this;omega
 obtain⟨c,l,e1,h0,h1,hf,hck⟩:=nx0_ne hn hb
 have hcel:=hn.v.cel
 have e2:nwJ (AK [2] 0 4) 0=⟨raN 0,0⟩:=by rw[Jy];exact ML hn.v (Int.le_refl 0) (by omega)
 have e3:ofJ (AK [2] 0 4) (raN 0) c 0=⟨k8X c 0,0⟩:=by
  rw[I3]
  unfold CJ
  have e4:AR (raN 0).s c 0=⟨⟨1,true,c,0⟩,0⟩:=by
   unfold AR
   rw[AF (by omega),AF (by omega)];rfl
  rw[e4,show plO (raN 0)=0 from rfl,hf];rfl
 have e5:(nxO (AK [2] 0 4) 0)[Int.toNat 0]?=some c:=by rw[e1];rfl
 have hl:OfL (raN 0):=⟨⟨Rn _,Rn _,Rn _,Rn _⟩,Int.le_refl 0,by show(0:Int)<=1000000;decide⟩
 have he:Jn=some (.inl (.l0 ⟨k8X c 0,0⟩ ((0:Nat):Int) (k8X c 0))):=by
  unfold Jn
  rw[Ac hn.rows,e2,Ao (by rfl),hck,Ao (by rfl),Ao (by rw[Bn,e1];rfl),Bi e5,Ac hl,e3];rfl
 refine kn8_ct ([],_) ?_
 rw[he]
 refine GG (fun i=>D0.l0 ⟨k8X c 0,0⟩ (i:Int) (k8X c i)) 6 (fun i hi h=>?_) ?_
 .refine .to (show Gc ⟨k8X c 0,0⟩ (i:Int) (k8X c i)=_ from ?_) h
  unfold Gc
  rw[Au (AN (by omega)),Ac (by omega)]
  refine(Bi (l:=k8E) (Cs (l:=k8E) ⟨0,0,0⟩ (show((i:Nat):Int).toNat<k8E.length from hi))).trans ?_
  rw[Ac hn.rows,Ac (k8_ras c i),zW i (by omega),GZ,show((i:Nat):Int).toNat=i from rfl,k8_step h0 h1 hf i hi]
 .refine .to (show Gc ⟨k8X c 0,0⟩ ((6:Nat):Int) (k8X c 6)=_ from ?_) (.ret _)
  unfold Gc
  rw[Ao (by rfl),Au (by rfl),Au (by rfl),Bi (show(k8X c 6).en[Int.toNat 0]?=some c from rfl),Bi e5,beq_self_eq_true]
def upM(x:RaD)(f:FrD):Prop:=f.k=2/\f.q=x.s.q
def dnM(x:RaD)(f:FrD):Prop:=f.k=1/\f.q=x.s.q/\x.a.l<f.q
def FW(x:RaD):Prop:=x.b.s=false/\x.b.t = -1/\x.a.t = -1
def Gt(x:RaD)(y:EvD):Prop:=
 (x.b.s=true/\y=⟨10,0,0⟩)\/(x.b.s=false/\(x.b.t≠-1\/x.a.t≠-1)/\y=⟨9,0,0⟩)\/
 (FW x/\∃(i:Nat) (f:FrD),x.up[i]?=some f/\upM x f/\(∀g∈x.up.take i,¬upM x g)/\y=⟨3,0,i⟩)\/
 (FW x/\(∀g∈x.up,¬upM x g)/\∃(i:Nat) (f:FrD),x.dn[i]?=some f/\dnM x f/\y=⟨2,0,i⟩)\/
 (FW x/\(∀g∈x.up,¬upM x g)/\(∀g∈x.dn,¬dnM x g)/\y=if x.up.length=6 then ⟨5,0,0⟩ else if x.dn.length=6 then ⟨4,0,0⟩ else ⟨8,0,0⟩)
theorem Ow{α:Type}{l:List α}{p:α->Prop}{i:Nat}{f:α}(h:∀g∈l.take i,¬p g)(hi:l[i]?=some f)(hf:¬p f):∀g∈l.take (i+1),¬p g:=by
 intro g hg
 rw[List.take_add_one,hi] at hg
 rcases RE.1 hg with hg | hg
 .exact h g hg
 .rw[List.mem_singleton.1 hg];exact hf
theorem tur_dn(x:RaD)(hq:FW x)(hu:∀g∈x.up,¬upM x g)(hl:x.dn.length<=1000)(hul:x.up.length<=1000):∀(m i:Nat),i+m=x.dn.length->(∀g∈x.dn.take i,¬dnM x g)->∃y,Gt x y/\Aj (Ip x) (some (.inl (.l1 (i:Int)))) ([],evA y):=by
 intro m
 induction m with
 | zero=>
  intro i hi hn
  have hn':∀g∈x.dn,¬dnM x g:=fun g hg=>hn g (by rw[List.take_of_length_le (by omega)];exact hg)
  refine⟨_,.inr (.inr (.inr (.inr ⟨hq,hu,hn',rfl⟩))),.to (show EZ x (i:Int)=_ from ?_) (.ret _)⟩
  unfold EZ
  simp only[Bn]
  rw[Ao (AF (by omega))]
  by_cases h1:x.up.length=6
  .rw[Au (by rw[h1];rfl),if_pos h1];rfl
  .rw[Ao (RL.2 (by omega)),if_neg h1]
   by_cases h2:x.dn.length=6
   .rw[Au (by rw[h2];rfl),if_pos h2];rfl
   .rw[Ao (RL.2 (by omega)),if_neg h2];rfl
 | succ m ih=>
  intro i hi hn
  have hlt:i<x.dn.length:=by omega
  have hg:x.dn[i]?=some (x.dn.getD i fr0):=Cs fr0 hlt
  generalize x.dn.getD i fr0=f at hg
  by_cases hm:dnM x f
  .refine⟨_,.inr (.inr (.inr (.inl ⟨hq,hu,i,f,hg,hm,rfl⟩))),.to (show EZ x (i:Int)=_ from ?_) (.ret _)⟩
   unfold EZ
   rw[Bn,Au (AN (by omega)),Ac (by omega),Bi (show _[((i:Nat):Int).toNat]?=some f from hg),Au (beq_iff_eq.2 hm.1),Au (beq_iff_eq.2 hm.2.1),Au (AN hm.2.2)];rfl
  .obtain⟨y,h1,h2⟩:=ih (i+1) (by omega) (Ow hn hg hm)
   refine⟨y,h1,.to (show EZ x (i:Int)=_ from ?_) h2⟩
   unfold EZ
   rw[Bn,Au (AN (by omega)),Ac (by omega),Bi (show _[((i:Nat):Int).toNat]?=some f from hg),zW i (by omega)]
   by_cases k1:f.k=1
   .rw[Au (beq_iff_eq.2 k1)]
    by_cases k2:f.q=x.s.q
    .rw[Au (beq_iff_eq.2 k2),Ao (AF (fun h=>hm ⟨k1,k2,h⟩))]
    .rw[Ao (RL.2 k2)]
   .rw[Ao (RL.2 k1)]
theorem tur_up(x:RaD)(hq:FW x)(hl:x.dn.length<=1000)(hul:x.up.length<=1000):∀(m i:Nat),i+m=x.up.length->(∀g∈x.up.take i,¬upM x g)->∃y,Gt x y/\Aj (Ip x) (some (.inl (.l0 (i:Int)))) ([],evA y):=by
 intro m
 induction m with
 | zero=>
  intro i hi hn
  have hn':∀g∈x.up,¬upM x g:=fun g hg=>hn g (by rw[List.take_of_length_le (by omega)];exact hg)
  obtain⟨y,h1,h2⟩:=tur_dn x hq hn' hl hul x.dn.length 0 (by omega) (fun g hg=>by simp at hg)
  refine⟨y,h1,.to (show Ev x (i:Int)=_ from ?_) h2⟩
  unfold Ev
  rw[Bn,Ao (AF (by omega))];rfl
 | succ m ih=>
  intro i hi hn
  have hlt:i<x.up.length:=by omega
  have hg:x.up[i]?=some (x.up.getD i fr0):=Cs fr0 hlt
  generalize x.up.getD i fr0=f at hg
  by_cases hm:upM x f
  .refine⟨_,.inr (.inr (.inl ⟨hq,i,f,hg,hm,hn,rfl⟩)),.to (show Ev x (i:Int)=_ from ?_) (.ret _)⟩
   unfold Ev
   rw[Bn,Au (AN (by omega)),Ac (by omega),Bi (show _[((i:Nat):Int).toNat]?=some f from hg),Au (beq_iff_eq.2 hm.1),Au (beq_iff_eq.2 hm.2)];rfl
  .obtain⟨y,h1,h2⟩:=ih (i+1) (by omega) (Ow hn hg hm)
   refine⟨y,h1,.to (show Ev x (i:Int)=_ from ?_) h2⟩
   unfold Ev
   rw[Bn,Au (AN (by omega)),Ac (by omega),Bi (show _[((i:Nat):Int).toNat]?=some f from hg),zW i (by omega)]
   by_cases k1:f.k=2
   .rw[Au (beq_iff_eq.2 k1),Ao (RL.2 (fun h=>hm ⟨k1,h⟩))]
   .rw[Ao (RL.2 k1)]
theorem Mg(x:RaD):∃y:EvD,x.dn.length<=1000->x.up.length<=1000->Gt x y/\CT Try.prog 36 [] [raA x] [] (evA y):=by
 by_cases h:x.dn.length<=1000/\x.up.length<=1000
 .obtain⟨hl,hul⟩:=h
  have key:∃y,Gt x y/\Aj (Ip x) (IS x) ([],evA y):=by
   unfold IS
   cases hs:x.b.s with
   | true=>exact⟨_,.inl ⟨hs,rfl⟩,.ret _⟩
   | false=>
    by_cases h1:x.b.t = -1
    .by_cases h2:x.a.t = -1
     .obtain⟨y,a,b⟩:=tur_up x ⟨hs,h1,h2⟩ hl hul x.up.length 0 (by omega) (fun g hg=>by simp at hg)
      refine⟨y,a,?_⟩
      rw[Ao rfl,Ao (by rw[h1];rfl),Ao (by rw[h2];rfl)];exact b
     .refine⟨_,.inr (.inl ⟨hs,.inr h2,rfl⟩),?_⟩
      rw[Ao rfl,Ao (by rw[h1];rfl),Au (RZ.2 h2)];exact .ret _
    .refine⟨_,.inr (.inl ⟨hs,.inl h1,rfl⟩),?_⟩
     rw[Ao rfl,Au (RZ.2 h1)];exact .ret _
  obtain⟨y,a,b⟩:=key
  exact⟨y,fun _ _=>⟨a,tur_ct x ([],_) b⟩⟩
 .exact⟨⟨0,0,0⟩,fun a b=>absurd ⟨a,b⟩ h⟩
@[irreducible] def Et(x:RaD):EvD:=Classical.choose (Mg x)
theorem Nw{x:RaD}(h1:x.dn.length<=1000)(h2:x.up.length<=1000):Gt x (Et x)/\CT Try.prog 36 [] [raA x] [] (evA (Et x)):=by
 unfold Et;exact RO (Mg x) h1 h2
theorem tur_c(x:RaD)(h1:x.dn.length<=1000)(h2:x.up.length<=1000):CT Try.prog 36 [] [raA x] [] (evA (Et x)):=(Nw h1 h2).2
inductive Er where
 | l0 (v0:Int) (v1:RaD)
def IQ(ls:List Int):Er->St
 | .l0 v0 v1=>St.mk 44 [(3,AV.ptr 0 0 0),(4,AV.ptr 1 0 0),(5,iv v0)] [some (bK [Ad (AJ ls 0 6)] 8),some (bK [AV.agg [uV v1.s.q,bV v1.s.o,iv v1.s.c,iv v1.s.f,uV v1.a.l,iv v1.a.t,bV v1.a.s,iv v1.a.r,iv v1.a.c,iv v1.b.c,iv v1.b.t,bV v1.b.s,bV v1.b.f,AV.lst (List.map frA v1.dn),AV.lst (List.map frA v1.up),AV.lst (List.map (iv) v1.of),AV.lst (List.map (iv) v1.en)]] 17)]
def LP:Er->Nat
 | .l0 _ _=>0
def J3(ls:List Int):Option (Er⊕Ret):=
 br ((EP ls 0 30).b.f)
 (some (.inr ([],bV true)))
 (some (.inl (.l0 ((0:Int)) (EP ls 0 30))))
def EN(ls:List Int)(v0:Int)(v1:RaD):Option (Er⊕Ret):=
 br (decide (v0<60))
 (br (v1.s.o)
  (gu (v1.dn.length<=1000) <|
   gu (v1.up.length<=1000) <|
   gu (Rows (AJ ls 0 6).nx) <|
   gu (RaS v1) <|
   br (!(evJ (AJ ls 0 6) v1 (Et v1)).o)
   (some (.inr ([],bV false)))
   (some (.inl (.l0 (i64.wrap (v0+1)) ((evJ (AJ ls 0 6) v1 (Et v1)).x)))))
  (some (.inr ([],bV !v1.s.o))))
 (some (.inr ([],bV !v1.s.o)))
def MJ(ls:List Int):Er->Option (Er⊕Ret)
 | .l0 v0 v1=>EN ls v0 v1
theorem livEn_ok(ls:List Int)(o:Er⊕Ret)(h:J3 ls=some o):Arr Try.prog Try.f7 0 (IQ ls) LP (zB Try.f7) [] {n:=Try.f7.ntmps,fr:=An 0 ([lI ls]),hp:=([])} o:=
 Scr.ok h mix (
 have c0:=kn8_c;
 have c1:=lif_c (ls) (0) (30) (show nat_lit 0<=(5000:Nat) from(by first | exact nL rfl | decide)) (show(0:Int)<=(30:Int) from(by first | exact nL rfl | decide)) (show(30:Int)<=(1000:Int) from(by first | exact nL rfl | decide));
 .rn 3 [] [] [(8,hK c0 [] []),(14,hK c1 [0] [])] [] (u2 (aj (aj (al (c0)) s2) (ak (aj (u2 (u2 (u2 (aj (ak (k3 (al (c1)))) (u2 (u2 (u2 (k2 (aj (k2 n11) (al (k2 n11))))))))))) (al (u2 (u2 s2))))))) <|
 .br (fun a0=>
 .rt [39] [] [] [] [] [] (aj (aj a0 s2) t2))
 (fun a0=>
 .lp [38] [] [] [] [] [1,2] [3,4,5] (aj (aj a0 s2) t6))) (by kernel_rfl)
theorem livS0_ok(ls:List Int)(v0:Int)(v1:RaD)(o:Er⊕Ret)(h:EN ls v0 v1=some o):Arr Try.prog Try.f7 0 (IQ ls) LP (AM Try.f7 0) (.rnd (AM Try.f7 0)::Bw Try.f7 0) (IQ ls (.l0 v0 v1)) o:=
 Scr.ok h mix (
 .br (fun a0=>
 .rn 0 [45] [] [] [] (al (u2 (u2 (u2 (ag a0 (ag a0 (ag a0 (al (aj a0 t2))))))))) <|
 .br (fun a1=>
  .gu fun a2=>
  .gu fun a3=>
  .gu fun a4=>
  .gu fun a5=>
  have c0:=tur_c v1 a2 a3;
  have c1:=stp_j (AJ ls 0 6) v1 (Et v1) a4 a5;
  .rn 1 [45,53] [] [(33,hK c0 [] []),(34,hK c1 [] [])] [] (aj a1 (aj (u2 (u2 (u2 (aj (ak (aj (ak (k3 (k5 t9))) (al (c0)))) (aj (k3 (aj t9 (aj (ak (k3 (k5 t9))) (aj t5 (al (c1)))))) (u2 (u2 (u2 (ak (aj (k2 n11) s2)))))))))) (al (u2 s2)))) <|
  .br (fun a6=>
  .rt [45,77] [] [] [] [] [] (aj (aj a6 s2) t2))
  (fun a6=>
  .lp [45,76] [] [] [] [] [0,1] [3,4,5] (aj (aj a6 (aj (u2 (al (k2 (show Nat.le 1 [AV.agg [uV v1.s.q,bV v1.s.o,iv v1.s.c,iv v1.s.f,uV v1.a.l,iv v1.a.t,bV v1.a.s,iv v1.a.r,iv v1.a.c,iv v1.b.c,iv v1.b.t,bV v1.b.s,bV v1.b.f,AV.lst (List.map frA v1.dn),AV.lst (List.map frA v1.up),AV.lst (List.map (iv) v1.of),AV.lst (List.map (iv) v1.en)]].length from(nL rfl))))) (al (u2 (u2 s2))))) t6)))
 (fun a1=>
  .rt [45,52] [] [] [] [] [] (aj (aj a1 (al (u2 (u2 (u2 (u2 s2)))))) t2)))
 (fun a0=>
 .rt [44] [] [] [] [] [] (aj (aj (u2 (u2 (u2 (aj a0 (aj a0 (aj a0 (al (aj a0 t2)))))))) (ak (al (u2 (u2 (u2 (u2 s2))))))) t2))) (by kernel_rfl)
theorem liv_ct(ls:List Int)(r:Ret)(h:Aj (MJ ls) (J3 ls) r):CT Try.prog 7 ([]) ([lI ls]) r.1 r.2:=
 CT.mach (fn:=Try.f7) (c:=zB Try.f7) (S:=IQ ls) (hd:=LP) Try.func7 (by kernel_rfl) (nL rfl)
  (fun s o ho=>match s,ho with
   | .l0 v0 v1,ho=>livS0_ok ls v0 v1 o ho
  )
  (fun o ho=>livEn_ok ls o ho) h
open Classical in
def rnk(x:RaD):Nat:=
 if x.a.l<x.s.q then (if ∃f∈x.dn,dnM x f then 30 else 31+(if x.up.length=6 then 2 else 0)+(if x.dn.length=6 then 1 else 0))
 else if x.a.t≠-1 then (if x.b.t = -1 then 25 else 24)
 else if x.b.s=true then 23
 else match x.up.filter fun f=>f.k==2&&f.q==x.s.q with
  | []=>10+(if x.up.length=6 then 2 else 0)+(if x.dn.length=6 then 1 else 0)
  | f::l=>if x.s.f=0\/f.f=2 then 1 else 14+(l.length+1)
theorem Lt{x:RaD}(h:x.up.length<=6)(h1:¬x.a.l<x.s.q)(h2:x.a.t = -1)(h3:x.b.s=false):rnk x<=20:=by
 unfold rnk
 rw[if_neg h1,if_neg (fun h=>h h2),if_neg (by rw[h3];decide)]
 have hl:=List.length_filter_le (fun f:FrD=>f.k==2&&f.q==x.s.q) x.up
 split
 .split<;>split<;>omega
 .rename_i f l e
  rw[e,RR] at hl
  split<;>omega
theorem rnk_le{x:RaD}(h:x.up.length<=6):rnk x<=60:=by
 by_cases h1:x.a.l<x.s.q
 .unfold rnk
  rw[if_pos h1]
  split
  .omega
  .split<;>split<;>omega
 .by_cases h2:x.a.t = -1
  .cases h3:x.b.s with
   | false=>exact RV (Lt h h1 h2 h3) (by omega)
   | true=>unfold rnk;rw[if_neg h1,if_neg (fun h=>h h2),if_pos h3];omega
  .unfold rnk
   rw[if_neg h1,if_pos h2]
   split<;>omega
theorem Ih{l:List FrD}{i:Nat}{f:FrD}(h:l[i]?=some f)(hl:l.length<=6):Ag l (i:Int)=⟨f,l.take i++l.drop (i+1),true⟩:=by
 have hi:i<l.length:=(Rd.1 h).1
 unfold Ag
 rw[show BN l (i:Int)=true from Em.2 ⟨by omega,by omega,by omega⟩]
 show(⟨l.getD i fr0,l.take i++l.drop (i+1),true⟩:DeD)=_
 rw[Rc,h];rfl
theorem split_at{l:List FrD}{i:Nat}{f:FrD}(h:l[i]?=some f):l=l.take i++f::l.drop (i+1):=by
 obtain⟨hi,e⟩:=Rd.1 h
 rw[<-e,List.getElem_cons_drop,List.take_append_drop]
theorem ev_up{n:Aa}{x:RaD}{i:Nat}{f:FrD}(h:x.up[i]?=some f)(hl:x.up.length<=6):evO n x ⟨3,0,i⟩=⟨⟨(Bg x.s x.dn f).s,x.a,x.b,(Bg x.s x.dn f).dn,x.up.take i++x.up.drop (i+1),x.of,x.en⟩,true⟩:=by
 obtain⟨z,g,d,dn,up,of,en⟩:=x
 dsimp only at h hl ⊢
 have ht:AI z g d dn up ⟨3,0,i⟩=⟨(Bg z dn f).s,g,(Bg z dn f).dn,up.take i++up.drop (i+1),true⟩:=by
  unfold AI;simp only[Ih h hl];rfl
 have hs:stO n ⟨z,g,d,dn,up,of,en⟩ ⟨3,0,i⟩=⟨⟨(Bg z dn f).s,g,d,(Bg z dn f).dn,up.take i++up.drop (i+1),of,en⟩,true⟩:=by
  show(⟨⟨(AI z g d dn up ⟨3,0,i⟩).z,_,_,_,_,_,_⟩,_⟩:SoD)=_
  rw[ht]
 unfold evO
 rw[hs];rfl
theorem ev_dn'{n:Aa}{x:RaD}{i:Nat}{f:FrD}(h:x.dn[i]?=some f)(hl:x.dn.length<=6)(hf:x.b.f=false):evO n x ⟨2,0,i⟩=⟨⟨x.s,(heO x.a 0 f).a,x.b,x.dn.take i++x.dn.drop (i+1),Ax x.up (heO x.a 0 f).l,x.of,x.en⟩,true⟩:=by
 obtain⟨z,g,⟨dc,dt,ds,df⟩,dn,up,of,en⟩:=x
 dsimp only at h hl hf ⊢;subst hf
 have ht:AD z g ⟨dc,dt,ds,false⟩ dn up ⟨2,0,i⟩=⟨z,(heO g 0 f).a,dn.take i++dn.drop (i+1),Ax up (heO g 0 f).l,true⟩:=by
  unfold AD;simp only[Ih h hl];rfl
 have hs:stO n ⟨z,g,⟨dc,dt,ds,false⟩,dn,up,of,en⟩ ⟨2,0,i⟩=⟨⟨z,(heO g 0 f).a,⟨dc,dt,ds,false⟩,dn.take i++dn.drop (i+1),Ax up (heO g 0 f).l,of,en⟩,true⟩:=by
  show(⟨⟨(AD z g ⟨dc,dt,ds,false⟩ dn up ⟨2,0,i⟩).z,_,_,_,_,_,_⟩,_⟩:SoD)=_
  rw[ht]
 unfold evO
 rw[hs];rfl
theorem ev_du{n:Aa}{x:RaD}(hl:x.up.length=6):evO n x ⟨5,0,0⟩=⟨⟨x.s,x.a,x.b,x.dn,x.up.drop 1,x.of,x.en⟩,true⟩:=by
 obtain⟨z,g,d,dn,up,of,en⟩:=x
 dsimp only at hl ⊢
 have h0:up[0]?=some (up[0]'(by omega)):=Rb (by omega)
 have hd:=Ih h0 (by omega)
 have ht:AI z g d dn up ⟨5,0,0⟩=⟨z,g,dn,up.drop 1,true⟩:=by
  unfold AI Bk;rw[show (EvD.mk 5 0 0).b=((0:Nat):Int) from rfl,hd];rfl
 have hs:stO n ⟨z,g,d,dn,up,of,en⟩ ⟨5,0,0⟩=⟨⟨z,g,d,dn,up.drop 1,of,en⟩,true⟩:=by
  show(⟨⟨(AI z g d dn up ⟨5,0,0⟩).z,_,_,_,_,_,_⟩,_⟩:SoD)=_
  rw[ht]
 unfold evO
 rw[hs];rfl
theorem ev_dd{n:Aa}{x:RaD}(hl:x.dn.length=6):evO n x ⟨4,0,0⟩=⟨⟨x.s,x.a,x.b,x.dn.drop 1,x.up,x.of,x.en⟩,true⟩:=by
 obtain⟨z,g,d,dn,up,of,en⟩:=x
 dsimp only at hl ⊢
 have h0:dn[0]?=some (dn[0]'(by omega)):=Rb (by omega)
 have hd:=Ih h0 (by omega)
 have ht:AD z g d dn up ⟨4,0,0⟩=⟨z,g,dn.drop 1,up,true⟩:=by
  unfold AD Bk;rw[show (EvD.mk 4 0 0).b=((0:Nat):Int) from rfl,hd];rfl
 have hs:stO n ⟨z,g,d,dn,up,of,en⟩ ⟨4,0,0⟩=⟨⟨z,g,d,dn.drop 1,up,of,en⟩,true⟩:=by
  show(⟨⟨(AD z g d dn up ⟨4,0,0⟩).z,_,_,_,_,_,_⟩,_⟩:SoD)=_
  rw[ht]
 unfold evO
 rw[hs];rfl
theorem ev_ti{n:Aa}{x:RaD}(ho:x.s.o=true)(hl:x.dn.length<6):evO n x ⟨8,0,0⟩=⟨⟨x.s,x.a,x.b,x.dn++[⟨1,0,x.s.q,x.s.c,x.s.f⟩],Ax x.up (Bp x.a 0 x.b),x.of,x.en⟩,true⟩:=by
 obtain⟨⟨zq,zo,zc,zf⟩,g,d,dn,up,of,en⟩:=x
 dsimp only at ho hl ⊢;subst ho
 have hs:stO n ⟨⟨zq,true,zc,zf⟩,g,d,dn,up,of,en⟩ ⟨8,0,0⟩=⟨⟨⟨zq,true,zc,zf⟩,g,d,AE dn ⟨1,0,zq,zc,zf⟩,Ax up (Bp g 0 d),of,en⟩,true⟩:=rfl
 have hd:AE dn ⟨1,0,zq,zc,zf⟩=dn++[⟨1,0,zq,zc,zf⟩]:=by unfold AE;rw[if_neg (by omega),if_pos hl]
 rw[hd] at hs
 unfold evO
 rw[hs];rfl
theorem ev_se{n:Aa}{x:RaD}(h1:0<=x.b.c)(h2:x.b.s=true)(h3:x.b.f=false):evO n x ⟨10,0,0⟩=⟨⟨x.s,⟨x.a.l,x.a.t,x.a.s,2,x.b.c⟩,⟨x.b.c,x.b.t,false,false⟩,x.dn,Ax x.up [Ay ⟨x.a.l,x.a.t,x.a.s,2,x.b.c⟩ 0],x.of,x.en⟩,true⟩:=by
 obtain⟨z,g,⟨dc,dt,ds,df⟩,dn,up,of,en⟩:=x
 dsimp only at h1 h2 h3 ⊢;subst h2 h3
 have hf:Aw g 0 ⟨dc,dt,true,false⟩=⟨⟨g.l,g.t,g.s,2,dc⟩,⟨dc,dt,false,false⟩,[Ay ⟨g.l,g.t,g.s,2,dc⟩ 0]⟩:=by
  unfold Aw
  rw[show (dc == -1)=false from RL.2 (by omega)];rfl
 have hs:stO n ⟨z,g,⟨dc,dt,true,false⟩,dn,up,of,en⟩ ⟨10,0,0⟩=⟨⟨z,⟨g.l,g.t,g.s,2,dc⟩,⟨dc,dt,false,false⟩,dn,Ax up [Ay ⟨g.l,g.t,g.s,2,dc⟩ 0],of,en⟩,true⟩:=by
  show(bif bdB (Aw g 0 ⟨dc,dt,true,false⟩).b ⟨dc,dt,true,false⟩ then (⟨⟨z,g,⟨dc,dt,true,false⟩,dn,up,of,en⟩,false⟩:SoD) else ⟨⟨z,(Aw g 0 ⟨dc,dt,true,false⟩).a,(Aw g 0 ⟨dc,dt,true,false⟩).b,dn,Ax up (Aw g 0 ⟨dc,dt,true,false⟩).l,of,en⟩,true⟩)=_
  rw[hf]
  dsimp only
  rw[show bdB ⟨dc,dt,false,false⟩ ⟨dc,dt,true,false⟩=false by simp[bdB]];rfl
 unfold evO
 rw[hs];rfl
theorem hea_dn{z:SeD}{of en:List Int}{g:AgD}{f:FrD}(h:DT z of en f)(hk:f.k=1)(hl:g.l<f.q):heO g 0 f=⟨⟨f.q,f.c,f.f==1,0,0⟩,[⟨3,0,f.q,0,0⟩]⟩:=by
 obtain⟨k1,k2,k3,k4,k5,k6,k7,k8⟩:=h.2.1 hk
 obtain⟨k,r,q,c,t⟩:=f
 dsimp only at *
 subst hk k3
 exact Ox hl k2 ⟨k5,k6⟩ k7
theorem Jq{l:List FrD}{q:Int}(h:∀g∈l,¬(g.k=2/\g.q=q)):(l.filter fun f=>f.k==2&&f.q==q)=[]:=by
 rw[List.filter_eq_nil_iff]
 intro g hg he
 simp only[Rj,beq_iff_eq] at he
 exact h g hg he
theorem JH{x:RaD}(h:x.a.l<x.s.q)(hn:∀f∈x.dn,¬dnM x f):rnk x=31+(if x.up.length=6 then 2 else 0)+(if x.dn.length=6 then 1 else 0):=by
 unfold rnk
 rw[if_pos h,if_neg (fun⟨f,hf,hm⟩=>hn f hf hm)]
theorem MZ{x:RaD}(h:x.a.l<x.s.q){f:FrD}(hf:f∈x.dn)(hm:dnM x f):rnk x=30:=by
 unfold rnk
 rw[if_pos h,if_pos ⟨f,hf,hm⟩]
theorem J0{x:RaD}(h1:¬x.a.l<x.s.q)(hq:FW x)(hn:∀f∈x.up,¬upM x f):rnk x=10+(if x.up.length=6 then 2 else 0)+(if x.dn.length=6 then 1 else 0):=by
 unfold rnk
 rw[if_neg h1,if_neg (fun h=>h hq.2.2),if_neg (by rw[hq.1];decide),Jq hn]
theorem PF{n:Aa}{c0:Int}{x:RaD}(h:RI n c0 x)(ho:x.s.o=true)(hf:x.b.f=false){y:EvD}(hy:Gt x y):(evO n x y).o=true/\(evO n x y).x.b.f=false/\((evO n x y).x.s.o=false\/rnk (evO n x y).x<rnk x):=by
 have hc:=h.c
 have hdl:=h.dl
 have hul:=h.ul
 rcases hy with ⟨hs,rfl⟩ | ⟨hs,ht,rfl⟩ | ⟨hq,i,f,hi,hm,hn,rfl⟩ | ⟨hq,hn,i,f,hi,hm,rfl⟩ | ⟨hq,hn,hnd,rfl⟩
 .-- serving
  obtain⟨s1,s2,s3,s4,s5⟩:=hc.sv hs
  rw[ev_se hc.bc hs hf]
  refine⟨rfl,rfl,.inr ?_⟩
  have h1:rnk x=23:=by unfold rnk;rw[if_neg (by omega),if_neg (fun h=>h s4),if_pos hs]
  have h2:=Lt (x:=⟨x.s,⟨x.a.l,x.a.t,x.a.s,2,x.b.c⟩,⟨x.b.c,x.b.t,false,false⟩,x.dn,Ax x.up [Ay ⟨x.a.l,x.a.t,x.a.s,2,x.b.c⟩ 0],x.of,x.en⟩) (Gf hul) (by show ¬x.a.l<x.s.q;omega) s4 rfl
  rw[h1];exact Nat.lt_of_le_of_lt h2 (by omega)
 .-- driving
  have hg:x.a.t≠-1:=by
   rcases ht with ht | ht
   .intro e;exact ht ((hc.bt ht).trans e)
   .exact ht
  have hl:¬x.a.l<x.s.q:=fun h=>hg (hc.lt h)
  have hl':¬x.a.l<x.s.q:=hl
  have hbc:=hc.bc
  by_cases hb:x.b.t = -1
  .obtain⟨e1,e2⟩:=hc.e2 hg
   have hp:=(hc.pl _ _ e2).1
   rw[<-hc.pb] at hp
   rw[ev_go hb (by omega) hf hs hg hp]
   refine⟨rfl,rfl,.inr ?_⟩
   have h1:rnk x=25:=by unfold rnk;rw[if_neg hl,if_pos hg,if_pos hb]
   have h2:rnk ⟨x.s,x.a,⟨x.b.c,x.a.t,false,false⟩,x.dn,x.up,x.of,x.en⟩=24:=by unfold rnk;rw[if_neg hl,if_pos hg,if_neg hg]
   rw[h1,h2];omega
  .rw[ev_in hb (by omega) hf]
   refine⟨rfl,rfl,.inr ?_⟩
   have h1:rnk x=24:=by unfold rnk;rw[if_neg hl,if_pos hg,if_neg hb]
   rw[h1]
   cases hss:x.b.s||x.a.s with
   | true=>
    have h2:rnk ⟨x.s,⟨x.a.l,-1,x.a.s,1,x.b.t⟩,⟨x.b.t,-1,true,false⟩,x.dn,Ax x.up [Ay ⟨x.a.l,-1,x.a.s,1,x.b.t⟩ 0],x.of,x.en++[x.b.t]⟩=23:=by unfold rnk;rw[if_neg hl',if_neg (fun h=>h rfl),if_pos rfl]
    rw[h2];omega
   | false=>
    exact Nat.lt_of_le_of_lt (Lt (x:=⟨x.s,⟨x.a.l,-1,x.a.s,1,x.b.t⟩,⟨x.b.t,-1,false,false⟩,x.dn,Ax x.up [Ay ⟨x.a.l,-1,x.a.s,1,x.b.t⟩ 0],x.of,x.en++[x.b.t]⟩) (Gf hul) hl' rfl rfl) (by omega)
 .-- a report is heard
  have hu:=h.up f (Rf hi)
  have h1:=(hu.2 hm.1).1
  have h2:=hc.e1 hq.2.2
  have hl:¬x.a.l<x.s.q:=by have:=hm.2;omega
  rw[ev_up hi hul]
  refine⟨rfl,hf,?_⟩
  have hk:(f.k==2)=true:=beq_iff_eq.2 hm.1
  by_cases hfin:x.s.f=0\/f.f=2
  .refine .inl ?_
   have e:(x.s.f==0||f.f==2)=true:=by simpa using hfin
   show(Bg x.s x.dn f).s.o=false
   unfold Bg Cy
   rw[hk,e,ho,beq_iff_eq.2 hm.2];rfl
  .refine .inr ?_
   have e:(x.s.f==0||f.f==2)=false:=by simpa using hfin
   have hcn:Bg x.s x.dn f=⟨x.s,AE x.dn ⟨3,0,f.q,0,f.f⟩⟩:=by unfold Bg;rw[hk,e];rfl
   have hfl:(x.up.filter fun g=>g.k==2&&g.q==x.s.q)=f::(x.up.drop (i+1)).filter fun g=>g.k==2&&g.q==x.s.q:=by
    conv=>lhs;rw[split_at hi]
    rw[List.filter_append,Jq hn,List.nil_append,List.filter_cons,if_pos (by rw[hk,beq_iff_eq.2 hm.2];rfl)]
   have r1:rnk x=14+(((x.up.drop (i+1)).filter fun g=>g.k==2&&g.q==x.s.q).length+1):=by
    unfold rnk
    rw[if_neg hl,if_neg (fun h=>h hq.2.2),if_neg (by rw[hq.1];decide),hfl]
    exact if_neg hfin
   rw[r1,hcn]
   unfold rnk
   rw[if_neg hl,if_neg (fun h=>h hq.2.2),if_neg (by rw[hq.1];decide)]
   have hfl2:((x.up.take i++x.up.drop (i+1)).filter fun g=>g.k==2&&g.q==x.s.q)=(x.up.drop (i+1)).filter fun g=>g.k==2&&g.q==x.s.q:=by rw[List.filter_append,Jq hn,List.nil_append]
   show(match ((x.up.take i++x.up.drop (i+1)).filter fun g=>g.k==2&&g.q==x.s.q) with
    | []=>(10:Nat)+(if (x.up.take i++x.up.drop (i+1)).length=6 then 2 else 0)+(if (AE x.dn ⟨3,0,f.q,0,f.f⟩).length=6 then 1 else 0)
    | f::l=>if x.s.f=0\/f.f=2 then (1:Nat) else (14:Nat)+(l.length+1))<_
   rw[hfl2]
   split
   .refine RU (m:=14) ?_ (Nat.le_add_right _ _)
    split<;>split<;>decide
   .rename_i e'
    rw[e',RR]
    split
    .exact RU (m:=14) (by decide) (Nat.le_add_right _ _)
    .exact Nat.add_lt_add_left (Nat.lt_succ_self _) 14
 .-- an authority is heard
  have hd:=h.dn f (Rf hi)
  rw[ev_dn' hi hdl hf,hea_dn hd hm.1 hm.2.2]
  refine⟨rfl,hf,.inr ?_⟩
  have hlt:x.a.l<x.s.q:=by have:=hm.2.1;have:=hm.2.2;omega
  rw[MZ hlt (Rf hi) hm]
  unfold rnk
  rw[if_neg (by show ¬f.q<x.s.q;have:=hm.2.1;omega),if_pos (by show f.c≠-1;have:=(hd.2.1 hm.1).2.2.2.2.1;omega),if_pos hq.2.1]
  omega
 .-- room,or again
  by_cases hlt:x.a.l<x.s.q
  .have r1:=JH hlt hnd
   by_cases h6:x.up.length=6
   .rw[if_pos h6,ev_du h6]
    refine⟨rfl,hf,.inr ?_⟩
    rw[r1,JH (x:=⟨x.s,x.a,x.b,x.dn,x.up.drop 1,x.of,x.en⟩) hlt hnd,if_pos h6,if_neg (by show ¬(x.up.drop 1).length=6;rw[List.length_drop];omega)]
    dsimp only;omega
   .rw[if_neg h6]
    by_cases h7:x.dn.length=6
    .rw[if_pos h7,ev_dd h7]
     refine⟨rfl,hf,.inr ?_⟩
     rw[r1,JH (x:=⟨x.s,x.a,x.b,x.dn.drop 1,x.up,x.of,x.en⟩) hlt (fun g hg=>hnd g (List.mem_of_mem_drop hg)),if_pos h7,if_neg (show ¬(x.dn.drop 1).length=6 by rw[List.length_drop];omega)]
     dsimp only;omega
    .rw[if_neg h7,ev_ti ho (by omega)]
     refine⟨rfl,hf,.inr ?_⟩
     rw[r1,MZ (x:=⟨x.s,x.a,x.b,x.dn++[⟨1,0,x.s.q,x.s.c,x.s.f⟩],Ax x.up (Bp x.a 0 x.b),x.of,x.en⟩) hlt (RE.2 (.inr (List.mem_singleton.2 rfl))) ⟨rfl,rfl,hlt⟩]
     exact RU (m:=31) (by decide) (RV (Nat.le_add_right _ _) (Nat.le_add_right _ _))
  .have r1:=J0 hlt hq hn
   by_cases h6:x.up.length=6
   .rw[if_pos h6,ev_du h6]
    refine⟨rfl,hf,.inr ?_⟩
    rw[r1,J0 (x:=⟨x.s,x.a,x.b,x.dn,x.up.drop 1,x.of,x.en⟩) hlt hq (fun g hg=>hn g (List.mem_of_mem_drop hg)),if_pos h6,if_neg (by show ¬(x.up.drop 1).length=6;rw[List.length_drop];omega)]
    dsimp only;omega
   .rw[if_neg h6]
    by_cases h7:x.dn.length=6
    .rw[if_pos h7,ev_dd h7]
     refine⟨rfl,hf,.inr ?_⟩
     rw[r1,J0 (x:=⟨x.s,x.a,x.b,x.dn.drop 1,x.up,x.of,x.en⟩) hlt hq hn,if_pos h7,if_neg (show ¬(x.dn.drop 1).length=6 by rw[List.length_drop];omega)]
     dsimp only;omega
    .rw[if_neg h7,ev_ti ho (by omega)]
     refine⟨rfl,hf,.inr ?_⟩
     have hl0:=hc.l0
     have hr:=hc.fn ho (by omega) hq.2.2 hq.1
     have hr0:(x.a.r==0)=false:=by rw[hr];split<;>rfl
     have hag:Bp x.a 0 x.b=[Ay x.a 0]:=by unfold Bp;rw[hr0,hf];rfl
     have hsd:Ax x.up [Ay x.a 0]=x.up++[Ay x.a 0]:=by
      show AE x.up (Ay x.a 0)=_
      unfold AE;rw[if_neg (by omega),if_pos (by omega)]
     rw[r1,hag,hsd]
     have e:((x.up++[Ay x.a 0]).filter fun g=>g.k==2&&g.q==x.s.q)=[Ay x.a 0]:=by
      rw[List.filter_append,Jq hn,List.nil_append,List.filter_cons,if_pos (by show((2:Int)==2&&x.a.l==x.s.q)=true;rw[beq_iff_eq.2 (show x.a.l=x.s.q by omega)];rfl)];rfl
     unfold rnk
     rw[if_neg hlt,if_neg (fun h=>h hq.2.2),if_neg (by rw[hq.1];decide)]
     show(match ((x.up++[Ay x.a 0]).filter fun g=>g.k==2&&g.q==x.s.q) with
      | []=>_
      | f::l=>if x.s.f=0\/f.f=2 then 1 else 14+(l.length+1))<_
     rw[e]
     show(if x.s.f=0\/x.a.r=2 then 1 else 14+(0+1))<_
     rw[if_pos (by by_cases h0:x.s.f=0<;>simp_all)]
     omega
theorem liv_run(ls:List Int){n:Aa}(hn:AJ ls 0 6=n)(hrw:Rows n.nx){c0:Int}:∀(m k:Nat) (x:RaD),k+m=60->RI n c0 x->x.s.q<=1000->x.b.f=false->(x.s.o=false\/rnk x<=m)->Aj (MJ ls) (some (.inl (.l0 (k:Int) x))) ([],.bool true):=by
 intro m
 induction m with
 | zero=>
  intro k x hk hx hq hf hm
  have ho:x.s.o=false:=by
   rcases hm with h | h
   .exact h
   .exfalso
    unfold rnk at h
    revert h
    split
    .split
     .omega
     .split<;>split<;>omega
    .split
     .split<;>omega
     .split
      .omega
      .split
       .split<;>split<;>omega
       .split<;>omega
  refine .to (show EN ls (k:Int) x=_ from ?_) (.ret _)
  unfold EN
  rw[Ao (AF (by omega)),ho];rfl
 | succ m ih=>
  intro k x hk hx hq hf hm
  have hdl:=hx.dl
  have hul:=hx.ul
  cases ho:x.s.o with
  | false=>
   refine .to (show EN ls (k:Int) x=_ from ?_) (.ret _)
   unfold EN
   rw[Au (AN (by omega)),ho];rfl
  | true=>
   have hy:=(Nw (x:=x) (by omega) (by omega)).1
   obtain⟨h1,h2,h3⟩:=PF hx ho hf hy
   refine .to (show EN ls (k:Int) x=_ from ?_) (ih (k+1) (evO n x (Et x)).x (by omega) (hx.ev _) (by rw[hx.evq];exact hq) h2 ?_)
   .unfold EN
    rw[Au (AN (by omega)),Au ho,Ac (by omega),Ac (by omega),hn,Ac hrw,Ac (hx.lio (by omega)).1.1,GZ,Ao (by rw[h1];rfl),zW k (by omega)]
   .rcases h3 with h3 | h3
    .exact .inl h3
    .refine .inr ?_
     rcases hm with h | h
     .rw[ho] at h;cases h
     .omega
theorem liv_law(ls:List Int):CT Try.prog 7 [] [lI ls] [] (.bool true):=by
 have hl:=(JG (L:=ls) (kk:=0) (most:=6) (by decide) (by decide)).1
 obtain⟨⟨c0,hx⟩,hq,_⟩:=M9 (L:=ls) (kk:=0) (p:=30) (by decide) (by decide) (by decide)
 refine liv_ct ls ([],_) ?_
 unfold J3
 cases hf:(EP ls 0 30).b.f with
 | true=>exact .ret _
 | false=>exact liv_run ls rfl hl.rows 60 0 _ rfl hx (by omega) hf (.inr (rnk_le hx.ul))
theorem rdInts'{n:Nat}{es:List AV}(h:∀x∈es,ShV Try.prog n 3 x):∃L:List Int,es=L.map (AV.int .i64):=by
 induction es with
 | nil=>exact⟨[],rfl⟩
 | cons x es ih=>
  obtain⟨L,rfl⟩:=ih fun y hy=>h y (Rs _ hy)
  obtain⟨i,_,rfl⟩:=(h x (by simp)).intD Try.underlying3
  exact⟨i::L,rfl⟩
theorem radioLives_row(avs:List AV)(h:EA Try.prog 6 Try.f7.params.toList avs):CT Try.prog 7 [] avs [] (.bool true):=by
 rw[Try.params7] at h
 obtain⟨a,_,rfl,ka,h⟩:=h.consD
 obtain rfl:=h.nilD
 obtain⟨_,_,he,rfl⟩:=ka.sliceD Try.underlying22
 obtain⟨l,rfl⟩:=rdInts' he
 exact liv_law l
end Go.Proofs.Ytifigemlifbkcaa

/- Parts of the proof:Sg5m,SgM,SpC,It1m,ItP,ItC,ItA,It2m,ItD,ItE,ItF,ItG,It4m,ItH,It3m,ItI,SgN,Sg7m,SgO,Sg8m,SgQ,Sg9m,SgR,Sgam,SgS,SgT,Sgbm,SgU,Sgcm,SgV,RqD,SgW,Sgdm,SgX,Sh1,Sj1,Sj2,Sj3,Sj3bm,Sj4,Sj5m,Sj6,Sj7m,Rdr. -/
import Derived.Test.YtedjkebooffjpaaProg
import Derived.KernelRfl
import Derived.Test.YtedjkebooffjpaaSignalsActsM7
noncomputable section
set_option linter.unusedVariables false
set_option linter.unusedSimpArgs false
open Go Go.AX Go.Proofs
set_option maxRecDepth 100000
set_option maxHeartbeats 4000000
set_option linter.unusedVariables false
set_option linter.unusedSimpArgs false
open Go.IntKind (i64 u64)
namespace Go.Proofs.Ytedjkebooffjpaa
def annSt(n:Aa)(q:Ac)(c:Int):Empty->St
 | x=>x.elim
def annHd:Empty->Nat
 | x=>x.elim
def KH(n:Aa)(q:Ac)(c:Int):Option (Empty⊕Ret):=
 gu (Rows n.nx) <|
 br (scE n q c != 0)
 (some (.inr ([],AV.tup [AV.agg [AV.nils,AV.nils,AV.nils],iV (scE n q c)])))
 (br (decide (iN (List.map bA n.bs).length<=c))
  (some (.inr ([],AV.tup [AV.agg [AV.nils,AV.nils,AV.nils],iV 19])))
  (gu (0<=c) <|
   el (q.cl) (c.toNat) fun(x29:Bool)=>
   br x29
   (some (.inr ([],AV.tup [AV.agg [AV.nils,AV.nils,AV.nils],iV 24])))
   (gu (q.pe.length<=9223372036854775807) <|
    br (Ak q.pe c)
    (some (.inr ([],AV.tup [AV.agg [AV.nils,AV.nils,AV.nils],iV 24])))
    (gu (q.cl.length<=1000000) <|
     gu (q.bw.length<=1000000) <|
     gu (q.pe.length<=1000000) <|
     gu ((List.map iV q.pe).length+[iV c].length<=9223372036854775807) <|
     gu (((List.map iV q.pe).length+[iV c].length) * 8<=140737488355328) <|
     some (.inr ([],AV.tup [AV.agg [AV.lst (boL q.cl),AV.lst (List.map iV q.bw),AV.lst (List.map iV q.pe++[iV c])],iV 0]))))))
def annStep(n:Aa)(q:Ac)(c:Int):Empty->Option (Empty⊕Ret)
 | x=>x.elim
theorem annEn_ok(n:Aa)(q:Ac)(c:Int)(o:Empty⊕Ret)(h:KH n q c=some o):Arr Try.prog Try.f16 0 (annSt n q c) annHd (zB Try.f16) [] {n:=Try.f16.ntmps,fr:=AA 0 ([Ad n,sgA q,.int .i64 c]),hp:=([])} o:=
 Scr.ok h mix (
 .rn 0 [] [] [] [] (al (u2 (u2 t3))) <|
 .gu fun a0=>
 have c0:=MI (q.cl) (q.bw) (q.pe) c a0;
 .rn 1 [] [] [(12,hK c0 [] [])] [] (aj (u2 (u2 (u2 (aj (k3 (aj t9 (aj t4 (ak (al (c0)))))) s2)))) (al (u2 (u2 s2)))) <|
 .br (fun a1=>
 .rt [27] [] [] [] [] [] (aj (aj a1 (al (ak (u2 (aj (k2 n11) s2))))) (al (aj t4 t2))))
 (fun a1=>
 .rn 0 [26] [] [] [] (aj a1 (al (u2 (u2 (u2 (u2 (aj t3 s2))))))) <|
 .br (fun a2=>
  .rt [37] [] [] [] [] [] (aj (aj a2 (al (ak (aj (k2 n11) t2)))) (al (aj t4 t2))))
 (fun a2=>
  .gu fun a3=>
  .el fun x29 a4=>
  .br (fun a5=>
  .rt [36,63] [(29,bV x29)] [] [] [] [] (aj (aj a2 (aj (u2 (u2 (u2 (aj (k2 (aj a3 (Aq (f:=bV) a4))) (u2 (u2 (aj a5 (aj a5 (aj a5 (aj a5 (ag a5 s2))))))))))) (ak (al (ak (aj (k2 n11) t2)))))) (al (aj t4 t2))))
  (fun a5=>
  .gu fun a6=>
  have c1:=Ia (q.pe) c a6;
  .rn 0 [36,62] [(29,bV x29)] [(35,hK c1 [] [])] [] (aj a2 (al (u2 (u2 (u2 (aj (k2 (aj a3 (Aq (f:=bV) a4))) (u2 (u2 (ag a5 (ag a5 (ag a5 (aj (aj a5 (ak (k3 (al (c1))))) (ag a5 s2))))))))))))) <|
  .br (fun a7=>
   .rt [62,51] [] [] [] [] [] (aj (aj a7 (al (ak (aj (k2 n11) t2)))) (al (aj t4 t2))))
  (fun a7=>
   .gu fun a8=>
   .gu fun a9=>
   .gu fun a10=>
   have c2:=Mv (q.cl) (q.bw) (q.pe) a8 a9 a10;
   .rn 0 [62,50] [] [(39,hK c2 [] [])] [] (aj a7 (al (u2 (aj (ak (aj t4 (al (c2)))) (al (k2 (show Nat.le 1 [AV.agg [AV.lst (boL q.cl),AV.lst (List.map (iv) q.bw),AV.lst (List.map (iv) q.pe)]].length from(nL rfl)))))))) <|
   .gu fun a11=>
   .gu fun a12=>
   .rt [62] [] [] [] [] [3,4,7] (aj (aj (u2 (u2 (u2 (u2 (aj (k2 (aj (show(List.map (iv) q.pe).length=q.pe.length by simp) (aj (aj (show nat_lit 1=nat_lit 1 from rfl) (show 1<=[iv c].length by simp)) (aj a11 a12)))) (u2 (al t3))))))) (al (u2 (aj (k2 n11) t2)))) (al (aj (aj (show(boL q.cl).length=(boL q.cl).length from rfl) (aj (show q.bw.length=(List.map (iv) q.bw).length by simp) (al (show(List.map (iv) q.pe).length+[iv c].length=(List.map (iv) q.pe++[iv c]).length by simp)))) t2)))))))) (by kernel_rfl)
theorem ann_ct(n:Aa)(q:Ac)(c:Int)(r:Ret)(h:Al (annStep n q c) (KH n q c) r):CT Try.prog 16 ([]) ([Ad n,sgA q,.int .i64 c]) r.1 r.2:=
 CT.mach (fn:=Try.f16) (c:=zB Try.f16) (S:=annSt n q c) (hd:=annHd) Try.func16 (by kernel_rfl) (nL rfl)
  (fun s o ho=>match s,ho with
   | x,_=>x.elim)
  (fun o ho=>annEn_ok n q c o ho) h
def cloSt(n:Aa)(q:Ac)(c d:Int):Empty->St
 | x=>x.elim
def cloHd:Empty->Nat
 | x=>x.elim
def Jb(n:Aa)(q:Ac)(c d:Int):Option (Empty⊕Ret):=
 gu (Rows n.nx) <|
 br (scE n q c != 0)
 (some (.inr ([],AV.tup [AV.agg [AV.nils,AV.nils,AV.nils],iV (scE n q c)])))
 (br (decide (d < -1))
  (some (.inr ([],AV.tup [AV.agg [AV.nils,AV.nils,AV.nils],iV 19])))
  (br (decide (8<=d))
   (some (.inr ([],AV.tup [AV.agg [AV.nils,AV.nils,AV.nils],iV 19])))
   (gu (q.cl.length<=1000000) <|
    gu (q.bw.length<=1000000) <|
    gu (q.pe.length<=1000000) <|
    gu (0<=c) <|
    gu (c<iN (boL q.cl).length) <|
    el (q.cl) (0+c.toNat) fun(x34:Bool)=>
    br (!x34)
    (gu ((0+c.toNat).succ.le (boL q.cl).length) <|
     gu (c<iN q.bw.length) <|
     gu ((0+c.toNat).succ.le (List.map iV q.bw).length) <|
     some (.inr ([],AV.tup [AV.agg [AV.lst ((boL q.cl).set (0+c.toNat) (bV true)),AV.lst ((List.map iV q.bw).set (0+c.toNat) (iV d)),AV.lst (List.map iV (wo q.pe c))],iV 0])))
    (some (.inr ([],AV.tup [AV.agg [AV.lst (boL q.cl),AV.lst (List.map iV q.bw),AV.lst (List.map iV q.pe)],iV 0]))))))
def cloStep(n:Aa)(q:Ac)(c d:Int):Empty->Option (Empty⊕Ret)
 | x=>x.elim
theorem cloEn_ok(n:Aa)(q:Ac)(c d:Int)(o:Empty⊕Ret)(h:Jb n q c d=some o):Arr Try.prog Try.f21 0 (cloSt n q c d) cloHd (zB Try.f21) [] {n:=Try.f21.ntmps,fr:=AA 0 ([Ad n,sgA q,.int .i64 c,.int .i64 d]),hp:=([])} o:=
 Scr.ok h mix (
 .rn 0 [] [] [] [] (al (u2 (u2 t3))) <|
 .gu fun a0=>
 have c0:=MI (q.cl) (q.bw) (q.pe) c a0;
 .rn 1 [] [] [(14,hK c0 [] [])] [] (aj (u2 (u2 (u2 (aj (k3 (aj t9 (aj t4 (ak (al (c0)))))) s2)))) (al (u2 (u2 s2)))) <|
 .br (fun a1=>
 .rt [31] [] [] [] [] [] (aj (aj a1 (al (ak (u2 (aj (k2 n11) s2))))) (al (aj t4 t2))))
 (fun a1=>
 .br (fun a2=>
  .rt [30,47] [] [] [] [] [] (aj (aj a1 (aj (u2 (u2 (u2 (aj a2 (aj a2 (ag a2 s2)))))) (ak (al (ak (aj (k2 n11) t2)))))) (al (aj t4 t2))))
 (fun a2=>
  .rn 0 [30,46] [] [] [] (aj a1 (al (u2 (u2 (u2 (ag a2 (ag a2 (ag a2 s2)))))))) <|
  .br (fun a3=>
  .rt [46,41] [] [] [] [] [] (aj (aj a3 (al (ak (aj (k2 n11) t2)))) (al (aj t4 t2))))
  (fun a3=>
  .gu fun a4=>
  .gu fun a5=>
  .gu fun a6=>
  have c1:=Mv (q.cl) (q.bw) (q.pe) a4 a5 a6;
  .rn 0 [46,40] [] [(29,hK c1 [] [])] [] (aj a3 (al (u2 (aj (ak (aj t4 (al (c1)))) (al (k2 (show Nat.le 1 [AV.agg [AV.lst (boL q.cl),AV.lst (List.map (iv) q.bw),AV.lst (List.map (iv) q.pe)]].length from(nL rfl)))))))) <|
  .gu fun a7=>
  .gu fun a8=>
  .el fun x34 a9=>
  .rn 0 [46] [(34,bV x34)] [] [] (al (u2 (u2 (u2 (aj (k2 (aj a7 a8)) (aj (ak (Aq (f:=bV) a9)) s2)))))) <|
  .br (fun a10=>
   .gu fun a11=>
   .gu fun a12=>
   .gu fun a13=>
   have c2:=wol_c (q.pe) c (q.pe.length) (show q.pe.length=q.pe.length from rfl) a6;
   .rt [46,71] [] [(46,hK c2 [5] [])] [] [] [3,4,6] (aj (aj a10 (aj (u2 (u2 (u2 (u2 (u2 (u2 (u2 (u2 (u2 (u2 (aj (k5 (al (c2))) (aj (k2 (aj a7 a8)) (aj (ak a11) (aj (k2 (aj a7 a12)) (aj (k2 a13) (u2 (al t3))))))))))))))))) (al (u2 (aj (k2 n11) t2))))) (al (aj (aj (show(boL q.cl).length=((boL q.cl).set (0+c.toNat) (bV true)).length by simp) (aj (show q.bw.length=((List.map (iv) q.bw).set (0+c.toNat) (iv d)).length by simp) (al (show(wo q.pe c).length=(List.map (iv) (wo q.pe c)).length by simp)))) t2))))
  (fun a10=>
   .rt [46,70] [] [] [] [] [3,4,5] (aj (aj a10 (al (u2 (aj (k2 n11) t2)))) (al (aj (aj (show(boL q.cl).length=(boL q.cl).length from rfl) (aj (show q.bw.length=(List.map (iv) q.bw).length by simp) (al (show q.pe.length=(List.map (iv) q.pe).length by simp)))) t2)))))))) (by kernel_rfl)
theorem Nt(n:Aa)(q:Ac)(c d:Int)(r:Ret)(h:Al (cloStep n q c d) (Jb n q c d) r):CT Try.prog 21 ([]) ([Ad n,sgA q,.int .i64 c,.int .i64 d]) r.1 r.2:=
 CT.mach (fn:=Try.f21) (c:=zB Try.f21) (S:=cloSt n q c d) (hd:=cloHd) Try.func21 (by kernel_rfl) (nL rfl)
  (fun s o ho=>match s,ho with
   | x,_=>x.elim)
  (fun o ho=>cloEn_ok n q c d o ho) h
def opnSt(n:Aa)(q:Ac)(c:Int):Empty->St
 | x=>x.elim
def opnHd:Empty->Nat
 | x=>x.elim
def IH(n:Aa)(q:Ac)(c:Int):Option (Empty⊕Ret):=
 gu (Rows n.nx) <|
 br (scE n q c != 0)
 (some (.inr ([],AV.tup [AV.agg [AV.nils,AV.nils,AV.nils],iV (scE n q c)])))
 (gu (q.cl.length<=1000000) <|
  gu (q.bw.length<=1000000) <|
  gu (q.pe.length<=1000000) <|
  gu (0<=c) <|
  gu (c<iN (boL q.cl).length) <|
  gu ((0+c.toNat).succ.le (boL q.cl).length) <|
  gu (c<iN q.bw.length) <|
  gu ((0+c.toNat).succ.le (List.map iV q.bw).length) <|
  some (.inr ([],AV.tup [AV.agg [AV.lst ((boL q.cl).set (0+c.toNat) (bV false)),AV.lst ((List.map iV q.bw).set (0+c.toNat) (iV (-1))),AV.lst (List.map iV (wo q.pe c))],iV 0])))
def opnStep(n:Aa)(q:Ac)(c:Int):Empty->Option (Empty⊕Ret)
 | x=>x.elim
theorem opnEn_ok(n:Aa)(q:Ac)(c:Int)(o:Empty⊕Ret)(h:IH n q c=some o):Arr Try.prog Try.f23 0 (opnSt n q c) opnHd (zB Try.f23) [] {n:=Try.f23.ntmps,fr:=AA 0 ([Ad n,sgA q,.int .i64 c]),hp:=([])} o:=
 Scr.ok h mix (
 .rn 0 [] [] [] [] (al (u2 (u2 t3))) <|
 .gu fun a0=>
 have c0:=MI (q.cl) (q.bw) (q.pe) c a0;
 .rn 1 [] [] [(12,hK c0 [] [])] [] (aj (u2 (u2 (u2 (aj (k3 (aj t9 (aj t4 (ak (al (c0)))))) s2)))) (al (u2 s2))) <|
 .br (fun a1=>
 .rt [29] [] [] [] [] [] (aj (aj a1 (al (ak (u2 (aj (k2 n11) s2))))) (al (aj t4 t2))))
 (fun a1=>
 .gu fun a2=>
 .gu fun a3=>
 .gu fun a4=>
 have c1:=Mv (q.cl) (q.bw) (q.pe) a2 a3 a4;
 .rn 0 [28] [] [(18,hK c1 [] [])] [] (aj a1 (al (u2 (aj (ak (aj t4 (al (c1)))) (al (k2 (show Nat.le 1 [AV.agg [AV.lst (boL q.cl),AV.lst (List.map (iv) q.bw),AV.lst (List.map (iv) q.pe)]].length from(nL rfl)))))))) <|
 .gu fun a5=>
 .gu fun a6=>
 .gu fun a7=>
 .gu fun a8=>
 .gu fun a9=>
 have c2:=wol_c (q.pe) c (q.pe.length) (show q.pe.length=q.pe.length from rfl) a4;
 .rt [] [] [(28,hK c2 [5] [])] [] [] [3,4,6] (aj (aj (u2 (u2 (u2 (u2 (u2 (u2 (u2 (u2 (u2 (aj (k5 (al (c2))) (aj (k2 (aj a5 a6)) (aj (ak a7) (aj (k2 (aj a5 a8)) (aj (ak a9) (u2 (al t3)))))))))))))))) (al (u2 (aj (k2 n11) t2)))) (al (aj (aj (show(boL q.cl).length=((boL q.cl).set (0+c.toNat) (bV false)).length by simp) (aj (show q.bw.length=((List.map (iv) q.bw).set (0+c.toNat) (iv (-1))).length by simp) (al (show(wo q.pe c).length=(List.map (iv) (wo q.pe c)).length by simp)))) t2))))) (by kernel_rfl)
theorem P5(n:Aa)(q:Ac)(c:Int)(r:Ret)(h:Al (opnStep n q c) (IH n q c) r):CT Try.prog 23 ([]) ([Ad n,sgA q,.int .i64 c]) r.1 r.2:=
 CT.mach (fn:=Try.f23) (c:=zB Try.f23) (S:=opnSt n q c) (hd:=opnHd) Try.func23 (by kernel_rfl) (nL rfl)
  (fun s o ho=>match s,ho with
   | x,_=>x.elim)
  (fun o ho=>opnEn_ok n q c o ho) h
def OI(n:Aa)(q:Ac)(c d:Int):Empty->St
 | x=>x.elim
def PI:Empty->Nat
 | x=>x.elim
def I6(n:Aa)(q:Ac)(c d:Int):Option (Empty⊕Ret):=
 gu (Rows n.nx) <|
 br (!AK n q)
 (some (.inr ([],AV.tup [AV.agg [AV.nils,AV.nils,AV.nils],iV 20])))
 (br (decide (c<0))
  (some (.inr ([],AV.tup [AV.agg [AV.nils,AV.nils,AV.nils],iV 19])))
  (br (decide (iN (boL q.cl).length<=c))
   (some (.inr ([],AV.tup [AV.agg [AV.nils,AV.nils,AV.nils],iV 19])))
   (br (decide (d < -1))
    (some (.inr ([],AV.tup [AV.agg [AV.nils,AV.nils,AV.nils],iV 19])))
    (br (decide (8<=d))
     (some (.inr ([],AV.tup [AV.agg [AV.nils,AV.nils,AV.nils],iV 19])))
     (gu (q.cl.length<=1000000) <|
      gu (q.bw.length<=1000000) <|
      gu (q.pe.length<=1000000) <|
      gu (0<=c) <|
      gu (c<iN q.cl.length) <|
      gu (c<iN q.bw.length) <|
      some (.inr ([],AV.tup [AV.agg [AV.lst (boL (clS q c d).cl),AV.lst (List.map iV (clS q c d).bw),AV.lst (List.map iV (clS q c d).pe)],iV 0])))))))
def rcloStep(n:Aa)(q:Ac)(c d:Int):Empty->Option (Empty⊕Ret)
 | x=>x.elim
theorem RC(n:Aa)(q:Ac)(c d:Int)(o:Empty⊕Ret)(h:I6 n q c d=some o):Arr Try.prog Try.f77 0 (OI n q c d) PI (zB Try.f77) [] {n:=Try.f77.ntmps,fr:=AA 0 ([Ad n,sgA q,.int .i64 c,.int .i64 d]),hp:=([])} o:=
 Scr.ok h mix (
 .rn 0 [] [] [] [] (al (u2 (u2 t3))) <|
 .gu fun a0=>
 have c0:=Fq (q.cl) (q.bw) (q.pe) a0;
 .rn 0 [] [] [(12,hK c0 [] [])] [] (al (u2 (u2 (aj (k2 (aj t9 (aj t4 (al (c0))))) s2)))) <|
 .br (fun a1=>
 .rt [27] [] [] [] [] [] (aj (aj a1 (al (ak (aj (k2 n11) t2)))) (al (aj t4 t2))))
 (fun a1=>
 .br (fun a2=>
  .rt [26,35] [] [] [] [] [] (aj (aj a1 (aj (u2 (u2 (u2 (aj a2 (aj a2 (aj a2 (aj a2 (aj a2 (ag a2 (u2 (k2 (aj t3 (u2 (k2 (al t3))))))))))))))) (ak (al (ak (aj (k2 n11) t2)))))) (al (aj t4 t2))))
 (fun a2=>
  .br (fun a3=>
  .rt [26,34,49] [] [] [] [] [] (aj (aj a1 (aj (u2 (u2 (u2 (ag a2 (ag a2 (ag a2 (ag a2 (aj (aj a2 t3) (ag a2 (u2 (aj a3 (aj a3 (ag a3 (u2 (k2 (al t3)))))))))))))))) (ak (al (ak (aj (k2 n11) t2)))))) (al (aj t4 t2))))
  (fun a3=>
  .br (fun a4=>
   .rt [26,34,48,57] [] [] [] [] [] (aj (aj a1 (aj (u2 (u2 (u2 (ag a2 (ag a2 (ag a2 (ag a2 (aj (aj a2 t3) (ag a2 (u2 (ag a3 (ag a3 (ag a3 (u2 (aj a4 (aj a4 (al (aj a4 t2)))))))))))))))))) (ak (al (ak (aj (k2 n11) t2)))))) (al (aj t4 t2))))
  (fun a4=>
   .rn 0 [26,34,48,56] [] [] [] (aj a1 (al (u2 (u2 (u2 (ag a2 (ag a2 (ag a2 (ag a2 (aj (aj a2 t3) (ag a2 (u2 (ag a3 (ag a3 (ag a3 (u2 (ag a4 (ag a4 (al (aj a4 t2)))))))))))))))))))) <|
   .br (fun a5=>
   .rt [34,48,56,63] [] [] [] [] [] (aj (aj a5 (al (ak (aj (k2 n11) t2)))) (al (aj t4 t2))))
   (fun a5=>
   .gu fun a6=>
   .gu fun a7=>
   .gu fun a8=>
   .gu fun a9=>
   .gu fun a10=>
   .gu fun a11=>
   have c1:=Ns (q.cl) (q.bw) (q.pe) c d a6 a7 a8 a9 a10 a11;
   .rt [34,48,56,62] [] [(36,hK c1 [] [])] [] [] [] (aj (aj a5 (al (u2 (u2 (u2 (aj (k3 (aj t4 (k2 (al (c1))))) (aj (k2 n11) t2))))))) (al (aj t4 t2))))))))) (by kernel_rfl)
theorem Pg(n:Aa)(q:Ac)(c d:Int)(r:Ret)(h:Al (rcloStep n q c d) (I6 n q c d) r):CT Try.prog 77 ([]) ([Ad n,sgA q,.int .i64 c,.int .i64 d]) r.1 r.2:=
 CT.mach (fn:=Try.f77) (c:=zB Try.f77) (S:=OI n q c d) (hd:=PI) Try.func77 (by kernel_rfl) (nL rfl)
  (fun s o ho=>match s,ho with
   | x,_=>x.elim)
  (fun o ho=>RC n q c d o ho) h
def Oq(n:Aa)(q:Ac)(c:Int):Empty->St
 | x=>x.elim
def O9:Empty->Nat
 | x=>x.elim
def IJ(n:Aa)(q:Ac)(c:Int):Option (Empty⊕Ret):=
 gu (Rows n.nx) <|
 br (!AK n q)
 (some (.inr ([],AV.tup [AV.agg [AV.nils,AV.nils,AV.nils],iV 20])))
 (br (decide (c<0))
  (some (.inr ([],AV.tup [AV.agg [AV.nils,AV.nils,AV.nils],iV 19])))
  (br (decide (iN (boL q.cl).length<=c))
   (some (.inr ([],AV.tup [AV.agg [AV.nils,AV.nils,AV.nils],iV 19])))
   (gu (q.cl.length<=1000000) <|
    gu (q.bw.length<=1000000) <|
    gu (q.pe.length<=1000000) <|
    gu (0<=c) <|
    gu (c<iN q.cl.length) <|
    gu (c<iN q.bw.length) <|
    some (.inr ([],AV.tup [AV.agg [AV.lst (boL (opS q c).cl),AV.lst (List.map iV (opS q c).bw),AV.lst (List.map iV (opS q c).pe)],iV 0])))))
def ropnStep(n:Aa)(q:Ac)(c:Int):Empty->Option (Empty⊕Ret)
 | x=>x.elim
theorem Rs(n:Aa)(q:Ac)(c:Int)(o:Empty⊕Ret)(h:IJ n q c=some o):Arr Try.prog Try.f78 0 (Oq n q c) O9 (zB Try.f78) [] {n:=Try.f78.ntmps,fr:=AA 0 ([Ad n,sgA q,.int .i64 c]),hp:=([])} o:=
 Scr.ok h mix (
 .rn 0 [] [] [] [] (al (u2 (u2 t3))) <|
 .gu fun a0=>
 have c0:=Fq (q.cl) (q.bw) (q.pe) a0;
 .rn 0 [] [] [(10,hK c0 [] [])] [] (al (u2 (u2 (aj (k2 (aj t9 (aj t4 (al (c0))))) s2)))) <|
 .br (fun a1=>
 .rt [23] [] [] [] [] [] (aj (aj a1 (al (ak (aj (k2 n11) t2)))) (al (aj t4 t2))))
 (fun a1=>
 .br (fun a2=>
  .rt [22,31] [] [] [] [] [] (aj (aj a1 (aj (u2 (u2 (u2 (aj a2 (aj a2 (aj a2 (aj a2 (aj a2 (al (aj a2 t2)))))))))) (ak (al (ak (aj (k2 n11) t2)))))) (al (aj t4 t2))))
 (fun a2=>
  .rn 0 [22,30] [] [] [] (aj a1 (al (u2 (u2 (u2 (ag a2 (ag a2 (ag a2 (ag a2 (aj (aj a2 t3) (al (aj a2 t2)))))))))))) <|
  .br (fun a3=>
  .rt [30,43] [] [] [] [] [] (aj (aj a3 (al (ak (aj (k2 n11) t2)))) (al (aj t4 t2))))
  (fun a3=>
  .gu fun a4=>
  .gu fun a5=>
  .gu fun a6=>
  .gu fun a7=>
  .gu fun a8=>
  .gu fun a9=>
  have c1:=PV (q.cl) (q.bw) (q.pe) c a4 a5 a6 a7 a8 a9;
  .rt [30,42] [] [(25,hK c1 [] [])] [] [] [] (aj (aj a3 (al (u2 (u2 (aj (k2 (aj t4 (ak (al (c1))))) (aj (k2 n11) t2)))))) (al (aj t4 t2))))))) (by kernel_rfl)
theorem PK(n:Aa)(q:Ac)(c:Int)(r:Ret)(h:Al (ropnStep n q c) (IJ n q c) r):CT Try.prog 78 ([]) ([Ad n,sgA q,.int .i64 c]) r.1 r.2:=
 CT.mach (fn:=Try.f78) (c:=zB Try.f78) (S:=Oq n q c) (hd:=O9) Try.func78 (by kernel_rfl) (nL rfl)
  (fun s o ho=>match s,ho with
   | x,_=>x.elim)
  (fun o ho=>Rs n q c o ho) h
inductive Cj where
 | l0 (v0:List Bool) (v1:Int)
 | l1 (v0:List Bool) (v1:Nat) (v2:Int)
 | l2 (v0:List Bool) (v1:Nat) (v2:Int) (v3:Nat) (v4:Int)
 | l3 (v0:List Bool) (v1:Int) (v2:Nat) (v3:Int) (v4 v5:Nat) (v6:Int)
def Ct(n:Aa)(q:Ac)(l:List Bool):Cj->St
 | .l0 v0 v1=>St.mk 70 [(2,AV.lst (boL l)),(3,AV.fn 82 [AV.ptr 0 0 0]),(5,AV.ptr 1 0 0),(9,AV.sl 2 0 v0.length),(18,iv (iN (List.map bA n.bs).length)),(19,iv v1)] [some (bK [Ad n] 8),some (bK [AV.agg [AV.lst (boL q.cl),AV.lst (List.map (iv) q.bw),AV.lst (List.map (iv) q.pe)]] 3),some (bK (List.map bV v0) 1)]
 | .l1 v0 v1 v2=>St.mk 70 [(3,AV.fn 82 [AV.ptr 0 0 0]),(5,AV.ptr 1 0 0),(9,AV.sl 2 0 v0.length),(32,iv (iN v1)),(33,iv v2)] [some (bK [Ad n] 8),some (bK [AV.agg [AV.lst (boL q.cl),AV.lst (List.map (iv) q.bw),AV.lst (List.map (iv) q.pe)]] 3),some (bK (List.map bV v0) 1)]
 | .l2 v0 v1 v2 v3 v4=>St.mk 70 [(3,AV.fn 82 [AV.ptr 0 0 0]),(5,AV.ptr 1 0 0),(9,AV.sl 2 0 v0.length),(32,iv (iN v1)),(33,iv v2),(36,iv (iN v3)),(37,iv v4)] [some (bK [Ad n] 8),some (bK [AV.agg [AV.lst (boL q.cl),AV.lst (List.map (iv) q.bw),AV.lst (List.map (iv) q.pe)]] 3),some (bK (List.map bV v0) 1)]
 | .l3 v0 v1 v2 v3 v4 v5 v6=>St.mk 70 [(3,AV.fn 82 [AV.ptr 0 0 0]),(5,AV.ptr 1 0 0),(9,AV.sl 2 0 v0.length),(11,iv v1),(32,iv (iN v2)),(33,iv v3),(36,iv (iN v4)),(37,iv v1),(41,iv (iN v5)),(42,iv v6)] [some (bK [Ad n] 8),some (bK [AV.agg [AV.lst (boL q.cl),AV.lst (List.map (iv) q.bw),AV.lst (List.map (iv) q.pe)]] 3),some (bK (List.map bV v0) 1)]
def GJ:Cj->Nat
 | .l0 _ _=>0
 | .l1 _ _ _=>1
 | .l2 _ _ _ _ _=>2
 | .l3 _ _ _ _ _ _ _=>3
def KW(n:Aa)(q:Ac)(l:List Bool):Option (Cj⊕Ret):=
 gu (1 * iN (List.map bA n.bs).length<=281474976710656) <|
 gu (iN (List.map bA n.bs).length<=9223372036854775807) <|
 some (.inl (.l0 (List.replicate (List.map bA n.bs).length false) ((0:Int))))
def GO(n:Aa)(q:Ac)(l v0:List Bool)(v1:Int):Option (Cj⊕Ret):=
 br (decide (v1<iN (List.map bA n.bs).length))
 (gu (0<=v1) <|
  el l (v1.toNat) fun(x26:Bool)=>
  gu (v1<iN v0.length) <|
  gu ((0+v1.toNat).succ.le (List.map bV v0).length) <|
  some (.inl (.l0 (v0.set (0+v1.toNat) !x26) (i64.wrap (v1+1)))))
 (some (.inl (.l1 v0 (v0.length) ((0:Int)))))
def Hk(n:Aa)(q:Ac)(l v0:List Bool)(v1:Nat)(v2:Int):Option (Cj⊕Ret):=
 br (decide (v2<iN v1))
 (some (.inl (.l2 v0 v1 v2 (v0.length) ((0:Int)))))
 (some (.inr ([some (bK [AV.agg [AV.lst (List.map bA n.bs),AV.lst (gL n.nx),AV.lst (List.map sA n.ss),AV.lst (List.map iV n.rs),iV n.q,iV n.a,iV n.d,iV n.p]] 8),some (bK (List.map bV v0) 1)],AV.sl 1 0 v0.length)))
def G3(n:Aa)(q:Ac)(l v0:List Bool)(v1:Nat)(v2:Int)(v3:Nat)(v4:Int):Option (Cj⊕Ret):=
 br (decide (v4<iN v3))
 (some (.inl (.l3 v0 v4 v1 v2 v3 (v0.length) ((0:Int)))))
 (some (.inl (.l1 v0 v1 (i64.wrap (v2+1)))))
def Gq(n:Aa)(q:Ac)(l v0:List Bool)(v1:Int)(v2:Nat)(v3:Int)(v4 v5:Nat)(v6:Int):Option (Cj⊕Ret):=
 br (decide (v6<iN v5))
 (gu (0<=v6) <|
  gu (v6<iN v0.length) <|
  el v0 (0+v6.toNat) fun(x48:Bool)=>
  br x48
  (gu (0<=v1) <|
   el (q.cl) (v1.toNat) fun(x53:Bool)=>
   br (!x53)
   (gu (Ax n) <|
    gu (Rows n.nx) <|
    gu (0<=v1/\v1<iN n.bs.length) <|
    br (Ak (n.nx.getD v1.toNat []) v6)
    (gu (v1<iN v0.length) <|
     gu ((0+v1.toNat).succ.le (List.map bV v0).length) <|
     some (.inl (.l3 (v0.set (0+v1.toNat) true) v1 v2 v3 v4 v5 (i64.wrap (v6+1)))))
    (some (.inl (.l3 v0 v1 v2 v3 v4 v5 (i64.wrap (v6+1))))))
   (some (.inl (.l3 v0 v1 v2 v3 v4 v5 (i64.wrap (v6+1))))))
  (some (.inl (.l3 v0 v1 v2 v3 v4 v5 (i64.wrap (v6+1))))))
 (some (.inl (.l2 v0 v2 v3 v4 (i64.wrap (v1+1)))))
def Nk(n:Aa)(q:Ac)(l:List Bool):Cj->Option (Cj⊕Ret)
 | .l0 v0 v1=>GO n q l v0 v1
 | .l1 v0 v1 v2=>Hk n q l v0 v1 v2
 | .l2 v0 v1 v2 v3 v4=>G3 n q l v0 v1 v2 v3 v4
 | .l3 v0 v1 v2 v3 v4 v5 v6=>Gq n q l v0 v1 v2 v3 v4 v5 v6
theorem spFEn_ok(n:Aa)(q:Ac)(l:List Bool)(o:Cj⊕Ret)(h:KW n q l=some o):Arr Try.prog Try.f81 1 (Ct n q l) GJ (zB Try.f81) [] {n:=Try.f81.ntmps,fr:=AA 0 ([Ad n,sgA q,.lst (boL l),.fn 82 [.ptr 0 0 0]]),hp:=([some (bK [Ad n] 8)])} o:=
 Scr.ok h mix (
 .rn 0 [] [] [] [] (al (u2 (u2 t2))) <|
 .gu fun a0=>
 .gu fun a1=>
 .lq [] [] [] [] [] [0,2,3] [2,3,5,9,18,19] (up [(9,AV.sl 2 0 (List.map bA n.bs).length)] [(2,List.replicate (List.map bA n.bs).length (bV false))] (Ct n q l (.l0 (List.replicate (List.map bA n.bs).length false) ((0:Int))))) (aj (aj (u2 (u2 (u2 (aj (k2 (aj (show 0<=iN (List.map bA n.bs).length from(Int.natCast_nonneg _)) (aj (show iN (List.map bA n.bs).length<=iN (List.map bA n.bs).length by omega) (aj a0 a1)))) s2)))) (al (u2 (u2 t2)))) (ak (u2 t8))) (by simp[up,upF,upV,upH,upB,Ct,gL,boL,lI,sA,bA])) (by kernel_rfl)
theorem spFS0_ok(n:Aa)(q:Ac)(l v0:List Bool)(v1:Int)(o:Cj⊕Ret)(h:GO n q l v0 v1=some o):Arr Try.prog Try.f81 1 (Ct n q l) GJ (Av Try.f81 0) (.rnd (Av Try.f81 0)::AG Try.f81 0) (Ct n q l (.l0 v0 v1)) o:=
 Scr.ok h mix (
 .rn 0 [] [] [] [] (al (al t3)) <|
 .br (fun a0=>
 .rn 0 [41] [] [] [] (aj a0 (al (u2 s2))) <|
 .gu fun a1=>
 .el fun x26 a2=>
 .gu fun a3=>
 .gu fun a4=>
 .lq [] [(26,bV x26)] [] [] [] [0,1,2] [2,3,5,9,18,19] (up [(9,AV.sl 2 0 v0.length)] [(2,(List.map bV v0).set (0+v1.toNat) (bV !x26))] (Ct n q l (.l0 (v0.set (0+v1.toNat) !x26) (i64.wrap (v1+1))))) (aj (aj (u2 (u2 (u2 (u2 (aj (k2 (aj a1 (Aq (f:=bV) a2))) (u2 (u2 (aj (k2 (aj a1 a3)) (al (k2 a4)))))))))) (al (u2 s2))) (ak (u2 t8))) (by simp[up,upF,upV,upH,upB,Ct,gL,boL,lI,sA,bA]))
 (fun a0=>
 .lp [40] [] [] [] [] [0,1,2] [3,5,9,32,33] (aj (aj a0 (al (u2 (u2 t2)))) (u2 t8)))) (by kernel_rfl)
theorem spFS1_ok(n:Aa)(q:Ac)(l v0:List Bool)(v1:Nat)(v2:Int)(o:Cj⊕Ret)(h:Hk n q l v0 v1 v2=some o):Arr Try.prog Try.f81 1 (Ct n q l) GJ (Av Try.f81 1) (.rnd (Av Try.f81 1)::AG Try.f81 1) (Ct n q l (.l1 v0 v1 v2)) o:=
 Scr.ok h mix (
 .rn 0 [] [] [] [] (al (al t3)) <|
 .br (fun a0=>
 .lp [69] [] [] [] [] [0,1,2] [3,5,9,32,33,36,37] (aj (aj a0 (al (u2 (u2 t2)))) (u2 (ak t9))))
 (fun a0=>
 .rt [68] [] [] [] [0,2] [] (aj (aj a0 (al (u2 s2))) t4))) (by kernel_rfl)
theorem spFS2_ok(n:Aa)(q:Ac)(l v0:List Bool)(v1:Nat)(v2:Int)(v3:Nat)(v4:Int)(o:Cj⊕Ret)(h:G3 n q l v0 v1 v2 v3 v4=some o):Arr Try.prog Try.f81 1 (Ct n q l) GJ (Av Try.f81 2) (.rnd (Av Try.f81 2)::AG Try.f81 2) (Ct n q l (.l2 v0 v1 v2 v3 v4)) o:=
 Scr.ok h mix (
 .rn 0 [] [] [] [] (al (al t3)) <|
 .br (fun a0=>
 .lp [77] [] [] [] [] [0,1,2] [3,5,9,11,32,33,36,37,41,42] (aj (aj a0 (aj (u2 s2) (al (u2 (u2 t2))))) (u2 (ak (k3 t9)))))
 (fun a0=>
 .lp [76] [] [] [] [] [0,1,2] [3,5,9,32,33] (aj (aj a0 (al (u2 s2))) (u2 t8)))) (by kernel_rfl)
theorem spFS3_ok(n:Aa)(q:Ac)(l v0:List Bool)(v1:Int)(v2:Nat)(v3:Int)(v4 v5:Nat)(v6:Int)(o:Cj⊕Ret)(h:Gq n q l v0 v1 v2 v3 v4 v5 v6=some o):Arr Try.prog Try.f81 1 (Ct n q l) GJ (Av Try.f81 3) (.rnd (Av Try.f81 3)::AG Try.f81 3) (Ct n q l (.l3 v0 v1 v2 v3 v4 v5 v6)) o:=
 Scr.ok h mix (
 .rn 0 [] [] [] [] (al (al t3)) <|
 .br (fun a0=>
 .rn 0 [87] [] [] [] (aj a0 (al (u2 s2))) <|
 .gu fun a1=>
 .gu fun a2=>
 .el fun x48 a3=>
 .br (fun a4=>
  .gu fun a5=>
  .el fun x53 a6=>
  .br (fun a7=>
  .gu fun a8=>
  .gu fun a9=>
  .gu fun a10=>
  have c0:=lk1_c n v1 v6 a8 a9 a10;
  .rn 0 [99,115] [(48,bV x48),(53,bV x53)] [(61,hK c0 [0] [])] [] (al (u2 (u2 (aj (k2 (aj a1 a2)) (aj (ak (Aq (f:=bV) a3)) (u2 (ag a4 (ag a4 (ag a4 (aj (aj a4 (k2 (aj a5 (Aq (f:=bV) a6)))) (ag a4 (ag a4 (ag a4 (u2 (ag a7 (ag a7 (ag a7 (aj (aj a7 (k2 (k5 (al (c0))))) (al (aj a7 t2)))))))))))))))))))) <|
  .br (fun a11=>
   .gu fun a12=>
   .gu fun a13=>
   .lq [99,115,125] [] [] [] [] [0,1,2] [3,5,9,11,32,33,36,37,41,42] (up [(9,AV.sl 2 0 v0.length)] [(2,(List.map bV v0).set (0+v1.toNat) (bV true))] (Ct n q l (.l3 (v0.set (0+v1.toNat) true) v1 v2 v3 v4 v5 (i64.wrap (v6+1))))) (aj (aj a11 (aj (u2 (u2 (aj (k2 (aj a5 a12)) (al (ak a13))))) (al (u2 s2)))) (u2 (ak (k3 t9)))) (by simp[up,upF,upV,upH,upB,Ct,gL,boL,lI,sA,bA]))
  (fun a11=>
   .lp [99,115,124] [] [] [] [] [0,1,2] [3,5,9,11,32,33,36,37,41,42] (aj (aj a11 (al (u2 s2))) (u2 (ak (k3 t9))))))
  (fun a7=>
  .lp [99,114] [(48,bV x48),(53,bV x53)] [] [] [] [0,1,2] [3,5,9,11,32,33,36,37,41,42] (aj (aj (u2 (u2 (aj (k2 (aj a1 a2)) (aj (ak (Aq (f:=bV) a3)) (u2 (ag a4 (ag a4 (ag a4 (aj (aj a4 (k2 (aj a5 (Aq (f:=bV) a6)))) (ag a4 (ag a4 (ag a4 (u2 (aj a7 (aj a7 (aj a7 (aj a7 (al (aj a7 t2))))))))))))))))))) (ak (al (u2 s2)))) (u2 (ak (k3 t9))))))
 (fun a4=>
  .lp [98] [(48,bV x48)] [] [] [] [0,1,2] [3,5,9,11,32,33,36,37,41,42] (aj (aj (u2 (u2 (aj (k2 (aj a1 a2)) (aj (ak (Aq (f:=bV) a3)) (u2 (aj a4 (aj a4 (aj a4 (aj a4 (aj a4 (aj a4 (ag a4 (u2 (ak (k3 (al t3)))))))))))))))) (ak (al (u2 s2)))) (u2 (ak (k3 t9))))))
 (fun a0=>
 .lp [86] [] [] [] [] [0,1,2] [3,5,9,32,33,36,37] (aj (aj a0 (al (u2 s2))) (u2 (ak t9))))) (by kernel_rfl)
theorem spF_ct(n:Aa)(q:Ac)(l:List Bool)(r:Ret)(h:Al (Nk n q l) (KW n q l) r):CT Try.prog 81 ([some (bK [Ad n] 8)]) ([Ad n,sgA q,.lst (boL l),.fn 82 [.ptr 0 0 0]]) r.1 r.2:=
 CT.mach (fn:=Try.f81) (c:=zB Try.f81) (S:=Ct n q l) (hd:=GJ) Try.func81 (by kernel_rfl) (nL rfl)
  (fun s o ho=>match s,ho with
   | .l0 v0 v1,ho=>spFS0_ok n q l v0 v1 o ho
   | .l1 v0 v1 v2,ho=>spFS1_ok n q l v0 v1 v2 o ho
   | .l2 v0 v1 v2 v3 v4,ho=>spFS2_ok n q l v0 v1 v2 v3 v4 o ho
   | .l3 v0 v1 v2 v3 v4 v5 v6,ho=>spFS3_ok n q l v0 v1 v2 v3 v4 v5 v6 o ho
  )
  (fun o ho=>spFEn_ok n q l o ho) h
inductive Ce where
 | l0 (v0:List Bool) (v1:Int)
 | l1 (v0:List Bool) (v1:Nat) (v2:Int)
 | l2 (v0:List Bool) (v1:Nat) (v2:Int) (v3:Nat) (v4:Int)
 | l3 (v0:List Bool) (v1:Int) (v2:Nat) (v3:Int) (v4 v5:Nat) (v6:Int)
def Cs(n:Aa)(q:Ac)(l:List Bool):Ce->St
 | .l0 v0 v1=>St.mk 70 [(2,AV.lst (boL l)),(3,AV.fn 83 [AV.ptr 0 0 0]),(5,AV.ptr 1 0 0),(9,AV.sl 2 0 v0.length),(18,iv (iN (List.map bA n.bs).length)),(19,iv v1)] [some (bK [Ad n] 8),some (bK [AV.agg [AV.lst (boL q.cl),AV.lst (List.map (iv) q.bw),AV.lst (List.map (iv) q.pe)]] 3),some (bK (List.map bV v0) 1)]
 | .l1 v0 v1 v2=>St.mk 70 [(3,AV.fn 83 [AV.ptr 0 0 0]),(5,AV.ptr 1 0 0),(9,AV.sl 2 0 v0.length),(32,iv (iN v1)),(33,iv v2)] [some (bK [Ad n] 8),some (bK [AV.agg [AV.lst (boL q.cl),AV.lst (List.map (iv) q.bw),AV.lst (List.map (iv) q.pe)]] 3),some (bK (List.map bV v0) 1)]
 | .l2 v0 v1 v2 v3 v4=>St.mk 70 [(3,AV.fn 83 [AV.ptr 0 0 0]),(5,AV.ptr 1 0 0),(9,AV.sl 2 0 v0.length),(32,iv (iN v1)),(33,iv v2),(36,iv (iN v3)),(37,iv v4)] [some (bK [Ad n] 8),some (bK [AV.agg [AV.lst (boL q.cl),AV.lst (List.map (iv) q.bw),AV.lst (List.map (iv) q.pe)]] 3),some (bK (List.map bV v0) 1)]
 | .l3 v0 v1 v2 v3 v4 v5 v6=>St.mk 70 [(3,AV.fn 83 [AV.ptr 0 0 0]),(5,AV.ptr 1 0 0),(9,AV.sl 2 0 v0.length),(11,iv v1),(32,iv (iN v2)),(33,iv v3),(36,iv (iN v4)),(37,iv v1),(41,iv (iN v5)),(42,iv v6)] [some (bK [Ad n] 8),some (bK [AV.agg [AV.lst (boL q.cl),AV.lst (List.map (iv) q.bw),AV.lst (List.map (iv) q.pe)]] 3),some (bK (List.map bV v0) 1)]
def Gk:Ce->Nat
 | .l0 _ _=>0
 | .l1 _ _ _=>1
 | .l2 _ _ _ _ _=>2
 | .l3 _ _ _ _ _ _ _=>3
def Kv(n:Aa)(q:Ac)(l:List Bool):Option (Ce⊕Ret):=
 gu (1 * iN (List.map bA n.bs).length<=281474976710656) <|
 gu (iN (List.map bA n.bs).length<=9223372036854775807) <|
 some (.inl (.l0 (List.replicate (List.map bA n.bs).length false) ((0:Int))))
def G7(n:Aa)(q:Ac)(l v0:List Bool)(v1:Int):Option (Ce⊕Ret):=
 br (decide (v1<iN (List.map bA n.bs).length))
 (gu (0<=v1) <|
  el l (v1.toNat) fun(x26:Bool)=>
  gu (v1<iN v0.length) <|
  gu ((0+v1.toNat).succ.le (List.map bV v0).length) <|
  some (.inl (.l0 (v0.set (0+v1.toNat) !x26) (i64.wrap (v1+1)))))
 (some (.inl (.l1 v0 (v0.length) ((0:Int)))))
def G0(n:Aa)(q:Ac)(l v0:List Bool)(v1:Nat)(v2:Int):Option (Ce⊕Ret):=
 br (decide (v2<iN v1))
 (some (.inl (.l2 v0 v1 v2 (v0.length) ((0:Int)))))
 (some (.inr ([some (bK [AV.agg [AV.lst (List.map bA n.bs),AV.lst (gL n.nx),AV.lst (List.map sA n.ss),AV.lst (List.map iV n.rs),iV n.q,iV n.a,iV n.d,iV n.p]] 8),some (bK (List.map bV v0) 1)],AV.sl 1 0 v0.length)))
def G6(n:Aa)(q:Ac)(l v0:List Bool)(v1:Nat)(v2:Int)(v3:Nat)(v4:Int):Option (Ce⊕Ret):=
 br (decide (v4<iN v3))
 (some (.inl (.l3 v0 v4 v1 v2 v3 (v0.length) ((0:Int)))))
 (some (.inl (.l1 v0 v1 (i64.wrap (v2+1)))))
def Gd(n:Aa)(q:Ac)(l v0:List Bool)(v1:Int)(v2:Nat)(v3:Int)(v4 v5:Nat)(v6:Int):Option (Ce⊕Ret):=
 br (decide (v6<iN v5))
 (gu (0<=v6) <|
  gu (v6<iN v0.length) <|
  el v0 (0+v6.toNat) fun(x48:Bool)=>
  br x48
  (gu (0<=v1) <|
   el (q.cl) (v1.toNat) fun(x53:Bool)=>
   br (!x53)
   (gu (Ax n) <|
    gu (Rows n.nx) <|
    gu (0<=v6/\v6<iN n.bs.length) <|
    br (Ak (n.nx.getD v6.toNat []) v1)
    (gu (v1<iN v0.length) <|
     gu ((0+v1.toNat).succ.le (List.map bV v0).length) <|
     some (.inl (.l3 (v0.set (0+v1.toNat) true) v1 v2 v3 v4 v5 (i64.wrap (v6+1)))))
    (some (.inl (.l3 v0 v1 v2 v3 v4 v5 (i64.wrap (v6+1))))))
   (some (.inl (.l3 v0 v1 v2 v3 v4 v5 (i64.wrap (v6+1))))))
  (some (.inl (.l3 v0 v1 v2 v3 v4 v5 (i64.wrap (v6+1))))))
 (some (.inl (.l2 v0 v2 v3 v4 (i64.wrap (v1+1)))))
def OU(n:Aa)(q:Ac)(l:List Bool):Ce->Option (Ce⊕Ret)
 | .l0 v0 v1=>G7 n q l v0 v1
 | .l1 v0 v1 v2=>G0 n q l v0 v1 v2
 | .l2 v0 v1 v2 v3 v4=>G6 n q l v0 v1 v2 v3 v4
 | .l3 v0 v1 v2 v3 v4 v5 v6=>Gd n q l v0 v1 v2 v3 v4 v5 v6
theorem spBEn_ok(n:Aa)(q:Ac)(l:List Bool)(o:Ce⊕Ret)(h:Kv n q l=some o):Arr Try.prog Try.f81 1 (Cs n q l) Gk (zB Try.f81) [] {n:=Try.f81.ntmps,fr:=AA 0 ([Ad n,sgA q,.lst (boL l),.fn 83 [.ptr 0 0 0]]),hp:=([some (bK [Ad n] 8)])} o:=
 Scr.ok h mix (
 .rn 0 [] [] [] [] (al (u2 (u2 t2))) <|
 .gu fun a0=>
 .gu fun a1=>
 .lq [] [] [] [] [] [0,2,3] [2,3,5,9,18,19] (up [(9,AV.sl 2 0 (List.map bA n.bs).length)] [(2,List.replicate (List.map bA n.bs).length (bV false))] (Cs n q l (.l0 (List.replicate (List.map bA n.bs).length false) ((0:Int))))) (aj (aj (u2 (u2 (u2 (aj (k2 (aj (show 0<=iN (List.map bA n.bs).length from(Int.natCast_nonneg _)) (aj (show iN (List.map bA n.bs).length<=iN (List.map bA n.bs).length by omega) (aj a0 a1)))) s2)))) (al (u2 (u2 t2)))) (ak (u2 t8))) (by simp[up,upF,upV,upH,upB,Cs,gL,boL,lI,sA,bA])) (by kernel_rfl)
theorem spBS0_ok(n:Aa)(q:Ac)(l v0:List Bool)(v1:Int)(o:Ce⊕Ret)(h:G7 n q l v0 v1=some o):Arr Try.prog Try.f81 1 (Cs n q l) Gk (Av Try.f81 0) (.rnd (Av Try.f81 0)::AG Try.f81 0) (Cs n q l (.l0 v0 v1)) o:=
 Scr.ok h mix (
 .rn 0 [] [] [] [] (al (al t3)) <|
 .br (fun a0=>
 .rn 0 [41] [] [] [] (aj a0 (al (u2 s2))) <|
 .gu fun a1=>
 .el fun x26 a2=>
 .gu fun a3=>
 .gu fun a4=>
 .lq [] [(26,bV x26)] [] [] [] [0,1,2] [2,3,5,9,18,19] (up [(9,AV.sl 2 0 v0.length)] [(2,(List.map bV v0).set (0+v1.toNat) (bV !x26))] (Cs n q l (.l0 (v0.set (0+v1.toNat) !x26) (i64.wrap (v1+1))))) (aj (aj (u2 (u2 (u2 (u2 (aj (k2 (aj a1 (Aq (f:=bV) a2))) (u2 (u2 (aj (k2 (aj a1 a3)) (al (k2 a4)))))))))) (al (u2 s2))) (ak (u2 t8))) (by simp[up,upF,upV,upH,upB,Cs,gL,boL,lI,sA,bA]))
 (fun a0=>
 .lp [40] [] [] [] [] [0,1,2] [3,5,9,32,33] (aj (aj a0 (al (u2 (u2 t2)))) (u2 t8)))) (by kernel_rfl)
theorem spBS1_ok(n:Aa)(q:Ac)(l v0:List Bool)(v1:Nat)(v2:Int)(o:Ce⊕Ret)(h:G0 n q l v0 v1 v2=some o):Arr Try.prog Try.f81 1 (Cs n q l) Gk (Av Try.f81 1) (.rnd (Av Try.f81 1)::AG Try.f81 1) (Cs n q l (.l1 v0 v1 v2)) o:=
 Scr.ok h mix (
 .rn 0 [] [] [] [] (al (al t3)) <|
 .br (fun a0=>
 .lp [69] [] [] [] [] [0,1,2] [3,5,9,32,33,36,37] (aj (aj a0 (al (u2 (u2 t2)))) (u2 (ak t9))))
 (fun a0=>
 .rt [68] [] [] [] [0,2] [] (aj (aj a0 (al (u2 s2))) t4))) (by kernel_rfl)
theorem spBS2_ok(n:Aa)(q:Ac)(l v0:List Bool)(v1:Nat)(v2:Int)(v3:Nat)(v4:Int)(o:Ce⊕Ret)(h:G6 n q l v0 v1 v2 v3 v4=some o):Arr Try.prog Try.f81 1 (Cs n q l) Gk (Av Try.f81 2) (.rnd (Av Try.f81 2)::AG Try.f81 2) (Cs n q l (.l2 v0 v1 v2 v3 v4)) o:=
 Scr.ok h mix (
 .rn 0 [] [] [] [] (al (al t3)) <|
 .br (fun a0=>
 .lp [77] [] [] [] [] [0,1,2] [3,5,9,11,32,33,36,37,41,42] (aj (aj a0 (aj (u2 s2) (al (u2 (u2 t2))))) (u2 (ak (k3 t9)))))
 (fun a0=>
 .lp [76] [] [] [] [] [0,1,2] [3,5,9,32,33] (aj (aj a0 (al (u2 s2))) (u2 t8)))) (by kernel_rfl)
theorem spBS3_ok(n:Aa)(q:Ac)(l v0:List Bool)(v1:Int)(v2:Nat)(v3:Int)(v4 v5:Nat)(v6:Int)(o:Ce⊕Ret)(h:Gd n q l v0 v1 v2 v3 v4 v5 v6=some o):Arr Try.prog Try.f81 1 (Cs n q l) Gk (Av Try.f81 3) (.rnd (Av Try.f81 3)::AG Try.f81 3) (Cs n q l (.l3 v0 v1 v2 v3 v4 v5 v6)) o:=
 Scr.ok h mix (
 .rn 0 [] [] [] [] (al (al t3)) <|
 .br (fun a0=>
 .rn 0 [87] [] [] [] (aj a0 (al (u2 s2))) <|
 .gu fun a1=>
 .gu fun a2=>
 .el fun x48 a3=>
 .br (fun a4=>
  .gu fun a5=>
  .el fun x53 a6=>
  .br (fun a7=>
  .gu fun a8=>
  .gu fun a9=>
  .gu fun a10=>
  have c0:=lk2_c n v1 v6 a8 a9 a10;
  .rn 0 [99,115] [(48,bV x48),(53,bV x53)] [(61,hK c0 [0] [])] [] (al (u2 (u2 (aj (k2 (aj a1 a2)) (aj (ak (Aq (f:=bV) a3)) (u2 (ag a4 (ag a4 (ag a4 (aj (aj a4 (k2 (aj a5 (Aq (f:=bV) a6)))) (ag a4 (ag a4 (ag a4 (u2 (ag a7 (ag a7 (ag a7 (aj (aj a7 (k2 (k5 (al (c0))))) (al (aj a7 t2)))))))))))))))))))) <|
  .br (fun a11=>
   .gu fun a12=>
   .gu fun a13=>
   .lq [99,115,125] [] [] [] [] [0,1,2] [3,5,9,11,32,33,36,37,41,42] (up [(9,AV.sl 2 0 v0.length)] [(2,(List.map bV v0).set (0+v1.toNat) (bV true))] (Cs n q l (.l3 (v0.set (0+v1.toNat) true) v1 v2 v3 v4 v5 (i64.wrap (v6+1))))) (aj (aj a11 (aj (u2 (u2 (aj (k2 (aj a5 a12)) (al (ak a13))))) (al (u2 s2)))) (u2 (ak (k3 t9)))) (by simp[up,upF,upV,upH,upB,Cs,gL,boL,lI,sA,bA]))
  (fun a11=>
   .lp [99,115,124] [] [] [] [] [0,1,2] [3,5,9,11,32,33,36,37,41,42] (aj (aj a11 (al (u2 s2))) (u2 (ak (k3 t9))))))
  (fun a7=>
  .lp [99,114] [(48,bV x48),(53,bV x53)] [] [] [] [0,1,2] [3,5,9,11,32,33,36,37,41,42] (aj (aj (u2 (u2 (aj (k2 (aj a1 a2)) (aj (ak (Aq (f:=bV) a3)) (u2 (ag a4 (ag a4 (ag a4 (aj (aj a4 (k2 (aj a5 (Aq (f:=bV) a6)))) (ag a4 (ag a4 (ag a4 (u2 (aj a7 (aj a7 (aj a7 (aj a7 (al (aj a7 t2))))))))))))))))))) (ak (al (u2 s2)))) (u2 (ak (k3 t9))))))
 (fun a4=>
  .lp [98] [(48,bV x48)] [] [] [] [0,1,2] [3,5,9,11,32,33,36,37,41,42] (aj (aj (u2 (u2 (aj (k2 (aj a1 a2)) (aj (ak (Aq (f:=bV) a3)) (u2 (aj a4 (aj a4 (aj a4 (aj a4 (aj a4 (aj a4 (ag a4 (u2 (ak (k3 (al t3)))))))))))))))) (ak (al (u2 s2)))) (u2 (ak (k3 t9))))))
 (fun a0=>
 .lp [86] [] [] [] [] [0,1,2] [3,5,9,32,33,36,37] (aj (aj a0 (al (u2 s2))) (u2 (ak t9))))) (by kernel_rfl)
theorem spB_ct(n:Aa)(q:Ac)(l:List Bool)(r:Ret)(h:Al (OU n q l) (Kv n q l) r):CT Try.prog 81 ([some (bK [Ad n] 8)]) ([Ad n,sgA q,.lst (boL l),.fn 83 [.ptr 0 0 0]]) r.1 r.2:=
 CT.mach (fn:=Try.f81) (c:=zB Try.f81) (S:=Cs n q l) (hd:=Gk) Try.func81 (by kernel_rfl) (nL rfl)
  (fun s o ho=>match s,ho with
   | .l0 v0 v1,ho=>spBS0_ok n q l v0 v1 o ho
   | .l1 v0 v1 v2,ho=>spBS1_ok n q l v0 v1 v2 o ho
   | .l2 v0 v1 v2 v3 v4,ho=>spBS2_ok n q l v0 v1 v2 v3 v4 o ho
   | .l3 v0 v1 v2 v3 v4 v5 v6,ho=>spBS3_ok n q l v0 v1 v2 v3 v4 v5 v6 o ho
  )
  (fun o ho=>spBEn_ok n q l o ho) h
inductive Ck where
 | l0 (v0:List Bool) (v1:Int)
 | l1 (v0:List Bool) (v1:Int) (v2 v3:Bool) (v4:List Bool) (v5:Int)
def C2(n:Aa)(q:Ac):Ck->St
 | .l0 v0 v1=>St.mk 75 [(2,AV.ptr 0 0 0),(5,AV.lst (boL (A5 q))),(6,AV.lst (List.take ((List.map bA n.bs).length-Int.toNat 0) (List.drop (Int.toNat 0) (boL q.cl)))),(7,AV.sl 1 0 v0.length),(8,iv v1)] [some (bK [Ad n] 8),some (bK (List.map bV v0) 1)]
 | .l1 v0 v1 v2 v3 v4 v5=>St.mk 75 [(2,AV.ptr 0 0 0),(5,AV.lst (boL (A5 q))),(6,AV.lst (List.take ((List.map bA n.bs).length-Int.toNat 0) (List.drop (Int.toNat 0) (boL q.cl)))),(7,AV.sl 1 0 v0.length),(8,iv v1),(9,bV v2),(10,bV v3),(11,AV.lst (List.map bV v4)),(12,iv v5)] [some (bK [Ad n] 8),some (bK (List.map bV v0) 1)]
def JM:Ck->Nat
 | .l0 _ _=>0
 | .l1 _ _ _ _ _ _=>1
def Lr(n:Aa)(q:Ac):Option (Ck⊕Ret):=
 gu (q.cl.length<=1000000) <|
 gu (q.pe.length<=1000000) <|
 gu (∀(b:Int),b∈q.pe->0<=b/\b<iN q.cl.length) <|
 gu (∀(e:AV),e∈boL q.cl->e.cells.length=1) <|
 gu (iN (List.map bA n.bs).length<=iN (boL q.cl).length) <|
 gu (1 * iN (List.map bA n.bs).length<=281474976710656) <|
 gu (iN (List.map bA n.bs).length<=9223372036854775807) <|
 some (.inl (.l0 (List.replicate (List.map bA n.bs).length false) ((0:Int))))
def FY(n:Aa)(q:Ac)(v0:List Bool)(v1:Int):Option (Ck⊕Ret):=
 br (decide (v1<iN (List.map bA n.bs).length))
 (gu (GOk n.nx) <|
  gu ((List.take ((List.map bA n.bs).length-Int.toNat 0) (List.drop (Int.toNat 0) q.cl)).length=n.nx.length) <|
  gu (0<=v1/\v1<iN n.nx.length) <|
  some (.inl (.l1 v0 v1 (false) (false) (rcL n.nx (List.take ((List.map bA n.bs).length-Int.toNat 0) (List.drop (Int.toNat 0) q.cl)) v1) ((0:Int)))))
 (some (.inr ([],AV.lst (List.map bV v0))))
def G5(n:Aa)(q:Ac)(v0:List Bool)(v1:Int)(v2 v3:Bool)(v4:List Bool)(v5:Int):Option (Ck⊕Ret):=
 br (decide (v5<iN (List.map bA n.bs).length))
 (gu (0<=v5) <|
  el (A5 q) (v5.toNat) fun(x46:Bool)=>
  br (!x46)
  (br v2
   (br v3
    (some (.inl (.l1 v0 v1 (true) (true) v4 (i64.wrap (v5+1)))))
    (gu (GOk n.nx) <|
     gu ((List.take ((List.map bA n.bs).length-Int.toNat 0) (List.drop (Int.toNat 0) q.cl)).length=n.nx.length) <|
     gu (0<=v5/\v5<iN n.nx.length) <|
     gu (0<=v1) <|
     el (rcL n.nx (List.take ((List.map bA n.bs).length-Int.toNat 0) (List.drop (Int.toNat 0) q.cl)) v5) (v1.toNat) fun(x64:Bool)=>
     some (.inl (.l1 v0 v1 (true) x64 v4 (i64.wrap (v5+1))))))
   (el v4 (v5.toNat) fun(x53:Bool)=>
    br v3
    (some (.inl (.l1 v0 v1 x53 (true) v4 (i64.wrap (v5+1)))))
    (gu (GOk n.nx) <|
     gu ((List.take ((List.map bA n.bs).length-Int.toNat 0) (List.drop (Int.toNat 0) q.cl)).length=n.nx.length) <|
     gu (0<=v5/\v5<iN n.nx.length) <|
     gu (0<=v1) <|
     el (rcL n.nx (List.take ((List.map bA n.bs).length-Int.toNat 0) (List.drop (Int.toNat 0) q.cl)) v5) (v1.toNat) fun(x64:Bool)=>
     some (.inl (.l1 v0 v1 x53 x64 v4 (i64.wrap (v5+1)))))))
  (some (.inl (.l1 v0 v1 v2 v3 v4 (i64.wrap (v5+1))))))
 (br v2
  (gu (0<=v1) <|
   gu (v1<iN v0.length) <|
   gu ((0+v1.toNat).succ.le (List.map bV v0).length) <|
   some (.inl (.l0 (v0.set (0+v1.toNat) v3) (i64.wrap (v1+1)))))
  (gu (0<=v1) <|
   gu (v1<iN v0.length) <|
   gu ((0+v1.toNat).succ.le (List.map bV v0).length) <|
   some (.inl (.l0 (v0.set (0+v1.toNat) false) (i64.wrap (v1+1))))))
def rsoStep(n:Aa)(q:Ac):Ck->Option (Ck⊕Ret)
 | .l0 v0 v1=>FY n q v0 v1
 | .l1 v0 v1 v2 v3 v4 v5=>G5 n q v0 v1 v2 v3 v4 v5
theorem rsoEn_ok(n:Aa)(q:Ac)(o:Ck⊕Ret)(h:Lr n q=some o):Arr Try.prog Try.f118 0 (C2 n q) JM (zB Try.f118) [] {n:=Try.f118.ntmps,fr:=AA 0 ([Ad n,sgA q]),hp:=([])} o:=
 Scr.ok h mix (
 .rn 0 [] [] [] [] (al (u2 (u2 t2))) <|
 .gu fun a0=>
 .gu fun a1=>
 .gu fun a2=>
 .gu fun a3=>
 .gu fun a4=>
 have c0:=Km q a0 a1 a2;
 .rn 0 [] [] [(14,hK c0 [] [])] [] (al (u2 (aj (ak (aj t4 (al (c0)))) (u2 (u2 (u2 (u2 (u2 (aj (k2 (aj a3 (aj (show(0:Int)<=(0:Int) from(by first | exact nL rfl | decide)) (aj (show 0<=iN (List.map bA n.bs).length from(Int.natCast_nonneg _)) (aj a4 (show iN (boL q.cl).length<=iN (boL q.cl).length by omega)))))) (u2 s2)))))))))) <|
 .gu fun a5=>
 .gu fun a6=>
 .lq [] [] [] [] [] [0,2] [2,5,6,7,8] (up [(7,AV.sl 1 0 (List.map bA n.bs).length)] [(1,List.replicate (List.map bA n.bs).length (bV false))] (C2 n q (.l0 (List.replicate (List.map bA n.bs).length false) ((0:Int))))) (aj (aj (u2 (u2 (u2 (aj (k2 (aj (show 0<=iN (List.map bA n.bs).length from(Int.natCast_nonneg _)) (aj (show iN (List.map bA n.bs).length<=iN (List.map bA n.bs).length by omega) (aj a5 a6)))) s2)))) s2) t8) (by simp[up,upF,upV,upH,upB,C2,gL,boL,lI,sA,bA])) (by kernel_rfl)
theorem rsoS0_ok(n:Aa)(q:Ac)(v0:List Bool)(v1:Int)(o:Ck⊕Ret)(h:FY n q v0 v1=some o):Arr Try.prog Try.f118 0 (C2 n q) JM (Av Try.f118 0) (.rnd (Av Try.f118 0)::AG Try.f118 0) (C2 n q (.l0 v0 v1)) o:=
 Scr.ok h mix (
 .rn 0 [] [] [] [] (al (u2 (u2 (u2 (u2 (al t3)))))) <|
 .br (fun a0=>
 .rn 0 [59] [] [] [] (aj a0 (al t3)) <|
 .gu fun a1=>
 .gu fun a2=>
 .gu fun a3=>
 have c0:=LY a1 a2 a3;
 .lp [] [] [(36,hK c0 [] [])] [] [] [0,1] [2,5,6,7,8,9,10,11,12] (aj (aj (u2 (u2 (u2 (u2 (aj (ak (k5 (al (show CT Try.prog 141 [] [AV.lst (gL n.nx),AV.lst (List.take ((List.map bA n.bs).length-Int.toNat 0) (List.drop (Int.toNat 0) (boL q.cl))),iv v1] [] (AV.lst (boL (rcL n.nx (List.take ((List.map bA n.bs).length-Int.toNat 0) (List.drop (Int.toNat 0) q.cl)) v1))) from CT.eqs (c0) (by first | (simp only[boL,Tz,Ud,List.map_take,List.map_drop,List.map_replicate,List.nil_append];done) | (simp only[boL,Tz,Ud,List.map_take,List.map_drop,List.map_replicate,List.nil_append];rfl) | (simp[gL,boL,lI,sA,bA];done) | (simp[gL,boL,lI,sA,bA];rfl) | (simp only[Ad,Tz,Ud,Tg,Th];rfl)) (by first | (simp only[boL,Tz,Ud,List.map_take,List.map_drop,List.map_replicate,List.nil_append];done) | (simp only[boL,Tz,Ud,List.map_take,List.map_drop,List.map_replicate,List.nil_append];rfl) | (simp[gL,boL,lI,sA,bA];done) | (simp[gL,boL,lI,sA,bA];rfl) | (simp only[Ad,Tz,Ud,Tg,Th];rfl)))))) s2))))) s2) (k3 t9)))
 (fun a0=>
 .rt [58] [] [] [] [] [1] (aj (aj a0 (al (u2 s2))) (al (show v0.length=(List.map bV v0).length by simp))))) (by kernel_rfl)
theorem rsoS1_ok(n:Aa)(q:Ac)(v0:List Bool)(v1:Int)(v2 v3:Bool)(v4:List Bool)(v5:Int)(o:Ck⊕Ret)(h:G5 n q v0 v1 v2 v3 v4 v5=some o):Arr Try.prog Try.f118 0 (C2 n q) JM (Av Try.f118 1) (.rnd (Av Try.f118 1)::AG Try.f118 1) (C2 n q (.l1 v0 v1 v2 v3 v4 v5)) o:=
 Scr.ok h mix (
 .rn 0 [] [] [] [] (al (u2 (u2 (u2 (u2 (al t3)))))) <|
 .br (fun a0=>
 .gu fun a1=>
 .el fun x46 a2=>
 .rn 0 [83] [(46,bV x46)] [] [] (aj a0 (al (u2 (u2 (aj (k2 (aj a1 (Aq (f:=bV) a2))) (u2 s2)))))) <|
 .br (fun a3=>
  .br (fun a4=>
  .rn 0 [97,101] [] [] [] (aj a3 (al (u2 (u2 (aj a4 (aj a4 (aj a4 (aj a4 (ag a4 s2))))))))) <|
  .br (fun a5=>
   .lp [101,115] [] [] [] [] [0,1] [2,5,6,7,8,9,10,11,12] (aj (aj (u2 (u2 (aj a5 (aj a5 (aj a5 (aj a5 (aj a5 (aj a5 (aj a5 (aj a5 (ag a5 s2))))))))))) (al (u2 (u2 s2)))) (k3 t9)))
  (fun a5=>
   .gu fun a6=>
   .gu fun a7=>
   .gu fun a8=>
   .gu fun a9=>
   .el fun x64 a10=>
   have c0:=LY a6 a7 a8;
   .lp [101,114] [(64,bV x64)] [(62,hK c0 [] [])] [] [] [0,1] [2,5,6,7,8,9,10,11,12] (aj (aj (u2 (u2 (ag a5 (ag a5 (ag a5 (ag a5 (aj (aj a5 (ak (k5 (al (show CT Try.prog 141 [] [AV.lst (gL n.nx),AV.lst (List.take ((List.map bA n.bs).length-Int.toNat 0) (List.drop (Int.toNat 0) (boL q.cl))),iv v5] [] (AV.lst (boL (rcL n.nx (List.take ((List.map bA n.bs).length-Int.toNat 0) (List.drop (Int.toNat 0) q.cl)) v5))) from CT.eqs (c0) (by first | (simp only[boL,Tz,Ud,List.map_take,List.map_drop,List.map_replicate,List.nil_append];done) | (simp only[boL,Tz,Ud,List.map_take,List.map_drop,List.map_replicate,List.nil_append];rfl) | (simp[gL,boL,lI,sA,bA];done) | (simp[gL,boL,lI,sA,bA];rfl) | (simp only[Ad,Tz,Ud,Tg,Th];rfl)) (by first | (simp only[boL,Tz,Ud,List.map_take,List.map_drop,List.map_replicate,List.nil_append];done) | (simp only[boL,Tz,Ud,List.map_take,List.map_drop,List.map_replicate,List.nil_append];rfl) | (simp[gL,boL,lI,sA,bA];done) | (simp[gL,boL,lI,sA,bA];rfl) | (simp only[Ad,Tz,Ud,Tg,Th];rfl))))))) (ag a5 (aj (aj a5 (k2 (aj a9 (Aq (f:=bV) a10)))) (ag a5 (ag a5 s2))))))))))) (al (u2 (u2 s2)))) (k3 t9))))
  (fun a4=>
  .el fun x53 a5=>
  .rn 0 [97,100] [(53,bV x53)] [] [] (aj a3 (al (u2 (u2 (ag a4 (ag a4 (aj (aj a4 (k2 (aj a1 (Aq (f:=bV) a5)))) (ag a4 (ag a4 s2))))))))) <|
  .br (fun a6=>
   .lp [100,115] [] [] [] [] [0,1] [2,5,6,7,8,9,10,11,12] (aj (aj (u2 (u2 (aj a6 (aj a6 (aj a6 (aj a6 (aj a6 (aj a6 (aj a6 (aj a6 (ag a6 s2))))))))))) (al (u2 (u2 s2)))) (k3 t9)))
  (fun a6=>
   .gu fun a7=>
   .gu fun a8=>
   .gu fun a9=>
   .gu fun a10=>
   .el fun x64 a11=>
   have c0:=LY a7 a8 a9;
   .lp [100,114] [(64,bV x64)] [(62,hK c0 [] [])] [] [] [0,1] [2,5,6,7,8,9,10,11,12] (aj (aj (u2 (u2 (ag a6 (ag a6 (ag a6 (ag a6 (aj (aj a6 (ak (k5 (al (show CT Try.prog 141 [] [AV.lst (gL n.nx),AV.lst (List.take ((List.map bA n.bs).length-Int.toNat 0) (List.drop (Int.toNat 0) (boL q.cl))),iv v5] [] (AV.lst (boL (rcL n.nx (List.take ((List.map bA n.bs).length-Int.toNat 0) (List.drop (Int.toNat 0) q.cl)) v5))) from CT.eqs (c0) (by first | (simp only[boL,Tz,Ud,List.map_take,List.map_drop,List.map_replicate,List.nil_append];done) | (simp only[boL,Tz,Ud,List.map_take,List.map_drop,List.map_replicate,List.nil_append];rfl) | (simp[gL,boL,lI,sA,bA];done) | (simp[gL,boL,lI,sA,bA];rfl) | (simp only[Ad,Tz,Ud,Tg,Th];rfl)) (by first | (simp only[boL,Tz,Ud,List.map_take,List.map_drop,List.map_replicate,List.nil_append];done) | (simp only[boL,Tz,Ud,List.map_take,List.map_drop,List.map_replicate,List.nil_append];rfl) | (simp[gL,boL,lI,sA,bA];done) | (simp[gL,boL,lI,sA,bA];rfl) | (simp only[Ad,Tz,Ud,Tg,Th];rfl))))))) (ag a6 (aj (aj a6 (k2 (aj a10 (Aq (f:=bV) a11)))) (ag a6 (ag a6 s2))))))))))) (al (u2 (u2 s2)))) (k3 t9)))))
 (fun a3=>
  .lp [96] [] [] [] [] [0,1] [2,5,6,7,8,9,10,11,12] (aj (aj a3 (al (u2 (u2 s2)))) (k3 t9))))
 (fun a0=>
 .br (fun a1=>
  .gu fun a2=>
  .gu fun a3=>
  .gu fun a4=>
  .lq [82,141] [] [] [] [] [0,1] [2,5,6,7,8] (up [(7,AV.sl 1 0 v0.length)] [(1,(List.map bV v0).set (0+v1.toNat) (bV v3))] (C2 n q (.l0 (v0.set (0+v1.toNat) v3) (i64.wrap (v1+1))))) (aj (aj a0 (aj (u2 (u2 (u2 (u2 (ag a1 (ag a1 (aj (k2 (aj a2 a3)) (al (k2 a4))))))))) (al (u2 (u2 s2))))) t8) (by simp[up,upF,upV,upH,upB,C2,gL,boL,lI,sA,bA]))
 (fun a1=>
  .gu fun a2=>
  .gu fun a3=>
  .gu fun a4=>
  .lq [82,140] [] [] [] [] [0,1] [2,5,6,7,8] (up [(7,AV.sl 1 0 v0.length)] [(1,(List.map bV v0).set (0+v1.toNat) (bV false))] (C2 n q (.l0 (v0.set (0+v1.toNat) false) (i64.wrap (v1+1))))) (aj (aj a0 (aj (u2 (u2 (u2 (u2 (aj a1 (ag a1 (aj (k2 (aj a2 a3)) (al (k2 a4))))))))) (al (u2 (u2 s2))))) t8) (by simp[up,upF,upV,upH,upB,C2,gL,boL,lI,sA,bA])))) (by kernel_rfl)
theorem rso_ct(n:Aa)(q:Ac)(r:Ret)(h:Al (rsoStep n q) (Lr n q) r):CT Try.prog 118 ([]) ([Ad n,sgA q]) r.1 r.2:=
 CT.mach (fn:=Try.f118) (c:=zB Try.f118) (S:=C2 n q) (hd:=JM) Try.func118 (by kernel_rfl) (nL rfl)
  (fun s o ho=>match s,ho with
   | .l0 v0 v1,ho=>rsoS0_ok n q v0 v1 o ho
   | .l1 v0 v1 v2 v3 v4 v5,ho=>rsoS1_ok n q v0 v1 v2 v3 v4 v5 o ho
  )
  (fun o ho=>rsoEn_ok n q o ho) h
inductive DU where
 | l0 (v0 v1:Int)
 | l1 (v0 v1:Int)
def GN(n:Aa)(q:Ac)(w:Ao)(g:List (List Int))(l:List Bool):DU->St
 | .l0 v0 v1=>St.mk 80 [(3,AV.lst (gL g)),(4,AV.lst (boL l)),(5,AV.ptr 0 0 0),(11,iv v0),(12,iv v1)] [some (bK [Ad n] 8)]
 | .l1 v0 v1=>St.mk 80 [(4,AV.lst (boL l)),(5,AV.ptr 0 0 0),(11,iv v0),(13,iv v1)] [some (bK [Ad n] 8)]
def IL:DU->Nat
 | .l0 _ _=>0
 | .l1 _ _=>1
def KZ(n:Aa)(q:Ac)(w:Ao)(g:List (List Int))(l:List Bool):Option (DU⊕Ret):=
 br (iN (List.map iV q.pe).length==0)
 (some (.inr ([],bV false)))
 (el (q.pe) (Int.toNat 0) fun(x20:Int)=>
  gu (0<=x20) <|
  el (w.ow) (x20.toNat) fun(x25:Int)=>
  br (x25 != -1)
  (some (.inr ([],bV false)))
  (el (w.qu) (x20.toNat) fun(x32:List Int)=>
   br (decide (0<iN (List.map iV x32).length))
   (some (.inr ([],bV false)))
   (some (.inl (.l0 x20 ((0:Int)))))))
def EP(n:Aa)(q:Ac)(w:Ao)(g:List (List Int))(l:List Bool)(v0 v1:Int):Option (DU⊕Ret):=
 br (decide (v1<iN (gL g).length))
 (gu (0<=v1) <|
  el g (v1.toNat) fun(x45:List Int)=>
  gu (x45.length<=9223372036854775807) <|
  br (Ak x45 v0)
  (some (.inr ([],bV false)))
  (some (.inl (.l0 v0 (i64.wrap (v1+1))))))
 (some (.inl (.l1 v0 ((0:Int)))))
def EL(n:Aa)(q:Ac)(w:Ao)(g:List (List Int))(l:List Bool)(v0 v1:Int):Option (DU⊕Ret):=
 br (decide (v1<iN (List.map sA n.ss).length))
 (gu (0<=v1) <|
  el l (v1.toNat) fun(x58:Bool)=>
  br x58
  (el (n.ss) (v1.toNat) fun(x64:Az)=>
   br (x64.i==v0)
   (some (.inr ([],bV false)))
   (el (n.ss) (v1.toNat) fun(x73:Az)=>
    br (x73.o==v0)
    (some (.inr ([],bV false)))
    (some (.inl (.l1 v0 (i64.wrap (v1+1)))))))
  (some (.inl (.l1 v0 (i64.wrap (v1+1))))))
 (some (.inr ([],bV true)))
def K9(n:Aa)(q:Ac)(w:Ao)(g:List (List Int))(l:List Bool):DU->Option (DU⊕Ret)
 | .l0 v0 v1=>EP n q w g l v0 v1
 | .l1 v0 v1=>EL n q w g l v0 v1
theorem rfiEn_ok(n:Aa)(q:Ac)(w:Ao)(g:List (List Int))(l:List Bool)(o:DU⊕Ret)(h:KZ n q w g l=some o):Arr Try.prog Try.f119 0 (GN n q w g l) IL (zB Try.f119) [] {n:=Try.f119.ntmps,fr:=AA 0 ([Ad n,sgA q,lkA w,.lst (gL g),.lst (boL l)]),hp:=([])} o:=
 Scr.ok h mix (
 .rn 1 [] [] [] [] (aj (u2 (u2 (u2 t2))) (al (u2 (u2 (u2 s2))))) <|
 .br (fun a0=>
 .rt [35] [] [] [] [] [] (aj (aj a0 s2) t2))
 (fun a0=>
 .el fun x20 a1=>
 .rn 0 [34] [(20,iv x20)] [] [] (aj a0 (al (u2 (u2 (aj (ak (aj (show(0:Int)<=(0:Int) from(by first | exact nL rfl | decide)) (Aq (f:=iv) a1))) (u2 s2)))))) <|
 .gu fun a2=>
 .el fun x25 a3=>
 .br (fun a4=>
  .rt [57] [(25,iv x25)] [] [] [] [] (aj (aj (u2 (u2 (u2 (aj (k2 (aj a2 (Aq (f:=iv) a3))) (u2 (u2 (u2 (aj a4 (aj a4 (aj a4 (aj a4 (aj a4 (aj a4 (aj a4 (al (aj a4 t2)))))))))))))))) (ak s2)) t2))
 (fun a4=>
  .el fun x32 a5=>
  .rn 0 [56] [(25,iv x25),(32,lI x32)] [] [] (al (u2 (u2 (u2 (aj (k2 (aj a2 (Aq (f:=iv) a3))) (u2 (u2 (u2 (ag a4 (ag a4 (ag a4 (aj (aj a4 (k2 (aj a2 (Aq (f:=lI) a5)))) (ag a4 (ag a4 (ag a4 (al (aj a4 t2))))))))))))))))) <|
  .br (fun a6=>
  .rt [56,73] [] [] [] [] [] (aj (aj a6 s2) t2))
  (fun a6=>
  .lp [56,72] [] [] [] [] [0] [3,4,5,11,12] (aj (aj a6 s2) t7))))) (by kernel_rfl)
theorem rfiS0_ok(n:Aa)(q:Ac)(w:Ao)(g:List (List Int))(l:List Bool)(v0 v1:Int)(o:DU⊕Ret)(h:EP n q w g l v0 v1=some o):Arr Try.prog Try.f119 0 (GN n q w g l) IL (Av Try.f119 0) (.rnd (Av Try.f119 0)::AG Try.f119 0) (GN n q w g l (.l0 v0 v1)) o:=
 Scr.ok h mix (
 .rn 0 [] [] [] [] (al (u2 (u2 (u2 (al t3))))) <|
 .br (fun a0=>
 .gu fun a1=>
 .el fun x45 a2=>
 .gu fun a3=>
 have c0:=FR x45 v0 a3;
 .rn 0 [81] [(45,lI x45)] [(48,hK c0 [] [])] [] (aj a0 (al (u2 (u2 (aj (k2 (aj a1 (Aq (f:=lI) a2))) (u2 (u2 (al (ak (k3 (al (c0)))))))))))) <|
 .br (fun a4=>
  .rt [97] [] [] [] [] [] (aj (aj a4 s2) t2))
 (fun a4=>
  .lp [96] [] [] [] [] [0] [3,4,5,11,12] (aj (aj a4 (al (u2 (u2 s2)))) t7)))
 (fun a0=>
 .lp [80] [] [] [] [] [0] [4,5,11,13] (aj (aj a0 s2) t6))) (by kernel_rfl)
theorem rfiS1_ok(n:Aa)(q:Ac)(w:Ao)(g:List (List Int))(l:List Bool)(v0 v1:Int)(o:DU⊕Ret)(h:EL n q w g l v0 v1=some o):Arr Try.prog Try.f119 0 (GN n q w g l) IL (Av Try.f119 1) (.rnd (Av Try.f119 1)::AG Try.f119 1) (GN n q w g l (.l1 v0 v1)) o:=
 Scr.ok h mix (
 .rn 0 [] [] [] [] (al (u2 (u2 (u2 (u2 (al t3)))))) <|
 .br (fun a0=>
 .gu fun a1=>
 .el fun x58 a2=>
 .br (fun a3=>
  .el fun x64 a4=>
  .br (fun a5=>
  .rt [107,121,139] [(58,bV x58),(64,sA x64)] [] [] [] [] (aj (aj a0 (aj (u2 (u2 (aj (k2 (aj a1 (Aq (f:=bV) a2))) (u2 (u2 (ag a3 (ag a3 (ag a3 (aj (aj a3 (k2 (aj a1 (Aq (f:=sA) a4)))) (ag a3 (ag a3 (ag a3 (aj (aj a3 t3) (ag a3 (aj a5 (aj a5 (aj a5 (aj a5 (aj a5 (aj a5 (aj a5 (aj a5 (aj (aj a3 (aj a5 t2)) (al (aj a3 t2))))))))))))))))))))))))) (ak s2))) t2))
  (fun a5=>
  .el fun x73 a6=>
  .rn 0 [107,121,138] [(58,bV x58),(64,sA x64),(73,sA x73)] [] [] (aj a0 (al (u2 (u2 (aj (k2 (aj a1 (Aq (f:=bV) a2))) (u2 (u2 (ag a3 (ag a3 (ag a3 (aj (aj a3 (k2 (aj a1 (Aq (f:=sA) a4)))) (ag a3 (ag a3 (ag a3 (aj (aj a3 t3) (ag a3 (ag a5 (ag a5 (ag a5 (aj (aj a5 (k2 (aj a1 (Aq (f:=sA) a6)))) (ag a5 (ag a5 (ag a5 (aj (aj a5 t3) (aj (aj a3 (aj a5 t2)) (al (aj a3 t2))))))))))))))))))))))))))) <|
  .br (fun a7=>
   .rt [121,138,159] [] [] [] [] [] (aj (aj a7 s2) t2))
  (fun a7=>
   .lp [121,138,158] [] [] [] [] [0] [4,5,11,13] (aj (aj a7 (al (u2 (u2 s2)))) t6))))
 (fun a3=>
  .lp [107,120] [(58,bV x58)] [] [] [] [0] [4,5,11,13] (aj (aj a0 (aj (u2 (u2 (aj (k2 (aj a1 (Aq (f:=bV) a2))) (u2 (u2 (aj a3 (aj a3 (aj a3 (aj a3 (aj a3 (aj a3 (aj a3 (aj a3 (aj a3 (k3 (k5 (aj a3 (al (aj a3 t2))))))))))))))))))) (ak (al (u2 (u2 s2)))))) t6)))
 (fun a0=>
 .rt [106] [] [] [] [] [] (aj (aj a0 s2) t2))) (by kernel_rfl)
theorem rfi_ct(n:Aa)(q:Ac)(w:Ao)(g:List (List Int))(l:List Bool)(r:Ret)(h:Al (K9 n q w g l) (KZ n q w g l) r):CT Try.prog 119 ([]) ([Ad n,sgA q,lkA w,.lst (gL g),.lst (boL l)]) r.1 r.2:=
 CT.mach (fn:=Try.f119) (c:=zB Try.f119) (S:=GN n q w g l) (hd:=IL) Try.func119 (by kernel_rfl) (nL rfl)
  (fun s o ho=>match s,ho with
   | .l0 v0 v1,ho=>rfiS0_ok n q w g l v0 v1 o ho
   | .l1 v0 v1,ho=>rfiS1_ok n q w g l v0 v1 o ho
  )
  (fun o ho=>rfiEn_ok n q w g l o ho) h
def rd1St(l:List Int)(c:Int):Empty->St
 | x=>x.elim
def rd1Hd:Empty->Nat
 | x=>x.elim
def Mn(l:List Int)(c:Int):Option (Empty⊕Ret):=
 gu (l.length<=9223372036854775807) <|
 some (.inr ([some (bK [iV c] 1)],bV (Ak l c)))
def rd1Step(l:List Int)(c:Int):Empty->Option (Empty⊕Ret)
 | x=>x.elim
theorem rd1En_ok(l:List Int)(c:Int)(o:Empty⊕Ret)(h:Mn l c=some o):Arr Try.prog Try.f53 1 (rd1St l c) rd1Hd (zB Try.f53) [] {n:=Try.f53.ntmps,fr:=AA 0 ([lI l,.ptr 0 0 0]),hp:=([some (bK [.int .i64 c] 1)])} o:=
 Scr.ok h mix (
 .rn 0 [] [] [] [] s2 <|
 .gu fun a0=>
 have c0:=Ia l c a0;
 .rt [] [] [(6,hK c0 [] [])] [] [0] [] (aj (al (u2 (u2 (aj (ak (k3 (al (c0)))) s2)))) t3)) (by kernel_rfl)
theorem rd1_ct(l:List Int)(c:Int)(r:Ret)(h:Al (rd1Step l c) (Mn l c) r):CT Try.prog 53 ([some (bK [.int .i64 c] 1)]) ([lI l,.ptr 0 0 0]) r.1 r.2:=
 CT.mach (fn:=Try.f53) (c:=zB Try.f53) (S:=rd1St l c) (hd:=rd1Hd) Try.func53 (by kernel_rfl) (nL rfl)
  (fun s o ho=>match s,ho with
   | x,_=>x.elim)
  (fun o ho=>rd1En_ok l c o ho) h
def ownSt(q:Ao)(c d:Int):Empty->St
 | x=>x.elim
def ownHd:Empty->Nat
 | x=>x.elim
def Ly(q:Ao)(c d:Int):Option (Empty⊕Ret):=
 br (k9E q c d != 0)
 (some (.inr ([],AV.tup [AV.agg [AV.nils,AV.nils],iV (k9E q c d)])))
 (gu (0<=d) <|
  el (q.ow) (d.toNat) fun(x20:Int)=>
  br (x20 != -1)
  (some (.inr ([],AV.tup [AV.agg [AV.nils,AV.nils],iV 24])))
  (el (q.qu) (d.toNat) fun(x27:List Int)=>
   gu (x27.length<=9223372036854775807) <|
   br (Ak x27 c)
   (some (.inr ([],AV.tup [AV.agg [AV.nils,AV.nils],iV 24])))
   (gu (q.ow.length<=1000) <|
    gu (q.qu.length<=1000) <|
    gu (∀(r:List Int),r∈q.qu->r.length<=1000) <|
    gu (d<iN q.ow.length) <|
    gu ((0+d.toNat).succ.le (List.map iV q.ow).length) <|
    gu (q.qu.length=(gL q.qu).length) <|
    some (.inr ([],AV.tup [AV.agg [AV.lst ((List.map iV q.ow).set (0+d.toNat) (iV c)),AV.lst (gL q.qu)],iV 0])))))
def ownStep(q:Ao)(c d:Int):Empty->Option (Empty⊕Ret)
 | x=>x.elim
theorem ownEn_ok(q:Ao)(c d:Int)(o:Empty⊕Ret)(h:Ly q c d=some o):Arr Try.prog Try.f19 0 (ownSt q c d) ownHd (zB Try.f19) [] {n:=Try.f19.ntmps,fr:=AA 0 ([lkA q,.int .i64 c,.int .i64 d]),hp:=([])} o:=
 Scr.ok h mix (
 have c0:=k19_c (q.ow) (q.qu) c (d);
 .rn 2 [] [] [(12,hK c0 [] [])] [] (aj (u2 t3) (aj (u2 (u2 (u2 (aj (k3 (aj t3 (k2 (al (c0))))) s2)))) (al (u2 s2)))) <|
 .br (fun a0=>
 .rt [29] [] [] [] [] [] (aj (aj a0 (al (ak (u2 (aj (k2 n11) s2))))) (al (aj t3 t2))))
 (fun a0=>
 .gu fun a1=>
 .el fun x20 a2=>
 .br (fun a3=>
  .rt [28,47] [(20,iv x20)] [] [] [] [] (aj (aj a0 (aj (u2 (u2 (u2 (aj (k2 (aj a1 (Aq (f:=iv) a2))) (u2 (u2 (u2 (aj a3 (aj a3 (aj a3 (aj a3 (aj a3 (aj a3 (aj a3 (al (aj a3 t2)))))))))))))))) (ak (al (ak (aj (k2 n11) t2)))))) (al (aj t3 t2))))
 (fun a3=>
  .el fun x27 a4=>
  .gu fun a5=>
  have c1:=FR x27 c a5;
  .rn 0 [28,46] [(20,iv x20),(27,lI x27)] [(30,hK c1 [] [])] [] (aj a0 (al (u2 (u2 (u2 (aj (k2 (aj a1 (Aq (f:=iv) a2))) (u2 (u2 (u2 (ag a3 (ag a3 (ag a3 (aj (aj a3 (k2 (aj a1 (Aq (f:=lI) a4)))) (ag a3 (ag a3 (aj (aj a3 (ak (k3 (al (c1))))) (al (aj a3 t2)))))))))))))))))) <|
  .br (fun a6=>
  .rt [46,63] [] [] [] [] [] (aj (aj a6 (al (ak (aj (k2 n11) t2)))) (al (aj t3 t2))))
  (fun a6=>
  .gu fun a7=>
  .gu fun a8=>
  .gu fun a9=>
  have c2:=c19_c (q.ow) (q.qu) a7 a8 a9;
  .rn 0 [46,62] [] [(34,hK c2 [] [])] [] (aj a6 (al (u2 (aj (ak (aj t3 (al (c2)))) (al (k2 (show Nat.le 1 [AV.agg [AV.lst (List.map (iv) q.ow),AV.lst (gL q.qu)]].length from(nL rfl)))))))) <|
  .gu fun a10=>
  .gu fun a11=>
  .rn 1 [46] [] [] [] (aj (u2 (u2 (u2 (u2 (aj (k2 (aj a1 a10)) (al (k2 a11))))))) (al (u2 (aj (k2 n11) t2)))) <|
  .gu fun a12=>
  .rt [46] [] [] [] [] [2,3] (ak (al (aj (aj (show q.ow.length=((List.map (iv) q.ow).set (0+d.toNat) (iv c)).length by simp) (al a12)) t2))))))) (by kernel_rfl)
theorem own_ct(q:Ao)(c d:Int)(r:Ret)(h:Al (ownStep q c d) (Ly q c d) r):CT Try.prog 19 ([]) ([lkA q,.int .i64 c,.int .i64 d]) r.1 r.2:=
 CT.mach (fn:=Try.f19) (c:=zB Try.f19) (S:=ownSt q c d) (hd:=ownHd) Try.func19 (by kernel_rfl) (nL rfl)
  (fun s o ho=>match s,ho with
   | x,_=>x.elim)
  (fun o ho=>ownEn_ok q c d o ho) h
def relSt(q:Ao)(c:Int):Empty->St
 | x=>x.elim
def relHd:Empty->Nat
 | x=>x.elim
def M3(q:Ao)(c:Int):Option (Empty⊕Ret):=
 br (k9E q 0 c != 0)
 (some (.inr ([],AV.tup [AV.agg [AV.nils,AV.nils],iV (k9E q 0 c)])))
 (gu (0<=c) <|
  el (q.ow) (c.toNat) fun(x17:Int)=>
  br (x17 == -1)
  (some (.inr ([],AV.tup [AV.agg [AV.nils,AV.nils],iV 24])))
  (gu (q.ow.length<=1000) <|
   gu (q.qu.length<=1000) <|
   gu (∀(r:List Int),r∈q.qu->r.length<=1000) <|
   gu (c<iN q.ow.length) <|
   gu ((0+c.toNat).succ.le (List.map iV q.ow).length) <|
   gu (q.qu.length=(gL q.qu).length) <|
   some (.inr ([],AV.tup [AV.agg [AV.lst ((List.map iV q.ow).set (0+c.toNat) (iV (-1))),AV.lst (gL q.qu)],iV 0]))))
def relStep(q:Ao)(c:Int):Empty->Option (Empty⊕Ret)
 | x=>x.elim
theorem relEn_ok(q:Ao)(c:Int)(o:Empty⊕Ret)(h:M3 q c=some o):Arr Try.prog Try.f42 0 (relSt q c) relHd (zB Try.f42) [] {n:=Try.f42.ntmps,fr:=AA 0 ([lkA q,.int .i64 c]),hp:=([])} o:=
 Scr.ok h mix (
 have c0:=k19_c (q.ow) (q.qu) (0) (c);
 .rn 2 [] [] [(9,hK c0 [] [])] [] (aj (u2 t3) (aj (u2 (u2 (aj (k2 (aj t3 (k2 (al (c0))))) s2))) (al (u2 s2)))) <|
 .br (fun a0=>
 .rt [23] [] [] [] [] [] (aj (aj a0 (al (ak (u2 (aj (k2 n11) s2))))) (al (aj t3 t2))))
 (fun a0=>
 .gu fun a1=>
 .el fun x17 a2=>
 .rn 0 [22] [(17,iv x17)] [] [] (aj a0 (al (u2 (u2 (u2 (aj (k2 (aj a1 (Aq (f:=iv) a2))) (u2 s2))))))) <|
 .br (fun a3=>
  .rt [39] [] [] [] [] [] (aj (aj a3 (al (ak (aj (k2 n11) t2)))) (al (aj t3 t2))))
 (fun a3=>
  .gu fun a4=>
  .gu fun a5=>
  .gu fun a6=>
  have c1:=c19_c (q.ow) (q.qu) a4 a5 a6;
  .rn 0 [38] [] [(22,hK c1 [] [])] [] (aj a3 (al (u2 (aj (ak (aj t3 (al (c1)))) (al (k2 (show Nat.le 1 [AV.agg [AV.lst (List.map (iv) q.ow),AV.lst (gL q.qu)]].length from(nL rfl)))))))) <|
  .gu fun a7=>
  .gu fun a8=>
  .rn 1 [] [] [] [] (aj (u2 (u2 (u2 (aj (k2 (aj a1 a7)) (al (ak a8)))))) (al (u2 (aj (k2 n11) t2)))) <|
  .gu fun a9=>
  .rt [] [] [] [] [] [2,3] (ak (al (aj (aj (show q.ow.length=((List.map (iv) q.ow).set (0+c.toNat) (iv (-1))).length by simp) (al a9)) t2)))))) (by kernel_rfl)
theorem rel_ct(q:Ao)(c:Int)(r:Ret)(h:Al (relStep q c) (M3 q c) r):CT Try.prog 42 ([]) ([lkA q,.int .i64 c]) r.1 r.2:=
 CT.mach (fn:=Try.f42) (c:=zB Try.f42) (S:=relSt q c) (hd:=relHd) Try.func42 (by kernel_rfl) (nL rfl)
  (fun s o ho=>match s,ho with
   | x,_=>x.elim)
  (fun o ho=>relEn_ok q c o ho) h
end Go.Proofs.Ytedjkebooffjpaa
namespace Go.Proofs.Ytedjkebooffjpaa
theorem D9{n:Aa}{s:Ac}{c:Int}:scE n s c=0↔AK n s=true/\0<=c/\c<(s.cl.length:Int):=by
 unfold scE
 cases AK n s with
 | false=>simp
 | true=>
  rw[Ti rfl]
  split
  .simp;omega
  .simp;omega
theorem ann_c{n:Aa}(cl:List Bool)(bw pe:List Int)(x:Int)(hrw:Rows n.nx):CT Try.prog 16 [] [Ad n,sgA ⟨cl,bw,pe⟩,.int .i64 x] [] (.tup [sgA (anO n ⟨cl,bw,pe⟩ x),.int .i64 (anE n ⟨cl,bw,pe⟩ x)]):=by
 generalize hs:(⟨cl,bw,pe⟩:Ac)=s
 have k:=ann_ct n s x
 unfold KH at k
 rw[Ab hrw] at k
 unfold anO
 have hbad:anE n s x≠0->(.tup [sgA (if anE n s x=0 then anS s x else ⟨[],[],[]⟩),.int .i64 (anE n s x)]:AV)=wk2 (.tup [.agg [.nils,.nils,.nils],.int .i64 (anE n s x)]):=fun h=>by rw[Tj h];rfl
 by_cases h1:scE n s x=0
 case neg=>
  have e:anE n s x=scE n s x:=by
   unfold anE
   unfold scE at h1 ⊢
   cases h:AK n s with
   | false=>rfl
   | true=>
    obtain⟨_,_,_,_,_,l4,_⟩:=B0 h
    rw[h,Ti rfl] at h1
    rw[Ti rfl,Ti rfl]
    split at h1
    .rename_i h2;rw[Tj (by omega),Ti h2]
    .exact absurd rfl h1
  rw[hbad (by rw[e];exact h1),e]
  exact CT.w2 (k ([],_) (.val (by rw[Ah (T9.2 h1)])))
 obtain⟨h,h0,hl⟩:=D9.1 h1
 obtain⟨hv,hS,l1,l2,l3,l4,l5⟩:=B0 h
 rw[h1,Af (by rfl)] at k
 have hsl:=Ka hv hS x.toNat
 rw[TN h0] at hsl
 by_cases h2:(n.bs.length:Int)<=x
 .have e:anE n s x=19:=by unfold anE;rw[Ti h,Tj (by omega)]
  rw[hbad (by rw[e];decide),e]
  exact CT.w2 (k ([],_) (.val (by rw[Ah (AB (by rw[Tn];exact h2))])))
 rw[Af (Au (by rw[Tn];exact h2)),Ab h0,A4 (Be true (show x.toNat<s.cl.length by omega))] at k
 have eE:anE n s x=if (s.cl.getD x.toNat true||Ak s.pe x)=true then 24 else 0:=by unfold anE;rw[Ti h,Ti ⟨h0,by omega⟩,hsl]
 cases hc:s.cl.getD x.toNat true with
 | true=>
  rw[hc] at k eE
  have e:anE n s x=24:=by rw[eE];rfl
  rw[hbad (by rw[e];decide),e]
  exact CT.w2 (k ([],_) (.val (by rw[Ah rfl])))
 | false=>
  rw[hc,Af rfl,Ab (by omega)] at k
  rw[hc,Te] at eE
  cases hp:Ak s.pe x with
  | true=>
   rw[hp] at k eE
   have e:anE n s x=24:=by rw[eE];rfl
   rw[hbad (by rw[e];decide),e]
   exact CT.w2 (k ([],_) (.val (by rw[Ah rfl])))
  | false=>
   rw[hp,Af rfl,Ab (by omega),Ab (by omega),Ab (by omega),Ab (by simp only[Tn,T2,T3];omega),Ab (by simp only[Tn,T2,T3];omega)] at k
   rw[hp] at eE
   have e:anE n s x=0:=by rw[eE];rfl
   rw[e,Ti rfl]
   have e2:(.tup [sgA (anS s x),.int .i64 0]:AV) = .tup [.agg [.lst (boL s.cl),.lst (List.map (AV.int .i64) s.bw),.lst (List.map (AV.int .i64) s.pe++[.int .i64 x])],.int .i64 0]:=by
    unfold anS sgA lI
    rw[Tz];rfl
   rw[e2]
   exact k ([],_) (.ret _)
theorem M8{l:Ao}(h:Bv l=true):∀r∈l.qu,r.length<=8:=fun r hr=>by
 unfold Bv at h
 simp only[Tu,Ub] at h
 obtain⟨c,hc,rfl⟩:=TZ.1 hr
 have hb:=Dc h.2.2 c (Ty _) (by omega)
 unfold bdR at hb
 rw[Bool.or_eq_false_iff] at hb
 have e:l.qu.getD c []=l.qu[c]:=by rw[Tl,Tk hc];rfl
 rw[<-e]
 refine Ip (Tx _) fun j hj=>?_
 cases hf:fnd (bdQ l c) 0 (l.qu.getD c []).length with
 | none=>exact Dc hf j (Ty _) (by omega)
 | some i=>rw[hf] at hb;cases hb.2
theorem NO{l:Ao}{c d:Int}(h:k9E l c d=0):Bv l=true/\(0<=c/\c<8)/\0<=d/\d<(l.ow.length:Int):=by
 unfold k9E at h
 split at h
 .rename_i h1
  split at h
  .rename_i h2;exact⟨h1,⟨h2.1,h2.2.1⟩,h2.2.2⟩
  .cases h
 .cases h
def owS(l:Ao)(r c:Int):Ao:=⟨l.ow.set c.toNat r,l.qu⟩
def owE(l:Ao)(r c:Int):Int:=if k9E l r c=0 then (if l.ow.getD c.toNat 0≠-1\/Ak (l.qu.getD c.toNat []) r=true then 24 else 0) else k9E l r c
def owO(l:Ao)(r c:Int):Ao:=if owE l r c=0 then owS l r c else ⟨[],[]⟩
def reE(l:Ao)(c:Int):Int:=if k9E l 0 c=0 then (if l.ow.getD c.toNat 0 = -1 then 24 else 0) else k9E l 0 c
def reO(l:Ao)(c:Int):Ao:=if reE l c=0 then owS l (-1) c else ⟨[],[]⟩
theorem OB(l:Ao)(r c:Int):(.tup [lkA (owS l r c),.int .i64 0]:AV) = .tup [.agg [.lst ((List.map (AV.int .i64) l.ow).set (0+c.toNat) (.int .i64 r)),.lst (gL l.qu)],.int .i64 0]:=by
 unfold owS lkA lI
 simp only[TB]
 rw[Ud]
theorem own_c(ow:List Int)(qu:List (List Int))(r c:Int):CT Try.prog 19 [] [lkA ⟨ow,qu⟩,.int .i64 r,.int .i64 c] [] (.tup [lkA (owO ⟨ow,qu⟩ r c),.int .i64 (owE ⟨ow,qu⟩ r c)]):=by
 generalize hs:(⟨ow,qu⟩:Ao)=l
 have k:=own_ct l r c
 unfold Ly at k
 unfold owO
 have hbad:owE l r c≠0->(.tup [lkA (if owE l r c=0 then owS l r c else ⟨[],[]⟩),.int .i64 (owE l r c)]:AV)=wk2 (.tup [.agg [.nils,.nils],.int .i64 (owE l r c)]):=fun h=>by rw[Tj h];rfl
 by_cases h1:k9E l r c=0
 case neg=>
  have e:owE l r c=k9E l r c:=by unfold owE;rw[Tj h1]
  rw[hbad (by rw[e];exact h1),e]
  exact CT.w2 (k ([],_) (.val (by rw[Ah (T9.2 h1)])))
 obtain⟨hb,hr,hc0,hc1⟩:=NO h1
 obtain⟨hlen,h48⟩:=Kh hb
 have hrows:=M8 hb
 have eE:owE l r c=if l.ow.getD c.toNat 0≠-1\/Ak (l.qu.getD c.toNat []) r=true then 24 else 0:=by unfold owE;rw[Ti h1]
 have hq:=Be ([]:List Int) (show c.toNat<l.qu.length by omega)
 have hql:=hrows _ (Tp hq)
 rw[h1,Af (by rfl),Ab hc0,A4 (Be 0 (show c.toNat<l.ow.length by omega))] at k
 by_cases h2:l.ow.getD c.toNat 0 = -1
 case neg=>
  have e:owE l r c=24:=by rw[eE,Ti (.inl h2)]
  rw[hbad (by rw[e];decide),e]
  exact CT.w2 (k ([],_) (.val (by rw[Ah (T9.2 h2)])))
 rw[h2,Af (by rfl),A4 hq,Ab (by omega)] at k
 cases h3:Ak (l.qu.getD c.toNat []) r with
 | true=>
  rw[h3] at k
  have e:owE l r c=24:=by rw[eE,Ti (.inr h3)]
  rw[hbad (by rw[e];decide),e]
  exact CT.w2 (k ([],_) (.val (by rw[Ah rfl])))
 | false=>
  rw[h3,Af rfl,Ab (by omega),Ab (by omega),Ab (fun x hx=>by have:=hrows x hx;omega),Ab hc1,Ab (show Nat.le _ _ from(by rw[Tn];show 0+c.toNat+1<=_;omega)),Ab (Bt _).symm] at k
  have e:owE l r c=0:=by rw[eE,Tj (by rw[h2,h3];simp)]
  rw[e,Ti rfl,OB]
  exact k ([],_) (.ret _)
theorem rel_c(ow:List Int)(qu:List (List Int))(c:Int):CT Try.prog 42 [] [lkA ⟨ow,qu⟩,.int .i64 c] [] (.tup [lkA (reO ⟨ow,qu⟩ c),.int .i64 (reE ⟨ow,qu⟩ c)]):=by
 generalize hs:(⟨ow,qu⟩:Ao)=l
 have k:=rel_ct l c
 unfold M3 at k
 unfold reO
 have hbad:reE l c≠0->(.tup [lkA (if reE l c=0 then owS l (-1) c else ⟨[],[]⟩),.int .i64 (reE l c)]:AV)=wk2 (.tup [.agg [.nils,.nils],.int .i64 (reE l c)]):=fun h=>by rw[Tj h];rfl
 by_cases h1:k9E l 0 c=0
 case neg=>
  have e:reE l c=k9E l 0 c:=by unfold reE;rw[Tj h1]
  rw[hbad (by rw[e];exact h1),e]
  exact CT.w2 (k ([],_) (.val (by rw[Ah (T9.2 h1)])))
 obtain⟨hb,hr,hc0,hc1⟩:=NO h1
 obtain⟨hlen,h48⟩:=Kh hb
 have hrows:=M8 hb
 have eE:reE l c=if l.ow.getD c.toNat 0 = -1 then 24 else 0:=by unfold reE;rw[Ti h1]
 rw[h1,Af (by rfl),Ab hc0,A4 (Be 0 (show c.toNat<l.ow.length by omega))] at k
 by_cases h2:l.ow.getD c.toNat 0 = -1
 .have e:reE l c=24:=by rw[eE,Ti h2]
  rw[hbad (by rw[e];decide),e]
  exact CT.w2 (k ([],_) (.val (by rw[Ah (beq_iff_eq.2 h2)])))
 .rw[Af (TX.2 h2),Ab (by omega),Ab (by omega),Ab (fun x hx=>by have:=hrows x hx;omega),Ab hc1,Ab (show Nat.le _ _ from(by rw[Tn];show 0+c.toNat+1<=_;omega)),Ab (Bt _).symm] at k
  have e:reE l c=0:=by rw[eE,Tj h2]
  rw[e,Ti rfl,OB]
  exact k ([],_) (.ret _)
theorem rd1_c(l:List Int)(c:Int)(hl:l.length<=9223372036854775807):CT Try.prog 53 [some (Blk.mk [.int .i64 c] 1 true true none)] [lI l,.ptr 0 0 0] [some (Blk.mk [.int .i64 c] 1 true true none)] (.bool (Ak l c)):=by
 refine rd1_ct l c ([_],_) (.val ?_)
 unfold Mn
 rw[Ab hl]
def Opn(n:Aa)(s:Ac)(x:Nat):Prop:=x<n.bs.length/\(A5 s).getD x true=false
def clN(n:Aa)(s:Ac):List Bool:=s.cl.take n.bs.length
open Classical in
def soT(n:Aa)(s:Ac)(b:Nat):Bool:=decide (∃x,Opn n s x/\Rcv n.nx (clN n s) b x)
open Classical in
def soF(n:Aa)(s:Ac)(b:Nat):Bool:=decide (∃x,Opn n s x/\Rcv n.nx (clN n s) x b)
def soB(n:Aa)(s:Ac)(b:Nat):Bool:=soT n s b&&soF n s b
def soL(n:Aa)(s:Ac):List Bool:=(List.range n.bs.length).map (soB n s)
theorem Pc{n:Aa}{s:Ac}{b:Nat}:soT n s b=true↔∃x,Opn n s x/\Rcv n.nx (clN n s) b x:=by unfold soT;exact @decide_eq_true_iff _ (Classical.propDecidable _)
theorem Oh{n:Aa}{s:Ac}{b:Nat}:soF n s b=true↔∃x,Opn n s x/\Rcv n.nx (clN n s) x b:=by unfold soF;exact @decide_eq_true_iff _ (Classical.propDecidable _)
theorem Nv(n:Aa)(s:Ac):(soL n s).length=n.bs.length:=by unfold soL;simp
theorem Px{n:Aa}{s:Ac}(hv:Ax n)(h:A7 n s)(x:Nat)(hx:(A5 s).getD x true=false):s.cl.getD x true=false:=by
 rw[Ka hv h,Bool.or_eq_false_iff] at hx;exact hx.1
def DF(n:Aa)(s:Ac):List Bool:=prI n.bs.length (okC s.cl) (Bx n.nx) (mk0 n.bs.length (A5 s)) n.bs.length
def Jl(n:Aa)(s:Ac):List Bool:=prI n.bs.length (okC s.cl) (Bu n.nx) (mk0 n.bs.length (A5 s)) n.bs.length
theorem soTL_len(n:Aa)(s:Ac):(DF n s).length=n.bs.length:=(EG _ _).len.trans (Hi _ _)
theorem soFL_len(n:Aa)(s:Ac):(Jl n s).length=n.bs.length:=(EG _ _).len.trans (Hi _ _)
theorem soTL_get{n:Aa}{s:Ac}(hv:Ax n)(h:A7 n s)(b:Nat):(DF n s).getD b false=soT n s b:=by
 rw[Bool.eq_iff_iff,Pc]
 refine(RH (g:=n.nx) (cl:=s.cl) (sh:=A5 s) (n:=n.bs.length) fun x _ hx=>Px hv h x hx).trans ⟨fun⟨x,a,b,c⟩=>⟨x,⟨a,b⟩,c⟩,fun⟨x,⟨a,b⟩,c⟩=>⟨x,a,b,c⟩⟩
theorem soFL_get{n:Aa}{s:Ac}(hv:Ax n)(h:A7 n s)(b:Nat):(Jl n s).getD b false=soF n s b:=by
 rw[Bool.eq_iff_iff,Oh]
 refine(back_iff (g:=n.nx) (cl:=s.cl) (sh:=A5 s) (n:=n.bs.length) fun x _ hx=>Px hv h x hx).trans ⟨fun⟨x,a,b,c⟩=>⟨x,⟨a,b⟩,c⟩,fun⟨x,⟨a,b⟩,c⟩=>⟨x,a,b,c⟩⟩
def Chn(n:Aa):Int->List Int->Prop
 | _,[]=>True
 | c,x::l=>folB n c x=true/\Chn n x l
def lstC:Int->List Int->Int
 | c,[]=>c
 | _,x::l=>lstC x l
theorem Chn.app{n:Aa}:∀{l m:List Int} {c:Int},Chn n c l->Chn n (lstC c l) m->Chn n c (l++m)
 | [],_,_,_,h=>h
 | _::_,_,_,h,k=>⟨h.1,Chn.app h.2 k⟩
theorem Chn.of{n:Aa}:∀{l:List Int} {c:Int},(∀k,k<l.length->folB n ((c::l).getD k 0) (l.getD k 0)=true)->Chn n c l
 | [],_,_=>trivial
 | x::l,c,h=>⟨h 0 (by simp),Chn.of fun k hk=>h (k+1) (by simpa using hk)⟩
theorem Chn.get{n:Aa}:∀{l:List Int} {c:Int},Chn n c l->∀k,k<l.length->folB n ((c::l).getD k 0) (l.getD k 0)=true
 | [],_,_,k,hk=>absurd hk (Ug _)
 | x::l,c,h,0,_=>h.1
 | x::l,c,h,k+1,hk=>Chn.get h.2 k (by simpa using hk)
def bmV(f:Nat->Bool)(c i:Nat):List Bool:=(List.range i).map f++List.replicate (c-i) false
theorem O0{f:Nat->Bool}{c i:Nat}(h:i<=c):(bmV f c i).length=c:=by unfold bmV;simp;omega
theorem NN{f:Nat->Bool}{c i:Nat}(h:i<c):(bmV f c i).set (0+i) (f i)=bmV f c (i+1):=by
 obtain⟨d,hd⟩:∃d,c-i=d+1:=⟨c-i-1,by omega⟩
 have hd2:c-(i+1)=d:=by omega
 unfold bmV
 rw[hd,hd2,TB,List.replicate_succ,List.set_append_right _ _ (by simp)]
 simp only[Tn,T5,S4,List.set_cons_zero]
 rw[Ua,Tz,List.append_assoc];rfl
theorem bmV_0(f:Nat->Bool)(c:Nat):bmV f c 0=List.replicate c false:=by unfold bmV;simp
theorem bmV_c(f:Nat->Bool)(c:Nat):bmV f c c=(List.range c).map f:=by unfold bmV;simp
theorem JE{α:Type}(f:α->Nat->α)(a:α)(k:Nat):(List.range (k+1)).foldl f a=f ((List.range k).foldl f a) k:=by rw[Ua,List.foldl_append];rfl
theorem On(nb:Nat)(l:List Bool):bmV (fun b=> !(l.getD b true)) nb nb=mk0 nb l:=by rw[bmV_c];rfl
theorem spF_c(n:Aa)(cl:List Bool)(bw pe:List Int)(l:List Bool)(hv:Ax n)(hrw:Rows n.nx)(hl:n.bs.length<=l.length)(hcl:n.bs.length<=cl.length):CT Try.prog 81 [some (Blk.mk [Ad n] 8 true true none)] [Ad n,sgA ⟨cl,bw,pe⟩,.lst (boL l),.fn 82 [.ptr 0 0 0]] [some (Blk.mk [Ad n] 8 true true none),some (Blk.mk (boL (prI n.bs.length (okC cl) (Bx n.nx) (mk0 n.bs.length l) n.bs.length)) 1 true true none)] (.sl 1 0 n.bs.length):=by
 refine spF_ct n ⟨cl,bw,pe⟩ l ([_,_],_) ?_
 have h24:=hv.nb24
 have hb:(List.map bA n.bs).length=n.bs.length:=Tn ..
 unfold KW
 rw[hb,Ab (by simp only[iN];omega),Ab (by simp only[iN];omega),<-bmV_0 (fun b=> !(l.getD b true))]
 refine Cb (fun i=>Cj.l0 (bmV (fun b=> !(l.getD b true)) n.bs.length i) (i:Int)) n.bs.length (fun i hi hx=>?_) ?_
 .refine .to (show GO n ⟨cl,bw,pe⟩ l _ _=_ from ?_) hx
  have hlen:=O0 (f:=fun b=> !(l.getD b true)) (Nat.le_of_lt hi)
  unfold GO
  rw[hb,Ah (AB (by simp only[iN];omega)),Ab (by omega),elG true (show i<l.length by omega),Ab (by simp only[iN,hlen];omega),Ab (show Nat.le _ _ from(by rw[Tn,hlen];show 0+(i:Int).toNat+1<=_;omega)),Tv,NN (f:=fun b=> !(l.getD b true)) hi,zW i (by omega)]
 .have hm0:=Hi n.bs.length l
  refine .to (show GO n ⟨cl,bw,pe⟩ l _ _=some (.inl (.l1 (prI n.bs.length (okC cl) (Bx n.nx) (mk0 n.bs.length l) 0) n.bs.length ((0:Nat):Int))) from ?_) ?_
  .unfold GO
   rw[hb,Af (Au (by simp only[iN];omega)),On,hm0];rfl
  refine Cb (fun i=>Cj.l1 (prI n.bs.length (okC cl) (Bx n.nx) (mk0 n.bs.length l) i) n.bs.length (i:Int)) n.bs.length (fun i hi hx=>?_) ?_
  .have hml:=(EG (n:=n.bs.length) (ok:=okC cl) (L:=Bx n.nx) (mk0 n.bs.length l) i).len
   rw[hm0] at hml
   have hnx:Al (Nk n ⟨cl,bw,pe⟩ l) (some (.inl (.l1 (prR n.bs.length (okC cl) (Bx n.nx) (prI n.bs.length (okC cl) (Bx n.nx) (mk0 n.bs.length l) i)) n.bs.length ((i+1:Nat):Int)))) _:=hx
   generalize prI n.bs.length (okC cl) (Bx n.nx) (mk0 n.bs.length l) i=mk at hml hnx ⊢
   refine .to (show Hk n ⟨cl,bw,pe⟩ l mk n.bs.length (i:Int)=some (.inl (.l2 ((List.range 0).foldl (prB n.bs.length (okC cl) (Bx n.nx)) mk) n.bs.length (i:Int) n.bs.length ((0:Nat):Int))) from ?_) ?_
   .unfold Hk
    rw[Ah (AB (by simp only[iN];omega)),hml];rfl
   refine Cb (fun b=>Cj.l2 ((List.range b).foldl (prB n.bs.length (okC cl) (Bx n.nx)) mk) n.bs.length (i:Int) n.bs.length (b:Int)) n.bs.length (fun b hbl hy=>?_) ?_
   .have hfl:=(Fs (n:=n.bs.length) (ok:=okC cl) (L:=Bx n.nx) (f:=prB n.bs.length (okC cl) (Bx n.nx)) (fun mk b hb=>Ik hb mk) (List.range b) mk fun x hx=>by have:=Uc.1 hx;omega).len
    rw[hml] at hfl
    rw[JE] at hy
    generalize (List.range b).foldl (prB n.bs.length (okC cl) (Bx n.nx)) mk=mk2 at hfl hy ⊢
    refine .to (show G3 n ⟨cl,bw,pe⟩ l mk2 n.bs.length (i:Int) n.bs.length (b:Int)=some (.inl (.l3 ((List.range 0).foldl (pr1 (okC cl) (Bx n.nx) b) mk2) (b:Int) n.bs.length (i:Int) n.bs.length n.bs.length ((0:Nat):Int))) from ?_) ?_
    .unfold G3
     rw[Ah (AB (by simp only[iN];omega)),hfl];rfl
    refine Cb (fun c=>Cj.l3 ((List.range c).foldl (pr1 (okC cl) (Bx n.nx) b) mk2) (b:Int) n.bs.length (i:Int) n.bs.length n.bs.length (c:Int)) n.bs.length (fun c hcl2 hz=>?_) ?_
    .have hgl:=(Fs (n:=n.bs.length) (ok:=okC cl) (L:=Bx n.nx) (f:=pr1 (okC cl) (Bx n.nx) b) (fun mk c hc=>Ht hbl hc mk) (List.range c) mk2 fun x hx=>by have:=Uc.1 hx;omega).len
     rw[hfl] at hgl
     rw[JE] at hz
     generalize (List.range c).foldl (pr1 (okC cl) (Bx n.nx) b) mk2=mk3 at hgl hz ⊢
     refine .to (show Gq n ⟨cl,bw,pe⟩ l mk3 (b:Int) n.bs.length (i:Int) n.bs.length n.bs.length (c:Int)=_ from ?_) hz
     unfold Gq pr1 okC Bx
     rw[Ah (AB (by simp only[iN];omega)),Ab (by omega),Ab (by simp only[iN,hgl];omega),TB,elG false (show c<mk3.length by omega),<-Nr]
     cases h1:mk3.getD c false with
     | false=>rw[Af rfl,zW c (by omega),Tj (by simp)]
     | true=>
      rw[Ah rfl,Ab (by omega),elG true (show b<cl.length by omega)]
      cases h2:cl.getD b true with
      | true=>rw[Af (by rfl),zW c (by omega),Tj (by simp)]
      | false=>
       rw[Ah (by rfl),Ab hv,Ab hrw,Ab ⟨by omega,by simp only[iN];omega⟩,Tv]
       cases h3:Ak (n.nx.getD b []) (c:Int) with
       | false=>rw[Af rfl,zW c (by omega),Tj (by simp)]
       | true=>rw[Ah rfl,Ab (by simp only[iN,hgl];omega),Ab (show Nat.le _ _ from(by rw[Tn,hgl];exact Nat.succ_le_of_lt (Nat.lt_of_le_of_lt (Nat.le_of_eq (by simp)) hbl))),zW c (by omega),Ti (by simp),TB]<;>rw[Tv]
    .refine .to (show Gq n ⟨cl,bw,pe⟩ l _ (b:Int) n.bs.length (i:Int) n.bs.length n.bs.length (n.bs.length:Int)=_ from ?_) hy
     unfold Gq
     rw[Af (Au (by simp only[iN];omega)),zW b (by omega)];rfl
   .refine .to (show G3 n ⟨cl,bw,pe⟩ l _ n.bs.length (i:Int) n.bs.length (n.bs.length:Int)=_ from ?_) hnx
    unfold G3
    rw[Af (Au (by simp only[iN];omega)),zW i (by omega)];rfl
  .have hml:=(EG (n:=n.bs.length) (ok:=okC cl) (L:=Bx n.nx) (mk0 n.bs.length l) n.bs.length).len
   rw[hm0] at hml
   refine .to (show Hk n ⟨cl,bw,pe⟩ l _ n.bs.length (n.bs.length:Int)=_ from ?_) (.ret _)
   unfold Hk
   rw[Af (Au (by simp only[iN];omega)),hml];rfl
theorem spB_c(n:Aa)(cl:List Bool)(bw pe:List Int)(l:List Bool)(hv:Ax n)(hrw:Rows n.nx)(hl:n.bs.length<=l.length)(hcl:n.bs.length<=cl.length):CT Try.prog 81 [some (Blk.mk [Ad n] 8 true true none)] [Ad n,sgA ⟨cl,bw,pe⟩,.lst (boL l),.fn 83 [.ptr 0 0 0]] [some (Blk.mk [Ad n] 8 true true none),some (Blk.mk (boL (prI n.bs.length (okC cl) (Bu n.nx) (mk0 n.bs.length l) n.bs.length)) 1 true true none)] (.sl 1 0 n.bs.length):=by
 refine spB_ct n ⟨cl,bw,pe⟩ l ([_,_],_) ?_
 have h24:=hv.nb24
 have hb:(List.map bA n.bs).length=n.bs.length:=Tn ..
 unfold Kv
 rw[hb,Ab (by simp only[iN];omega),Ab (by simp only[iN];omega),<-bmV_0 (fun b=> !(l.getD b true))]
 refine Cb (fun i=>Ce.l0 (bmV (fun b=> !(l.getD b true)) n.bs.length i) (i:Int)) n.bs.length (fun i hi hx=>?_) ?_
 .refine .to (show G7 n ⟨cl,bw,pe⟩ l _ _=_ from ?_) hx
  have hlen:=O0 (f:=fun b=> !(l.getD b true)) (Nat.le_of_lt hi)
  unfold G7
  rw[hb,Ah (AB (by simp only[iN];omega)),Ab (by omega),elG true (show i<l.length by omega),Ab (by simp only[iN,hlen];omega),Ab (show Nat.le _ _ from(by rw[Tn,hlen];show 0+(i:Int).toNat+1<=_;omega)),Tv,NN (f:=fun b=> !(l.getD b true)) hi,zW i (by omega)]
 .have hm0:=Hi n.bs.length l
  refine .to (show G7 n ⟨cl,bw,pe⟩ l _ _=some (.inl (.l1 (prI n.bs.length (okC cl) (Bu n.nx) (mk0 n.bs.length l) 0) n.bs.length ((0:Nat):Int))) from ?_) ?_
  .unfold G7
   rw[hb,Af (Au (by simp only[iN];omega)),On,hm0];rfl
  refine Cb (fun i=>Ce.l1 (prI n.bs.length (okC cl) (Bu n.nx) (mk0 n.bs.length l) i) n.bs.length (i:Int)) n.bs.length (fun i hi hx=>?_) ?_
  .have hml:=(EG (n:=n.bs.length) (ok:=okC cl) (L:=Bu n.nx) (mk0 n.bs.length l) i).len
   rw[hm0] at hml
   have hnx:Al (OU n ⟨cl,bw,pe⟩ l) (some (.inl (.l1 (prR n.bs.length (okC cl) (Bu n.nx) (prI n.bs.length (okC cl) (Bu n.nx) (mk0 n.bs.length l) i)) n.bs.length ((i+1:Nat):Int)))) _:=hx
   generalize prI n.bs.length (okC cl) (Bu n.nx) (mk0 n.bs.length l) i=mk at hml hnx ⊢
   refine .to (show G0 n ⟨cl,bw,pe⟩ l mk n.bs.length (i:Int)=some (.inl (.l2 ((List.range 0).foldl (prB n.bs.length (okC cl) (Bu n.nx)) mk) n.bs.length (i:Int) n.bs.length ((0:Nat):Int))) from ?_) ?_
   .unfold G0
    rw[Ah (AB (by simp only[iN];omega)),hml];rfl
   refine Cb (fun b=>Ce.l2 ((List.range b).foldl (prB n.bs.length (okC cl) (Bu n.nx)) mk) n.bs.length (i:Int) n.bs.length (b:Int)) n.bs.length (fun b hbl hy=>?_) ?_
   .have hfl:=(Fs (n:=n.bs.length) (ok:=okC cl) (L:=Bu n.nx) (f:=prB n.bs.length (okC cl) (Bu n.nx)) (fun mk b hb=>Ik hb mk) (List.range b) mk fun x hx=>by have:=Uc.1 hx;omega).len
    rw[hml] at hfl
    rw[JE] at hy
    generalize (List.range b).foldl (prB n.bs.length (okC cl) (Bu n.nx)) mk=mk2 at hfl hy ⊢
    refine .to (show G6 n ⟨cl,bw,pe⟩ l mk2 n.bs.length (i:Int) n.bs.length (b:Int)=some (.inl (.l3 ((List.range 0).foldl (pr1 (okC cl) (Bu n.nx) b) mk2) (b:Int) n.bs.length (i:Int) n.bs.length n.bs.length ((0:Nat):Int))) from ?_) ?_
    .unfold G6
     rw[Ah (AB (by simp only[iN];omega)),hfl];rfl
    refine Cb (fun c=>Ce.l3 ((List.range c).foldl (pr1 (okC cl) (Bu n.nx) b) mk2) (b:Int) n.bs.length (i:Int) n.bs.length n.bs.length (c:Int)) n.bs.length (fun c hcl2 hz=>?_) ?_
    .have hgl:=(Fs (n:=n.bs.length) (ok:=okC cl) (L:=Bu n.nx) (f:=pr1 (okC cl) (Bu n.nx) b) (fun mk c hc=>Ht hbl hc mk) (List.range c) mk2 fun x hx=>by have:=Uc.1 hx;omega).len
     rw[hfl] at hgl
     rw[JE] at hz
     generalize (List.range c).foldl (pr1 (okC cl) (Bu n.nx) b) mk2=mk3 at hgl hz ⊢
     refine .to (show Gd n ⟨cl,bw,pe⟩ l mk3 (b:Int) n.bs.length (i:Int) n.bs.length n.bs.length (c:Int)=_ from ?_) hz
     unfold Gd pr1 okC Bu
     rw[Ah (AB (by simp only[iN];omega)),Ab (by omega),Ab (by simp only[iN,hgl];omega),TB,elG false (show c<mk3.length by omega),<-Nr]
     cases h1:mk3.getD c false with
     | false=>rw[Af rfl,zW c (by omega),Tj (by simp)]
     | true=>
      rw[Ah rfl,Ab (by omega),elG true (show b<cl.length by omega)]
      cases h2:cl.getD b true with
      | true=>rw[Af (by rfl),zW c (by omega),Tj (by simp)]
      | false=>
       rw[Ah (by rfl),Ab hv,Ab hrw,Ab ⟨by omega,by simp only[iN];omega⟩,Tv]
       cases h3:Ak (n.nx.getD c []) (b:Int) with
       | false=>rw[Af rfl,zW c (by omega),Tj (by simp)]
       | true=>rw[Ah rfl,Ab (by simp only[iN,hgl];omega),Ab (show Nat.le _ _ from(by rw[Tn,hgl];exact Nat.succ_le_of_lt (Nat.lt_of_le_of_lt (Nat.le_of_eq (by simp)) hbl))),zW c (by omega),Ti (by simp),TB]<;>rw[Tv]
    .refine .to (show Gd n ⟨cl,bw,pe⟩ l _ (b:Int) n.bs.length (i:Int) n.bs.length n.bs.length (n.bs.length:Int)=_ from ?_) hy
     unfold Gd
     rw[Af (Au (by simp only[iN];omega)),zW b (by omega)];rfl
   .refine .to (show G6 n ⟨cl,bw,pe⟩ l _ n.bs.length (i:Int) n.bs.length (n.bs.length:Int)=_ from ?_) hnx
    unfold G6
    rw[Af (Au (by simp only[iN];omega)),zW i (by omega)];rfl
  .have hml:=(EG (n:=n.bs.length) (ok:=okC cl) (L:=Bu n.nx) (mk0 n.bs.length l) n.bs.length).len
   rw[hm0] at hml
   refine .to (show G0 n ⟨cl,bw,pe⟩ l _ n.bs.length (n.bs.length:Int)=_ from ?_) (.ret _)
   unfold G0
   rw[Af (Au (by simp only[iN];omega)),hml];rfl
inductive Es where
 | l0 (v0:Int) (v1:List Bool)
def EI(n:Aa)(cl:List Bool)(bw pe:List Int):Es->St
 | .l0 v0 v1=>St.mk 50 [(8,AV.sl 0 0 n.bs.length),(9,AV.sl 1 0 n.bs.length),(31,iv (iN n.bs.length)),(32,iv v0)] [some (bK (List.map bV v1) 1),some (bK (boL (prI n.bs.length (okC cl) (Bu n.nx) (mk0 n.bs.length (shO n (Ac.mk cl bw pe))) n.bs.length)) 1)]
def Mp:Es->Nat
 | .l0 _ _=>0
def LJ(n:Aa)(cl:List Bool)(bw pe:List Int):Option (Es⊕Ret):=
 gu (Rows n.nx) <|
 br (shE n (Ac.mk cl bw pe) != 0)
 (some (.inr ([],AV.tup [AV.nils,iV (shE n (Ac.mk cl bw pe))])))
 (gu (Ax n) <|
  gu (n.bs.length<=(shO n (Ac.mk cl bw pe)).length) <|
  gu (n.bs.length<=cl.length) <|
  some (.inl (.l0 ((0:Int)) (prI n.bs.length (okC cl) (Bx n.nx) (mk0 n.bs.length (shO n (Ac.mk cl bw pe))) n.bs.length))))
def GD(n:Aa)(cl:List Bool)(bw pe:List Int)(v0:Int)(v1:List Bool):Option (Es⊕Ret):=
 br (decide (v0<iN n.bs.length))
 (gu (0<=v0) <|
  gu (v0<iN n.bs.length) <|
  el v1 (0+v0.toNat) fun(x40:Bool)=>
  br x40
  (el (prI n.bs.length (okC cl) (Bu n.nx) (mk0 n.bs.length (shO n (Ac.mk cl bw pe))) n.bs.length) (0+v0.toNat) fun(x45:Bool)=>
   gu ((0+v0.toNat).succ.le (List.map bV v1).length) <|
   some (.inl (.l0 (i64.wrap (v0+1)) (v1.set (0+v0.toNat) x45))))
  (gu ((0+v0.toNat).succ.le (List.map bV v1).length) <|
   some (.inl (.l0 (i64.wrap (v0+1)) (v1.set (0+v0.toNat) false)))))
 (gu (n.bs.length=(List.map bV v1).length) <|
  some (.inr ([],AV.tup [AV.lst (List.map bV v1),iV 0])))
def souStep(n:Aa)(cl:List Bool)(bw pe:List Int):Es->Option (Es⊕Ret)
 | .l0 v0 v1=>GD n cl bw pe v0 v1
theorem souEn_ok(n:Aa)(cl:List Bool)(bw pe:List Int)(o:Es⊕Ret)(h:LJ n cl bw pe=some o):Arr Try.prog Try.f35 0 (EI n cl bw pe) Mp (zB Try.f35) [] {n:=Try.f35.ntmps,fr:=AA 0 ([Ad n,sgA ⟨cl,bw,pe⟩]),hp:=([])} o:=
 Scr.ok h mix (
 .rn 0 [] [] [] [] (al (u2 (u2 t3))) <|
 .gu fun a0=>
 have c0:=ssh_c (cl) (bw) (pe) a0;
 .rn 1 [] [] [(14,hK c0 [] [])] [] (aj (u2 (u2 (aj (k2 (aj t9 (aj t4 (al (c0))))) (u2 (u2 (u2 (u2 s2))))))) (al (u2 s2))) <|
 .br (fun a1=>
 .rt [37] [] [] [] [] [] (aj (aj a1 (al (u2 (ak s2)))) (al t3)))
 (fun a1=>
 .gu fun a2=>
 .gu fun a3=>
 .gu fun a4=>
 have c1:=spF_c n (cl) (bw) (pe) (shO n (Ac.mk cl bw pe)) a2 a0 a3 a4;
 have c2:=spB_c n (cl) (bw) (pe) (shO n (Ac.mk cl bw pe)) a2 a0 a3 a4;
 .lp [36] [] [(24,hK c1 [0] []),(29,hK c2 [0] [])] [] [] [2,3] [8,9,31,32] (aj (aj a1 (aj (u2 (u2 (u2 (u2 (aj (ak (k3 (aj t9 (aj t4 (ak (u2 (ak (al (c1))))))))) s2))))) (aj (u2 (u2 (u2 (u2 (aj (ak (k3 (aj t9 (aj t4 (ak (u2 (ak (al (c2))))))))) s2))))) (al (u2 (u2 t2)))))) t7))) (by kernel_rfl)
theorem souS0_ok(n:Aa)(cl:List Bool)(bw pe:List Int)(v0:Int)(v1:List Bool)(o:Es⊕Ret)(h:GD n cl bw pe v0 v1=some o):Arr Try.prog Try.f35 0 (EI n cl bw pe) Mp (Av Try.f35 0) (.rnd (Av Try.f35 0)::AG Try.f35 0) (EI n cl bw pe (.l0 v0 v1)) o:=
 Scr.ok h mix (
 .rn 0 [] [] [] [] (al (al t3)) <|
 .br (fun a0=>
 .rn 0 [67] [] [] [] (aj a0 (al (u2 s2))) <|
 .gu fun a1=>
 .gu fun a2=>
 .el fun x40 a3=>
 .br (fun a4=>
  .el fun x45 a5=>
  .gu fun a6=>
  .lq [83] [(40,bV x40),(45,bV x45)] [] [] [] [0,1] [8,9,31,32] (up [] [(0,(List.map bV v1).set (0+v0.toNat) (bV x45))] (EI n cl bw pe (.l0 (i64.wrap (v0+1)) (v1.set (0+v0.toNat) x45)))) (aj (aj (u2 (u2 (u2 (u2 (aj (k2 (aj a1 a2)) (aj (ak (Aq (f:=bV) a3)) (u2 (ag a4 (ag a4 (aj (aj a4 (k2 (aj a1 a2))) (aj (aj a4 (ak (Aq (f:=bV) a5))) (ag a4 (aj (k2 (aj a1 a2)) (al (k2 a6))))))))))))))) (al (u2 s2))) t7) (by simp[up,upF,upV,upH,upB,EI,gL,boL,lI,sA,bA]))
 (fun a4=>
  .gu fun a5=>
  .lq [82] [(40,bV x40)] [] [] [] [0,1] [8,9,31,32] (up [] [(0,(List.map bV v1).set (0+v0.toNat) (bV false))] (EI n cl bw pe (.l0 (i64.wrap (v0+1)) (v1.set (0+v0.toNat) false)))) (aj (aj (u2 (u2 (u2 (u2 (aj (k2 (aj a1 a2)) (aj (ak (Aq (f:=bV) a3)) (u2 (aj a4 (aj a4 (aj a4 (aj a4 (ag a4 (aj (k2 (aj a1 a2)) (al (k2 a5))))))))))))))) (al (u2 s2))) t7) (by simp[up,upF,upV,upH,upB,EI,gL,boL,lI,sA,bA])))
 (fun a0=>
 .rn 0 [66] [] [] [] (aj a0 (al (u2 (u2 t2)))) <|
 .gu fun a1=>
 .rt [] [] [] [] [] [0] (ak (al (aj a1 t2))))) (by kernel_rfl)
theorem sou_ct(n:Aa)(cl:List Bool)(bw pe:List Int)(r:Ret)(h:Al (souStep n cl bw pe) (LJ n cl bw pe) r):CT Try.prog 35 ([]) ([Ad n,sgA ⟨cl,bw,pe⟩]) r.1 r.2:=
 CT.mach (fn:=Try.f35) (c:=zB Try.f35) (S:=EI n cl bw pe) (hd:=Mp) Try.func35 (by kernel_rfl) (nL rfl)
  (fun s o ho=>match s,ho with
   | .l0 v0 v1,ho=>souS0_ok n cl bw pe v0 v1 o ho
  )
  (fun o ho=>souEn_ok n cl bw pe o ho) h
def mxL(A:List Bool)(f:Nat->Bool)(i:Nat):List Bool:=(List.range A.length).map fun j=>if j<i then f j else A.getD j false
theorem Hf{A:List Bool}{f:Nat->Bool}{i:Nat}:(mxL A f i).length=A.length:=by unfold mxL;simp
theorem J8{A:List Bool}{f:Nat->Bool}{i j:Nat}(h:j<A.length):(mxL A f i)[j]?=some (if j<i then f j else A.getD j false):=by
 unfold mxL;rw[Tw,TH h];rfl
theorem mxL_0{A:List Bool}{f:Nat->Bool}:mxL A f 0=A:=by
 refine List.ext_getElem? fun j=>?_
 by_cases h:j<A.length
 .rw[J8 h,Tj (by omega),Be false h]
 .rw[TI (by rw[Hf];omega),TI (by omega)]
theorem O1{A:List Bool}{f:Nat->Bool}{i:Nat}(h:i<A.length):(mxL A f i).set (0+i) (f i)=mxL A f (i+1):=by
 rw[TB]
 refine List.ext_getElem? fun j=>?_
 rw[Ue,Hf]
 by_cases hj:j<A.length
 .rw[J8 hj,J8 hj]
  by_cases e:i=j
  .subst e;rw[Ti rfl,Ti h,Ti (by omega)]
  .rw[Tj e]
   by_cases h2:j<i
   .rw[Ti h2,Ti (by omega)]
   .rw[Tj h2,Tj (by omega)]
 .rw[Tj (by omega),TI (by rw[Hf];omega),TI (by rw[Hf];omega)]
def soO(n:Aa)(s:Ac):List Bool:=if AK n s=true then soL n s else []
theorem so_c{n:Aa}(cl:List Bool)(bw pe:List Int)(hrw:Rows n.nx):CT Try.prog 35 [] [Ad n,sgA ⟨cl,bw,pe⟩] [] (.tup [.lst (boL (soO n ⟨cl,bw,pe⟩)),.int .i64 (shE n ⟨cl,bw,pe⟩)]):=by
 have k:=sou_ct n cl bw pe
 unfold LJ at k
 rw[Ab hrw] at k
 cases h:AK n ⟨cl,bw,pe⟩ with
 | false=>
  have e1:soO n ⟨cl,bw,pe⟩=[]:=by unfold soO;rw[h];rfl
  have e2:shE n ⟨cl,bw,pe⟩=20:=by unfold shE;rw[h];rfl
  rw[e1,e2]
  rw[e2] at k
  exact CT.w2 (k ([],_) (.val (by rw[Ah (by rfl)])))
 | true=>
  obtain⟨hv,hS,l1,l2,l3,l4,l5⟩:=B0 h
  have e1:soO n ⟨cl,bw,pe⟩=soL n ⟨cl,bw,pe⟩:=by unfold soO;rw[h];rfl
  have e2:shE n ⟨cl,bw,pe⟩=0:=by unfold shE;rw[h];rfl
  have e3:shO n ⟨cl,bw,pe⟩=A5 ⟨cl,bw,pe⟩:=by unfold shO;rw[h];rfl
  have hsl:(A5 ⟨cl,bw,pe⟩).length=cl.length:=Gv _
  have l4':n.bs.length<=cl.length:=l4
  have h24:=hv.nb24
  rw[e1,e2]
  rw[e2,e3,Af (by rfl),Ab hv,Ab (by rw[hsl];exact l4),Ab l4] at k
  have hA:=soTL_len n ⟨cl,bw,pe⟩
  have hB:=soFL_len n ⟨cl,bw,pe⟩
  have gA:=soTL_get hv hS
  have gB:=soFL_get hv hS
  have eB:prI n.bs.length (okC cl) (Bu n.nx) (mk0 n.bs.length (A5 ⟨cl,bw,pe⟩)) n.bs.length=Jl n ⟨cl,bw,pe⟩:=rfl
  have eA:prI n.bs.length (okC cl) (Bx n.nx) (mk0 n.bs.length (A5 ⟨cl,bw,pe⟩)) n.bs.length=DF n ⟨cl,bw,pe⟩:=rfl
  rw[eA] at k
  refine k ([],_) ?_
  rw[show DF n ⟨cl,bw,pe⟩=mxL (DF n ⟨cl,bw,pe⟩) (soB n ⟨cl,bw,pe⟩) 0 from mxL_0.symm]
  refine Cb (fun i=>Es.l0 (i:Int) (mxL (DF n ⟨cl,bw,pe⟩) (soB n ⟨cl,bw,pe⟩) i)) n.bs.length (fun i hi hx=>?_) ?_
  .refine .to (show GD n cl bw pe _ _=_ from ?_) hx
   unfold GD
   rw[e3,eB,Ah (AB (by simp only[iN];omega)),Ab (by omega),Ab (by simp only[iN];omega),Tv,TB,A4 (show(mxL (DF n ⟨cl,bw,pe⟩) (soB n ⟨cl,bw,pe⟩) i)[i]?=some (soT n ⟨cl,bw,pe⟩ i) from by rw[J8 (by omega),Tj (by omega),gA])]
   have hst:=O1 (A:=DF n ⟨cl,bw,pe⟩) (f:=soB n ⟨cl,bw,pe⟩) (show i<_ by rw[hA];exact hi)
   rw[TB] at hst
   have hle:(i:Nat).succ.le (List.map AV.bool (mxL (DF n ⟨cl,bw,pe⟩) (soB n ⟨cl,bw,pe⟩) i)).length:=by rw[Tn,Hf,hA];exact hi
   rw[<-hst]
   cases ht:soT n ⟨cl,bw,pe⟩ i with
   | true=>
    rw[Ah rfl,A4 (Be false (show i<(Jl n ⟨cl,bw,pe⟩).length by omega)),gB,Ab hle,zW i (by omega),show soB n ⟨cl,bw,pe⟩ i=soF n ⟨cl,bw,pe⟩ i by unfold soB;rw[ht];rfl]
   | false=>
    rw[Af rfl,Ab hle,zW i (by omega),show soB n ⟨cl,bw,pe⟩ i=false by unfold soB;rw[ht];rfl]
  .refine .to (show GD n cl bw pe _ _=_ from ?_) (.ret _)
   have hfin:mxL (DF n ⟨cl,bw,pe⟩) (soB n ⟨cl,bw,pe⟩) n.bs.length=soL n ⟨cl,bw,pe⟩:=by
    unfold mxL soL
    rw[hA]
    exact List.map_congr_left fun j hj=>Ti (Uc.1 hj)
   rw[hfin]
   unfold GD
   rw[Af (Au (by simp only[iN];omega)),Ab (by rw[Tn,Nv])]
   rfl
inductive Fn where
 | l0 (v0:Int)
def I0(l:List (List Int))(c:Int):Fn->St
 | .l0 v0=>St.mk 19 [(0,AV.lst (gL l)),(1,AV.fn 53 [AV.ptr 0 0 0]),(7,iv (iN (gL l).length)),(8,iv v0)] [some (bK [iv c] 1)]
def M1:Fn->Nat
 | .l0 _=>0
def ixrEn(l:List (List Int))(c:Int):Option (Fn⊕Ret):=
 some (.inl (.l0 ((0:Int))))
def EE(l:List (List Int))(c v0:Int):Option (Fn⊕Ret):=
 br (decide (v0<iN (gL l).length))
 (gu (0<=v0) <|
  el l (v0.toNat) fun(x14:List Int)=>
  gu (x14.length<=9223372036854775807) <|
  br (Ak x14 c)
  (some (.inr ([some (bK [iV c] 1)],iV v0)))
  (some (.inl (.l0 (i64.wrap (v0+1))))))
 (some (.inr ([some (bK [iV c] 1)],iV (-1))))
def P3(l:List (List Int))(c:Int):Fn->Option (Fn⊕Ret)
 | .l0 v0=>EE l c v0
theorem ixrEn_ok(l:List (List Int))(c:Int)(o:Fn⊕Ret)(h:ixrEn l c=some o):Arr Try.prog Try.f99 1 (I0 l c) M1 (zB Try.f99) [] {n:=Try.f99.ntmps,fr:=AA 0 ([.lst (gL l),.fn 53 [.ptr 0 0 0]]),hp:=([some (bK [.int .i64 c] 1)])} o:=
 Scr.ok h mix (
 .lp [] [] [] [] [] [0] [0,1,7,8] (aj (u2 (al (u2 (u2 t2)))) (ak (u2 t4)))) (by kernel_rfl)
theorem ixrS0_ok(l:List (List Int))(c v0:Int)(o:Fn⊕Ret)(h:EE l c v0=some o):Arr Try.prog Try.f99 1 (I0 l c) M1 (Av Try.f99 0) (.rnd (Av Try.f99 0)::AG Try.f99 0) (I0 l c (.l0 v0)) o:=
 Scr.ok h mix (
 .rn 0 [] [] [] [] (al (al t3)) <|
 .br (fun a0=>
 .rn 0 [19] [] [] [] (aj a0 (al (u2 s2))) <|
 .gu fun a1=>
 .el fun x14 a2=>
 .gu fun a3=>
 have c0:=rd1_c x14 c a3;
 .rn 0 [] [(14,lI x14)] [(16,hK c0 [0] [])] [] (al (u2 (u2 (u2 (aj (k2 (aj a1 (Aq (f:=lI) a2))) (u2 (al (k5 (al (c0)))))))))) <|
 .br (fun a4=>
  .rt [33] [] [] [] [0] [] (aj (aj a4 (al (u2 s2))) t3))
 (fun a4=>
  .lp [32] [] [] [] [] [0] [0,1,7,8] (aj (aj a4 (al (u2 s2))) (ak (u2 t4)))))
 (fun a0=>
 .rt [18] [] [] [] [0] [] (aj (aj a0 s2) t3))) (by kernel_rfl)
theorem ixr_ct(l:List (List Int))(c:Int)(r:Ret)(h:Al (P3 l c) (ixrEn l c) r):CT Try.prog 99 ([some (bK [.int .i64 c] 1)]) ([.lst (gL l),.fn 53 [.ptr 0 0 0]]) r.1 r.2:=
 CT.mach (fn:=Try.f99) (c:=zB Try.f99) (S:=I0 l c) (hd:=M1) Try.func99 (by kernel_rfl) (nL rfl)
  (fun s o ho=>match s,ho with
   | .l0 v0,ho=>ixrS0_ok l c v0 o ho
  )
  (fun o ho=>ixrEn_ok l c o ho) h
def ixR(c:Int):List (List Int)->Nat->Int
 | [],_=> -1
 | r::l,i=>match Ak r c with | true=>(i:Int) | false=>ixR c l (i+1)
def CV(l:List (List Int))(c:Int):Bool:=l.any fun r=>Ak r c
theorem ixR_any{c:Int}:∀(l:List (List Int)) (i:Nat),decide (0<=ixR c l i)=CV l c:=by
 intro l
 induction l with
 | nil=>intro i;rfl
 | cons r l ih=>
  intro i
  unfold ixR CV
  rw[List.any_cons]
  cases h:Ak r c with
  | true=>exact Ts (by show(0:Int)<=i;omega)
  | false=>exact(ih (i+1)).trans rfl
theorem ixr_c(l:List (List Int))(c:Int)(hl:l.length<=9223372036854775807)(hr:∀r∈l,r.length<=9223372036854775807):CT Try.prog 99 [some (Blk.mk [.int .i64 c] 1 true true none)] [.lst (gL l),.fn 53 [.ptr 0 0 0]] [some (Blk.mk [.int .i64 c] 1 true true none)] (.int .i64 (ixR c l 0)):=by
 refine ixr_ct l c ([_],_) ?_
 have main:∀(t:List (List Int)) (i:Nat),l.drop i=t->i<=l.length->Al (P3 l c) (some (.inl (.l0 (i:Int)))) ([some (Blk.mk [.int .i64 c] 1 true true none)],.int .i64 (ixR c t i)):=by
  intro t
  induction t with
  | nil=>
   intro i hd hi
   have hlen:i=l.length:=by have:=congrArg List.length hd;simp at this;omega
   subst hlen
   refine .to (show EE l c _=_ from ?_) (.ret _)
   unfold EE
   rw[show (gL l).length=(List.map lI l).length from rfl,Cf]
   rfl
  | cons x t ih=>
   intro i hd hi
   have hx:l[i]?=some x:=by have:=congrArg (·[0]?) hd;simpa using this
   have hil:=(Tm.1 hx).1
   have hx2:=hr x (Tp hx)
   have hn:l.drop (i+1)=t:=by rw[<-S6,hd];rfl
   have e:EE l c (i:Int)=br (Ak x c) (some (.inr ([some (Blk.mk [.int .i64 c] 1 true true none)],AV.int i64 (i:Int)))) (some (.inl (.l0 ((i+1:Nat):Int)))):=by
    unfold EE
    rw[show (gL l).length=(List.map lI l).length from rfl,Gj hx,Ab (by omega),zW i (by omega)]
   unfold ixR
   cases h:Ak x c with
   | true=>
    refine .to (show EE l c _=_ from ?_) (.ret _)
    rw[e,h,Ah rfl]
   | false=>
    refine .to (show EE l c _=_ from ?_) (ih (i+1) hn hil)
    rw[e,h,Af rfl]
 exact main l 0 rfl (Ty _)
def cofSt(l:List (List Int))(c:Int):Empty->St
 | x=>x.elim
def cofHd:Empty->Nat
 | x=>x.elim
def Kr(l:List (List Int))(c:Int):Option (Empty⊕Ret):=
 gu (l.length<=9223372036854775807) <|
 gu (∀(r:List Int),r∈l->r.length<=9223372036854775807) <|
 some (.inr ([some (bK [iV c] 1)],bV (decide (0<=ixR c l 0))))
def cofStep(l:List (List Int))(c:Int):Empty->Option (Empty⊕Ret)
 | x=>x.elim
theorem cofEn_ok(l:List (List Int))(c:Int)(o:Empty⊕Ret)(h:Kr l c=some o):Arr Try.prog Try.f52 1 (cofSt l c) cofHd (zB Try.f52) [] {n:=Try.f52.ntmps,fr:=AA 0 ([.lst (gL l),.fn 53 [.ptr 0 0 0]]),hp:=([some (bK [.int .i64 c] 1)])} o:=
 Scr.ok h mix (
 .rn 0 [] [] [] [] s2 <|
 .gu fun a0=>
 .gu fun a1=>
 have c0:=ixr_c l c a0 a1;
 .rt [] [] [(7,hK c0 [0] [])] [] [0] [] (aj (al (u2 (u2 (aj (k3 (u2 (ak (al (c0))))) (u2 s2))))) t3)) (by kernel_rfl)
theorem cof_ct(l:List (List Int))(c:Int)(r:Ret)(h:Al (cofStep l c) (Kr l c) r):CT Try.prog 52 ([some (bK [.int .i64 c] 1)]) ([.lst (gL l),.fn 53 [.ptr 0 0 0]]) r.1 r.2:=
 CT.mach (fn:=Try.f52) (c:=zB Try.f52) (S:=cofSt l c) (hd:=cofHd) Try.func52 (by kernel_rfl) (nL rfl)
  (fun s o ho=>match s,ho with
   | x,_=>x.elim)
  (fun o ho=>cofEn_ok l c o ho) h
theorem cof_c(l:List (List Int))(c:Int)(hl:l.length<=9223372036854775807)(hr:∀r∈l,r.length<=9223372036854775807):CT Try.prog 52 [some (Blk.mk [.int .i64 c] 1 true true none)] [.lst (gL l),.fn 53 [.ptr 0 0 0]] [some (Blk.mk [.int .i64 c] 1 true true none)] (.bool (CV l c)):=by
 refine cof_ct l c ([_],_) (.val ?_)
 unfold Kr
 rw[Ab hl,Ab hr,ixR_any]
inductive EX where
 | l0 (v0 v1:Int)
def Jr(n:Aa)(cl:List Bool)(bw pe:List Int)(ow:List Int)(qu:List (List Int))(g:List (List Int))(l:List Bool):EX->St
 | .l0 v0 v1=>St.mk 95 [(4,AV.lst (boL l)),(12,AV.ptr 0 0 0),(71,AV.lst (List.map sA n.ss)),(72,iv (iN (List.map sA n.ss).length)),(73,iv v0)] [some (bK [iv v1] 1)]
def KQ:EX->Nat
 | .l0 _ _=>0
def Lh(n:Aa)(cl:List Bool)(bw pe:List Int)(ow:List Int)(qu:List (List Int))(g:List (List Int))(l:List Bool):Option (EX⊕Ret):=
 gu (Rows n.nx) <|
 br (!AK n (Ac.mk cl bw pe))
 (some (.inr ([],AV.tup [bV false,iV 20])))
 (br (!Bv (Ao.mk ow qu))
  (some (.inr ([],AV.tup [bV false,iV 20])))
  (br (iN (List.map iV ow).length != iN (boL cl).length)
   (some (.inr ([],AV.tup [bV false,iV 19])))
   (br (iN (boL l).length != iN (List.map sA n.ss).length)
    (some (.inr ([],AV.tup [bV false,iV 19])))
    (br (iN (List.map iV pe).length==0)
     (some (.inr ([],AV.tup [bV false,iV 0])))
     (el (pe) (Int.toNat 0) fun(x48:Int)=>
      gu (0<=x48) <|
      el (ow) (x48.toNat) fun(x53:Int)=>
      br (x53 != -1)
      (some (.inr ([],AV.tup [bV false,iV 0])))
      (el (qu) (x48.toNat) fun(x60:List Int)=>
       br (decide (0<iN (List.map iV x60).length))
       (some (.inr ([],AV.tup [bV false,iV 0])))
       (gu (g.length<=9223372036854775807) <|
        gu (∀(r:List Int),r∈g->r.length<=9223372036854775807) <|
        br (CV g x48)
        (some (.inr ([],AV.tup [bV false,iV 0])))
        (some (.inl (.l0 ((0:Int)) x48))))))))))
def Fh(n:Aa)(cl:List Bool)(bw pe:List Int)(ow:List Int)(qu:List (List Int))(g:List (List Int))(l:List Bool)(v0 v1:Int):Option (EX⊕Ret):=
 br (decide (v0<iN (List.map sA n.ss).length))
 (gu (0<=v0) <|
  el (n.ss) (v0.toNat) fun(x76:Az)=>
  el l (v0.toNat) fun(x80:Bool)=>
  br x80
  (br (x76.i==v1)
   (some (.inr ([],AV.tup [bV false,iV 0])))
   (br (x76.o==v1)
    (some (.inr ([],AV.tup [bV false,iV 0])))
    (some (.inl (.l0 (i64.wrap (v0+1)) v1)))))
  (some (.inl (.l0 (i64.wrap (v0+1)) v1))))
 (some (.inr ([],AV.tup [bV true,iV 0])))
def Nq(n:Aa)(cl:List Bool)(bw pe:List Int)(ow:List Int)(qu:List (List Int))(g:List (List Int))(l:List Bool):EX->Option (EX⊕Ret)
 | .l0 v0 v1=>Fh n cl bw pe ow qu g l v0 v1
theorem rdyEn_ok(n:Aa)(cl:List Bool)(bw pe:List Int)(ow:List Int)(qu:List (List Int))(g:List (List Int))(l:List Bool)(o:EX⊕Ret)(h:Lh n cl bw pe ow qu g l=some o):Arr Try.prog Try.f20 0 (Jr n cl bw pe ow qu g l) KQ (zB Try.f20) [] {n:=Try.f20.ntmps,fr:=AA 0 ([Ad n,sgA ⟨cl,bw,pe⟩,lkA ⟨ow,qu⟩,.lst (gL g),.lst (boL l)]),hp:=([])} o:=
 Scr.ok h mix (
 .rn 0 [] [] [] [] (al (u2 (u2 (u2 t3)))) <|
 .gu fun a0=>
 .br (fun a1=>
 have c0:=HQ (cl) (bw) (pe) a0;
 .rt [41] [] [(18,hK c0 [] [])] [] [] [] (aj (aj (u2 (u2 (aj (k2 (aj t9 (aj t4 (al (c0))))) (u2 (u2 (aj a1 (aj a1 (aj a1 (ag a1 s2))))))))) (ak (al t3))) (al t3)))
 (fun a1=>
 have c0:=HQ (cl) (bw) (pe) a0;
 have c1:=ilv_c (Ao.mk ow qu);
 .rn 0 [40] [] [(18,hK c0 [] []),(22,hK c1 [] [])] [] (al (u2 (u2 (aj (k2 (aj t9 (aj t4 (al (c0))))) (u2 (u2 (ag a1 (aj (aj a1 (ak (aj t3 (al (c1))))) (ag a1 (ag a1 s2)))))))))) <|
 .br (fun a2=>
  .rt [40,31] [] [] [] [] [] (aj (aj a2 (al t3)) (al t3)))
 (fun a2=>
  .br (fun a3=>
  .rt [40,30,67] [] [] [] [] [] (aj (aj a2 (aj (u2 (u2 (u2 (u2 (u2 (u2 (aj t3 (u2 (aj a3 (aj a3 (aj a3 (aj a3 (aj a3 (aj a3 (ag a3 s2))))))))))))))) (ak (al t3)))) (al t3)))
  (fun a3=>
  .rn 0 [40,30,66] [] [] [] (aj a2 (al (u2 (u2 (u2 (u2 (u2 (u2 (aj t3 (u2 (ag a3 (ag a3 (ag a3 (ag a3 (ag a3 (aj (aj a3 t3) (ag a3 s2))))))))))))))))) <|
  .br (fun a4=>
   .rt [40,66,51] [] [] [] [] [] (aj (aj a4 (al t3)) (al t3)))
  (fun a4=>
   .rn 0 [40,66,50] [] [] [] (aj a4 (al (u2 (u2 (u2 (u2 s2)))))) <|
   .br (fun a5=>
   .rt [40,66,83] [] [] [] [] [] (aj (aj a5 (al t3)) (al t3)))
   (fun a5=>
   .el fun x48 a6=>
   .rn 0 [40,66,82] [(48,iv x48)] [] [] (aj a5 (al (u2 (u2 (aj (ak (aj (show(0:Int)<=(0:Int) from(by first | exact nL rfl | decide)) (Aq (f:=iv) a6))) (u2 (ak (al (k2 n11))))))))) <|
   .gu fun a7=>
   .el fun x53 a8=>
   .br (fun a9=>
    .rt [40,66,113] [(53,iv x53)] [] [] [] [] (aj (aj (u2 (u2 (u2 (aj (k2 (aj a7 (Aq (f:=iv) a8))) (u2 (u2 (u2 (aj a9 (aj a9 (aj a9 (aj a9 (aj a9 (aj a9 (aj a9 (ag a9 (u2 (k3 (al t3)))))))))))))))))) (ak (al t3))) (al t3)))
   (fun a9=>
    .el fun x60 a10=>
    .br (fun a11=>
    .rt [40,66,112,131] [(53,iv x53),(60,lI x60)] [] [] [] [] (aj (aj (u2 (u2 (u2 (aj (k2 (aj a7 (Aq (f:=iv) a8))) (u2 (u2 (u2 (ag a9 (ag a9 (ag a9 (aj (aj a9 (k2 (aj a7 (Aq (f:=lI) a10)))) (ag a9 (ag a9 (ag a9 (ag a9 (u2 (aj a11 (aj a11 (aj a11 (al (aj a11 t2))))))))))))))))))))) (ak (al t3))) (al t3)))
    (fun a11=>
    .gu fun a12=>
    .gu fun a13=>
    have c2:=cof_c g x48 a12 a13;
    .rn 0 [40,66,112,130] [(53,iv x53),(60,lI x60)] [(68,hK c2 [3] [])] [] (al (u2 (u2 (u2 (aj (k2 (aj a7 (Aq (f:=iv) a8))) (u2 (u2 (u2 (ag a9 (ag a9 (ag a9 (aj (aj a9 (k2 (aj a7 (Aq (f:=lI) a10)))) (ag a9 (ag a9 (ag a9 (ag a9 (u2 (ag a11 (ag a11 (aj (aj a11 (k3 (u2 (ak (al (c2)))))) (al (aj a11 t2)))))))))))))))))))))) <|
    .br (fun a14=>
     .rt [40,66,112,130,139] [] [] [] [] [] (aj (aj a14 (al t3)) (al t3)))
    (fun a14=>
     .lp [40,66,112,130,138] [] [] [] [] [3] [4,12,71,72,73] (aj (aj a14 (al (u2 (u2 (u2 t2))))) t7)))))))))) (by kernel_rfl)
theorem rdyS0_ok(n:Aa)(cl:List Bool)(bw pe:List Int)(ow:List Int)(qu:List (List Int))(g:List (List Int))(l:List Bool)(v0 v1:Int)(o:EX⊕Ret)(h:Fh n cl bw pe ow qu g l v0 v1=some o):Arr Try.prog Try.f20 0 (Jr n cl bw pe ow qu g l) KQ (Av Try.f20 0) (.rnd (Av Try.f20 0)::AG Try.f20 0) (Jr n cl bw pe ow qu g l (.l0 v0 v1)) o:=
 Scr.ok h mix (
 .rn 0 [] [] [] [] (al (al t3)) <|
 .br (fun a0=>
 .gu fun a1=>
 .el fun x76 a2=>
 .rn 0 [149] [(76,sA x76)] [] [] (aj a0 (al (u2 (aj (k2 (aj a1 (Aq (f:=sA) a2))) (u2 (ak (u2 (al (k2 n11))))))))) <|
 .el fun x80 a3=>
 .br (fun a4=>
  .br (fun a5=>
  .rt [165,175] [(80,bV x80)] [] [] [] [] (aj (aj (u2 (u2 (aj (k2 (aj a1 (Aq (f:=bV) a3))) (u2 (u2 (ag a4 (ag a4 (ag a4 (aj (aj a4 t3) (ag a4 (aj a5 (aj a5 (aj a5 (aj a5 (aj (aj a4 (aj a5 t2)) (al (aj a4 t2))))))))))))))))) (ak (al t3))) (al t3)))
  (fun a5=>
  .rn 0 [165,174] [(80,bV x80)] [] [] (al (u2 (u2 (aj (k2 (aj a1 (Aq (f:=bV) a3))) (u2 (u2 (ag a4 (ag a4 (ag a4 (aj (aj a4 t3) (ag a4 (ag a5 (ag a5 (ag a5 (aj (aj a5 t3) (aj (aj a4 (aj a5 t2)) (al (aj a4 t2)))))))))))))))))) <|
  .br (fun a6=>
   .rt [165,174,187] [] [] [] [] [] (aj (aj a6 (al t3)) (al t3)))
  (fun a6=>
   .lp [165,174,186] [] [] [] [] [0] [4,12,71,72,73] (aj (aj a6 (al (u2 s2))) t7))))
 (fun a4=>
  .lp [164] [(80,bV x80)] [] [] [] [0] [4,12,71,72,73] (aj (aj (u2 (u2 (aj (k2 (aj a1 (Aq (f:=bV) a3))) (u2 (u2 (aj a4 (aj a4 (aj a4 (aj a4 (aj a4 (ak (k3 (aj a4 (al (aj a4 t2))))))))))))))) (ak (al (u2 s2)))) t7)))
 (fun a0=>
 .rt [148] [] [] [] [] [] (aj (aj a0 (al t3)) (al t3)))) (by kernel_rfl)
theorem rdy_ct(n:Aa)(cl:List Bool)(bw pe:List Int)(ow:List Int)(qu:List (List Int))(g:List (List Int))(l:List Bool)(r:Ret)(h:Al (Nq n cl bw pe ow qu g l) (Lh n cl bw pe ow qu g l) r):CT Try.prog 20 ([]) ([Ad n,sgA ⟨cl,bw,pe⟩,lkA ⟨ow,qu⟩,.lst (gL g),.lst (boL l)]) r.1 r.2:=
 CT.mach (fn:=Try.f20) (c:=zB Try.f20) (S:=Jr n cl bw pe ow qu g l) (hd:=KQ) Try.func20 (by kernel_rfl) (nL rfl)
  (fun s o ho=>match s,ho with
   | .l0 v0 v1,ho=>rdyS0_ok n cl bw pe ow qu g l v0 v1 o ho
  )
  (fun o ho=>rdyEn_ok n cl bw pe ow qu g l o ho) h
def rdL(c:Int)(l:List Bool):List Az->Nat->Bool
 | [],_=>true
 | q::t,i=>match l.getD i false&&(q.i==c||q.o==c) with | true=>false | false=>rdL c l t (i+1)
def rdC(n:Aa)(w:Ao)(g:List (List Int))(l:List Bool):List Int->Bool
 | []=>false
 | c::_=>match w.ow.getD c.toNat 0 != -1||decide (0<iN (List.map (AV.int .i64) (w.qu.getD c.toNat [])).length)||CV g c with | true=>false | false=>rdL c l n.ss 0
def rdE(n:Aa)(s:Ac)(w:Ao)(l:List Bool):Int:=if (AK n s&&Bv w)=true then (if w.ow.length=s.cl.length/\l.length=n.ss.length then 0 else 19) else 20
def rdB(n:Aa)(s:Ac)(w:Ao)(g:List (List Int))(l:List Bool):Bool:=if rdE n s w l=0 then rdC n w g l s.pe else false
theorem rdL_no{c:Int}{l:List Bool}(h:∀i,l.getD i false=false):∀(t:List Az) (i:Nat),rdL c l t i=true:=by
 intro t
 induction t with
 | nil=>intro i;rfl
 | cons q t ih=>intro i;unfold rdL;rw[h];exact ih (i+1)
theorem Jh{n:Aa}(cl:List Bool)(bw pe ow:List Int)(qu g:List (List Int))(l:List Bool)(hrw:Rows n.nx)(hl:g.length<=9223372036854775807)(hr:∀r∈g,r.length<=9223372036854775807):CT Try.prog 20 [] [Ad n,sgA ⟨cl,bw,pe⟩,lkA ⟨ow,qu⟩,.lst (gL g),.lst (boL l)] [] (.tup [.bool (rdB n ⟨cl,bw,pe⟩ ⟨ow,qu⟩ g l),.int .i64 (rdE n ⟨cl,bw,pe⟩ ⟨ow,qu⟩ l)]):=by
 refine rdy_ct n cl bw pe ow qu g l ([],_) ?_
 unfold Lh
 rw[Ab hrw]
 have bad:∀{e:Int},rdE n ⟨cl,bw,pe⟩ ⟨ow,qu⟩ l=e->e≠0->rdB n ⟨cl,bw,pe⟩ ⟨ow,qu⟩ g l=false:=fun h h2=>by unfold rdB;rw[Tj (by rw[h];exact h2)]
 cases h1:AK n ⟨cl,bw,pe⟩ with
 | false=>
  have e:rdE n ⟨cl,bw,pe⟩ ⟨ow,qu⟩ l=20:=by unfold rdE;rw[h1];rfl
  rw[Ah (by rfl),bad e (by decide),e];exact .ret _
 | true=>
 rw[Af (by rfl)]
 cases h2:Bv ⟨ow,qu⟩ with
 | false=>
  have e:rdE n ⟨cl,bw,pe⟩ ⟨ow,qu⟩ l=20:=by unfold rdE;rw[h1,h2];rfl
  rw[Ah (by rfl),bad e (by decide),e];exact .ret _
 | true=>
 obtain⟨hv,hS,l1,l2,l3,l4,l5⟩:=B0 h1
 obtain⟨hlen,h48⟩:=Kh h2
 have hrows:=M8 h2
 have hss:=hv.ns
 simp only at hlen h48 hrows l1 l2 l3 l4 l5
 have eE:rdE n ⟨cl,bw,pe⟩ ⟨ow,qu⟩ l=if ow.length=cl.length/\l.length=n.ss.length then 0 else 19:=by unfold rdE;rw[h1,h2];rfl
 have hbl:=BW cl
 have hbl2:=BW l
 rw[Af (by rfl)]
 by_cases h3:ow.length=cl.length
 case neg=>
  have e:=eE.trans (Tj fun hh=>h3 hh.1)
  rw[Ah (T9.2 (by rw[Tn,hbl];simp only[iN];omega)),bad e (by decide),e];exact .ret _
 rw[Af (by rw[Tn,hbl,h3];simp)]
 by_cases h4:l.length=n.ss.length
 case neg=>
  have e:=eE.trans (Tj fun hh=>h4 hh.2)
  rw[Ah (T9.2 (by rw[Tn,hbl2];simp only[iN];omega)),bad e (by decide),e];exact .ret _
 rw[Af (by rw[Tn,hbl2,h4];simp)]
 have e:=eE.trans (Ti ⟨h3,h4⟩)
 have eB:rdB n ⟨cl,bw,pe⟩ ⟨ow,qu⟩ g l=rdC n ⟨ow,qu⟩ g l pe:=by unfold rdB;rw[Ti e]
 rw[e,eB]
 cases hpe:pe with
 | nil=>rw[Ah (by rfl)];exact .ret _
 | cons c t=>
  have hc:=l5 c (by rw[hpe];exact List.mem_cons_self ..)
  have hq:=Be ([]:List Int) (show c.toNat<qu.length by omega)
  rw[Af (TX.2 (by simp only[iN,Tn,T2];omega)),A4 (show(c::t)[Int.toNat 0]?=some c from rfl),Ab hc.1,A4 (Be 0 (show c.toNat<ow.length by omega))]
  unfold rdC
  simp only
  cases k1:ow.getD c.toNat 0 != -1 with
  | true=>rw[Ah rfl];exact .ret _
  | false=>
  rw[Af rfl,A4 hq,Te]
  cases k2:decide (0<iN (List.map (AV.int .i64) (qu.getD c.toNat [])).length) with
  | true=>rw[Ah rfl];exact .ret _
  | false=>
  rw[Af rfl,Ab hl,Ab hr,Te]
  cases k3:CV g c with
  | true=>rw[Ah rfl];exact .ret _
  | false=>
  rw[Af rfl]
  simp only
  have main:∀(t:List Az) (i:Nat),n.ss.drop i=t->i<=n.ss.length->Al (Nq n cl bw pe ow qu g l) (some (.inl (.l0 (i:Int) c))) ([],.tup [.bool (rdL c l t i),.int .i64 0]):=by
   intro t
   induction t with
   | nil=>
    intro i hd hi
    have hlen:i=n.ss.length:=by have:=congrArg List.length hd;simp at this;omega
    subst hlen
    refine .to (show Fh n cl bw pe ow qu g l _ _=_ from ?_) (.ret _)
    unfold Fh
    rw[Cf];rfl
   | cons x t ih=>
    intro i hd hi
    have hx:n.ss[i]?=some x:=by have:=congrArg (·[0]?) hd;simpa using this
    have hil:=(Tm.1 hx).1
    have hn:n.ss.drop (i+1)=t:=by rw[<-S6,hd];rfl
    have e:Fh n cl bw pe ow qu g l (i:Int) c=br (l.getD i false&&(x.i==c||x.o==c)) (some (.inr ([],AV.tup [AV.bool false,AV.int i64 0]))) (some (.inl (.l0 ((i+1:Nat):Int) c))):=by
     unfold Fh
     rw[Gj hx,elG false (show i<l.length by omega),zW i (by omega),br_or,br_and]
    unfold rdL
    cases h:l.getD i false&&(x.i==c||x.o==c) with
    | true=>
     refine .to (show Fh n cl bw pe ow qu g l _ _=_ from ?_) (.ret _)
     rw[e,h,Ah rfl]
    | false=>
     refine .to (show Fh n cl bw pe ow qu g l _ _=_ from ?_) (ih (i+1) hn hil)
     rw[e,h,Af rfl]
  have hfin:=main n.ss 0 rfl (Ty _)
  rw[hpe] at hfin
  exact hfin
def kC(n:Aa):List Bool:=List.replicate (Ar n) false
def kB(n:Aa):List Int:=List.replicate (Ar n) (-1)
def kO(n:Aa):List Int:=List.replicate (Ar n) (-1)
def kP(n:Aa):List Int:=(kO n).set 0 0
def kQ(n:Aa):List (List Int):=List.replicate (Ar n) []
theorem Dm(n:Aa):(kO n).length=Ar n:=TG ..
theorem Kl(n:Aa):(kP n).length=Ar n:=(TV ..).trans (Dm n)
theorem kC_len(n:Aa):(kC n).length=Ar n:=TG ..
theorem P8(n:Aa)(i:Nat):(kQ n).getD i []=[]:=by
 unfold kQ
 rw[Tl,TM]
 split<;>rfl
theorem Jv{n:Aa}{i:Nat}(h:i<Ar n):(kC n).getD i true=false:=getR h
theorem HU{n:Aa}{i:Nat}(h:i<Ar n):(kO n).getD i 0 = -1:=getR h
theorem P7{ow:List Int}{k:Nat}(hk:k<=48)(hl:ow.length=k)(h:∀i,i<k->-1<=ow.getD i 0/\ow.getD i 0<8):Bv ⟨ow,List.replicate k []⟩=true:=by
 unfold Bv
 simp only[Tu,decide_eq_true_eq,Ub,TG]
 refine⟨by omega,hl,HA fun i _ hi=>?_⟩
 have:=h i (by omega)
 have e:(List.replicate k ([]:List Int)).getD i []=[]:=by
  rw[Tl,TM];split<;>rfl
 unfold bdR bdO
 simp only[e]
 rw[Au (by omega),Au (by omega)];rfl
theorem Hr{n:Aa}(hv:Ax n):Bv ⟨kO n,kQ n⟩=true:=P7 (BV hv).1 (Dm n) fun i hi=>by rw[HU hi];omega
theorem KY{n:Aa}(hv:Ax n):Bv ⟨kP n,kQ n⟩=true:=P7 (BV hv).1 (Kl n) fun i hi=>by
 unfold kP
 rw[E7]
 split
 .omega
 .rw[HU hi];omega
theorem NY(n:Aa):A7 n ⟨kC n,kB n,[]⟩:=Pq n
theorem Qf{n:Aa}(hv:Ax n):A7 n ⟨kC n,kB n,[0]⟩:=by
 have h1:=BV hv
 have h2:=hv.nb24
 exact Lk (s:=⟨kC n,kB n,[]⟩) (x:=0) (NY n) ⟨by omega,by omega⟩ (Jv (by show 0<_;omega)) (by simp)
theorem kS2_ok{n:Aa}(hv:Ax n)(h2:2<=n.bs.length):A7 n ⟨kC n,kB n,[0,1]⟩:=by
 have h1:=BV hv
 exact Lk (s:=⟨kC n,kB n,[0]⟩) (x:=1) (Qf hv) ⟨by omega,by omega⟩ (Jv (by show 1<_;omega)) (by simp)
theorem Hb{n:Aa}(hv:Ax n){s:Ac}(h:A7 n s):AK n s=true:=OC.2 ⟨hv,h⟩
theorem n14_x{n:Aa}(hv:Ax n)(hrw:Rows n.nx):CT Try.prog 14 [] [Ad n] [] (.tup [sgA ⟨kC n,kB n,[]⟩,.int .i64 0]):=by
 have h:=n14_c hrw
 have e1:nsS n=⟨kC n,kB n,[]⟩:=by unfold nsS;rw[CS.2 hv];rfl
 have e2:nsE n=0:=by unfold nsE;rw[CS.2 hv];rfl
 rw[e1,e2] at h
 exact h
theorem an_x{n:Aa}{cl:List Bool}{bw pe:List Int}{x:Int}(hv:Ax n)(hrw:Rows n.nx)(hs:A7 n ⟨cl,bw,pe⟩)(hx:0<=x/\x<(n.bs.length:Int))(hc:cl.getD x.toNat true=false)(hp:x∉pe):CT Try.prog 16 [] [Ad n,sgA ⟨cl,bw,pe⟩,.int .i64 x] [] (.tup [sgA ⟨cl,bw,pe++[x]⟩,.int .i64 0]):=by
 have h:=ann_c (n:=n) cl bw pe x hrw
 have hg:=Ka hv hs x.toNat
 rw[TN hx.1] at hg
 have hz:Ak pe x=false:=by cases hh:Ak pe x with | false=>rfl | true=>exact absurd (Dy.1 hh) hp
 have e1:anE n ⟨cl,bw,pe⟩ x=0:=by
  unfold anE
  rw[Ti (Hb hv hs),Ti hx,hg,Tj]
  simp only[hc,hz];decide
 have e2:anO n ⟨cl,bw,pe⟩ x=⟨cl,bw,pe++[x]⟩:=by unfold anO;rw[Ti e1];rfl
 rw[e1,e2] at h
 exact h
theorem an0_x{n:Aa}(hv:Ax n)(hrw:Rows n.nx):CT Try.prog 16 [] [Ad n,sgA ⟨kC n,kB n,[]⟩,.int .i64 0] [] (.tup [sgA ⟨kC n,kB n,[0]⟩,.int .i64 0]):=by
 have h1:=BV hv
 have h2:=hv.nb24
 exact an_x hv hrw (NY n) ⟨by omega,by omega⟩ (Jv (by show 0<_;omega)) (by simp)
theorem an1_x{n:Aa}(hv:Ax n)(hrw:Rows n.nx)(h2:2<=n.bs.length):CT Try.prog 16 [] [Ad n,sgA ⟨kC n,kB n,[0]⟩,.int .i64 1] [] (.tup [sgA ⟨kC n,kB n,[0,1]⟩,.int .i64 0]):=by
 have h1:=BV hv
 exact an_x hv hrw (Qf hv) ⟨by omega,by omega⟩ (Jv (by show 1<_;omega)) (by simp)
theorem n19_x{n:Aa}(hv:Ax n):CT Try.prog 17 [] [.int .i64 (iN (Ar n))] [] (.tup [lkA ⟨kO n,kQ n⟩,.int .i64 0]):=by
 have h:=n19_c (iN (Ar n))
 have h1:=BV hv
 have hi:0<=iN (Ar n)/\iN (Ar n)<=48:=⟨by simp only[iN];omega,by simp only[iN];omega⟩
 have e1:nlS (iN (Ar n))=⟨kO n,kQ n⟩:=by unfold nlS;rw[Ti hi];rfl
 have e2:nlE (iN (Ar n))=0:=by unfold nlE;rw[Ti hi]
 rw[e1,e2] at h
 exact h
theorem own_x{n:Aa}(hv:Ax n):CT Try.prog 19 [] [lkA ⟨kO n,kQ n⟩,.int .i64 0,.int .i64 0] [] (.tup [lkA ⟨kP n,kQ n⟩,.int .i64 0]):=by
 have h:=own_c (kO n) (kQ n) 0 0
 have h1:=BV hv
 have h2:=hv.nb24
 have hk:k9E ⟨kO n,kQ n⟩ 0 0=0:=by unfold k9E;rw[Ti (Hr hv),Ti ⟨by omega,by omega,by omega,by show(0:Int)<((kO n).length:Int);rw[Dm];omega⟩]
 have e1:owE ⟨kO n,kQ n⟩ 0 0=0:=by
  unfold owE
  rw[Ti hk,Tj]
  show ¬((kO n).getD 0 0≠-1\/Ak ((kQ n).getD 0 []) 0=true)
  rw[HU (by omega),P8]
  simp[Dy]
 have e2:owO ⟨kO n,kQ n⟩ 0 0=⟨kP n,kQ n⟩:=by unfold owO;rw[Ti e1];rfl
 rw[e1,e2] at h
 exact h
theorem rel_x{n:Aa}(hv:Ax n):CT Try.prog 42 [] [lkA ⟨kP n,kQ n⟩,.int .i64 0] [] (.tup [lkA ⟨kO n,kQ n⟩,.int .i64 0]):=by
 have h:=rel_c (kP n) (kQ n) 0
 have h1:=BV hv
 have h2:=hv.nb24
 have hk:k9E ⟨kP n,kQ n⟩ 0 0=0:=by unfold k9E;rw[Ti (KY hv),Ti ⟨by omega,by omega,by omega,by show(0:Int)<((kP n).length:Int);rw[Kl];omega⟩]
 have e1:reE ⟨kP n,kQ n⟩ 0=0:=by
  unfold reE
  rw[Ti hk,Tj]
  show ¬((kP n).getD 0 0 = -1)
  unfold kP
  rw[NL (by rw[Dm];omega)];decide
 have e3:(kP n).set 0 (-1)=kO n:=by
  unfold kP
  rw[List.set_set]
  refine List.ext_getElem? fun j=>?_
  rw[Ue,Dm]
  split
  .rename_i hj;subst hj;rw[Ti (by omega),Be 0 (show 0<(kO n).length by rw[Dm];omega),HU (by omega)]
  .rfl
 have e2:reO ⟨kP n,kQ n⟩ 0=⟨kO n,kQ n⟩:=by
  unfold reO;rw[Ti e1]
  show(⟨(kP n).set 0 (-1),kQ n⟩:Ao)=_
  rw[e3]
 rw[e1,e2] at h
 exact h
theorem JC{n:Aa}{ow:List Int}(hv:Ax n)(h2:2<=n.bs.length)(hw:Bv ⟨ow,kQ n⟩=true)(hl:ow.length=Ar n):rdE n ⟨kC n,kB n,[0,1]⟩ ⟨ow,kQ n⟩ (List.replicate n.ss.length false)=0:=by
 unfold rdE
 rw[Hb hv (kS2_ok hv h2),hw,Ti (by rfl),Ti ⟨by rw[hl];exact(kC_len n).symm,TG ..⟩]
theorem krdB{n:Aa}{ow:List Int}{g:List (List Int)}(hv:Ax n)(h2:2<=n.bs.length)(hw:Bv ⟨ow,kQ n⟩=true)(hl:ow.length=Ar n):rdB n ⟨kC n,kB n,[0,1]⟩ ⟨ow,kQ n⟩ g (List.replicate n.ss.length false)=!(ow.getD 0 0 != -1||CV g 0):=by
 unfold rdB
 rw[Ti (JC hv h2 hw hl)]
 unfold rdC
 simp only[P8]
 show(match ow.getD 0 0 != -1||false||CV g 0 with | true=>false | false=>_)=_
 rw[Bool.or_false]
 cases ow.getD 0 0 != -1||CV g 0 with
 | true=>rfl
 | false=>exact rdL_no (fun i=>by rw[Tl,TM];split<;>rfl) _ _
theorem boR(k:Nat):List.replicate k (AV.bool false)=boL (List.replicate k false):=by unfold boL;rw[List.map_replicate]
theorem rdy1_x{n:Aa}(hv:Ax n)(hrw:Rows n.nx)(h2:2<=n.bs.length):CT Try.prog 20 [] [Ad n,sgA ⟨kC n,kB n,[0,1]⟩,lkA ⟨kP n,kQ n⟩,.nils,.lst (List.replicate (List.map sA n.ss).length (.bool false))] [] (.tup [.bool false,.int .i64 0]):=by
 have h:=Jh (n:=n) (kC n) (kB n) [0,1] (kP n) (kQ n) [] (List.replicate n.ss.length false) hrw (by decide) (by intro r hr;cases hr)
 have h1:=BV hv
 rw[JC hv h2 (KY hv) (Kl n),krdB hv h2 (KY hv) (Kl n)] at h
 rw[show (kP n).getD 0 0=0 from NL (by rw[Dm];omega)] at h
 rw[Tn,boR]
 exact h.nilArgs rfl
theorem rdy2_x{n:Aa}(hv:Ax n)(hrw:Rows n.nx)(h2:2<=n.bs.length):CT Try.prog 20 [] [Ad n,sgA ⟨kC n,kB n,[0,1]⟩,lkA ⟨kO n,kQ n⟩,.nils,.lst (List.replicate (List.map sA n.ss).length (.bool false))] [] (.tup [.bool true,.int .i64 0]):=by
 have h:=Jh (n:=n) (kC n) (kB n) [0,1] (kO n) (kQ n) [] (List.replicate n.ss.length false) hrw (by decide) (by intro r hr;cases hr)
 have h1:=BV hv
 rw[JC hv h2 (Hr hv) (Dm n),krdB hv h2 (Hr hv) (Dm n)] at h
 rw[HU (by omega)] at h
 rw[Tn,boR]
 exact h.nilArgs rfl
theorem rdy3_x{n:Aa}(hv:Ax n)(hrw:Rows n.nx)(h2:2<=n.bs.length):CT Try.prog 20 [] [Ad n,sgA ⟨kC n,kB n,[0,1]⟩,lkA ⟨kO n,kQ n⟩,.lst (gL [[0]]),.lst (List.replicate (List.map sA n.ss).length (.bool false))] [] (.tup [.bool false,.int .i64 0]):=by
 have h:=Jh (n:=n) (kC n) (kB n) [0,1] (kO n) (kQ n) [[0]] (List.replicate n.ss.length false) hrw (by decide) (by intro r hr;rw[Tb.1 hr];decide)
 have h1:=BV hv
 have ea:CV [[0]] 0=true:=by unfold CV;rw[List.any_cons,show Ak [0] 0=true from Dy.2 (by simp)];rfl
 rw[JC hv h2 (Hr hv) (Dm n),krdB hv h2 (Hr hv) (Dm n),ea,Bool.or_true] at h
 rw[Tn,boR]
 exact h
@[irreducible] def kN:Aa:=Fx [3] 0 5
theorem kN_ok:EB kN:=by unfold kN;exact(NG (by decide) (by decide)).1
theorem kN_nb:2<=kN.bs.length:=by
 have h:=net_nb (L:=[3]) (kk:=0) (most:=5) (by decide) (by decide)
 have e:Ag [3] 0 5=3:=by decide +kernel
 unfold kN
 omega
theorem kN_ct:CT Try.prog 28 [some (Ae [3] 0)] [.ptr 0 0 0,.int .i64 5] [some (Ae [3] (HL [3] 0 5))] (Ad kN):=by unfold kN;exact net_ct [3] 0 5 (by decide) (by decide)
def k20St:Empty->St
 | x=>x.elim
def k20Hd:Empty->Nat
 | x=>x.elim
def Lz:Option (Empty⊕Ret):=
 br (decide (iN (List.map bA kN.bs).length<2))
 (some (.inr ([],bV false)))
 (gu (Ax kN) <|
  gu (Rows kN.nx) <|
  gu ((2:Nat)<=kN.bs.length) <|
  gu ((1:Int) * iN (List.map sA kN.ss).length<=(281474976710656:Int)) <|
  gu (iN (List.map sA kN.ss).length<=(9223372036854775807:Int)) <|
  some (.inr ([],bV true)))
def k20Step:Empty->Option (Empty⊕Ret)
 | x=>x.elim
theorem k20En_ok(o:Empty⊕Ret)(h:Lz=some o):Arr Try.prog Try.f12 0 (k20St) k20Hd (zB Try.f12) [] {n:=Try.f12.ntmps,fr:=AA 0 ([]),hp:=([])} o:=
 Scr.ok h mix (
 have c0:=kN_ct;
 .rn 2 [] [(15,AV.lst [])] [(18,hK c0 [0] [])] [] (u2 (aj (ak (u2 (u2 (aj (ak (k3 (al (c0)))) (ak (al (k2 n11))))))) (al (u2 (u2 (u2 s2)))))) <|
 .br (fun a0=>
 .rt [45] [] [] [] [] [] (aj (aj a0 s2) t2))
 (fun a0=>
 .gu fun a1=>
 .gu fun a2=>
 have c1:=n14_x a1 a2;
 have c2:=an0_x a1 a2;
 .rn 1 [44] [] [(25,hK c1 [] []),(31,hK c2 [] [])] [] (aj a0 (aj (u2 (aj (ak (aj t9 (al (c1)))) (u2 (u2 (u2 (ak (aj (k2 n11) s2))))))) (al (u2 (u2 (aj (k2 (aj t9 (aj t4 (ak (al (c2)))))) (u2 (u2 (u2 (aj (k2 (show Nat.le (nat_lit 1) [AV.agg [AV.lst (boL (kC kN)),AV.lst (List.map (iv) (kB kN)),AV.lst []]].length from(nL rfl))) s2)))))))))) <|
 .gu fun a3=>
 have c3:=an1_x a1 a2 a3;
 have c4:=Gi a1;
 have c5:=n19_x a1;
 have c6:=own_x a1;
 .rn 2 [] [] [(37,hK c3 [] []),(42,hK c4 [] []),(43,hK c5 [] []),(48,hK c6 [] [])] [] (aj (u2 (u2 (aj (k2 (aj t9 (aj t4 (ak (al (c3)))))) (u2 (u2 (u2 (aj (k2 (show Nat.le (nat_lit 1) [AV.agg [AV.lst (boL (kC kN)),AV.lst (List.map (iv) (kB kN)),AV.lst [iv (0:Int)]]].length from(nL rfl))) s2))))))) (aj (u2 (aj (ak (aj t9 (al (c4)))) (aj (k2 (al (c5))) (u2 (u2 (u2 (ak (aj (k2 n11) s2)))))))) (al (u2 (aj (ak (aj t3 (k2 (al (c6))))) (u2 (u2 (u2 (al (k2 (show Nat.le (nat_lit 1) [AV.agg [AV.lst (List.map (iv) (kO kN)),AV.lst (gL (kQ kN))]].length from(nL rfl)))))))))))) <|
 .gu fun a4=>
 .gu fun a5=>
 have c7:=rdy1_x a1 a2 a3;
 have c8:=rel_x a1;
 have c9:=rdy2_x a1 a2 a3;
 have c10:=rdy3_x a1 a2 a3;
 .rt [] [(54,AV.lst []),(80,AV.lst []),(81,AV.lst [])] [(60,hK c7 [] []),(65,hK c8 [] []),(73,hK c9 [] []),(83,hK c10 [] [])] [] [] [] (aj (aj (u2 (u2 (u2 (aj (k2 (aj (show(0:Int)<=iN (List.map sA kN.ss).length from(Int.natCast_nonneg _)) (aj (show iN (List.map sA kN.ss).length<=iN (List.map sA kN.ss).length by omega) (aj a4 a5)))) s2)))) (aj (u2 (u2 (u2 (u2 (aj (ak (k3 (aj t9 (aj t4 (aj t3 (k2 (al (c7)))))))) (u2 (u2 (u2 (u2 s2))))))))) (aj (u2 (aj (ak (aj t3 (ak (al (c8))))) (u2 (u2 (u2 (al (k2 (show Nat.le (nat_lit 1) [AV.agg [AV.lst (List.map (iv) (kP kN)),AV.lst (gL (kQ kN))]].length from(nL rfl))))))))) (aj (u2 (u2 (u2 (u2 (aj (ak (k3 (aj t9 (aj t4 (aj t3 (k2 (al (c9)))))))) (u2 (u2 (u2 (u2 s2))))))))) (aj (u2 (u2 (u2 (ak (u2 (u2 (aj (k5 (aj t9 (aj t4 (aj t3 (k2 (al (c10))))))) (u2 (u2 (u2 (u2 s2))))))))))) (al (u2 (u2 (u2 (aj t3 (aj t3 (aj t3 (u2 (aj t3 (aj t3 (aj t3 (u2 (aj t3 (aj t3 (aj t3 (u2 (aj t3 (aj t3 (aj t3 (u2 (aj t3 (aj t3 (aj t3 (u2 (aj t3 (aj t3 (aj t3 (u2 (aj t3 (aj t3 (u2 (aj t3 (aj t3 (aj t3 s2))))))))))))))))))))))))))))))))))))))) t2))) (by kernel_rfl)
theorem k20_ct(r:Ret)(h:Al (k20Step) (Lz) r):CT Try.prog 12 ([]) ([]) r.1 r.2:=
 CT.mach (fn:=Try.f12) (c:=zB Try.f12) (S:=k20St) (hd:=k20Hd) Try.func12 (by kernel_rfl) (nL rfl)
  (fun s o ho=>match s,ho with
   | x,_=>x.elim)
  (fun o ho=>k20En_ok o ho) h
theorem kn_c:CT Try.prog 12 [] [] [] (.bool true):=by
 refine k20_ct ([],_) (.val ?_)
 have h1:=kN_ok
 have h2:=kN_nb
 have h3:=h1.ln
 unfold Lz
 rw[Af (Au (by rw[Tn];simp only[iN];omega)),Ab h1.v,Ab h1.rows,Ab h2,Ab (by rw[Tn];simp only[iN];omega),Ab (by rw[Tn];simp only[iN];omega)]
inductive Ec where
 | l0 (v0:Int) (v1:Nat) (v2:Ac)
def IQ(l:List Int)(kk:Nat)(n:Aa):Ec->St
 | .l0 v0 v1 v2=>St.mk 58 [(0,AV.ptr 0 0 0),(3,AV.ptr 1 0 0),(4,AV.ptr 2 0 0),(5,AV.ptr 3 0 0),(7,iv v0)] [some (Ae l v1),some (bK [Ad n] 8),some (bK [AV.agg [AV.nils,AV.nils,AV.nils]] 3),some (bK [AV.agg [AV.lst (List.map bV v2.cl),AV.lst (List.map (iv) v2.bw),AV.lst (List.map (iv) v2.pe)]] 3)]
def KG:Ec->Nat
 | .l0 _ _ _=>0
def MV(l:List Int)(kk:Nat)(n:Aa):Option (Ec⊕Ret):=
 gu (Rows n.nx) <|
 gu (kk<9223372036854775807) <|
 some (.inl (.l0 (Ag l kk 8) (kk+1) (nsS n)))
def Hj(l:List Int)(kk:Nat)(n:Aa)(v0:Int)(v1:Nat)(v2:Ac):Option (Ec⊕Ret):=
 br (decide (0<v0))
 (gu (v1<9223372036854775807) <|
  gu (v1+1<9223372036854775807) <|
  br (Ag l (v1+1) 4==0)
  (gu (v1+1+1<9223372036854775807) <|
   gu (Rows n.nx) <|
   br (anE n v2 (Ag l (v1+1+1) (iN (List.map bA n.bs).length))==0)
   (some (.inl (.l0 (i64.wrap (v0-1)) (v1+1+1+1) (anO n v2 (Ag l (v1+1+1) (iN (List.map bA n.bs).length))))))
   (some (.inl (.l0 (i64.wrap (v0-1)) (v1+1+1+1) v2))))
  (br (Ag l (v1+1) 4==1)
   (gu (v1+1+1<9223372036854775807) <|
    gu (Rows n.nx) <|
    br (anE n v2 (Ag l (v1+1+1) (iN (List.map bA n.bs).length))==0)
    (some (.inl (.l0 (i64.wrap (v0-1)) (v1+1+1+1) (anO n v2 (Ag l (v1+1+1) (iN (List.map bA n.bs).length))))))
    (some (.inl (.l0 (i64.wrap (v0-1)) (v1+1+1+1) v2))))
   (br (Ag l (v1+1) 4==2)
    (gu (v1+1+1<9223372036854775807) <|
     gu (v2.cl.length<=1000000) <|
     gu (v2.bw.length<=1000000) <|
     gu (v2.pe.length<=1000000) <|
     gu (0<=Ag l v1 (iN (List.map bV v2.cl).length)) <|
     gu (Ag l v1 (iN (List.map bV v2.cl).length)<iN v2.cl.length) <|
     gu (Ag l v1 (iN (List.map bV v2.cl).length)<iN v2.bw.length) <|
     some (.inl (.l0 (i64.wrap (v0-1)) (v1+1+1+1) (clS v2 (Ag l v1 (iN (List.map bV v2.cl).length)) (i64.wrap (Ag l (v1+1+1) 4-1))))))
    (gu (v2.cl.length<=1000000) <|
     gu (v2.bw.length<=1000000) <|
     gu (v2.pe.length<=1000000) <|
     gu (0<=Ag l v1 (iN (List.map bV v2.cl).length)) <|
     gu (Ag l v1 (iN (List.map bV v2.cl).length)<iN v2.cl.length) <|
     gu (Ag l v1 (iN (List.map bV v2.cl).length)<iN v2.bw.length) <|
     some (.inl (.l0 (i64.wrap (v0-1)) (v1+1+1) (opS v2 (Ag l v1 (iN (List.map bV v2.cl).length)))))))))
 (some (.inr ([some (bK [AV.agg [AV.lst (List.map iV l),iV (iN v1)]] 2)],AV.agg [AV.lst (List.map bV v2.cl),AV.lst (List.map iV v2.bw),AV.lst (List.map iV v2.pe)])))
def PU(l:List Int)(kk:Nat)(n:Aa):Ec->Option (Ec⊕Ret)
 | .l0 v0 v1 v2=>Hj l kk n v0 v1 v2
theorem madEn_ok(l:List Int)(kk:Nat)(n:Aa)(o:Ec⊕Ret)(h:MV l kk n=some o):Arr Try.prog Try.f34 1 (IQ l kk n) KG (zB Try.f34) [] {n:=Try.f34.ntmps,fr:=AA 0 ([.ptr 0 0 0,Ad n]),hp:=([some (Ae l kk)])} o:=
 Scr.ok h mix (
 .rn 0 [] [] [] [] (al (u2 t2)) <|
 .gu fun a0=>
 have c0:=Ob a0;
 .rn 0 [] [] [(13,hK c0 [] [])] [] (al (u2 (aj (ak (aj t9 (al (c0)))) (u2 (u2 (u2 (ak (aj (k2 n11) s2)))))))) <|
 .gu fun a1=>
 have c1:=AI l (kk) (8) a1;
 .lp [] [] [(17,hK c1 [0] [])] [] [] [0,1,2,3] [0,3,4,5,7] (aj (al (u2 (aj (ak (k3 (al (c1)))) s2))) (ak t9))) (by kernel_rfl)
theorem madS0_ok(l:List Int)(kk:Nat)(n:Aa)(v0:Int)(v1:Nat)(v2:Ac)(o:Ec⊕Ret)(h:Hj l kk n v0 v1 v2=some o):Arr Try.prog Try.f34 1 (IQ l kk n) KG (Av Try.f34 0) (.rnd (Av Try.f34 0)::AG Try.f34 0) (IQ l kk n (.l0 v0 v1 v2)) o:=
 Scr.ok h mix (
 .rn 0 [] [] [] [] (al (u2 s2)) <|
 .br (fun a0=>
 .gu fun a1=>
 have c0:=AI l v1 (iN (List.map bV v2.cl).length) a1;
 .rn 0 [39] [] [(26,hK c0 [0] [])] [] (aj a0 (al (u2 (u2 (u2 (u2 (aj (k5 (al (c0))) s2))))))) <|
 .gu fun a2=>
 have c1:=AI l (v1+1) (4) a2;
 .rn 1 [] [] [(28,hK c1 [0] [])] [] (aj (u2 (al (ak (k3 (al (c1)))))) (al (u2 s2))) <|
 .br (fun a3=>
  .gu fun a4=>
  .gu fun a5=>
  have c2:=AI l (v1+1+1) (iN (List.map bA n.bs).length) a4;
  have c3:=Mm (v2.cl) (v2.bw) (v2.pe) (Ag l (v1+1+1) (iN (List.map bA n.bs).length)) a5;
  .rn 1 [65] [] [(42,hK c2 [0] []),(43,hK c3 [] [])] [] (aj a3 (ak (aj (u2 (u2 (u2 (u2 (u2 (u2 (aj (k5 (al (c2))) (aj (k3 (aj t9 (aj t4 (ak (al (c3)))))) (u2 (u2 (u2 (ak (aj (k2 n11) s2))))))))))))) (al (u2 s2))))) <|
  .br (fun a6=>
  .lp [95] [] [] [] [] [0,1,2,3] [0,3,4,5,7] (aj (aj a6 (aj (u2 (al (k2 (show Nat.le 1 [AV.agg [AV.lst (List.map bV v2.cl),AV.lst (List.map (iv) v2.bw),AV.lst (List.map (iv) v2.pe)]].length from(nL rfl))))) (al (u2 (u2 s2))))) (ak t9)))
  (fun a6=>
  .lp [94] [] [] [] [] [0,1,2,3] [0,3,4,5,7] (aj (aj a6 (al (u2 (u2 s2)))) (ak t9))))
 (fun a3=>
  .rn 0 [64] [] [] [] (aj a3 (al (u2 s2))) <|
  .br (fun a4=>
  .gu fun a5=>
  .gu fun a6=>
  have c2:=AI l (v1+1+1) (iN (List.map bA n.bs).length) a5;
  have c3:=Mm (v2.cl) (v2.bw) (v2.pe) (Ag l (v1+1+1) (iN (List.map bA n.bs).length)) a6;
  .rn 1 [65] [] [(42,hK c2 [0] []),(43,hK c3 [] [])] [] (aj a4 (aj (u2 (u2 (u2 (u2 (u2 (u2 (aj (k5 (al (c2))) (aj (k3 (aj t9 (aj t4 (ak (al (c3)))))) (u2 (u2 (u2 (ak (aj (k2 n11) s2))))))))))))) (al (u2 s2)))) <|
  .br (fun a7=>
   .lp [95] [] [] [] [] [0,1,2,3] [0,3,4,5,7] (aj (aj a7 (aj (u2 (al (k2 (show Nat.le 1 [AV.agg [AV.lst (List.map bV v2.cl),AV.lst (List.map (iv) v2.bw),AV.lst (List.map (iv) v2.pe)]].length from(nL rfl))))) (al (u2 (u2 s2))))) (ak t9)))
  (fun a7=>
   .lp [94] [] [] [] [] [0,1,2,3] [0,3,4,5,7] (aj (aj a7 (al (u2 (u2 s2)))) (ak t9))))
  (fun a4=>
  .rn 0 [64] [] [] [] (aj a4 (al (u2 s2))) <|
  .br (fun a5=>
   .gu fun a6=>
   .gu fun a7=>
   .gu fun a8=>
   .gu fun a9=>
   .gu fun a10=>
   .gu fun a11=>
   .gu fun a12=>
   have c2:=AI l (v1+1+1) (4) a6;
   have c3:=Ns (v2.cl) (v2.bw) (v2.pe) (Ag l v1 (iN (List.map bV v2.cl).length)) (i64.wrap (Ag l (v1+1+1) 4-1)) a7 a8 a9 a10 a11 a12;
   .lp [99] [] [(54,hK c2 [0] []),(56,hK c3 [] [])] [] [] [0,1,2,3] [0,3,4,5,7] (aj (aj a5 (aj (u2 (u2 (u2 (aj (ak (k3 (al (c2)))) (u2 (aj (k3 (aj t4 (k2 (al (c3))))) (al (k2 (show Nat.le 1 [AV.agg [AV.lst (List.map bV v2.cl),AV.lst (List.map (iv) v2.bw),AV.lst (List.map (iv) v2.pe)]].length from(nL rfl)))))))))) (al (u2 (u2 s2))))) (ak t9)))
  (fun a5=>
   .gu fun a6=>
   .gu fun a7=>
   .gu fun a8=>
   .gu fun a9=>
   .gu fun a10=>
   .gu fun a11=>
   have c2:=PV (v2.cl) (v2.bw) (v2.pe) (Ag l v1 (iN (List.map bV v2.cl).length)) a6 a7 a8 a9 a10 a11;
   .lp [98] [] [(31,hK c2 [] [])] [] [] [0,1,2,3] [0,3,4,5,7] (aj (aj a5 (aj (u2 (u2 (aj (k2 (aj t4 (ak (al (c2))))) (al (k2 (show Nat.le 1 [AV.agg [AV.lst (List.map bV v2.cl),AV.lst (List.map (iv) v2.bw),AV.lst (List.map (iv) v2.pe)]].length from(nL rfl))))))) (al (u2 (u2 s2))))) (ak t9))))))
 (fun a0=>
 .rt [38] [] [] [] [0] [] (aj (aj a0 (al (u2 (al (k2 n11))))) (aj t4 t2)))) (by kernel_rfl)
theorem mad_ct(l:List Int)(kk:Nat)(n:Aa)(r:Ret)(h:Al (PU l kk n) (MV l kk n) r):CT Try.prog 34 ([some (Ae l kk)]) ([.ptr 0 0 0,Ad n]) r.1 r.2:=
 CT.mach (fn:=Try.f34) (c:=zB Try.f34) (S:=IQ l kk n) (hd:=KG) Try.func34 (by kernel_rfl) (nL rfl)
  (fun s o ho=>match s,ho with
   | .l0 v0 v1 v2,ho=>madS0_ok l kk n v0 v1 v2 o ho
  )
  (fun o ho=>madEn_ok l kk n o ho) h
theorem wrD{a:Int}(h1:0<=a)(h2:a<=1000):i64.wrap (a-1)=a-1:=NH (by omega) (by omega)
theorem mad_go{l:List Int}{kk:Nat}{n:Aa}(hv:Ax n)(hrw:Rows n.nx):∀(j k1:Nat) (s:Ac),j<=8->k1+4 * j<=1000000->A7 n s->
  ∃(s':Ac) (k2:Nat),A7 n s'/\k2<=k1+4 * j/\Al (PU l kk n) (some (.inl (.l0 (j:Int) k1 s))) ([some (Ae l k2)],sgA s'):=by
 have hcel:=BV hv
 have h24:=hv.nb24
 intro j
 induction j with
 | zero=>
  intro k1 s _ _ hs
  refine⟨s,k1,hs,by omega,.to (show Hj l kk n _ k1 s=_ from ?_) (.ret _)⟩
  unfold Hj
  rw[Af (Au (by omega))];rfl
 | succ j ih=>
  intro k1 s hj hk hs
  have lc:=hs.lc
  have lb:=hs.lb
  have pl:=hs.pl
  have hdec:i64.wrap (((j+1:Nat):Int)-1)=(j:Int):=by rw[wrD (by omega) (by omega)];omega
  have r1:=AP l k1 (iN (List.map AV.bool s.cl).length) (by rw[Tn];simp only[iN];omega) (by rw[Tn];simp only[iN];omega)
  have r2:=AP l (k1+1+1) 4 (by omega) (by omega)
  have hx:Ag l k1 (iN (List.map AV.bool s.cl).length)<iN s.cl.length:=by have:=r1.2;rw[Tn] at this ⊢;exact this
  have hstep:∃(s2:Ac) (k2:Nat),A7 n s2/\k2<=k1+3/\Hj l kk n ((j+1:Nat):Int) k1 s=some (.inl (.l0 (j:Int) k2 s2)):=by
   unfold Hj
   rw[Ah (AB (by omega)),Ab (by omega),Ab (by omega)]
   have hann:∀{x:Int},∃(s2:Ac) (k2:Nat),A7 n s2/\k2<=k1+3/\(gu (k1+1+1<9223372036854775807) <| gu (Rows n.nx) <|
     br (anE n s x==0) (some (.inl (.l0 (i64.wrap (((j+1:Nat):Int)-1)) (k1+1+1+1) (anO n s x)))) (some (.inl (.l0 (i64.wrap (((j+1:Nat):Int)-1)) (k1+1+1+1) s))):Option (Ec⊕Ret))=some (.inl (.l0 (j:Int) k2 s2)):=by
    intro x
    rw[Ab (by omega),Ab hrw,hdec]
    by_cases h0:anE n s x=0
    .refine⟨anO n s x,k1+1+1+1,?_,by omega,by rw[Ah (beq_iff_eq.2 h0)]⟩
     obtain⟨_,hx,hsh⟩:=O2 h0
     have hg:=Ka hv hs x.toNat
     rw[hsh,TN hx.1] at hg
     have hg2:=hg.symm
     rw[Bool.or_eq_false_iff] at hg2
     unfold anO
     rw[Ti h0]
     exact Lk hs hx hg2.1 fun hm=>by rw[Dy.2 hm] at hg2;cases hg2.2
    .exact⟨s,k1+1+1+1,hs,by omega,by rw[Af (TX.2 h0)]⟩
   cases e1:Ag l (k1+1) 4==0 with
   | true=>rw[Ah rfl];exact hann
   | false=>
   rw[Af rfl]
   cases e2:Ag l (k1+1) 4==1 with
   | true=>rw[Ah rfl];exact hann
   | false=>
   rw[Af rfl]
   cases e3:Ag l (k1+1) 4==2 with
   | true=>
    refine⟨clS s (Ag l k1 (iN (List.map AV.bool s.cl).length)) (Ag l (k1+1+1) 4-1),k1+1+1+1,clS_ok hs ⟨r1.1,by simp only[iN] at hx ⊢;omega⟩ ⟨by omega,by omega⟩,by omega,?_⟩
    rw[Ah rfl,Ab (by omega),Ab (by omega),Ab (by omega),Ab (by omega),Ab r1.1,Ab hx,Ab (by rw[lb,<-lc];exact hx),hdec,wrD r2.1 (by omega)]
   | false=>
    refine⟨opS s (Ag l k1 (iN (List.map AV.bool s.cl).length)),k1+1+1,opS_ok hs ⟨r1.1,by simp only[iN] at hx ⊢;omega⟩,by omega,?_⟩
    rw[Af rfl,Ab (by omega),Ab (by omega),Ab (by omega),Ab r1.1,Ab hx,Ab (by rw[lb,<-lc];exact hx),hdec]
  obtain⟨s2,k2,ok2,hk2,he⟩:=hstep
  obtain⟨s',k',ok',hk',hm⟩:=ih k2 s2 (by omega) (by omega) ok2
  exact⟨s',k',ok',by omega,.to he hm⟩
theorem Na(l:List Int)(kk:Nat)(n:Aa):∃p:Ac×Nat,Ax n->Rows n.nx->kk<=5000->A7 n p.1/\p.2<=kk+40/\CT Try.prog 34 [some (Ae l kk)] [.ptr 0 0 0,Ad n] [some (Ae l p.2)] (sgA p.1):=by
 by_cases h:Ax n/\Rows n.nx/\kk<=5000
 .obtain⟨hv,hrw,hk⟩:=h
  have r:=AP l kk 8 (by omega) (by omega)
  obtain⟨j,hj⟩:∃j:Nat,Ag l kk 8=(j:Int):=⟨(Ag l kk 8).toNat,by omega⟩
  have e1:nsS n=Ii n:=by unfold nsS;rw[CS.2 hv];rfl
  obtain⟨s',k',ok',hk',hm⟩:=mad_go (l:=l) (kk:=kk) hv hrw j (kk+1) (Ii n) (by omega) (by omega) (Pq n)
  refine⟨(s',k'),fun _ _ _=>⟨ok',by show k'<=_;omega,?_⟩⟩
  refine mad_ct l kk n ([_],_) ?_
  unfold MV
  rw[Ab hrw,Ab (by omega),e1,hj]
  exact hm
 .exact⟨(⟨[],[],[]⟩,0),fun a b c=>absurd ⟨a,b,c⟩ h⟩
@[irreducible] def mdS(l:List Int)(kk:Nat)(n:Aa):Ac:=(Classical.choose (Na l kk n)).1
@[irreducible] def mdK(l:List Int)(kk:Nat)(n:Aa):Nat:=(Classical.choose (Na l kk n)).2
theorem PJ{l:List Int}{kk:Nat}{n:Aa}(hv:Ax n)(hrw:Rows n.nx)(hk:kk<=5000):A7 n (mdS l kk n)/\mdK l kk n<=kk+40/\CT Try.prog 34 [some (Ae l kk)] [.ptr 0 0 0,Ad n] [some (Ae l (mdK l kk n))] (sgA (mdS l kk n)):=by
 unfold mdS mdK;exact T0 (Na l kk n) hv hrw hk
theorem md_c(l:List Int)(kk:Nat)(n:Aa)(hv:Ax n)(hrw:Rows n.nx)(hk:kk<=5000):CT Try.prog 34 [some (Ae l kk)] [.ptr 0 0 0,Ad n] [some (Ae l (mdK l kk n))] (sgA ⟨(mdS l kk n).cl,(mdS l kk n).bw,(mdS l kk n).pe⟩):=(PJ hv hrw hk).2.2
theorem val_nx{n:Aa}(hv:Ax n):DP n.nx=true:=by
 have h24:=hv.nb24
 have hl:=hv.nx
 have hb:DI n.nx=false:=by
  unfold DI
  rw[HA (fun v _ h1=>?_)];rfl
  have hb:=hv.blk v _ (Tk (show v<n.bs.length by omega))
  have:=hb.nx
  rw[MT] at this
  unfold DA
  rw[hl]
  cases h:(fnd (AJ (n.nx.getD v []) n.bs.length v) 0 (n.nx.getD v []).length).isSome with
  | false=>rfl
  | true=>rw[h] at this;cases this
 unfold DP
 rw[hb,Au (show ¬24<n.nx.length by omega)];rfl
theorem bo_on1(sh:List Bool):∀(e:AV),e∈boL sh->e.cells.length=1:=fun e he=>by
 unfold boL at he;obtain⟨b,_,rfl⟩:=TT.1 he;rfl
theorem Ho{n:Nat}{es:List AV}(h:∀x∈es,ShV Try.prog n 3 x):∃L:List Int,es=L.map (AV.int .i64):=by
 induction es with
 | nil=>exact⟨[],rfl⟩
 | cons x es ih=>
  obtain⟨L,rfl⟩:=ih fun y hy=>h y (TD _ hy)
  obtain⟨i,_,rfl⟩:=(h x (by simp)).intD Try.underlying3
  exact⟨i::L,rfl⟩
theorem set_self{α:Type}{l:List α}{i:Nat}{v d:α}(h:l.getD i d=v)(hi:i<l.length):l.set i v=l:=by
 refine List.ext_getElem? fun j=>?_
 rw[Ue]
 by_cases e:i=j
 .subst e;rw[Ti rfl,Ti hi,Be d hi,h]
 .rw[Tj e]
theorem wo_self{l:List Int}{x:Int}(h:x∉l):wo l x=l:=by
 unfold wo
 exact List.filter_eq_self.2 fun y hy=>T9.2 fun e=>h (e ▸ hy)
theorem clo_x{n:Aa}(cl:List Bool)(bw pe:List Int)(c d:Int)(hrw:Rows n.nx)(hv:Ax n)(hs:A7 n ⟨cl,bw,pe⟩)(hc:0<=c/\c<(Ar n:Int))(hd : -1<=d/\d<8):
  CT Try.prog 21 [] [Ad n,sgA ⟨cl,bw,pe⟩,.int .i64 c,.int .i64 d] [] (.tup [sgA (clS ⟨cl,bw,pe⟩ c d),.int .i64 0]):=by
 obtain⟨_,_,l1,l2,l3,l4,l5⟩:=B0 (Hb hv hs)
 have lc:cl.length=Ar n:=hs.lc
 have lb:bw.length=Ar n:=hs.lb
 have h48:=(BV hv).1
 have h24:=hv.nb24
 have e0:scE n ⟨cl,bw,pe⟩ c=0:=D9.2 ⟨Hb hv hs,hc.1,by show c<(cl.length:Int);omega⟩
 have hbl:(boL cl).length=cl.length:=BW cl
 refine Nt n ⟨cl,bw,pe⟩ c d ([],_) (.val ?_)
 unfold Jb
 simp only at l1 l2 l3 l4 l5 ⊢
 rw[Ab hrw,e0,Af (by rfl),Af (Au (by omega)),Af (Au (by omega)),Ab (by omega),Ab (by omega),Ab (by omega),Ab hc.1,Ab (by simp only[iN];omega),TB,A4 (Be true (show c.toNat<cl.length by omega))]
 unfold clS
 simp only
 cases h:cl.getD c.toNat true with
 | false=>
  rw[Ah (show(!false)=true from rfl),Ab (show Nat.le c.toNat.succ (boL cl).length from by show c.toNat+1<=_;omega),Ab (by simp only[iN];omega),Ab (show Nat.le c.toNat.succ (List.map (AV.int .i64) bw).length from by show c.toNat+1<=_;rw[Tn];omega),Tj (by simp)]
  unfold sgA boL lI
  rw[Ud,Ud]
 | true=>
  have hp:c∉pe:=fun hm=>by
   have:=(hs.pb c hm).2.2
   simp only at this
   rw[h] at this;cases this
  rw[Af (show(!true)=false from rfl),Ti rfl,set_self h (by omega),wo_self hp];rfl
theorem opn_x{n:Aa}(cl:List Bool)(bw pe:List Int)(c:Int)(hrw:Rows n.nx)(hv:Ax n)(hs:A7 n ⟨cl,bw,pe⟩)(hc:0<=c/\c<(Ar n:Int)):
  CT Try.prog 23 [] [Ad n,sgA ⟨cl,bw,pe⟩,.int .i64 c] [] (.tup [sgA (opS ⟨cl,bw,pe⟩ c),.int .i64 0]):=by
 obtain⟨_,_,l1,l2,l3,l4,l5⟩:=B0 (Hb hv hs)
 have lc:cl.length=Ar n:=hs.lc
 have lb:bw.length=Ar n:=hs.lb
 have h48:=(BV hv).1
 have h24:=hv.nb24
 have e0:scE n ⟨cl,bw,pe⟩ c=0:=D9.2 ⟨Hb hv hs,hc.1,by show c<(cl.length:Int);omega⟩
 have hbl:(boL cl).length=cl.length:=BW cl
 refine P5 n ⟨cl,bw,pe⟩ c ([],_) (.val ?_)
 unfold IH
 simp only at l1 l2 l3 l4 l5 ⊢
 rw[Ab hrw,e0,Af (by rfl),Ab (by omega),Ab (by omega),Ab (by omega),Ab hc.1,Ab (by simp only[iN];omega),TB,Ab (show Nat.le c.toNat.succ (boL cl).length from by show c.toNat+1<=_;omega),Ab (by simp only[iN];omega),Ab (show Nat.le c.toNat.succ (List.map (AV.int .i64) bw).length from by show c.toNat+1<=_;rw[Tn];omega)]
 unfold opS sgA boL lI
 simp only
 rw[Ud,Ud]
@[irreducible] def nlJ(c:Int):Ao:=nlS c
theorem n19_j(c:Int):CT Try.prog 17 [] [.int .i64 c] [] (.tup [lkA (nlJ c),.int .i64 (nlE c)]):=by unfold nlJ;exact n19_c c
@[irreducible] def owJ(l:Ao)(r c:Int):Ao:=owO l r c
theorem own_j(ow:List Int)(qu:List (List Int))(r c:Int):CT Try.prog 19 [] [lkA ⟨ow,qu⟩,.int .i64 r,.int .i64 c] [] (.tup [lkA (owJ ⟨ow,qu⟩ r c),.int .i64 (owE ⟨ow,qu⟩ r c)]):=by unfold owJ;exact own_c ow qu r c
def clE(n:Aa)(s:Ac)(c d:Int):Int:=if scE n s c=0 then (if d < -1\/8<=d then 19 else 0) else scE n s c
def clO(n:Aa)(s:Ac)(c d:Int):Ac:=if clE n s c d=0 then clS s c d else ⟨[],[],[]⟩
def opO(n:Aa)(s:Ac)(c:Int):Ac:=if scE n s c=0 then opS s c else ⟨[],[],[]⟩
theorem IV{e:Int}(he:e≠0)(s:Ac):(.tup [sgA (if e=0 then s else ⟨[],[],[]⟩),.int .i64 e]:AV)=wk2 (.tup [.agg [.nils,.nils,.nils],.int .i64 e]):=by rw[Tj he];rfl
theorem J1{n:Aa}{s:Ac}{c:Int}(h:AK n s=true):scE n s c=if c<0\/(s.cl.length:Int)<=c then 19 else 0:=by unfold scE;rw[Ti h]
theorem Le{n:Aa}{s:Ac}{c d:Int}(h:clE n s c d=0):scE n s c=0/\-1<=d/\d<8:=by
 unfold clE at h
 split at h
 .split at h
  .cases h
  .exact⟨by assumption,by omega⟩
 .exact absurd h (by assumption)
theorem clo_c{n:Aa}(cl:List Bool)(bw pe:List Int)(c d:Int)(hrw:Rows n.nx):CT Try.prog 21 [] [Ad n,sgA ⟨cl,bw,pe⟩,.int .i64 c,.int .i64 d] [] (.tup [sgA (clO n ⟨cl,bw,pe⟩ c d),.int .i64 (clE n ⟨cl,bw,pe⟩ c d)]):=by
 by_cases h0:clE n ⟨cl,bw,pe⟩ c d=0
 .obtain⟨h1,h2,h3⟩:=Le h0
  obtain⟨h,h4,h5⟩:=D9.1 h1
  obtain⟨hv,hS,_⟩:=B0 h
  have:=hS.lc
  unfold clO
  rw[Ti h0,h0]
  exact clo_x cl bw pe c d hrw hv hS ⟨h4,by simp only at h5 this;omega⟩ ⟨h2,h3⟩
 .unfold clO
  rw[IV h0]
  refine CT.w2 (Nt n ⟨cl,bw,pe⟩ c d ([],_) (.val ?_))
  unfold Jb
  rw[Ab hrw]
  by_cases h1:scE n ⟨cl,bw,pe⟩ c=0
  .have e:clE n ⟨cl,bw,pe⟩ c d=19:=by
    unfold clE at h0 ⊢
    rw[Ti h1] at h0 ⊢
    split at h0
    .rename_i h2;rw[Ti h2]
    .exact absurd rfl h0
   rw[e,Af (by rw[h1];rfl)]
   by_cases h2:d < -1
   .rw[Ah (AB h2)]
   .have h3:8<=d:=by
     unfold clE at e
     rw[Ti h1] at e
     split at e
     .omega
     .cases e
    rw[Af (Au h2),Ah (AB h3)]
  .have e:clE n ⟨cl,bw,pe⟩ c d=scE n ⟨cl,bw,pe⟩ c:=by unfold clE;rw[Tj h1]
   rw[e,Ah (T9.2 h1)]
theorem opn_c{n:Aa}(cl:List Bool)(bw pe:List Int)(c:Int)(hrw:Rows n.nx):CT Try.prog 23 [] [Ad n,sgA ⟨cl,bw,pe⟩,.int .i64 c] [] (.tup [sgA (opO n ⟨cl,bw,pe⟩ c),.int .i64 (scE n ⟨cl,bw,pe⟩ c)]):=by
 unfold opO
 by_cases h1:scE n ⟨cl,bw,pe⟩ c=0
 .obtain⟨h,h4,h5⟩:=D9.1 h1
  obtain⟨hv,hS,_⟩:=B0 h
  have:=hS.lc
  rw[Ti h1,h1]
  exact opn_x cl bw pe c hrw hv hS ⟨h4,by simp only at h5 this;omega⟩
 .rw[IV h1]
  refine CT.w2 (P5 n ⟨cl,bw,pe⟩ c ([],_) (.val ?_))
  unfold IH
  rw[Ab hrw,Ah (T9.2 h1)]
theorem rclo_c{n:Aa}(cl:List Bool)(bw pe:List Int)(c d:Int)(hrw:Rows n.nx):CT Try.prog 77 [] [Ad n,sgA ⟨cl,bw,pe⟩,.int .i64 c,.int .i64 d] [] (.tup [sgA (clO n ⟨cl,bw,pe⟩ c d),.int .i64 (clE n ⟨cl,bw,pe⟩ c d)]):=by
 have hbl:(boL cl).length=cl.length:=BW cl
 by_cases h0:clE n ⟨cl,bw,pe⟩ c d=0
 .obtain⟨h1,h2,h3⟩:=Le h0
  obtain⟨h,h4,h5⟩:=D9.1 h1
  obtain⟨hv,hS,l1,l2,l3,l4,l5⟩:=B0 h
  have lc:=hS.lc
  have lb:=hS.lb
  simp only at h5 l1 l2 l3 lc lb
  unfold clO
  rw[Ti h0,h0]
  refine Pg n ⟨cl,bw,pe⟩ c d ([],_) (.val ?_)
  unfold I6
  rw[Ab hrw,Af (by rw[h];rfl),Af (Au (by omega)),Af (Au (by rw[hbl];simp only[iN];omega)),Af (Au (by omega)),Af (Au (by omega)),Ab (by simp only;omega),Ab (by simp only;omega),Ab (by simp only;omega),Ab h4,Ab (by simp only[iN];omega),Ab (by simp only[iN];omega)]
  rfl
 .unfold clO
  rw[IV h0]
  refine CT.w2 (Pg n ⟨cl,bw,pe⟩ c d ([],_) (.val ?_))
  unfold I6
  rw[Ab hrw]
  cases h:AK n ⟨cl,bw,pe⟩ with
  | false=>
   have e:clE n ⟨cl,bw,pe⟩ c d=20:=by unfold clE scE;rw[h];rfl
   rw[e,Ah (show(!false)=true from rfl)]
  | true=>
   have e:clE n ⟨cl,bw,pe⟩ c d=19:=by
    have hs:=J1 (n:=n) (c:=c) h
    unfold clE at h0 ⊢
    by_cases hx:c<0\/(cl.length:Int)<=c
    .rw[hs,Ti hx,Tj (by decide)]
    .rw[hs,Tj hx,Ti rfl] at h0 ⊢
     by_cases h2:d < -1\/8<=d
     .rw[Ti h2]
     .rw[Tj h2] at h0;exact absurd rfl h0
   rw[Af (by rfl),e]
   by_cases h1:c<0
   .rw[Ah (AB h1)]
   rw[Af (Au h1)]
   by_cases h2:(cl.length:Int)<=c
   .rw[Ah (AB (by rw[hbl];simp only[iN];omega))]
   rw[Af (Au (by rw[hbl];simp only[iN];omega))]
   have hs0:scE n ⟨cl,bw,pe⟩ c=0:=by rw[J1 h,Tj (by simp only;omega)]
   by_cases h3:d < -1
   .rw[Ah (AB h3)]
   .have h4:8<=d:=by
     unfold clE at e
     rw[Ti hs0] at e
     split at e
     .omega
     .cases e
    rw[Af (Au h3),Ah (AB h4)]
theorem ropn_c{n:Aa}(cl:List Bool)(bw pe:List Int)(c:Int)(hrw:Rows n.nx):CT Try.prog 78 [] [Ad n,sgA ⟨cl,bw,pe⟩,.int .i64 c] [] (.tup [sgA (opO n ⟨cl,bw,pe⟩ c),.int .i64 (scE n ⟨cl,bw,pe⟩ c)]):=by
 have hbl:(boL cl).length=cl.length:=BW cl
 unfold opO
 by_cases h1:scE n ⟨cl,bw,pe⟩ c=0
 .obtain⟨h,h4,h5⟩:=D9.1 h1
  obtain⟨hv,hS,l1,l2,l3,l4,l5⟩:=B0 h
  have lc:=hS.lc
  have lb:=hS.lb
  simp only at h5 l1 l2 l3 lc lb
  rw[Ti h1,h1]
  refine PK n ⟨cl,bw,pe⟩ c ([],_) (.val ?_)
  unfold IJ
  rw[Ab hrw,Af (by rw[h];rfl),Af (Au (by omega)),Af (Au (by rw[hbl];simp only[iN];omega)),Ab (by simp only;omega),Ab (by simp only;omega),Ab (by simp only;omega),Ab h4,Ab (by simp only[iN];omega),Ab (by simp only[iN];omega)]
  rfl
 .rw[IV h1]
  refine CT.w2 (PK n ⟨cl,bw,pe⟩ c ([],_) (.val ?_))
  unfold IJ
  rw[Ab hrw]
  cases h:AK n ⟨cl,bw,pe⟩ with
  | false=>
   have e:scE n ⟨cl,bw,pe⟩ c=20:=by unfold scE;rw[h];rfl
   rw[e,Ah (show(!false)=true from rfl)]
  | true=>
   have hx:c<0\/(cl.length:Int)<=c:=by
    rw[J1 h] at h1
    split at h1
    .assumption
    .exact absurd rfl h1
   have e:scE n ⟨cl,bw,pe⟩ c=19:=by rw[J1 h,Ti hx]
   rw[Af (by rfl),e]
   by_cases h1:c<0
   .rw[Ah (AB h1)]
   rw[Af (Au h1),Ah (AB (by rw[hbl];simp only[iN];omega))]
theorem PC(f:Nat->Bool)(i:Nat):(List.range (i+1)).any f=((List.range i).any f||f i):=by rw[Ua,List.any_append];simp
def fTo(n:Aa)(s:Ac)(b x:Nat):Bool:= !((A5 s).getD x true)&&mkB n.nx (clN n s) b x
def fFr(n:Aa)(s:Ac)(b x:Nat):Bool:= !((A5 s).getD x true)&&mkB n.nx (clN n s) x b
theorem soT_any(n:Aa)(s:Ac)(b:Nat):soT n s b=(List.range n.bs.length).any (fTo n s b):=by
 rw[Bool.eq_iff_iff,Pc,List.any_eq_true]
 constructor
 .rintro⟨x,⟨h1,h2⟩,h3⟩
  exact⟨x,Uc.2 h1,by unfold fTo;rw[h2,GX.2 h3];rfl⟩
 .rintro⟨x,h1,h2⟩
  unfold fTo at h2
  rw[Tu,T7] at h2
  exact⟨x,⟨Uc.1 h1,h2.1⟩,GX.1 h2.2⟩
theorem soF_any(n:Aa)(s:Ac)(b:Nat):soF n s b=(List.range n.bs.length).any (fFr n s b):=by
 rw[Bool.eq_iff_iff,Oh,List.any_eq_true]
 constructor
 .rintro⟨x,⟨h1,h2⟩,h3⟩
  exact⟨x,Uc.2 h1,by unfold fFr;rw[h2,GX.2 h3];rfl⟩
 .rintro⟨x,h1,h2⟩
  unfold fFr at h2
  rw[Tu,T7] at h2
  exact⟨x,⟨Uc.1 h1,h2.1⟩,GX.1 h2.2⟩
theorem Qd{g:List (List Int)}{s:List Bool}{b x:Nat}(h:x<g.length):(rcL g s (b:Int)).getD x false=mkB g s b x:=by
 unfold rcL
 rw[Tl,Tw,TH h];rfl
theorem Nn(g:List (List Int))(s:List Bool)(q:Int):(rcL g s q).length=g.length:=by unfold rcL;simp
theorem rso_c{n:Aa}(cl:List Bool)(bw pe:List Int)(hrw:Rows n.nx)(h:AK n ⟨cl,bw,pe⟩=true):CT Try.prog 118 [] [Ad n,sgA ⟨cl,bw,pe⟩] [] (.lst (boL (soL n ⟨cl,bw,pe⟩))):=by
 obtain⟨hv,hS,l1,l2,l3,l4,l5⟩:=B0 h
 have h24:=hv.nb24
 have hnx:=hv.nx
 have hbs:(List.map bA n.bs).length=n.bs.length:=Tn ..
 have hbl:(boL cl).length=cl.length:=BW cl
 have hsl:(A5 ⟨cl,bw,pe⟩).length=cl.length:=Gv _
 simp only at l1 l2 l3 l4 l5
 have hg:GOk n.nx:=val_gok hrw (val_nx hv)
 have et:List.take ((List.map bA n.bs).length-Int.toNat 0) (List.drop (Int.toNat 0) cl)=clN n ⟨cl,bw,pe⟩:=by rw[hbs];simp[clN]
 have ecl:(clN n ⟨cl,bw,pe⟩).length=n.nx.length:=by unfold clN;rw[TP];simp only;omega
 generalize hs:(⟨cl,bw,pe⟩:Ac)=s at *
 have ecs:s.cl=cl:=by rw[<-hs]
 have eps:s.pe=pe:=by rw[<-hs]
 refine rso_ct n s ([],_) ?_
 unfold Lr
 rw[ecs,eps,Ab (by omega),Ab (by omega),Ab (by simp only[iN];exact l5),Ab (bo_on1 _),Ab (by rw[hbs,hbl];simp only[iN];omega),Ab (by rw[hbs];simp only[iN];omega),Ab (by rw[hbs];simp only[iN];omega),hbs]
 have hrl:(List.replicate n.bs.length false).length=n.bs.length:=TG ..
 rw[show List.replicate n.bs.length false=mxL (List.replicate n.bs.length false) (soB n s) 0 from mxL_0.symm]
 refine Cb (fun i=>Ck.l0 (mxL (List.replicate n.bs.length false) (soB n s) i) (i:Int)) n.bs.length (fun b hb hx=>?_) ?_
 .have hst:=O1 (A:=List.replicate n.bs.length false) (f:=soB n s) (i:=b) (by rw[hrl];exact hb)
  have hml:=Hf (A:=List.replicate n.bs.length false) (f:=soB n s) (i:=b)
  rw[hrl] at hml
  rw[<-hst] at hx
  clear hst
  generalize mxL (List.replicate n.bs.length false) (soB n s) b=v0 at hml hx ⊢
  refine .to (show FY n s v0 (b:Int)=some (.inl (.l1 v0 (b:Int) ((List.range 0).any (fTo n s b)) ((List.range 0).any (fFr n s b)) (rcL n.nx (clN n s) b) ((0:Nat):Int))) from ?_) ?_
  .unfold FY
   rw[ecs,Ah (AB (by rw[hbs];simp only[iN];omega)),et,Ab hg,Ab ecl,Ab (by simp only[iN];omega)];rfl
  .refine Cb (fun i=>Ck.l1 v0 (b:Int) ((List.range i).any (fTo n s b)) ((List.range i).any (fFr n s b)) (rcL n.nx (clN n s) b) (i:Int)) n.bs.length (fun x hx2 hy=>?_) ?_
   .refine .to (show G5 n s v0 (b:Int) _ _ _ (x:Int)=_ from ?_) hy
    have g1:∀{β:Type} {f:Bool->Option β},el (A5 s) (x:Int).toNat f=f ((A5 s).getD x true):=fun {β f}=>elG true (by rw[hsl];omega)
    have g2:∀{β:Type} {f:Bool->Option β},el (rcL n.nx (clN n s) (b:Int)) (x:Int).toNat f=f (mkB n.nx (clN n s) b x):=fun {β f}=>by rw[elG false (by rw[Nn];omega),Qd (by omega)]
    have g3:∀{β:Type} {f:Bool->Option β},el (rcL n.nx (clN n s) (x:Int)) (b:Int).toNat f=f (mkB n.nx (clN n s) x b):=fun {β f}=>by rw[elG false (by rw[Nn];omega),Qd (by omega)]
    have t1:(0:Int)<=(x:Int)/\(x:Int)<iN n.nx.length:=by simp only[iN];omega
    unfold G5
    rw[ecs,et]
    have t2:(0:Int)<=(x:Int):=by omega
    have t3:(0:Int)<=(b:Int):=by omega
    have q1:∀{y:Option (Ck⊕Ret)},gu (GOk n.nx) y=y:=Ab hg
    have q2:∀{y:Option (Ck⊕Ret)},gu ((clN n s).length=n.nx.length) y=y:=Ab ecl
    have q3:∀{y:Option (Ck⊕Ret)},gu ((0:Int)<=(x:Int)/\(x:Int)<iN n.nx.length) y=y:=Ab t1
    have q4:∀{y:Option (Ck⊕Ret)},gu ((0:Int)<=(x:Int)) y=y:=Ab t2
    have q5:∀{y:Option (Ck⊕Ret)},gu ((0:Int)<=(b:Int)) y=y:=Ab t3
    simp only[g1,g2,g3,q1,q2,q3,q4,q5]
    rw[Ah (AB (by rw[hbs];simp only[iN];omega)),PC,PC,zW x (by omega)]
    generalize (List.range x).any (fTo n s b)=T
    generalize (List.range x).any (fFr n s b)=F
    unfold fTo fFr
    cases (A5 s).getD x true<;>cases T<;>cases F<;>simp[br]
   .have hbn:(0:Int)<=(b:Int):=by omega
    refine .to (show G5 n s v0 (b:Int) _ _ _ (n.bs.length:Int)=_ from ?_) hx
    unfold G5
    rw[Af (Au (by rw[hbs];simp only[iN];omega)),Ab hbn,Ab (by simp only[iN];omega),Ab (show(0+(b:Int).toNat).succ.le (List.map AV.bool v0).length from by rw[Tn,hml,Tv,TB];exact hb),Ab hbn,Ab (by simp only[iN];omega),Ab (show(0+(b:Int).toNat).succ.le (List.map AV.bool v0).length from by rw[Tn,hml,Tv,TB];exact hb),zW b (by omega),<-soT_any,<-soF_any,Tv]
    unfold soB
    cases soT n s b<;>rfl
 .refine .to (show FY n s _ (n.bs.length:Int)=_ from ?_) (.ret _)
  unfold FY
  rw[Af (Au (by rw[hbs];simp only[iN];omega))]
  have hno:mxL (List.replicate n.bs.length false) (soB n s) n.bs.length=soL n s:=by
   unfold mxL soL
   rw[hrl]
   exact List.map_congr_left fun j hj=>Ti (Uc.1 hj)
  rw[hno];rfl
theorem rfi_c{n:Aa}(cl:List Bool)(bw pe ow:List Int)(qu g:List (List Int))(l:List Bool)(h:AK n ⟨cl,bw,pe⟩=true)(hw:Bv ⟨ow,qu⟩=true)(h3:ow.length=cl.length)(h4:l.length=n.ss.length)(hl:g.length<=9223372036854775807)(hr:∀r∈g,r.length<=9223372036854775807):
  CT Try.prog 119 [] [Ad n,sgA ⟨cl,bw,pe⟩,lkA ⟨ow,qu⟩,.lst (gL g),.lst (boL l)] [] (.bool (rdC n ⟨ow,qu⟩ g l pe)):=by
 obtain⟨hv,hS,l1,l2,l3,l4,l5⟩:=B0 h
 obtain⟨hlen,h48⟩:=Kh hw
 have hss:=hv.ns
 simp only at hlen h48 l1 l2 l3 l4 l5
 refine rfi_ct n ⟨cl,bw,pe⟩ ⟨ow,qu⟩ g l ([],_) ?_
 unfold KZ
 cases pe with
 | nil=>rw[Ah (by rfl)];exact .ret _
 | cons c t=>
  have hc:=l5 c (List.mem_cons_self ..)
  have hq:=Be ([]:List Int) (show c.toNat<qu.length by omega)
  rw[Af (TX.2 (by simp only[iN,Tn,T2];omega)),A4 (show(c::t)[Int.toNat 0]?=some c from rfl),Ab hc.1,A4 (Be 0 (show c.toNat<ow.length by omega))]
  unfold rdC
  simp only
  cases k1:ow.getD c.toNat 0 != -1 with
  | true=>rw[Ah rfl];exact .ret _
  | false=>
  rw[Af rfl,A4 hq,Te]
  cases k2:decide (0<iN (List.map (AV.int .i64) (qu.getD c.toNat [])).length) with
  | true=>rw[Ah rfl];exact .ret _
  | false=>
  rw[Af rfl,Te]
  have spurs:∀(t':List Az) (i:Nat),n.ss.drop i=t'->i<=n.ss.length->Al (K9 n ⟨cl,bw,c::t⟩ ⟨ow,qu⟩ g l) (some (.inl (.l1 c (i:Int)))) ([],.bool (rdL c l t' i)):=by
   intro t'
   induction t' with
   | nil=>
    intro i hd hi
    have hlen:i=n.ss.length:=by have:=congrArg List.length hd;simp at this;omega
    subst hlen
    refine .to (show EL n ⟨cl,bw,c::t⟩ ⟨ow,qu⟩ g l _ _=_ from ?_) (.ret _)
    unfold EL
    rw[Cf];rfl
   | cons x t' ih=>
    intro i hd hi
    have hx:n.ss[i]?=some x:=by have:=congrArg (·[0]?) hd;simpa using this
    have hil:=(Tm.1 hx).1
    have hn:n.ss.drop (i+1)=t':=by rw[<-S6,hd];rfl
    have hb:n.ss.length<=1000:=by omega
    have e:EL n ⟨cl,bw,c::t⟩ ⟨ow,qu⟩ g l c (i:Int)=br (l.getD i false&&(x.i==c||x.o==c)) (some (.inr ([],AV.bool false))) (some (.inl (.l1 c ((i+1:Nat):Int)))):=by
     unfold EL
     rw[show br (decide ((i:Int)<iN (List.map sA n.ss).length))=br true from by rw[AB (by simp only[iN,Tn];omega)],Ah rfl,Ab (by omega),elG false (show i<l.length by omega)]
     rw[A4 (show n.ss[(i:Int).toNat]?=some x from hx),A4 (show n.ss[(i:Int).toNat]?=some x from hx),zW i (by omega)]
     cases l.getD i false<;>cases (x.i==c)<;>cases (x.o==c)<;>rfl
    unfold rdL
    cases k:l.getD i false&&(x.i==c||x.o==c) with
    | true=>
     refine .to (show EL n ⟨cl,bw,c::t⟩ ⟨ow,qu⟩ g l _ _=_ from ?_) (.ret _)
     rw[e,k,Ah rfl]
    | false=>
     refine .to (show EL n ⟨cl,bw,c::t⟩ ⟨ow,qu⟩ g l _ _=_ from ?_) (ih (i+1) hn hil)
     rw[e,k,Af rfl]
  have rows:∀(g':List (List Int)) (i:Nat),g.drop i=g'->i<=g.length->Al (K9 n ⟨cl,bw,c::t⟩ ⟨ow,qu⟩ g l) (some (.inl (.l0 c (i:Int)))) ([],.bool (match CV g' c with | true=>false | false=>rdL c l n.ss 0)):=by
   intro g'
   induction g' with
   | nil=>
    intro i hd hi
    have hlen:i=g.length:=by have:=congrArg List.length hd;simp at this;omega
    subst hlen
    refine .to (show EP n ⟨cl,bw,c::t⟩ ⟨ow,qu⟩ g l _ _=_ from ?_) (spurs n.ss 0 rfl (Ty _))
    unfold EP
    rw[show (gL g).length=(List.map lI g).length from rfl,Cf];rfl
   | cons x g' ih=>
    intro i hd hi
    have hx:g[i]?=some x:=by have:=congrArg (·[0]?) hd;simpa using this
    have hil:=(Tm.1 hx).1
    have hn:g.drop (i+1)=g':=by rw[<-S6,hd];rfl
    have hxr:=hr x (Tp hx)
    have e:EP n ⟨cl,bw,c::t⟩ ⟨ow,qu⟩ g l c (i:Int)=br (Ak x c) (some (.inr ([],AV.bool false))) (some (.inl (.l0 c ((i+1:Nat):Int)))):=by
     unfold EP
     rw[show (gL g).length=(List.map lI g).length from rfl,Gj hx,Ab (by omega),zW i (by omega)]
    unfold CV
    rw[List.any_cons]
    cases k:Ak x c with
    | true=>
     refine .to (show EP n ⟨cl,bw,c::t⟩ ⟨ow,qu⟩ g l _ _=_ from ?_) (.ret _)
     rw[e,k,Ah rfl];rfl
    | false=>
     rw[Te]
     refine .to (show EP n ⟨cl,bw,c::t⟩ ⟨ow,qu⟩ g l _ _=_ from ?_) (ih (i+1) hn hil)
     rw[e,k,Af rfl]
  exact rows g 0 rfl (Ty _)
theorem rlv_x(ow:List Int)(qu:List (List Int)):CT Try.prog 91 [] [lkA ⟨ow,qu⟩] [] (.bool (Bv ⟨ow,qu⟩)):=rlv_c ⟨ow,qu⟩
def rsdSt(n:Aa)(q:Ac):Empty->St
 | x=>x.elim
def rsdHd:Empty->Nat
 | x=>x.elim
def Kp(n:Aa)(q:Ac):Option (Empty⊕Ret):=
 gu (Rows n.nx) <|
 br (!AK n q)
 (some (.inr ([],AV.tup [AV.nils,iV 20])))
 (br (AK n q)
  (some (.inr ([],AV.tup [AV.lst (boL (soL n q)),iV 0])))
  (none))
def rsdStep(n:Aa)(q:Ac):Empty->Option (Empty⊕Ret)
 | x=>x.elim
theorem rsdEn_ok(n:Aa)(q:Ac)(o:Empty⊕Ret)(h:Kp n q=some o):Arr Try.prog Try.f76 0 (rsdSt n q) rsdHd (zB Try.f76) [] {n:=Try.f76.ntmps,fr:=AA 0 ([Ad n,sgA q]),hp:=([])} o:=
 Scr.ok h mix (
 .rn 0 [] [] [] [] (al (u2 (u2 t3))) <|
 .gu fun a0=>
 have c0:=Fq (q.cl) (q.bw) (q.pe) a0;
 .rn 0 [] [] [(8,hK c0 [] [])] [] (al (u2 (u2 (aj (k2 (aj t9 (aj t4 (al (c0))))) s2)))) <|
 .br (fun a1=>
 .rt [19] [] [] [] [] [] (aj (aj a1 (al t3)) (al t3)))
 (fun a1=>
 .br (fun a2=>
  have c1:=rso_c (q.cl) (q.bw) (q.pe) a0 a2;
  .rt [18] [] [(12,hK c1 [] [])] [] [] [] (aj (aj a1 (al (u2 (u2 (aj (k2 (aj t9 (aj t4 (al (c1))))) (u2 t2)))))) (al t3)))
 (fun a2=>
  .no))) (by kernel_rfl)
theorem rsd_ct(n:Aa)(q:Ac)(r:Ret)(h:Al (rsdStep n q) (Kp n q) r):CT Try.prog 76 ([]) ([Ad n,sgA q]) r.1 r.2:=
 CT.mach (fn:=Try.f76) (c:=zB Try.f76) (S:=rsdSt n q) (hd:=rsdHd) Try.func76 (by kernel_rfl) (nL rfl)
  (fun s o ho=>match s,ho with
   | x,_=>x.elim)
  (fun o ho=>rsdEn_ok n q o ho) h
def rrdSt(n:Aa)(cl:List Bool)(bw pe:List Int)(ow:List Int)(qu:List (List Int))(g:List (List Int))(l:List Bool):Empty->St
 | x=>x.elim
def rrdHd:Empty->Nat
 | x=>x.elim
def My(n:Aa)(cl:List Bool)(bw pe:List Int)(ow:List Int)(qu:List (List Int))(g:List (List Int))(l:List Bool):Option (Empty⊕Ret):=
 gu (Rows n.nx) <|
 br (!AK n (Ac.mk cl bw pe))
 (some (.inr ([],AV.tup [bV false,iV 20])))
 (br (!Bv (Ao.mk ow qu))
  (some (.inr ([],AV.tup [bV false,iV 20])))
  (br (iN (List.map iV ow).length != iN (boL cl).length)
   (some (.inr ([],AV.tup [bV false,iV 19])))
   (br (iN (boL l).length != iN (List.map sA n.ss).length)
    (some (.inr ([],AV.tup [bV false,iV 19])))
    (br (AK n (Ac.mk cl bw pe))
     (br (Bv (Ao.mk ow qu))
      (gu (ow.length=cl.length) <|
       gu (l.length=n.ss.length) <|
       gu (g.length<=9223372036854775807) <|
       gu (∀(r:List Int),r∈g->r.length<=9223372036854775807) <|
       some (.inr ([],AV.tup [bV (rdC n (Ao.mk ow qu) g l pe),iV 0])))
      (none))
     (none)))))
def rrdStep(n:Aa)(cl:List Bool)(bw pe:List Int)(ow:List Int)(qu:List (List Int))(g:List (List Int))(l:List Bool):Empty->Option (Empty⊕Ret)
 | x=>x.elim
theorem rrdEn_ok(n:Aa)(cl:List Bool)(bw pe:List Int)(ow:List Int)(qu:List (List Int))(g:List (List Int))(l:List Bool)(o:Empty⊕Ret)(h:My n cl bw pe ow qu g l=some o):Arr Try.prog Try.f79 0 (rrdSt n cl bw pe ow qu g l) rrdHd (zB Try.f79) [] {n:=Try.f79.ntmps,fr:=AA 0 ([Ad n,sgA ⟨cl,bw,pe⟩,lkA ⟨ow,qu⟩,.lst (gL g),.lst (boL l)]),hp:=([])} o:=
 Scr.ok h mix (
 .rn 0 [] [] [] [] (al (u2 (u2 (u2 t3)))) <|
 .gu fun a0=>
 .br (fun a1=>
 have c0:=Fq (cl) (bw) (pe) a0;
 .rt [33] [] [(14,hK c0 [] [])] [] [] [] (aj (aj (u2 (u2 (aj (k2 (aj t9 (aj t4 (al (c0))))) (u2 (u2 (aj a1 (aj a1 (aj a1 (al (aj a1 t2)))))))))) (ak (al t3))) (al t3)))
 (fun a1=>
 have c0:=Fq (cl) (bw) (pe) a0;
 have c1:=rlv_x (ow) (qu);
 .rn 0 [32] [] [(14,hK c0 [] []),(18,hK c1 [] [])] [] (al (u2 (u2 (aj (k2 (aj t9 (aj t4 (al (c0))))) (u2 (u2 (ag a1 (aj (aj a1 (ak (aj t3 (al (c1))))) (ag a1 (al (aj a1 t2))))))))))) <|
 .br (fun a2=>
  .rt [32,41] [] [] [] [] [] (aj (aj a2 (al t3)) (al t3)))
 (fun a2=>
  .br (fun a3=>
  .rt [32,40,57] [] [] [] [] [] (aj (aj a2 (aj (u2 (u2 (u2 (u2 (u2 (u2 (aj t3 (u2 (aj a3 (aj a3 (aj a3 (aj a3 (aj a3 (aj a3 (al (aj a3 t2)))))))))))))))) (ak (al t3)))) (al t3)))
  (fun a3=>
  .rn 0 [32,40,56] [] [] [] (aj a2 (al (u2 (u2 (u2 (u2 (u2 (u2 (aj t3 (u2 (ag a3 (ag a3 (ag a3 (ag a3 (ag a3 (aj (aj a3 t3) (al (aj a3 t2)))))))))))))))))) <|
  .br (fun a4=>
   .rt [32,56,71] [] [] [] [] [] (aj (aj a4 (al t3)) (al t3)))
  (fun a4=>
   .br (fun a5=>
   .br (fun a6=>
    .gu fun a7=>
    .gu fun a8=>
    .gu fun a9=>
    .gu fun a10=>
    have c2:=rfi_c (cl) (bw) (pe) (ow) (qu) g l a5 a6 a7 a8 a9 a10;
    .rt [32,56,70] [] [(41,hK c2 [] [])] [] [] [] (aj (aj a4 (al (u2 (u2 (u2 (u2 (u2 (aj (k5 (aj t9 (aj t4 (aj t3 (k2 (al (c2))))))) (u2 t2))))))))) (al t3)))
   (fun a6=>
    .no))
   (fun a5=>
   .no)))))) (by kernel_rfl)
theorem rrd_ct(n:Aa)(cl:List Bool)(bw pe:List Int)(ow:List Int)(qu:List (List Int))(g:List (List Int))(l:List Bool)(r:Ret)(h:Al (rrdStep n cl bw pe ow qu g l) (My n cl bw pe ow qu g l) r):CT Try.prog 79 ([]) ([Ad n,sgA ⟨cl,bw,pe⟩,lkA ⟨ow,qu⟩,.lst (gL g),.lst (boL l)]) r.1 r.2:=
 CT.mach (fn:=Try.f79) (c:=zB Try.f79) (S:=rrdSt n cl bw pe ow qu g l) (hd:=rrdHd) Try.func79 (by kernel_rfl) (nL rfl)
  (fun s o ho=>match s,ho with
   | x,_=>x.elim)
  (fun o ho=>rrdEn_ok n cl bw pe ow qu g l o ho) h
inductive Et where
 | l0 (v0:Int)
def II(q:Ac):Et->St
 | .l0 v0=>St.mk 47 [(2,AV.ptr 0 0 0),(3,AV.ptr 1 0 0),(5,iv v0)] [some (bK [AV.agg [AV.lst (boL q.cl),AV.lst (List.map (iv) q.bw),AV.lst (List.map (iv) q.pe)]] 3),some (bK [AV.agg [AV.lst (boL q.cl),AV.lst (List.map (iv) q.bw),AV.lst (List.map (iv) q.pe)]] 3)]
def MB:Et->Nat
 | .l0 _=>0
def LX(q:Ac):Option (Et⊕Ret):=
 br (iN (boL q.cl).length != iN (boL q.cl).length)
 (some (.inr ([],bV false)))
 (gu (q.bw.length<=9223372036854775807) <|
  gu (q.pe.length<=9223372036854775807) <|
  some (.inl (.l0 ((0:Int)))))
def F9(q:Ac)(v0:Int):Option (Et⊕Ret):=
 br (decide (v0<iN (boL q.cl).length))
 (gu (0<=v0) <|
  el (q.cl) (v0.toNat) fun(x39:Bool)=>
  el (q.cl) (v0.toNat) fun(x44:Bool)=>
  br (!x39==x44)
  (some (.inr ([],bV false)))
  (some (.inl (.l0 (i64.wrap (v0+1))))))
 (some (.inr ([],bV true)))
def smeStep(q:Ac):Et->Option (Et⊕Ret)
 | .l0 v0=>F9 q v0
theorem smeEn_ok(q:Ac)(o:Et⊕Ret)(h:LX q=some o):Arr Try.prog Try.f73 0 (II q) MB (zB Try.f73) [] {n:=Try.f73.ntmps,fr:=AA 0 ([sgA q,sgA q]),hp:=([])} o:=
 Scr.ok h mix (
 .rn 0 [] [] [] [] (al (u2 (u2 t2))) <|
 .br (fun a0=>
 .rt [27] [] [] [] [] [] (aj (aj (u2 (u2 (u2 (u2 (u2 (u2 (aj t3 (u2 (aj a0 (aj a0 (aj a0 (aj a0 (aj a0 (aj a0 (ag a0 (u2 (ak (k5 (al t3))))))))))))))))))) (ak s2)) t2))
 (fun a0=>
 .gu fun a1=>
 .gu fun a2=>
 have c0:=s19_c (q.bw) a1;
 have c1:=s19_c (q.pe) a2;
 .lp [26] [] [(18,hK c0 [] []),(26,hK c1 [] [])] [] [] [0,1] [2,3,5] (aj (aj (u2 (u2 (u2 (u2 (u2 (u2 (aj t3 (u2 (ag a0 (ag a0 (ag a0 (ag a0 (aj (aj a0 (ak (k3 (al (c0))))) (ag a0 (ag a0 (u2 (aj t3 (aj t3 (aj t3 (aj t3 (aj (k5 (al (c1))) (aj t3 (al t3))))))))))))))))))))))) (ak s2)) t6))) (by kernel_rfl)
theorem smeS0_ok(q:Ac)(v0:Int)(o:Et⊕Ret)(h:F9 q v0=some o):Arr Try.prog Try.f73 0 (II q) MB (Av Try.f73 0) (.rnd (Av Try.f73 0)::AG Try.f73 0) (II q (.l0 v0)) o:=
 Scr.ok h mix (
 .rn 0 [] [] [] [] (al (u2 (u2 (u2 (u2 (al t3)))))) <|
 .br (fun a0=>
 .gu fun a1=>
 .el fun x39 a2=>
 .el fun x44 a3=>
 .rn 0 [67] [(39,bV x39),(44,bV x44)] [] [] (aj a0 (al (u2 (u2 (u2 (aj (k2 (aj a1 (Aq (f:=bV) a2))) (u2 (u2 (u2 (u2 (aj (k2 (aj a1 (Aq (f:=bV) a3))) (u2 (al t3))))))))))))) <|
 .br (fun a4=>
  .rt [93] [] [] [] [] [] (aj (aj a4 s2) t2))
 (fun a4=>
  .lp [92] [] [] [] [] [0,1] [2,3,5] (aj (aj a4 (al (u2 (u2 s2)))) t6)))
 (fun a0=>
 .rt [66] [] [] [] [] [] (aj (aj a0 s2) t2))) (by kernel_rfl)
theorem sme_ct(q:Ac)(r:Ret)(h:Al (smeStep q) (LX q) r):CT Try.prog 73 ([]) ([sgA q,sgA q]) r.1 r.2:=
 CT.mach (fn:=Try.f73) (c:=zB Try.f73) (S:=II q) (hd:=MB) Try.func73 (by kernel_rfl) (nL rfl)
  (fun s o ho=>match s,ho with
   | .l0 v0,ho=>smeS0_ok q v0 o ho
  )
  (fun o ho=>smeEn_ok q o ho) h
@[irreducible] def nsK(n:Aa):Ac:=nsS n
@[irreducible] def anK(n:Aa)(s:Ac)(x:Int):Ac:=anO n s x
@[irreducible] def clK(n:Aa)(s:Ac)(c d:Int):Ac:=clO n s c d
@[irreducible] def opK(n:Aa)(s:Ac)(c:Int):Ac:=opO n s c
def Sml(s:Ac):Prop:=s.cl.length<=1000/\s.bw.length<=1000/\s.pe.length<=1000
theorem Sml.none:Sml ⟨[],[],[]⟩:=⟨Ty _,Ty _,Ty _⟩
theorem wo_le(l:List Int)(x:Int):(wo l x).length<=l.length:=List.length_filter_le ..
theorem nsK_sml(n:Aa):Sml (nsK n):=by
 unfold nsK nsS
 split
 .rename_i h
  have:=BV (CS.1 h)
  refine⟨?_,?_,Ty _⟩
  .show(List.replicate (Ar n) false).length<=1000
   rw[TG];omega
  .show(List.replicate (Ar n) (-1:Int)).length<=1000
   rw[TG];omega
 .exact .none
theorem anK_sml(n:Aa)(s:Ac)(x:Int):Sml (anK n s x):=by
 unfold anK anO
 split
 .rename_i h
  obtain⟨_,_,a,b,c,_⟩:=B0 (O2 h).1
  refine⟨?_,?_,?_⟩
  .show s.cl.length<=1000;omega
  .show s.bw.length<=1000;omega
  .show(s.pe++[x]).length<=1000;rw[TF,T1];omega
 .exact .none
theorem clK_sml(n:Aa)(s:Ac)(c d:Int):Sml (clK n s c d):=by
 unfold clK clO
 split
 .rename_i h
  obtain⟨_,_,a,b,e,_⟩:=B0 (D9.1 (Le h).1).1
  have:=wo_le s.pe c
  refine⟨?_,?_,?_⟩
  .show(s.cl.set c.toNat true).length<=1000;rw[TV];omega
  .show(if s.cl.getD c.toNat true=true then s.bw else s.bw.set c.toNat d).length<=1000
   split
   .omega
   .rw[TV];omega
  .show(wo s.pe c).length<=1000;omega
 .exact .none
theorem opK_sml(n:Aa)(s:Ac)(c:Int):Sml (opK n s c):=by
 unfold opK opO
 split
 .rename_i h
  obtain⟨_,_,a,b,e,_⟩:=B0 (D9.1 h).1
  have:=wo_le s.pe c
  refine⟨?_,?_,?_⟩
  .show(s.cl.set c.toNat false).length<=1000;rw[TV];omega
  .show(s.bw.set c.toNat (-1)).length<=1000;rw[TV];omega
  .show(wo s.pe c).length<=1000;omega
 .exact .none
theorem n14_k{n:Aa}(hrw:Rows n.nx):CT Try.prog 14 [] [Ad n] [] (.tup [sgA (nsK n),.int .i64 (nsE n)]):=by unfold nsK;exact n14_c hrw
theorem n31_k{n:Aa}(hrw:Rows n.nx):CT Try.prog 31 [] [Ad n] [] (.tup [sgA (nsK n),.int .i64 (nsE n)]):=by unfold nsK;exact Ob hrw
theorem ann_k{n:Aa}(cl:List Bool)(bw pe:List Int)(x:Int)(hrw:Rows n.nx):CT Try.prog 16 [] [Ad n,sgA ⟨cl,bw,pe⟩,.int .i64 x] [] (.tup [sgA (anK n ⟨cl,bw,pe⟩ x),.int .i64 (anE n ⟨cl,bw,pe⟩ x)]):=by unfold anK;exact ann_c cl bw pe x hrw
theorem rann_k{n:Aa}(cl:List Bool)(bw pe:List Int)(x:Int)(hrw:Rows n.nx):CT Try.prog 59 [] [Ad n,sgA ⟨cl,bw,pe⟩,.int .i64 x] [] (.tup [sgA (anK n ⟨cl,bw,pe⟩ x),.int .i64 (anE n ⟨cl,bw,pe⟩ x)]):=by unfold anK;exact Mm cl bw pe x hrw
theorem clo_k{n:Aa}(cl:List Bool)(bw pe:List Int)(c d:Int)(hrw:Rows n.nx):CT Try.prog 21 [] [Ad n,sgA ⟨cl,bw,pe⟩,.int .i64 c,.int .i64 d] [] (.tup [sgA (clK n ⟨cl,bw,pe⟩ c d),.int .i64 (clE n ⟨cl,bw,pe⟩ c d)]):=by unfold clK;exact clo_c cl bw pe c d hrw
theorem rclo_k{n:Aa}(cl:List Bool)(bw pe:List Int)(c d:Int)(hrw:Rows n.nx):CT Try.prog 77 [] [Ad n,sgA ⟨cl,bw,pe⟩,.int .i64 c,.int .i64 d] [] (.tup [sgA (clK n ⟨cl,bw,pe⟩ c d),.int .i64 (clE n ⟨cl,bw,pe⟩ c d)]):=by unfold clK;exact rclo_c cl bw pe c d hrw
theorem opn_k{n:Aa}(cl:List Bool)(bw pe:List Int)(c:Int)(hrw:Rows n.nx):CT Try.prog 23 [] [Ad n,sgA ⟨cl,bw,pe⟩,.int .i64 c] [] (.tup [sgA (opK n ⟨cl,bw,pe⟩ c),.int .i64 (scE n ⟨cl,bw,pe⟩ c)]):=by unfold opK;exact opn_c cl bw pe c hrw
theorem ropn_k{n:Aa}(cl:List Bool)(bw pe:List Int)(c:Int)(hrw:Rows n.nx):CT Try.prog 78 [] [Ad n,sgA ⟨cl,bw,pe⟩,.int .i64 c] [] (.tup [sgA (opK n ⟨cl,bw,pe⟩ c),.int .i64 (scE n ⟨cl,bw,pe⟩ c)]):=by unfold opK;exact ropn_c cl bw pe c hrw
theorem rsd_c{n:Aa}(cl:List Bool)(bw pe:List Int)(hrw:Rows n.nx):CT Try.prog 76 [] [Ad n,sgA ⟨cl,bw,pe⟩] [] (.tup [.lst (boL (soO n ⟨cl,bw,pe⟩)),.int .i64 (shE n ⟨cl,bw,pe⟩)]):=by
 have k:=rsd_ct n ⟨cl,bw,pe⟩
 unfold Kp at k
 rw[Ab hrw] at k
 unfold soO shE
 cases h:AK n ⟨cl,bw,pe⟩ with
 | false=>
  rw[h] at k
  exact CT.w2 (res:=.tup [.nils,.int .i64 20]) (k ([],_) (.val (by rw[Ah (show(!false)=true from rfl)])))
 | true=>
  rw[h] at k
  exact k ([],_) (.val (by rw[Af (show(!true)=false from rfl),Ah rfl];rfl))
theorem rrd_c{n:Aa}(cl:List Bool)(bw pe ow:List Int)(qu g:List (List Int))(l:List Bool)(hrw:Rows n.nx)(hl:g.length<=9223372036854775807)(hr:∀r∈g,r.length<=9223372036854775807):CT Try.prog 79 [] [Ad n,sgA ⟨cl,bw,pe⟩,lkA ⟨ow,qu⟩,.lst (gL g),.lst (boL l)] [] (.tup [.bool (rdB n ⟨cl,bw,pe⟩ ⟨ow,qu⟩ g l),.int .i64 (rdE n ⟨cl,bw,pe⟩ ⟨ow,qu⟩ l)]):=by
 have k:=rrd_ct n cl bw pe ow qu g l
 unfold My at k
 rw[Ab hrw] at k
 have hbl:=BW cl
 have hbl2:=BW l
 have bad:∀{e:Int},rdE n ⟨cl,bw,pe⟩ ⟨ow,qu⟩ l=e->e≠0->rdB n ⟨cl,bw,pe⟩ ⟨ow,qu⟩ g l=false:=fun h h2=>by unfold rdB;rw[Tj (by rw[h];exact h2)]
 cases h1:AK n ⟨cl,bw,pe⟩ with
 | false=>
  have e:rdE n ⟨cl,bw,pe⟩ ⟨ow,qu⟩ l=20:=by unfold rdE;rw[h1];rfl
  rw[bad e (by decide),e]
  exact k ([],_) (.val (by rw[h1,Ah (show(!false)=true from rfl)]))
 | true=>
 cases h2:Bv ⟨ow,qu⟩ with
 | false=>
  have e:rdE n ⟨cl,bw,pe⟩ ⟨ow,qu⟩ l=20:=by unfold rdE;rw[h1,h2];rfl
  rw[bad e (by decide),e]
  exact k ([],_) (.val (by rw[h1,h2,Af (show(!true)=false from rfl),Ah (show(!false)=true from rfl)]))
 | true=>
 have eE:rdE n ⟨cl,bw,pe⟩ ⟨ow,qu⟩ l=if ow.length=cl.length/\l.length=n.ss.length then 0 else 19:=by unfold rdE;rw[h1,h2];rfl
 rw[h1,h2,Af (show(!true)=false from rfl),Af (show(!true)=false from rfl)] at k
 by_cases h3:ow.length=cl.length
 case neg=>
  have e:=eE.trans (Tj fun hh=>h3 hh.1)
  rw[bad e (by decide),e]
  exact k ([],_) (.val (by rw[Ah (T9.2 (by rw[Tn,hbl];simp only[iN];omega))]))
 rw[Af (by rw[Tn,hbl,h3];simp)] at k
 by_cases h4:l.length=n.ss.length
 case neg=>
  have e:=eE.trans (Tj fun hh=>h4 hh.2)
  rw[bad e (by decide),e]
  exact k ([],_) (.val (by rw[Ah (T9.2 (by rw[Tn,hbl2];simp only[iN];omega))]))
 have e:=eE.trans (Ti ⟨h3,h4⟩)
 have eB:rdB n ⟨cl,bw,pe⟩ ⟨ow,qu⟩ g l=rdC n ⟨ow,qu⟩ g l pe:=by unfold rdB;rw[Ti e]
 rw[e,eB]
 rw[Af (by rw[Tn,hbl2,h4];simp),Ah rfl,Ah rfl,Ab h3,Ab h4,Ab hl,Ab hr] at k
 exact k ([],_) (.val rfl)
theorem Iv(cl:List Bool)(bw pe:List Int)(h1:cl.length<=1000)(h2:bw.length<=1000)(h3:pe.length<=1000):CT Try.prog 73 [] [sgA ⟨cl,bw,pe⟩,sgA ⟨cl,bw,pe⟩] [] (.bool true):=by
 refine sme_ct ⟨cl,bw,pe⟩ ([],_) ?_
 unfold LX
 simp only
 rw[Af (by simp),Ab (by omega),Ab (by omega)]
 refine Cb (fun i=>Et.l0 (i:Int)) cl.length (fun i hi hx=>?_) ?_
 .refine .to (show F9 ⟨cl,bw,pe⟩ i=_ from ?_) hx
  unfold F9 boL
  simp only
  rw[Cn true hi,elG true hi,Af (by cases cl.getD i true<;>rfl),zW i (by omega)]
 .refine .to (show F9 ⟨cl,bw,pe⟩ cl.length=_ from ?_) (.ret _)
  unfold F9 boL
  simp only
  rw[Cf]
def samSt(n:Aa)(cl:List Bool)(bw pe ow:List Int)(qu g:List (List Int))(l:List Bool)(c d:Int):Empty->St
 | x=>x.elim
def samHd:Empty->Nat
 | x=>x.elim
def L6(n:Aa)(cl:List Bool)(bw pe ow:List Int)(qu g:List (List Int))(l:List Bool)(c d:Int):Option (Empty⊕Ret):=
 gu (Rows n.nx) <|
 br (nsE n != nsE n)
 (some (.inr ([],bV false)))
 (br (shE n (Ac.mk cl bw pe) != shE n (Ac.mk cl bw pe))
  (some (.inr ([],bV false)))
  (gu ((nsK n).cl.length<=1000) <|
   gu ((nsK n).bw.length<=1000) <|
   gu ((nsK n).pe.length<=1000) <|
   gu ((shO n (Ac.mk cl bw pe)).length<=9223372036854775807) <|
   br (!AK n (Ac.mk cl bw pe)==AK n (Ac.mk cl bw pe))
   (some (.inr ([],bV false)))
   (gu ((soO n (Ac.mk cl bw pe)).length<=9223372036854775807) <|
    br (anE n (Ac.mk cl bw pe) c != anE n (Ac.mk cl bw pe) c)
    (some (.inr ([],bV false)))
    (br (clE n (Ac.mk cl bw pe) c d != clE n (Ac.mk cl bw pe) c d)
     (some (.inr ([],bV false)))
     (gu ((anK n (Ac.mk cl bw pe) c).cl.length<=1000) <|
      gu ((anK n (Ac.mk cl bw pe) c).bw.length<=1000) <|
      gu ((anK n (Ac.mk cl bw pe) c).pe.length<=1000) <|
      gu ((clK n (Ac.mk cl bw pe) c d).cl.length<=1000) <|
      gu ((clK n (Ac.mk cl bw pe) c d).bw.length<=1000) <|
      gu ((clK n (Ac.mk cl bw pe) c d).pe.length<=1000) <|
      gu (g.length<=9223372036854775807) <|
      gu (∀(r:List Int),r∈g->r.length<=9223372036854775807) <|
      br (scE n (Ac.mk cl bw pe) c==scE n (Ac.mk cl bw pe) c)
      (gu ((opK n (Ac.mk cl bw pe) c).cl.length<=1000) <|
       gu ((opK n (Ac.mk cl bw pe) c).bw.length<=1000) <|
       gu ((opK n (Ac.mk cl bw pe) c).pe.length<=1000) <|
       br (rdB n (Ac.mk cl bw pe) (Ao.mk ow qu) g l==rdB n (Ac.mk cl bw pe) (Ao.mk ow qu) g l)
       (some (.inr ([],bV (rdE n (Ac.mk cl bw pe) (Ao.mk ow qu) l==rdE n (Ac.mk cl bw pe) (Ao.mk ow qu) l))))
       (some (.inr ([],bV false))))
      (some (.inr ([],bV false))))))))
def samStep(n:Aa)(cl:List Bool)(bw pe ow:List Int)(qu g:List (List Int))(l:List Bool)(c d:Int):Empty->Option (Empty⊕Ret)
 | x=>x.elim
theorem samEn_ok(n:Aa)(cl:List Bool)(bw pe ow:List Int)(qu g:List (List Int))(l:List Bool)(c d:Int)(o:Empty⊕Ret)(h:L6 n cl bw pe ow qu g l c d=some o):Arr Try.prog Try.f33 0 (samSt n cl bw pe ow qu g l c d) samHd (zB Try.f33) [] {n:=Try.f33.ntmps,fr:=AA 0 ([Ad n,sgA ⟨cl,bw,pe⟩,lkA ⟨ow,qu⟩,.lst (gL g),.lst (boL l),.agg [.int .i64 c,.int .i64 d]]),hp:=([])} o:=
 Scr.ok h mix (
 .rn 0 [] [] [] [] (al (u2 (u2 (u2 (u2 t2))))) <|
 .gu fun a0=>
 have c0:=n14_k a0;
 have c1:=n31_k a0;
 have c2:=ssh_c (cl) (bw) (pe) a0;
 have c3:=r20h_c (cl) (bw) (pe) a0;
 .rn 3 [] [] [(29,hK c0 [] []),(34,hK c1 [] []),(40,hK c2 [] []),(46,hK c3 [] [])] [] (aj (u2 (aj (ak (aj t9 (al (c0)))) (u2 (u2 (u2 (ak (aj (k2 n11) s2))))))) (aj (u2 (aj (ak (aj t9 (al (c1)))) (u2 (u2 (u2 (ak (aj (k2 n11) s2))))))) (aj (u2 (u2 (aj (k2 (aj t9 (aj t4 (al (c2))))) (u2 (u2 (u2 (u2 s2))))))) (al (u2 (u2 (aj (k2 (aj t9 (aj t4 (al (c3))))) (u2 (u2 (u2 (u2 s2))))))))))) <|
 .br (fun a1=>
 .rt [105] [] [] [] [] [] (aj (aj (u2 (u2 (aj t3 (u2 (aj a1 (aj a1 (aj a1 (ag a1 (u2 (ak (k3 (aj t3 (u2 (ak (k3 (aj t3 (u2 (k2 (k5 (al t3)))))))))))))))))))) (ak s2)) t2))
 (fun a1=>
 .br (fun a2=>
  .rt [104,115] [] [] [] [] [] (aj (aj (u2 (u2 (aj t3 (u2 (ag a1 (ag a1 (aj (aj a1 t3) (ag a1 (u2 (aj a2 (aj a2 (aj a2 (aj a2 (ag a2 (u2 (ak (k3 (aj t3 (u2 (k2 (k5 (al t3)))))))))))))))))))))) (ak s2)) t2))
 (fun a2=>
  .gu fun a3=>
  .gu fun a4=>
  .gu fun a5=>
  .gu fun a6=>
  have c4:=Iv ((nsK n).cl) ((nsK n).bw) ((nsK n).pe) a3 a4 a5;
  have c5:=sbo_c (shO n (Ac.mk cl bw pe)) a6;
  have c6:=HQ (cl) (bw) (pe) a0;
  have c7:=Fq (cl) (bw) (pe) a0;
  .rn 0 [104,114] [] [(60,hK c4 [] []),(66,hK c5 [] []),(72,hK c6 [] []),(75,hK c7 [] [])] [] (al (u2 (u2 (aj t3 (u2 (ag a1 (ag a1 (aj (aj a1 t3) (ag a1 (u2 (ag a2 (ag a2 (aj (aj a2 (k2 (aj t4 (aj t4 (al (c4)))))) (ag a2 (ag a2 (u2 (aj t3 (aj t3 (aj (k5 (al (c5))) (aj t3 (aj t3 (u2 (aj t3 (aj t3 (aj (k3 (aj t9 (aj t4 (al (c6))))) (aj t3 (aj t3 (aj (k3 (aj t9 (aj t4 (al (c7))))) (aj t4 (al t3)))))))))))))))))))))))))))))) <|
  .br (fun a7=>
  .rt [104,114,155] [] [] [] [] [] (aj (aj a7 s2) t2))
  (fun a7=>
  have c8:=so_c (cl) (bw) (pe) a0;
  have c9:=rsd_c (cl) (bw) (pe) a0;
  .rn 1 [104,114,154] [] [(81,hK c8 [] []),(87,hK c9 [] [])] [] (aj a7 (aj (u2 (u2 (aj (k2 (aj t9 (aj t4 (al (c8))))) (u2 (u2 (u2 (u2 s2))))))) (al (u2 (u2 (aj (k2 (aj t9 (aj t4 (al (c9))))) (u2 (u2 (u2 (u2 s2)))))))))) <|
  .gu fun a8=>
  have c10:=sbo_c (soO n (Ac.mk cl bw pe)) a8;
  have c11:=ann_k (cl) (bw) (pe) c a0;
  have c12:=rann_k (cl) (bw) (pe) c a0;
  have c13:=clo_k (cl) (bw) (pe) c d a0;
  have c14:=rclo_k (cl) (bw) (pe) c d a0;
  .rn 4 [104,114,186] [] [(96,hK c10 [] []),(104,hK c11 [] []),(112,hK c12 [] []),(122,hK c13 [] []),(132,hK c14 [] [])] [] (aj (u2 (u2 (aj t3 (u2 (ag a2 (ag a2 (aj (aj a2 (ak (k3 (al (c10))))) (ag a2 (al (aj a2 t2)))))))))) (ak (aj (u2 (u2 (aj (ak (aj (show(0:Int)<=(0:Int) from(by first | exact nL rfl | decide)) (show(0:Int)<(2:Int) from(by first | exact nL rfl | decide)))) (u2 (aj (k3 (aj t9 (aj t4 (ak (al (c11)))))) (u2 (u2 (u2 (aj (k2 (show Nat.le 1 [AV.agg [AV.lst (boL (nsK n).cl),AV.lst (List.map (iv) (nsK n).bw),AV.lst (List.map (iv) (nsK n).pe)]].length from(nL rfl))) s2))))))))) (aj (u2 (u2 (aj (ak (aj (show(0:Int)<=(0:Int) from(by first | exact nL rfl | decide)) (show(0:Int)<(2:Int) from(by first | exact nL rfl | decide)))) (u2 (aj (k3 (aj t9 (aj t4 (ak (al (c12)))))) (u2 (u2 (u2 (aj (k2 (show Nat.le 1 [AV.agg [AV.lst (boL (nsK n).cl),AV.lst (List.map (iv) (nsK n).bw),AV.lst (List.map (iv) (nsK n).pe)]].length from(nL rfl))) s2))))))))) (aj (u2 (u2 (aj (ak (aj (show(0:Int)<=(0:Int) from(by first | exact nL rfl | decide)) (show(0:Int)<(2:Int) from(by first | exact nL rfl | decide)))) (u2 (aj (ak (aj (show(0:Int)<=(1:Int) from(by first | exact nL rfl | decide)) (show(1:Int)<(2:Int) from(by first | exact nL rfl | decide)))) (u2 (aj (ak (k3 (aj t9 (aj t4 (k2 (al (c13))))))) (u2 (u2 (u2 (ak (aj (k2 n11) s2)))))))))))) (al (u2 (u2 (aj (ak (aj (show(0:Int)<=(0:Int) from(by first | exact nL rfl | decide)) (show(0:Int)<(2:Int) from(by first | exact nL rfl | decide)))) (u2 (aj (ak (aj (show(0:Int)<=(1:Int) from(by first | exact nL rfl | decide)) (show(1:Int)<(2:Int) from(by first | exact nL rfl | decide)))) (u2 (aj (ak (k3 (aj t9 (aj t4 (k2 (al (c14))))))) (u2 (u2 (u2 (ak (aj (k2 n11) s2)))))))))))))))))) <|
  .br (fun a9=>
   .rt [104,114,186,277] [] [] [] [] [] (aj (aj (u2 (u2 (aj t3 (u2 (aj a9 (aj a9 (aj a9 (ag a9 (u2 (ak (k3 (aj t3 (u2 (ak (k3 (al t3)))))))))))))))) (ak s2)) t2))
  (fun a9=>
   .br (fun a10=>
   .rt [104,114,186,276,287] [] [] [] [] [] (aj (aj (u2 (u2 (aj t3 (u2 (ag a9 (ag a9 (aj (aj a9 t3) (ag a9 (u2 (aj a10 (aj a10 (aj a10 (aj a10 (ag a10 (u2 (ak (k3 (al t3)))))))))))))))))) (ak s2)) t2))
   (fun a10=>
   .gu fun a11=>
   .gu fun a12=>
   .gu fun a13=>
   .gu fun a14=>
   .gu fun a15=>
   .gu fun a16=>
   have c15:=Iv ((anK n (Ac.mk cl bw pe) c).cl) ((anK n (Ac.mk cl bw pe) c).bw) ((anK n (Ac.mk cl bw pe) c).pe) a11 a12 a13;
   have c16:=Iv ((clK n (Ac.mk cl bw pe) c d).cl) ((clK n (Ac.mk cl bw pe) c d).bw) ((clK n (Ac.mk cl bw pe) c d).pe) a14 a15 a16;
   have c17:=opn_k (cl) (bw) (pe) c a0;
   have c18:=ropn_k (cl) (bw) (pe) c a0;
   .rn 2 [104,114,186,276,286] [] [(146,hK c15 [] []),(152,hK c16 [] []),(160,hK c17 [] []),(168,hK c18 [] [])] [] (aj (u2 (u2 (aj t3 (u2 (ag a9 (ag a9 (aj (aj a9 t3) (ag a9 (u2 (ag a10 (ag a10 (aj (aj a10 (k2 (aj t4 (aj t4 (al (c15)))))) (ag a10 (ag a10 (u2 (aj t3 (aj t3 (aj (k3 (aj t4 (aj t4 (al (c16))))) (aj t3 (al t3)))))))))))))))))))) (ak (aj (u2 (u2 (aj (ak (aj (show(0:Int)<=(0:Int) from(by first | exact nL rfl | decide)) (show(0:Int)<(2:Int) from(by first | exact nL rfl | decide)))) (u2 (aj (k3 (aj t9 (aj t4 (ak (al (c17)))))) (u2 (u2 (u2 (aj (k2 (show Nat.le 1 [AV.agg [AV.lst (boL (anK n (Ac.mk cl bw pe) c).cl),AV.lst (List.map (iv) (anK n (Ac.mk cl bw pe) c).bw),AV.lst (List.map (iv) (anK n (Ac.mk cl bw pe) c).pe)]].length from(nL rfl))) s2))))))))) (al (u2 (u2 (aj (ak (aj (show(0:Int)<=(0:Int) from(by first | exact nL rfl | decide)) (show(0:Int)<(2:Int) from(by first | exact nL rfl | decide)))) (u2 (aj (k3 (aj t9 (aj t4 (ak (al (c18)))))) (u2 (u2 (u2 (aj (k2 (show Nat.le 1 [AV.agg [AV.lst (boL (anK n (Ac.mk cl bw pe) c).cl),AV.lst (List.map (iv) (anK n (Ac.mk cl bw pe) c).bw),AV.lst (List.map (iv) (anK n (Ac.mk cl bw pe) c).pe)]].length from(nL rfl))) s2))))))))))))) <|
   .gu fun a17=>
   .gu fun a18=>
   have c19:=Jh (cl) (bw) (pe) (ow) (qu) g l a0 a17 a18;
   have c20:=rrd_c (cl) (bw) (pe) (ow) (qu) g l a0 a17 a18;
   .rn 1 [104,114,186,276,286] [] [(177,hK c19 [] []),(186,hK c20 [] [])] [] (aj (u2 (u2 (u2 (u2 (u2 (aj (k5 (aj t9 (aj t4 (aj t3 (k2 (al (c19))))))) (u2 (u2 (u2 (u2 s2)))))))))) (al (u2 (u2 (u2 (u2 (u2 (aj (k5 (aj t9 (aj t4 (aj t3 (k2 (al (c20))))))) (u2 (u2 (u2 (u2 s2)))))))))))) <|
   .br (fun a19=>
    .gu fun a20=>
    .gu fun a21=>
    .gu fun a22=>
    .br (fun a23=>
    have c21:=Iv ((opK n (Ac.mk cl bw pe) c).cl) ((opK n (Ac.mk cl bw pe) c).bw) ((opK n (Ac.mk cl bw pe) c).pe) a20 a21 a22;
    .rt [104,114,186,276,286,385,405] [] [(195,hK c21 [] [])] [] [] [] (aj (al (u2 (u2 (aj t3 (u2 (ag a19 (ag a19 (aj (aj a19 (k2 (aj t4 (aj t4 (al (c21)))))) (ag a19 (u2 (aj t3 (aj t3 (aj t4 (aj t3 (u2 (ag a23 (ag a23 (aj (aj a23 t3) (ag a23 s2))))))))))))))))))) t2))
    (fun a23=>
    have c21:=Iv ((opK n (Ac.mk cl bw pe) c).cl) ((opK n (Ac.mk cl bw pe) c).bw) ((opK n (Ac.mk cl bw pe) c).pe) a20 a21 a22;
    .rt [104,114,186,276,286,385,404] [] [(195,hK c21 [] [])] [] [] [] (aj (al (u2 (u2 (aj t3 (u2 (ag a19 (ag a19 (aj (aj a19 (k2 (aj t4 (aj t4 (al (c21)))))) (ag a19 (u2 (aj t3 (aj t3 (aj t4 (aj t3 (u2 (aj a23 (aj a23 (aj a23 (ag a23 s2))))))))))))))))))) t2)))
   (fun a19=>
    .rt [104,114,186,276,286,384] [] [] [] [] [] (aj (al (u2 (u2 (aj t3 (u2 (aj a19 (aj a19 (aj a19 (ag a19 (u2 (k3 (aj t3 (u2 (k3 (aj t3 s2))))))))))))))) t2)))))))) (by kernel_rfl)
theorem sam_ct(n:Aa)(cl:List Bool)(bw pe ow:List Int)(qu g:List (List Int))(l:List Bool)(c d:Int)(r:Ret)(h:Al (samStep n cl bw pe ow qu g l c d) (L6 n cl bw pe ow qu g l c d) r):CT Try.prog 33 ([]) ([Ad n,sgA ⟨cl,bw,pe⟩,lkA ⟨ow,qu⟩,.lst (gL g),.lst (boL l),.agg [.int .i64 c,.int .i64 d]]) r.1 r.2:=
 CT.mach (fn:=Try.f33) (c:=zB Try.f33) (S:=samSt n cl bw pe ow qu g l c d) (hd:=samHd) Try.func33 (by kernel_rfl) (nL rfl)
  (fun s o ho=>match s,ho with
   | x,_=>x.elim)
  (fun o ho=>samEn_ok n cl bw pe ow qu g l c d o ho) h
theorem shO_len(n:Aa)(s:Ac):(shO n s).length<=1000:=by
 unfold shO
 split
 .rename_i h
  obtain⟨_,_,a,_⟩:=B0 h
  rw[Gv];omega
 .exact Ty _
theorem soO_len(n:Aa)(s:Ac):(soO n s).length<=1000:=by
 unfold soO
 split
 .rename_i h
  obtain⟨hv,_⟩:=B0 h
  have:=hv.nb24
  rw[Nv];omega
 .exact Ty _
theorem sam_t{n:Aa}(cl:List Bool)(bw pe ow:List Int)(qu g:List (List Int))(l:List Bool)(c d:Int)(hrw:Rows n.nx)(hl:g.length<=9223372036854775807)(hr:∀r∈g,r.length<=9223372036854775807):
  CT Try.prog 33 [] [Ad n,sgA ⟨cl,bw,pe⟩,lkA ⟨ow,qu⟩,.lst (gL g),.lst (boL l),.agg [.int .i64 c,.int .i64 d]] [] (.bool true):=by
 refine sam_ct n cl bw pe ow qu g l c d ([],_) (.val ?_)
 have h1:=nsK_sml n
 have h2:=anK_sml n ⟨cl,bw,pe⟩ c
 have h3:=clK_sml n ⟨cl,bw,pe⟩ c d
 have h4:=opK_sml n ⟨cl,bw,pe⟩ c
 have h5:=shO_len n ⟨cl,bw,pe⟩
 have h6:=soO_len n ⟨cl,bw,pe⟩
 unfold L6
 rw[Ab hrw,Af (bne_self_eq_false _),Af (bne_self_eq_false _),Ab h1.1,Ab h1.2.1,Ab h1.2.2,Ab (by omega),Af (by cases AK n ⟨cl,bw,pe⟩<;>rfl),Ab (by omega),Af (bne_self_eq_false _),Af (bne_self_eq_false _),Ab h2.1,Ab h2.2.1,Ab h2.2.2,Ab h3.1,Ab h3.2.1,Ab h3.2.2,Ab hl,Ab hr,Ah BEq.rfl,Ab h4.1,Ab h4.2.1,Ab h4.2.2,Ah (by cases rdB n ⟨cl,bw,pe⟩ ⟨ow,qu⟩ g l<;>rfl)]
 rw[show (rdE n ⟨cl,bw,pe⟩ ⟨ow,qu⟩ l==rdE n ⟨cl,bw,pe⟩ ⟨ow,qu⟩ l)=true from BEq.rfl]
inductive D5 where
 | l0 (v0:Int) (v1:Nat) (v2:Ao)
 | l1 (v0:List (List Int)) (v1:List Bool) (v2:Int) (v3:Nat) (v4:Ao)
def DK(n:Aa)(cl:List Bool)(bw pe ow:List Int)(qu g:List (List Int))(l:List Bool)(c d:Int)(ls:List Int):D5->St
 | .l0 v0 v1 v2=>St.mk 111 [(15,AV.ptr 0 0 0),(16,AV.ptr 1 0 0),(17,AV.ptr 2 0 0),(18,iv (iN (boL (mdS ls (AO ls 0 6) (AD ls 0 6)).cl).length)),(19,AV.ptr 3 0 0),(21,iv v0)] [some (Ae ls v1),some (bK [Ad (AD ls 0 6)] 8),some (bK [AV.agg [AV.lst (boL (mdS ls (AO ls 0 6) (AD ls 0 6)).cl),AV.lst (List.map (iv) (mdS ls (AO ls 0 6) (AD ls 0 6)).bw),AV.lst (List.map (iv) (mdS ls (AO ls 0 6) (AD ls 0 6)).pe)]] 3),some (bK [AV.agg [AV.lst (List.map (iv) v2.ow),AV.lst (List.map lI v2.qu)]] 2)]
 | .l1 v0 v1 v2 v3 v4=>St.mk 111 [(15,AV.ptr 0 0 0),(16,AV.ptr 1 0 0),(17,AV.ptr 2 0 0),(18,iv (iN (boL (mdS ls (AO ls 0 6) (AD ls 0 6)).cl).length)),(19,AV.ptr 3 0 0),(24,AV.lst (List.map lI v0)),(25,AV.sl 4 0 v1.length),(26,iv v2)] [some (Ae ls v3),some (bK [Ad (AD ls 0 6)] 8),some (bK [AV.agg [AV.lst (boL (mdS ls (AO ls 0 6) (AD ls 0 6)).cl),AV.lst (List.map (iv) (mdS ls (AO ls 0 6) (AD ls 0 6)).bw),AV.lst (List.map (iv) (mdS ls (AO ls 0 6) (AD ls 0 6)).pe)]] 3),some (bK [AV.agg [AV.lst (List.map (iv) v4.ow),AV.lst (List.map lI v4.qu)]] 2),some (bK (List.map bV v1) 1)]
def JT:D5->Nat
 | .l0 _ _ _=>0
 | .l1 _ _ _ _ _=>1
def LS(n:Aa)(cl:List Bool)(bw pe ow:List Int)(qu g:List (List Int))(l:List Bool)(c d:Int)(ls:List Int):Option (D5⊕Ret):=
 gu (Rows n.nx) <|
 gu (g.length<=9223372036854775807) <|
 gu (∀(r:List Int),r∈g->r.length<=9223372036854775807) <|
 gu (Ax (AD ls 0 6)) <|
 gu (Rows (AD ls 0 6).nx) <|
 gu (AO ls 0 6<=5000) <|
 gu (mdK ls (AO ls 0 6) (AD ls 0 6)<9223372036854775807) <|
 some (.inl (.l0 (Ag ls (mdK ls (AO ls 0 6) (AD ls 0 6)) 5) (mdK ls (AO ls 0 6) (AD ls 0 6)+1) (nlJ (iN (boL (mdS ls (AO ls 0 6) (AD ls 0 6)).cl).length))))
def E3(n:Aa)(cl:List Bool)(bw pe ow:List Int)(qu g:List (List Int))(l:List Bool)(c d:Int)(ls:List Int)(v0:Int)(v1:Nat)(v2:Ao):Option (D5⊕Ret):=
 br (decide (0<v0))
 (gu (v1<9223372036854775807) <|
  gu (v1+1<9223372036854775807) <|
  br (owE v2 (Ag ls v1 4) (Ag ls (v1+1) (iN (boL (mdS ls (AO ls 0 6) (AD ls 0 6)).cl).length))==0)
  (some (.inl (.l0 (i64.wrap (v0-1)) (v1+1+1) (owJ v2 (Ag ls v1 4) (Ag ls (v1+1) (iN (boL (mdS ls (AO ls 0 6) (AD ls 0 6)).cl).length))))))
  (some (.inl (.l0 (i64.wrap (v0-1)) (v1+1+1) v2))))
 (gu (v1<9223372036854775807) <|
  gu (v1+1<9223372036854775807) <|
  gu (1 * iN (List.map sA (AD ls 0 6).ss).length<=281474976710656) <|
  gu (iN (List.map sA (AD ls 0 6).ss).length<=9223372036854775807) <|
  some (.inl (.l1 ([[Ag ls v1 (iN (boL (mdS ls (AO ls 0 6) (AD ls 0 6)).cl).length),Ag ls (v1+1) (iN (boL (mdS ls (AO ls 0 6) (AD ls 0 6)).cl).length)]]) (List.replicate (List.map sA (AD ls 0 6).ss).length false) ((0:Int)) (v1+1+1) v2)))
def Ha(n:Aa)(cl:List Bool)(bw pe ow:List Int)(qu g:List (List Int))(l:List Bool)(c d:Int)(ls:List Int)(v0:List (List Int))(v1:List Bool)(v2:Int)(v3:Nat)(v4:Ao):Option (D5⊕Ret):=
 br (decide (v2<iN v1.length))
 (gu (v3<9223372036854775807) <|
  gu (0<=v2) <|
  gu (v2<iN v1.length) <|
  gu ((0+v2.toNat).succ.le (List.map bV v1).length) <|
  some (.inl (.l1 v0 (v1.set (0+v2.toNat) (Ag ls v3 3==0)) (i64.wrap (v2+1)) (v3+1) v4)))
 (gu (v3<9223372036854775807) <|
  gu (v3+1<9223372036854775807) <|
  gu (Rows (AD ls 0 6).nx) <|
  gu (v0.length<=9223372036854775807) <|
  gu (∀(r:List Int),r∈v0->r.length<=9223372036854775807) <|
  some (.inr ([],bV true)))
def MA(n:Aa)(cl:List Bool)(bw pe ow:List Int)(qu g:List (List Int))(l:List Bool)(c d:Int)(ls:List Int):D5->Option (D5⊕Ret)
 | .l0 v0 v1 v2=>E3 n cl bw pe ow qu g l c d ls v0 v1 v2
 | .l1 v0 v1 v2 v3 v4=>Ha n cl bw pe ow qu g l c d ls v0 v1 v2 v3 v4
theorem sacEn_ok(n:Aa)(cl:List Bool)(bw pe ow:List Int)(qu g:List (List Int))(l:List Bool)(c d:Int)(ls:List Int)(o:D5⊕Ret)(h:LS n cl bw pe ow qu g l c d ls=some o):Arr Try.prog Try.f7 0 (DK n cl bw pe ow qu g l c d ls) JT (zB Try.f7) [] {n:=Try.f7.ntmps,fr:=AA 0 ([Ad n,sgA ⟨cl,bw,pe⟩,lkA ⟨ow,qu⟩,.lst (gL g),.lst (boL l),.agg [.int .i64 c,.int .i64 d],lI ls]),hp:=([])} o:=
 Scr.ok h mix (
 have c0:=kn_c;
 .rn 1 [] [] [(27,hK c0 [] [])] [] (aj (u2 (u2 (u2 (u2 t2)))) (al (aj (al (c0)) s2))) <|
 .gu fun a0=>
 .gu fun a1=>
 .gu fun a2=>
 have c1:=sam_t (cl) (bw) (pe) (ow) (qu) g l c d a0 a1 a2;
 have c2:=loose_ct (ls) (0) (6) (show nat_lit 0<=(5000:Nat) from(by first | exact nL rfl | decide)) (show(1:Int)<=(6:Int)/\(6:Int)<=(20:Int) from ⟨(by first | exact nL rfl | decide),(by first | exact nL rfl | decide)⟩);
 .rn 2 [] [] [(35,hK c1 [] []),(41,hK c2 [4] [])] [] (ak (aj (u2 (u2 (u2 (u2 (u2 (u2 (aj (ak (k5 (aj t9 (aj t4 (aj t3 (k2 (aj t3 (al (c1))))))))) s2))))))) (ak (aj (u2 (u2 (u2 s2))) (al (u2 (aj (ak (k3 (al (c2)))) (ak (al (k2 n11)))))))))) <|
 .gu fun a3=>
 .gu fun a4=>
 .gu fun a5=>
 have c3:=md_c (ls) (AO ls 0 6) (AD ls 0 6) a3 a4 a5;
 have c4:=n19_j (iN (boL (mdS ls (AO ls 0 6) (AD ls 0 6)).cl).length);
 .rn 2 [] [] [(44,hK c3 [4] []),(50,hK c4 [] [])] [] (aj (u2 (u2 (aj (k3 (aj t9 (ak (al (c3))))) (ak (al (k2 n11)))))) (aj (u2 (u2 (u2 s2))) (al (u2 (aj (k2 (al (c4))) (u2 (u2 (u2 (ak (aj (k2 n11) s2)))))))))) <|
 .gu fun a6=>
 have c5:=AI (ls) (mdK ls (AO ls 0 6) (AD ls 0 6)) (5) a6;
 .lp [] [] [(54,hK c5 [4] [])] [] [] [4,5,6,7] [15,16,17,18,19,21] (aj (al (u2 (aj (ak (k3 (al (c5)))) s2))) (k2 t9))) (by kernel_rfl)
theorem sacS0_ok(n:Aa)(cl:List Bool)(bw pe ow:List Int)(qu g:List (List Int))(l:List Bool)(c d:Int)(ls:List Int)(v0:Int)(v1:Nat)(v2:Ao)(o:D5⊕Ret)(h:E3 n cl bw pe ow qu g l c d ls v0 v1 v2=some o):Arr Try.prog Try.f7 0 (DK n cl bw pe ow qu g l c d ls) JT (Av Try.f7 0) (.rnd (Av Try.f7 0)::AG Try.f7 0) (DK n cl bw pe ow qu g l c d ls (.l0 v0 v1 v2)) o:=
 Scr.ok h mix (
 .rn 0 [] [] [] [] (al (u2 s2)) <|
 .br (fun a0=>
 .gu fun a1=>
 .gu fun a2=>
 have c0:=AI (ls) v1 (4) a1;
 have c1:=AI (ls) (v1+1) (iN (boL (mdS ls (AO ls 0 6) (AD ls 0 6)).cl).length) a2;
 have c2:=own_j (v2.ow) (v2.qu) (Ag ls v1 4) (Ag ls (v1+1) (iN (boL (mdS ls (AO ls 0 6) (AD ls 0 6)).cl).length));
 .rn 1 [113] [] [(62,hK c0 [0] []),(65,hK c1 [0] []),(66,hK c2 [] [])] [] (aj a0 (aj (u2 (u2 (aj (ak (k3 (al (c0)))) (u2 (u2 (aj (k5 (al (c1))) (aj (k3 (aj t3 (k2 (al (c2))))) (u2 (u2 (u2 (ak (aj (k2 n11) s2)))))))))))) (al (u2 s2)))) <|
 .br (fun a3=>
  .lp [141] [] [] [] [] [0,1,2,3] [15,16,17,18,19,21] (aj (aj a3 (aj (u2 (al (k2 (show Nat.le 1 [AV.agg [AV.lst (List.map (iv) v2.ow),AV.lst (List.map lI v2.qu)]].length from(nL rfl))))) (al (u2 (u2 s2))))) (k2 t9)))
 (fun a3=>
  .lp [140] [] [] [] [] [0,1,2,3] [15,16,17,18,19,21] (aj (aj a3 (al (u2 (u2 s2)))) (k2 t9))))
 (fun a0=>
 .gu fun a1=>
 .gu fun a2=>
 have c0:=AI (ls) v1 (iN (boL (mdS ls (AO ls 0 6) (AD ls 0 6)).cl).length) a1;
 have c1:=AI (ls) (v1+1) (iN (boL (mdS ls (AO ls 0 6) (AD ls 0 6)).cl).length) a2;
 .rn 0 [112] [(78,AV.lst []),(79,AV.lst [])] [(74,hK c0 [0] []),(77,hK c1 [0] [])] [] (aj a0 (al (u2 (u2 (aj (k5 (al (c0))) (u2 (u2 (aj (k5 (al (c1))) (aj t3 (u2 s2)))))))))) <|
 .gu fun a3=>
 .gu fun a4=>
 .lq [] [] [] [] [] [0,1,2,3,4] [15,16,17,18,19,24,25,26] (up [(25,AV.sl 4 0 (List.map sA (AD ls 0 6).ss).length)] [(4,List.replicate (List.map sA (AD ls 0 6).ss).length (bV false))] (DK n cl bw pe ow qu g l c d ls (.l1 ([[Ag ls v1 (iN (boL (mdS ls (AO ls 0 6) (AD ls 0 6)).cl).length),Ag ls (v1+1) (iN (boL (mdS ls (AO ls 0 6) (AD ls 0 6)).cl).length)]]) (List.replicate (List.map sA (AD ls 0 6).ss).length false) ((0:Int)) (v1+1+1) v2))) (aj (aj (u2 (u2 (u2 (aj (k2 (aj (show 0<=iN (List.map sA (AD ls 0 6).ss).length from(Int.natCast_nonneg _)) (aj (show iN (List.map sA (AD ls 0 6).ss).length<=iN (List.map sA (AD ls 0 6).ss).length by omega) (aj a3 a4)))) s2)))) s2) (k5 t9)) (by simp[up,upF,upV,upH,upB,DK,gL,boL,lI,sA,bA]))) (by kernel_rfl)
theorem sacS1_ok(n:Aa)(cl:List Bool)(bw pe ow:List Int)(qu g:List (List Int))(l:List Bool)(c d:Int)(ls:List Int)(v0:List (List Int))(v1:List Bool)(v2:Int)(v3:Nat)(v4:Ao)(o:D5⊕Ret)(h:Ha n cl bw pe ow qu g l c d ls v0 v1 v2 v3 v4=some o):Arr Try.prog Try.f7 0 (DK n cl bw pe ow qu g l c d ls) JT (Av Try.f7 1) (.rnd (Av Try.f7 1)::AG Try.f7 1) (DK n cl bw pe ow qu g l c d ls (.l1 v0 v1 v2 v3 v4)) o:=
 Scr.ok h mix (
 .rn 0 [] [] [] [] (al (u2 (u2 (u2 (al t3))))) <|
 .br (fun a0=>
 .gu fun a1=>
 .gu fun a2=>
 .gu fun a3=>
 .gu fun a4=>
 have c0:=AI (ls) v3 (3) a1;
 .lq [175] [] [(93,hK c0 [0] [])] [] [] [0,1,2,3,4] [15,16,17,18,19,24,25,26] (up [(25,AV.sl 4 0 v1.length)] [(4,(List.map bV v1).set (0+v2.toNat) (bV (Ag ls v3 3==0)))] (DK n cl bw pe ow qu g l c d ls (.l1 v0 (v1.set (0+v2.toNat) (Ag ls v3 3==0)) (i64.wrap (v2+1)) (v3+1) v4))) (aj (aj a0 (aj (u2 (u2 (u2 (aj (ak (k3 (al (c0)))) (u2 (aj (k2 (aj a2 a3)) (al (k2 a4)))))))) (al (u2 (u2 s2))))) (k5 t9)) (by simp[up,upF,upV,upH,upB,DK,gL,boL,lI,sA,bA]))
 (fun a0=>
 .gu fun a1=>
 .gu fun a2=>
 .gu fun a3=>
 .gu fun a4=>
 .gu fun a5=>
 have c0:=AI (ls) v3 (i64.wrap (iN (boL (mdS ls (AO ls 0 6) (AD ls 0 6)).cl).length+2)) a1;
 have c1:=AI (ls) (v3+1) (6) a2;
 have c2:=sam_t ((mdS ls (AO ls 0 6) (AD ls 0 6)).cl) ((mdS ls (AO ls 0 6) (AD ls 0 6)).bw) ((mdS ls (AO ls 0 6) (AD ls 0 6)).pe) (v4.ow) (v4.qu) v0 v1 (i64.wrap (Ag ls v3 (i64.wrap (iN (boL (mdS ls (AO ls 0 6) (AD ls 0 6)).cl).length+2))-1)) (i64.wrap (Ag ls (v3+1) 6-2)) a3 a4 a5;
 .rt [174] [] [(104,hK c0 [0] []),(107,hK c1 [0] []),(110,hK c2 [] [4])] [] [] [] (aj (aj a0 (al (u2 (u2 (u2 (u2 (u2 (u2 (u2 (u2 (aj (k5 (al (c0))) (u2 (u2 (aj (ak (k3 (al (c1)))) (u2 (aj t3 (aj (ak (k5 (aj t9 (aj t4 (aj t3 (ak (aj (show v1.length=(List.map bV v1).length by simp) (aj t3 (aj (c2) (show ∀(blk:Blk),blk∈[]->DB blk from(by intro _ h;cases h))))))))))) s2))))))))))))))))) t2))) (by kernel_rfl)
theorem sac_ct(n:Aa)(cl:List Bool)(bw pe ow:List Int)(qu g:List (List Int))(l:List Bool)(c d:Int)(ls:List Int)(r:Ret)(h:Al (MA n cl bw pe ow qu g l c d ls) (LS n cl bw pe ow qu g l c d ls) r):CT Try.prog 7 ([]) ([Ad n,sgA ⟨cl,bw,pe⟩,lkA ⟨ow,qu⟩,.lst (gL g),.lst (boL l),.agg [.int .i64 c,.int .i64 d],lI ls]) r.1 r.2:=
 CT.mach (fn:=Try.f7) (c:=zB Try.f7) (S:=DK n cl bw pe ow qu g l c d ls) (hd:=JT) Try.func7 (by kernel_rfl) (nL rfl)
  (fun s o ho=>match s,ho with
   | .l0 v0 v1 v2,ho=>sacS0_ok n cl bw pe ow qu g l c d ls v0 v1 v2 o ho
   | .l1 v0 v1 v2 v3 v4,ho=>sacS1_ok n cl bw pe ow qu g l c d ls v0 v1 v2 v3 v4 o ho
  )
  (fun o ho=>sacEn_ok n cl bw pe ow qu g l c d ls o ho) h
theorem N3{n:Nat}{es:List AV}(h:∀x∈es,ShV Try.prog n 4 x):∃s:List Bool,es=s.map AV.bool:=by
 induction es with
 | nil=>exact⟨[],rfl⟩
 | cons x es ih=>
  obtain⟨L,rfl⟩:=ih fun y hy=>h y (TD _ hy)
  obtain⟨i,rfl⟩:=(h x (by simp)).boolD Try.underlying4
  exact⟨i::L,rfl⟩
theorem rdBlkD89{n:Nat}{a:AV}(h:ShV Try.prog (n+1) 89 a):∃x:AQ,a=bA x:=by
 obtain⟨_,hs,rfl⟩:=h.structD Try.underlying89
 obtain⟨_,_,rfl,g0,hs⟩:=hs.consD
 obtain⟨_,_,rfl,g1,hs⟩:=hs.consD
 obtain⟨_,_,rfl,g2,hs⟩:=hs.consD
 obtain rfl:=hs.nilD
 obtain⟨x0,_,rfl⟩:=g0.strD Try.underlying9
 obtain⟨x1,_,rfl⟩:=g1.intD Try.underlying3
 obtain⟨x2,_,rfl⟩:=g2.intD Try.underlying3
 exact⟨⟨x0,x1,x2⟩,rfl⟩
theorem RK{n:Nat}{es:List AV}(h:∀x∈es,ShV Try.prog (n+1) 89 x):∃L:List AQ,es=L.map bA:=by
 induction es with
 | nil=>exact⟨[],rfl⟩
 | cons x es ih=>
  obtain⟨L,rfl⟩:=ih fun y hy=>h y (TD _ hy)
  obtain⟨f,rfl⟩:=rdBlkD89 (h x (by simp))
  exact⟨f::L,rfl⟩
theorem rdSpuD63{n:Nat}{a:AV}(h:ShV Try.prog (n+1) 63 a):∃x:Az,a=sA x:=by
 obtain⟨_,hs,rfl⟩:=h.structD Try.underlying63
 obtain⟨_,_,rfl,g0,hs⟩:=hs.consD
 obtain⟨_,_,rfl,g1,hs⟩:=hs.consD
 obtain⟨_,_,rfl,g2,hs⟩:=hs.consD
 obtain⟨_,_,rfl,g3,hs⟩:=hs.consD
 obtain⟨_,_,rfl,g4,hs⟩:=hs.consD
 obtain⟨_,_,rfl,g5,hs⟩:=hs.consD
 obtain rfl:=hs.nilD
 obtain⟨x0,_,rfl⟩:=g0.strD Try.underlying9
 obtain⟨x1,rfl⟩:=g1.boolD Try.underlying4
 obtain⟨x2,_,rfl⟩:=g2.intD Try.underlying3
 obtain⟨x3,_,rfl⟩:=g3.intD Try.underlying3
 obtain⟨x4,_,rfl⟩:=g4.intD Try.underlying3
 obtain⟨x5,_,rfl⟩:=g5.intD Try.underlying3
 exact⟨⟨x0,x1,x2,x3,x4,x5⟩,rfl⟩
theorem QZ{n:Nat}{es:List AV}(h:∀x∈es,ShV Try.prog (n+1) 63 x):∃L:List Az,es=L.map sA:=by
 induction es with
 | nil=>exact⟨[],rfl⟩
 | cons x es ih=>
  obtain⟨L,rfl⟩:=ih fun y hy=>h y (TD _ hy)
  obtain⟨f,rfl⟩:=rdSpuD63 (h x (by simp))
  exact⟨f::L,rfl⟩
theorem Md{n:Nat}{es:List AV}(h:∀x∈es,ShV Try.prog (n+1) 22 x):∃g:List (List Int),es=gL g/\Rows g:=by
 have key:∃g:List (List Int),es=gL g/\∀r∈g,r.length<=9223372036854775807:=by
  induction es with
  | nil=>exact⟨[],rfl,fun r hr=>by cases hr⟩
  | cons x es ih=>
   obtain⟨g,rfl,hg⟩:=ih fun y hy=>h y (TD _ hy)
   obtain⟨ls,hm,hl,rfl⟩:=(h x (by simp)).sliceD Try.underlying22
   obtain⟨L,rfl⟩:=Ho hl
   refine⟨L::g,rfl,fun r hr=>?_⟩
   rcases TQ.1 hr with rfl | hr
   .simpa [maxLen] using hm
   .exact hg r hr
 obtain⟨g,e,hg⟩:=key
 refine⟨g,e,fun v hv=>?_⟩
 rw[Tl,Tk hv]
 exact hg _ (TU hv)
theorem rdNet33{n:Nat}{a:AV}(h:ShV Try.prog (n+4) 33 a):∃x:Aa,a=Ad x/\Rows x.nx:=by
 obtain⟨_,hs,rfl⟩:=h.structD Try.underlying33
 obtain⟨_,_,rfl,g0,hs⟩:=hs.consD
 obtain⟨_,_,rfl,g1,hs⟩:=hs.consD
 obtain⟨_,_,rfl,g2,hs⟩:=hs.consD
 obtain⟨_,_,rfl,g3,hs⟩:=hs.consD
 obtain⟨_,_,rfl,g4,hs⟩:=hs.consD
 obtain rfl:=hs.nilD
 obtain⟨_,_,h0,rfl⟩:=g0.sliceD Try.underlying27
 obtain⟨bs,rfl⟩:=RK h0
 obtain⟨_,_,h1,rfl⟩:=g1.sliceD Try.underlying28
 obtain⟨nx,rfl,hnx⟩:=Md h1
 obtain⟨_,_,h2,rfl⟩:=g2.sliceD Try.underlying29
 obtain⟨ss,rfl⟩:=QZ h2
 obtain⟨_,_,h3,rfl⟩:=g3.sliceD Try.underlying22
 obtain⟨rs,rfl⟩:=Ho h3
 obtain⟨_,h4,rfl⟩:=g4.structD Try.underlying31
 obtain⟨_,_,rfl,k0,h4⟩:=h4.consD
 obtain⟨_,_,rfl,k1,h4⟩:=h4.consD
 obtain⟨_,_,rfl,k2,h4⟩:=h4.consD
 obtain⟨_,_,rfl,k3,h4⟩:=h4.consD
 obtain rfl:=h4.nilD
 obtain⟨q,_,rfl⟩:=k0.intD Try.underlying3
 obtain⟨a,_,rfl⟩:=k1.intD Try.underlying3
 obtain⟨d,_,rfl⟩:=k2.intD Try.underlying3
 obtain⟨p,_,rfl⟩:=k3.intD Try.underlying3
 exact⟨⟨bs,nx,ss,rs,q,a,d,p⟩,rfl,hnx⟩
theorem rdSig37{n:Nat}{a:AV}(h:ShV Try.prog (n+4) 37 a):∃x:Ac,a=sgA x:=by
 obtain⟨_,hs,rfl⟩:=h.structD Try.underlying37
 obtain⟨_,_,rfl,g0,hs⟩:=hs.consD
 obtain⟨_,_,rfl,g1,hs⟩:=hs.consD
 obtain⟨_,_,rfl,g2,hs⟩:=hs.consD
 obtain rfl:=hs.nilD
 obtain⟨_,_,h0,rfl⟩:=g0.sliceD Try.underlying35
 obtain⟨cl,rfl⟩:=N3 h0
 obtain⟨_,_,h1,rfl⟩:=g1.sliceD Try.underlying22
 obtain⟨bw,rfl⟩:=Ho h1
 obtain⟨_,_,h2,rfl⟩:=g2.sliceD Try.underlying22
 obtain⟨pe,rfl⟩:=Ho h2
 exact⟨⟨cl,bw,pe⟩,rfl⟩
theorem rdLok44{n:Nat}{a:AV}(h:ShV Try.prog (n+4) 44 a):∃x:Ao,a=lkA x:=by
 obtain⟨_,hs,rfl⟩:=h.structD Try.underlying44
 obtain⟨_,_,rfl,g0,hs⟩:=hs.consD
 obtain⟨_,_,rfl,g1,hs⟩:=hs.consD
 obtain rfl:=hs.nilD
 obtain⟨_,_,h0,rfl⟩:=g0.sliceD Try.underlying22
 obtain⟨ow,rfl⟩:=Ho h0
 obtain⟨_,_,h1,rfl⟩:=g1.sliceD Try.underlying28
 obtain⟨qu,rfl,_⟩:=Md h1
 exact⟨⟨ow,qu⟩,rfl⟩
end Go.Proofs.Ytedjkebooffjpaa

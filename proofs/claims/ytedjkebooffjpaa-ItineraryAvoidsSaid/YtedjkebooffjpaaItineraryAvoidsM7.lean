/- Parts of the proof:Sg3m,SgF,SgI,SgG,Sg4m,SgJ,SgK,AxSd,AxSe,Ac0,Ac1m,It1m,ItP,ItC,ItA,Sg6m,SgL,Sg5m,SgM,Lk0,Ac2,Ac3m,It2m,ItD,ItE,ItF,ItG,It4m,ItH,It3m,ItI,It5m,It6m,ItJ,It8m,ItK,It9m,ItL,It10m,ItM,It11m,It7m,ItN. -/
import Derived.Test.YtedjkebooffjpaaProg
import Derived.KernelRfl
import Derived.Test.YtedjkebooffjpaaItineraryAvoidsM6
noncomputable section
set_option linter.unusedVariables false
set_option linter.unusedSimpArgs false
open Go Go.AX Go.Proofs
set_option maxRecDepth 100000
set_option maxHeartbeats 4000000
set_option linter.unusedVariables false
set_option linter.unusedSimpArgs false
open Go.IntKind (i64 u64)
open List renaming map->Tt,replicate->Tu,drop->Tv,take->Tw,range->Tx
open Int renaming toNat->Ty
open Go.AX.AV renaming lst->Tz
open Go.Proofs.Try renaming prog->TA
namespace Go.Proofs.Ytedjkebooffjpaa
inductive C9 where
 | l0 (v0:Int)
 | l1 (v0:Int)
def Gr(n:Ac)(q:Af):C9->St
 | .l0 v0=>St.mk 101 [(2,AV.ptr 0 0 0),(3,AV.ptr 1 0 0),(42,Tz (Tt iv q.bw)),(43,iv (iN (Tt iv q.bw).length)),(44,iv v0)] [some (bK [Aj n] 8),some (bK [AV.agg [Tz (boL q.cl),Tz (Tt iv q.bw),Tz (Tt iv q.pe)]] 3)]
 | .l1 v0=>St.mk 101 [(2,AV.ptr 0 0 0),(3,AV.ptr 1 0 0),(69,Tz (Tt iv q.pe)),(70,iv (iN (Tt iv q.pe).length)),(71,iv v0)] [some (bK [Aj n] 8),some (bK [AV.agg [Tz (boL q.cl),Tz (Tt iv q.bw),Tz (Tt iv q.pe)]] 3)]
def JF:C9->Nat
 | .l0 _=>0
 | .l1 _=>1
def Lk(n:Ac)(q:Af):Option (C9⊕Ret):=
 gu (Rows n.nx) <|
 br (Jb n != 0)
 (some (.inr ([],bV false)))
 (br (iN (boL q.cl).length != Im n)
  (some (.inr ([],bV false)))
  (br (iN (Tt iV q.bw).length != Im n)
   (some (.inr ([],bV false)))
   (br (decide (iN (Tt bA n.bs).length<iN (Tt iV q.pe).length))
    (some (.inr ([],bV false)))
    (some (.inl (.l0 ((0:Int))))))))
def Fb(n:Ac)(q:Af)(v0:Int):Option (C9⊕Ret):=
 br (decide (v0<iN (Tt iV q.bw).length))
 (gu (0<=v0) <|
  el (q.bw) (v0.toNat) fun(x47:Int)=>
  br (decide (x47 < -1))
  (some (.inr ([],bV false)))
  (br (decide (8<=x47))
   (some (.inr ([],bV false)))
   (br (decide (0<=x47))
    (el (q.cl) (v0.toNat) fun(x62:Bool)=>
     br (!x62)
     (some (.inr ([],bV false)))
     (some (.inl (.l0 (i64.wrap (v0+1))))))
    (some (.inl (.l0 (i64.wrap (v0+1))))))))
 (some (.inl (.l1 ((0:Int)))))
def EY(n:Ac)(q:Af)(v0:Int):Option (C9⊕Ret):=
 br (decide (v0<iN (Tt iV q.pe).length))
 (gu (0<=v0) <|
  el (q.pe) (v0.toNat) fun(x74:Int)=>
  br (decide (x74<0))
  (some (.inr ([],bV false)))
  (br (decide (iN (Tt bA n.bs).length<=x74))
   (some (.inr ([],bV false)))
   (gu (0<=x74) <|
    el (q.cl) (x74.toNat) fun(x89:Bool)=>
    br x89
    (some (.inr ([],bV false)))
    (gu (∀(e:AV),e∈Tt iV q.pe->e.cells.length=1) <|
     gu (v0<=iN (Tt iV q.pe).length) <|
     gu ((Tw (v0.toNat-Ty 0) (Tv (Ty 0) q.pe)).length<=9223372036854775807) <|
     br (Az (Tw (v0.toNat-Ty 0) (Tv (Ty 0) q.pe)) x74)
     (some (.inr ([],bV false)))
     (some (.inl (.l1 (i64.wrap (v0+1)))))))))
 (some (.inr ([],bV true)))
def svaStep(n:Ac)(q:Af):C9->Option (C9⊕Ret)
 | .l0 v0=>Fb n q v0
 | .l1 v0=>EY n q v0
theorem svaEn_ok(n:Ac)(q:Af)(o:C9⊕Ret)(h:Lk n q=some o):Arr TA Try.f25 0 (Gr n q) JF (zB Try.f25) [] {n:=Try.f25.ntmps,fr:=AK 0 ([Aj n,sgA q]),hp:=([])} o:=
 Scr.ok h mix (
 .rn 0 [] [] [] [] (al (u2 (u2 t2))) <|
 .gu fun a0=>
 have c0:=cnt_c a0;
 .rn 0 [] [] [(13,hK c0 [] [])] [] (al (u2 (aj (ak (aj t9 (al (c0)))) (u2 (u2 (u2 (u2 s2))))))) <|
 .br (fun a1=>
 .rt [37] [] [] [] [] [] (aj (aj (u2 (u2 (u2 (aj a1 (aj a1 (aj a1 (aj a1 (aj a1 (ag a1 (u2 (k5 (aj t3 (u2 (k2 (k5 (al t3)))))))))))))))) (ak s2)) t2))
 (fun a1=>
 .br (fun a2=>
  .rt [36,51] [] [] [] [] [] (aj (aj (u2 (u2 (u2 (ag a1 (ag a1 (ag a1 (ag a1 (aj (aj a1 t3) (ag a1 (u2 (aj a2 (aj a2 (aj a2 (aj a2 (aj a2 (ag a2 (u2 (k2 (k5 (al t3)))))))))))))))))))) (ak s2)) t2))
 (fun a2=>
  .br (fun a3=>
  .rt [36,50,65] [] [] [] [] [] (aj (aj (u2 (u2 (u2 (ag a1 (ag a1 (ag a1 (ag a1 (aj (aj a1 t3) (ag a1 (u2 (ag a2 (ag a2 (ag a2 (ag a2 (aj (aj a2 t3) (ag a2 (u2 (aj a3 (aj a3 (aj a3 (aj a3 (aj a3 (aj a3 (aj a3 (al (aj a3 t2)))))))))))))))))))))))))) (ak s2)) t2))
  (fun a3=>
  .rn 0 [36,50,64] [] [] [] (al (u2 (u2 (u2 (ag a1 (ag a1 (ag a1 (ag a1 (aj (aj a1 t3) (ag a1 (u2 (ag a2 (ag a2 (ag a2 (ag a2 (aj (aj a2 t3) (ag a2 (u2 (ag a3 (ag a3 (ag a3 (ag a3 (ag a3 (ag a3 (aj (aj a3 t3) (al (aj a3 t2))))))))))))))))))))))))))) <|
  .br (fun a4=>
   .rt [36,50,64,81] [] [] [] [] [] (aj (aj a4 s2) t2))
  (fun a4=>
   .lp [36,50,64,80] [] [] [] [] [0,1] [2,3,42,43,44] (aj (aj a4 (al (u2 (u2 (u2 t2))))) t8)))))) (by kernel_rfl)
theorem svaS0_ok(n:Ac)(q:Af)(v0:Int)(o:C9⊕Ret)(h:Fb n q v0=some o):Arr TA Try.f25 0 (Gr n q) JF (Ay Try.f25 0) (.rnd (Ay Try.f25 0)::AN Try.f25 0) (Gr n q (.l0 v0)) o:=
 Scr.ok h mix (
 .rn 0 [] [] [] [] (al (al t3)) <|
 .br (fun a0=>
 .gu fun a1=>
 .el fun x47 a2=>
 .rn 0 [91] [(47,iv x47)] [] [] (aj a0 (al (u2 (aj (k2 (aj a1 (AE (f:=iv) a2))) (u2 (u2 s2)))))) <|
 .br (fun a3=>
  .rt [103] [] [] [] [] [] (aj (aj (u2 (u2 (u2 (aj a3 (aj a3 (ag a3 (u2 (k5 (k5 (al t3)))))))))) (ak s2)) t2))
 (fun a3=>
  .br (fun a4=>
  .rt [102,111] [] [] [] [] [] (aj (aj (u2 (u2 (u2 (ag a3 (ag a3 (ag a3 (u2 (aj a4 (aj a4 (aj a4 (ak (k5 (aj a4 (al (aj a4 t2))))))))))))))) (ak s2)) t2))
  (fun a4=>
  .br (fun a5=>
   .el fun x62 a6=>
   .rn 0 [102,110,117] [(62,bV x62)] [] [] (al (u2 (u2 (u2 (ag a3 (ag a3 (ag a3 (u2 (ag a4 (ag a4 (ag a4 (ag a5 (ag a5 (ag a5 (aj (aj a5 (k2 (aj a1 (AE (f:=bV) a6)))) (ag a5 (ag a5 (aj (aj a4 (aj a5 t2)) (al (aj a4 t2)))))))))))))))))))) <|
   .br (fun a7=>
   .rt [102,110,117,133] [] [] [] [] [] (aj (aj a7 s2) t2))
   (fun a7=>
   .lp [102,110,117,132] [] [] [] [] [0,1] [2,3,42,43,44] (aj (aj a7 (al (u2 s2))) t8)))
  (fun a5=>
   .lp [102,110,116] [] [] [] [] [0,1] [2,3,42,43,44] (aj (aj (u2 (u2 (u2 (ag a3 (ag a3 (ag a3 (u2 (ag a4 (ag a4 (ag a4 (aj a5 (aj a5 (aj a5 (aj a5 (aj a5 (aj a5 (aj (aj a4 (aj a5 t2)) (al (aj a4 t2))))))))))))))))))) (ak (al (u2 s2)))) t8)))))
 (fun a0=>
 .lp [90] [] [] [] [] [0,1] [2,3,69,70,71] (aj (aj a0 (al (u2 (u2 (u2 t2))))) t8))) (by kernel_rfl)
theorem svaS1_ok(n:Ac)(q:Af)(v0:Int)(o:C9⊕Ret)(h:EY n q v0=some o):Arr TA Try.f25 0 (Gr n q) JF (Ay Try.f25 1) (.rnd (Ay Try.f25 1)::AN Try.f25 1) (Gr n q (.l1 v0)) o:=
 Scr.ok h mix (
 .rn 0 [] [] [] [] (al (al t3)) <|
 .br (fun a0=>
 .gu fun a1=>
 .el fun x74 a2=>
 .rn 0 [145] [(74,iv x74)] [] [] (aj a0 (al (u2 (aj (k2 (aj a1 (AE (f:=iv) a2))) (u2 (u2 s2)))))) <|
 .br (fun a3=>
  .rt [157] [] [] [] [] [] (aj (aj (u2 (u2 (u2 (aj a3 (aj a3 (aj a3 (aj a3 (aj a3 (ag a3 (u2 (k5 (aj t3 (u2 (ak (k5 (al t3)))))))))))))))) (ak s2)) t2))
 (fun a3=>
  .br (fun a4=>
  .rt [156,171] [] [] [] [] [] (aj (aj (u2 (u2 (u2 (ag a3 (ag a3 (ag a3 (ag a3 (aj (aj a3 t3) (ag a3 (u2 (aj a4 (aj a4 (aj a4 (aj a4 (aj a4 (ag a4 (u2 (ak (k5 (al t3)))))))))))))))))))) (ak s2)) t2))
  (fun a4=>
  .gu fun a5=>
  .el fun x89 a6=>
  .br (fun a7=>
   .rt [156,170,185] [(89,bV x89)] [] [] [] [] (aj (aj (u2 (u2 (u2 (ag a3 (ag a3 (ag a3 (ag a3 (aj (aj a3 t3) (ag a3 (u2 (ag a4 (ag a4 (ag a4 (aj (aj a4 (k2 (aj a5 (AE (f:=bV) a6)))) (ag a4 (ag a4 (u2 (aj a7 (aj a7 (aj a7 (aj a7 (aj a7 (aj a7 (al (aj a7 t2))))))))))))))))))))))))) (ak s2)) t2))
  (fun a7=>
   .gu fun a8=>
   .gu fun a9=>
   .gu fun a10=>
   have c0:=con_c (Tw (v0.toNat-Ty 0) (Tv (Ty 0) q.pe)) x74 a10;
   .rn 0 [156,170,184] [(89,bV x89)] [(98,hK c0 [] [])] [] (al (u2 (u2 (u2 (ag a3 (ag a3 (ag a3 (ag a3 (aj (aj a3 t3) (ag a3 (u2 (ag a4 (ag a4 (ag a4 (aj (aj a4 (k2 (aj a5 (AE (f:=bV) a6)))) (ag a4 (ag a4 (u2 (ag a7 (ag a7 (ag a7 (aj (aj a7 (k2 (aj a8 (aj (show(0:Int)<=(0:Int) from(by first | exact nL rfl | decide)) (aj a1 (aj a9 (show iN (Tt iv q.pe).length<=iN (Tt iv q.pe).length by omega))))))) (ag a7 (aj (aj a7 (ak (k3 (al (show CT TA 47 [] [Tz (Tw (v0.toNat-Ty 0) (Tv (Ty 0) (Tt iv q.pe))),iv x74] [] (bV (Az (Tw (v0.toNat-Ty 0) (Tv (Ty 0) q.pe)) x74)) from CT.eqs (c0) (by first | (simp only[boL,SI,Tn,List.map_take,List.map_drop,List.map_replicate,List.nil_append];done) | (simp only[boL,SI,Tn,List.map_take,List.map_drop,List.map_replicate,List.nil_append];rfl) | (simp[gL,boL,lI,sA,bA];done) | (simp[gL,boL,lI,sA,bA];rfl) | (simp only[Aj,SI,Tn,Sq,Sr];rfl)) (by first | (simp only[boL,SI,Tn,List.map_take,List.map_drop,List.map_replicate,List.nil_append];done) | (simp only[boL,SI,Tn,List.map_take,List.map_drop,List.map_replicate,List.nil_append];rfl) | (simp[gL,boL,lI,sA,bA];done) | (simp[gL,boL,lI,sA,bA];rfl) | (simp only[Aj,SI,Tn,Sq,Sr];rfl))))))) (al (aj a7 t2)))))))))))))))))))))))))) <|
   .br (fun a11=>
   .rt [156,170,184,199] [] [] [] [] [] (aj (aj a11 s2) t2))
   (fun a11=>
   .lp [156,170,184,198] [] [] [] [] [0,1] [2,3,69,70,71] (aj (aj a11 (al (u2 s2))) t8))))))
 (fun a0=>
 .rt [144] [] [] [] [] [] (aj (aj a0 s2) t2))) (by kernel_rfl)
theorem sva_ct(n:Ac)(q:Af)(r:Ret)(h:Ax (svaStep n q) (Lk n q) r):CT TA 25 ([]) ([Aj n,sgA q]) r.1 r.2:=
 CT.mach (fn:=Try.f25) (c:=zB Try.f25) (S:=Gr n q) (hd:=JF) Try.func25 (by kernel_rfl) (nL rfl)
  (fun s o ho=>match s,ho with
   | .l0 v0,ho=>svaS0_ok n q v0 o ho
   | .l1 v0,ho=>svaS1_ok n q v0 o ho
  )
  (fun o ho=>svaEn_ok n q o ho) h
def O7(n:Ac)(q:Af):Empty->St
 | x=>x.elim
def MZ:Empty->Nat
 | x=>x.elim
def Lj(n:Ac)(q:Af):Option (Empty⊕Ret):=
 gu (Rows n.nx) <|
 br (A6 n)
 (gu (AA n) <|
  some (.inr ([],bV (F4 n q))))
 (some (.inr ([],bV false)))
def r20vStep(n:Ac)(q:Af):Empty->Option (Empty⊕Ret)
 | x=>x.elim
theorem PO(n:Ac)(q:Af)(o:Empty⊕Ret)(h:Lj n q=some o):Arr TA Try.f75 0 (O7 n q) MZ (zB Try.f75) [] {n:=Try.f75.ntmps,fr:=AK 0 ([Aj n,sgA q]),hp:=([])} o:=
 Scr.ok h mix (
 .rn 0 [] [] [] [] (al (u2 (u2 t2))) <|
 .gu fun a0=>
 .br (fun a1=>
 .gu fun a2=>
 have c0:=JH a0;
 have c1:=fo_c q a2;
 .rt [15] [] [(6,hK c0 [] []),(10,hK c1 [] [])] [] [] [] (aj (al (u2 (aj (ak (aj t9 (al (c0)))) (u2 (ag a1 (ag a1 (aj (aj a1 (k2 (aj t9 (aj t4 (al (c1)))))) (ag a1 s2)))))))) t2))
 (fun a1=>
 have c0:=JH a0;
 .rt [14] [] [(6,hK c0 [] [])] [] [] [] (aj (al (u2 (aj (ak (aj t9 (al (c0)))) (u2 (aj a1 (aj a1 (aj a1 (ag a1 s2)))))))) t2))) (by kernel_rfl)
theorem r20v_ct(n:Ac)(q:Af)(r:Ret)(h:Ax (r20vStep n q) (Lj n q) r):CT TA 75 ([]) ([Aj n,sgA q]) r.1 r.2:=
 CT.mach (fn:=Try.f75) (c:=zB Try.f75) (S:=O7 n q) (hd:=MZ) Try.func75 (by kernel_rfl) (nL rfl)
  (fun s o ho=>match s,ho with
   | x,_=>x.elim)
  (fun o ho=>PO n q o ho) h
def clbSt(l:List Bool):Empty->St
 | x=>x.elim
def clbHd:Empty->Nat
 | x=>x.elim
def K7(l:List Bool):Option (Empty⊕Ret):=
 gu (boL l=[]->False) <|
 gu (∀(e:AV),e∈boL l->e.cells.length=1) <|
 gu (0+(boL l).length<=9223372036854775807) <|
 gu ((0+(boL l).length) * 1<=140737488355328) <|
 some (.inr ([some (bK ([]++boL l) 1)],AV.sl 0 0 (0+(boL l).length)))
def clbStep(l:List Bool):Empty->Option (Empty⊕Ret)
 | x=>x.elim
theorem clbEn_ok(l:List Bool)(o:Empty⊕Ret)(h:K7 l=some o):Arr TA Try.f55 0 (clbSt l) clbHd (zB Try.f55) [] {n:=Try.f55.ntmps,fr:=AK 0 ([.lst (boL l)]),hp:=([])} o:=
 Scr.ok h mix (
 .rn 0 [] [] [] [] s2 <|
 .gu fun a0=>
 .rn 0 [] [] [] [] (al (u2 (al (ak a0)))) <|
 .gu fun a1=>
 .gu fun a2=>
 .gu fun a3=>
 .rt [] [] [] [] [1] [] (aj (ak (al (ak (u2 (aj (k2 (aj (show nat_lit 0=nat_lit 0 from rfl) (aj a1 (aj a2 a3)))) s2))))) t3)) (by kernel_rfl)
theorem clb_ct(l:List Bool)(r:Ret)(h:Ax (clbStep l) (K7 l) r):CT TA 55 ([]) ([.lst (boL l)]) r.1 r.2:=
 CT.mach (fn:=Try.f55) (c:=zB Try.f55) (S:=clbSt l) (hd:=clbHd) Try.func55 (by kernel_rfl) (nL rfl)
  (fun s o ho=>match s,ho with
   | x,_=>x.elim)
  (fun o ho=>clbEn_ok l o ho) h
inductive Er where
 | l0 (v0:Int) (v1:List Int)
def EH(q:Af)(w:Int):Er->St
 | .l0 v0 v1=>St.mk 39 [(1,iv w),(2,AV.ptr 0 0 0),(4,AV.ptr 1 0 0),(5,AV.ptr 2 0 0),(6,iv v0)] [some (bK [AV.agg [Tz (boL q.cl),Tz (Tt iv q.bw),Tz (Tt iv q.pe)]] 3),some (bK [AV.agg [AV.nils,AV.nils,AV.nils]] 3),some (Blk.mk [AV.agg [AV.sl 3 0 (boL q.cl).length,AV.sl 4 0 q.bw.length,AV.sl 5 0 v1.length]] 3 false true none),some (bK (boL q.cl) 1),some (bK (Tt iv q.bw) 1),some (bK (Tt iv v1) 1)]
def K9:Er->Nat
 | .l0 _ _=>0
def ME(q:Af)(w:Int):Option (Er⊕Ret):=
 gu (∀(e:AV),e∈boL q.cl->e.cells.length=1) <|
 gu ((boL q.cl).length<=9223372036854775807) <|
 gu ((boL q.cl).length * 1<=140737488355328) <|
 gu (∀(e:AV),e∈Tt iV q.bw->e.cells.length=1) <|
 gu ((Tt iV q.bw).length<=9223372036854775807) <|
 gu ((Tt iV q.bw).length * 8<=140737488355328) <|
 some (.inl (.l0 ((0:Int)) ([])))
def Hm(q:Af)(w v0:Int)(v1:List Int):Option (Er⊕Ret):=
 br (decide (v0<iN (Tt iV q.pe).length))
 (gu (0<=v0) <|
  el (q.pe) (v0.toNat) fun(x24:Int)=>
  br (x24 != w)
  (el (q.pe) (v0.toNat) fun(x33:Int)=>
   gu ((Tt iV v1).length+[iV x33].length<=9223372036854775807) <|
   gu (((Tt iV v1).length+[iV x33].length) * 8<=140737488355328) <|
   some (.inl (.l0 (i64.wrap (v0+1)) (v1++[x33]))))
  (some (.inl (.l0 (i64.wrap (v0+1)) v1))))
 (some (.inr ([some (bK (boL q.cl) 1),some (bK (Tt iV q.bw) 1),some (bK (Tt iV v1) 1)],AV.agg [AV.sl 0 0 (boL q.cl).length,AV.sl 1 0 q.bw.length,AV.sl 2 0 v1.length])))
def rcpStep(q:Af)(w:Int):Er->Option (Er⊕Ret)
 | .l0 v0 v1=>Hm q w v0 v1
theorem rcpEn_ok(q:Af)(w:Int)(o:Er⊕Ret)(h:ME q w=some o):Arr TA Try.f106 0 (EH q w) K9 (zB Try.f106) [] {n:=Try.f106.ntmps,fr:=AK 0 ([sgA q,.int .i64 w]),hp:=([])} o:=
 Scr.ok h mix (
 .rn 0 [] [] [] [] (al (u2 t2)) <|
 .gu fun a0=>
 .gu fun a1=>
 .gu fun a2=>
 .gu fun a3=>
 .gu fun a4=>
 .gu fun a5=>
 .lq [] [] [] [] [(3005,1)] [0,1,4,2,3,5] [1,2,4,5,6] (up [] [(2,[AV.agg [AV.sl 3 0 (boL q.cl).length,AV.sl 4 0 (Tt iv q.bw).length,AV.sl 5 0 0]])] (EH q w (.l0 ((0:Int)) ([])))) (aj (aj (u2 (u2 (aj (ak (aj a0 (aj a1 a2))) (u2 (u2 (aj (ak (aj a3 (aj a4 a5))) (aj t3 (ak (al (k2 n11)))))))))) s2) (k2 (k5 (aj (al t4) t4)))) (by simp[up,upF,upV,upH,upB,EH,gL,boL,lI])) (by kernel_rfl)
theorem rcpS0_ok(q:Af)(w v0:Int)(v1:List Int)(o:Er⊕Ret)(h:Hm q w v0 v1=some o):Arr TA Try.f106 0 (EH q w) K9 (Ay Try.f106 0) (.rnd (Ay Try.f106 0)::AN Try.f106 0) (EH q w (.l0 v0 v1)) o:=
 Scr.ok h mix (
 .rn 0 [] [] [] [] (al (u2 (u2 (u2 (u2 (al t3)))))) <|
 .br (fun a0=>
 .gu fun a1=>
 .el fun x24 a2=>
 .rn 0 [37] [(24,iv x24)] [] [] (aj a0 (al (u2 (u2 (u2 (aj (k2 (aj a1 (AE (f:=iv) a2))) (u2 (u2 (al t3))))))))) <|
 .br (fun a3=>
  .el fun x33 a4=>
  .gu fun a5=>
  .gu fun a6=>
  .lq [55] [(33,iv x33)] [] [] [] [0,1,2,3,4,7] [1,2,4,5,6] (up [] [(2,[AV.agg [AV.sl 3 0 (boL q.cl).length,AV.sl 4 0 q.bw.length,AV.sl 5 0 ((Tt iv v1).length+[iv x33].length)]]),(5,Tt iv v1++[iv x33])] (EH q w (.l0 (i64.wrap (v0+1)) (v1++[x33])))) (aj (aj a3 (aj (u2 (u2 (u2 (u2 (u2 (aj (k2 (aj a1 (AE (f:=iv) a4))) (u2 (u2 (aj (k2 (aj (show(Tt iv v1).length=v1.length by simp) (aj (aj (show nat_lit 1=nat_lit 1 from rfl) (show 1<=[iv x33].length by simp)) (aj a5 a6)))) (u2 (al t3))))))))))) (al (u2 (u2 s2))))) (k2 (k5 (aj (al t4) t4)))) (by simp[up,upF,upV,upH,upB,EH,gL,boL,lI]))
 (fun a3=>
  .lp [54] [] [] [] [] [0,1,2,3,4,5] [1,2,4,5,6] (aj (aj a3 (al (u2 (u2 s2)))) (k2 (k5 (aj (al t4) t4))))))
 (fun a0=>
 .rt [36] [] [] [] [3,4,5] [] (aj (aj a0 (al (u2 (al (k2 n11))))) (aj t4 t4)))) (by kernel_rfl)
theorem rcp_ct(q:Af)(w:Int)(r:Ret)(h:Ax (rcpStep q w) (ME q w) r):CT TA 106 ([]) ([sgA q,.int .i64 w]) r.1 r.2:=
 CT.mach (fn:=Try.f106) (c:=zB Try.f106) (S:=EH q w) (hd:=K9) Try.func106 (by kernel_rfl) (nL rfl)
  (fun s o ho=>match s,ho with
   | .l0 v0 v1,ho=>rcpS0_ok q w v0 v1 o ho
  )
  (fun o ho=>rcpEn_ok q w o ho) h
inductive Eg where
 | l0 (v0:Int) (v1:List Int)
def Fj(q:Int):Eg->St
 | .l0 v0 v1=>St.mk 28 [(0,iv q),(2,AV.ptr 0 0 0),(4,AV.ptr 1 0 0),(5,iv v0)] [some (bK [AV.agg [AV.nils,AV.nils]] 2),some (Blk.mk [AV.agg [AV.sl 2 0 v1.length,AV.sl 3 0 q.toNat]] 2 false true none),some (bK (Tt iv v1) 1),some (bK (Tu q.toNat AV.nils) 1)]
def Ki:Eg->Nat
 | .l0 _ _=>0
def LK(q:Int):Option (Eg⊕Ret):=
 br (decide (q<0))
 (some (.inr ([],AV.tup [AV.agg [AV.nils,AV.nils],iV 19])))
 (br (decide (48<q))
  (some (.inr ([],AV.tup [AV.agg [AV.nils,AV.nils],iV 19])))
  (gu (0<=q) <|
   gu (8 * q<=281474976710656) <|
   gu (q<=9223372036854775807) <|
   gu (24 * q<=281474976710656) <|
   some (.inl (.l0 ((0:Int)) (Tu q.toNat 0)))))
def Hk(q v0:Int)(v1:List Int):Option (Eg⊕Ret):=
 br (decide (v0<q))
 (gu (0<=v0) <|
  gu (v0<iN v1.length) <|
  gu ((0+v0.toNat).succ.le (Tt iV v1).length) <|
  some (.inl (.l0 (i64.wrap (v0+1)) (v1.set (0+v0.toNat) (-1)))))
 (some (.inr ([],AV.tup [AV.agg [Tz (Tt iV v1),Tz (Tu q.toNat AV.nils)],iV 0])))
def n19Step(q:Int):Eg->Option (Eg⊕Ret)
 | .l0 v0 v1=>Hk q v0 v1
theorem n19En_ok(q:Int)(o:Eg⊕Ret)(h:LK q=some o):Arr TA Try.f17 0 (Fj q) Ki (zB Try.f17) [] {n:=Try.f17.ntmps,fr:=AK 0 ([.int .i64 q]),hp:=([])} o:=
 Scr.ok h mix (
 .rn 0 [] [] [] [] (al t3) <|
 .br (fun a0=>
 .rt [17] [] [] [] [] [] (aj (aj (u2 (u2 (u2 (aj a0 (aj a0 (al (aj a0 t2))))))) (ak (al (ak (aj (k2 n11) t2))))) (al (aj t3 t2))))
 (fun a0=>
 .rn 0 [16] [] [] [] (al (u2 (u2 (u2 (ag a0 (ag a0 (al (aj a0 t2)))))))) <|
 .br (fun a1=>
  .rt [16,23] [] [] [] [] [] (aj (aj a1 (al (ak (aj (k2 n11) t2)))) (al (aj t3 t2))))
 (fun a1=>
  .gu fun a2=>
  .gu fun a3=>
  .gu fun a4=>
  .gu fun a5=>
  .lq [16,22] [(16,AV.tup [])] [] [] [] [0,3,1,2] [0,2,4,5] (up [] [(1,[AV.agg [AV.sl 2 0 q.toNat,AV.sl 3 0 q.toNat]]),(2,Tu q.toNat (iv 0))] (Fj q (.l0 ((0:Int)) (Tu q.toNat 0)))) (aj (aj a1 (aj (u2 (aj (k2 (aj a2 (aj (show q<=q by omega) (aj a3 a4)))) (u2 (aj (k2 (aj a2 (aj (show q<=q by omega) (aj a5 a4)))) (aj t3 (ak (al (k2 n11)))))))) s2)) (k5 (aj (al t3) t3))) (by simp[up,upF,upV,upH,upB,Fj,gL,boL,lI])))) (by kernel_rfl)
theorem n19S0_ok(q v0:Int)(v1:List Int)(o:Eg⊕Ret)(h:Hk q v0 v1=some o):Arr TA Try.f17 0 (Fj q) Ki (Ay Try.f17 0) (.rnd (Ay Try.f17 0)::AN Try.f17 0) (Fj q (.l0 v0 v1)) o:=
 Scr.ok h mix (
 .rn 0 [] [] [] [] (al (u2 (u2 (al t3)))) <|
 .br (fun a0=>
 .gu fun a1=>
 .gu fun a2=>
 .gu fun a3=>
 .lq [41] [] [] [] [] [0,1,2,3] [0,2,4,5] (up [] [(1,[AV.agg [AV.sl 2 0 v1.length,AV.sl 3 0 q.toNat]]),(2,(Tt iv v1).set (0+v0.toNat) (iv (-1)))] (Fj q (.l0 (i64.wrap (v0+1)) (v1.set (0+v0.toNat) (-1))))) (aj (aj a0 (aj (u2 (u2 (u2 (aj (k2 (aj a1 a2)) (al (ak a3)))))) (al (u2 (u2 s2))))) (k5 (aj (al t3) t3))) (by simp[up,upF,upV,upH,upB,Fj,gL,boL,lI]))
 (fun a0=>
 .rt [40] [] [] [] [] [2,3] (aj (aj a0 (al (u2 (aj (k2 n11) t2)))) (al (aj (aj (show v1.length=(Tt iv v1).length by simp) (al (show q.toNat=(Tu q.toNat AV.nils).length by simp))) t2))))) (by kernel_rfl)
theorem n19_ct(q:Int)(r:Ret)(h:Ax (n19Step q) (LK q) r):CT TA 17 ([]) ([.int .i64 q]) r.1 r.2:=
 CT.mach (fn:=Try.f17) (c:=zB Try.f17) (S:=Fj q) (hd:=Ki) Try.func17 (by kernel_rfl) (nL rfl)
  (fun s o ho=>match s,ho with
   | .l0 v0 v1,ho=>n19S0_ok q v0 v1 o ho
  )
  (fun o ho=>n19En_ok q o ho) h
inductive Eo where
 | l0 (v0:Int) (v1:List (List Int))
def EJ(q:Aq):Eo->St
 | .l0 v0 v1=>St.mk 28 [(1,AV.ptr 0 0 0),(2,AV.ptr 1 0 0),(3,AV.ptr 2 0 0),(4,iv v0)] [some (bK [AV.agg [Tz (Tt iv q.ow),Tz (gL q.qu)]] 2),some (bK [AV.agg [AV.nils,AV.nils]] 2),some (Blk.mk [AV.agg [AV.sl 3 0 q.ow.length,AV.sl 4 0 v1.length]] 2 false true none),some (bK (Tt iv q.ow) 1),some (bK (Tt lI v1) 1)]
def LU:Eo->Nat
 | .l0 _ _=>0
def MI(q:Aq):Option (Eo⊕Ret):=
 gu (∀(e:AV),e∈Tt iV q.ow->e.cells.length=1) <|
 gu ((Tt iV q.ow).length<=9223372036854775807) <|
 gu ((Tt iV q.ow).length * 8<=140737488355328) <|
 some (.inl (.l0 ((0:Int)) ([])))
def Hf(q:Aq)(v0:Int)(v1:List (List Int)):Option (Eo⊕Ret):=
 br (decide (v0<iN (gL q.qu).length))
 (gu (0<=v0) <|
  el (q.qu) (v0.toNat) fun(x21:List Int)=>
  gu (∀(e:AV),e∈Tt iV x21->e.cells.length=1) <|
  gu ((Tt iV x21).length<=9223372036854775807) <|
  gu ((Tt iV x21).length * 8<=140737488355328) <|
  gu ((Tt lI v1).length+[Tz (Tt iV x21)].length<=9223372036854775807) <|
  gu (((Tt lI v1).length+[Tz (Tt iV x21)].length) * 24<=140737488355328) <|
  some (.inl (.l0 (i64.wrap (v0+1)) (v1++[x21]))))
 (some (.inr ([some (bK (Tt iV q.ow) 1),some (bK (Tt lI v1) 1)],AV.agg [AV.sl 0 0 q.ow.length,AV.sl 1 0 v1.length])))
def c19Step(q:Aq):Eo->Option (Eo⊕Ret)
 | .l0 v0 v1=>Hf q v0 v1
theorem c19En_ok(q:Aq)(o:Eo⊕Ret)(h:MI q=some o):Arr TA Try.f50 0 (EJ q) LU (zB Try.f50) [] {n:=Try.f50.ntmps,fr:=AK 0 ([lkA q]),hp:=([])} o:=
 Scr.ok h mix (
 .rn 0 [] [] [] [] (al (u2 t2)) <|
 .gu fun a0=>
 .gu fun a1=>
 .gu fun a2=>
 .lq [] [] [] [] [(2003,1)] [0,1,3,2,4] [1,2,3,4] (up [] [(2,[AV.agg [AV.sl 3 0 (Tt iv q.ow).length,AV.sl 4 0 0]])] (EJ q (.l0 ((0:Int)) ([])))) (aj (aj (u2 (u2 (aj (ak (aj a0 (aj a1 a2))) (u2 (ak (al (k2 n11))))))) s2) (ak (k5 (aj (al t3) t3)))) (by simp[up,upF,upV,upH,upB,EJ,gL,boL,lI])) (by kernel_rfl)
theorem c19S0_ok(q:Aq)(v0:Int)(v1:List (List Int))(o:Eo⊕Ret)(h:Hf q v0 v1=some o):Arr TA Try.f50 0 (EJ q) LU (Ay Try.f50 0) (.rnd (Ay Try.f50 0)::AN Try.f50 0) (EJ q (.l0 v0 v1)) o:=
 Scr.ok h mix (
 .rn 0 [] [] [] [] (al (u2 (u2 (u2 (u2 (al t3)))))) <|
 .br (fun a0=>
 .gu fun a1=>
 .el fun x21 a2=>
 .gu fun a3=>
 .gu fun a4=>
 .gu fun a5=>
 .gu fun a6=>
 .gu fun a7=>
 .lq [27] [(21,lI x21),(23,Tz [])] [] [] [] [0,1,2,3,6] [1,2,3,4] (up [] [(2,[AV.agg [AV.sl 3 0 q.ow.length,AV.sl 4 0 ((Tt lI v1).length+[Tz (Tt iv x21)].length)]]),(4,Tt lI v1++[Tz (Tt iv x21)])] (EJ q (.l0 (i64.wrap (v0+1)) (v1++[x21])))) (aj (aj a0 (aj (u2 (u2 (u2 (u2 (u2 (aj (k2 (aj a1 (AE (f:=lI) a2))) (u2 (aj (ak (aj (aj a3 (aj a4 a5)) (show(Tt iv x21).length=(Tt iv x21).length from rfl))) (u2 (aj (k2 (aj (show(Tt lI v1).length=v1.length by simp) (aj (aj (show nat_lit 1=nat_lit 1 from rfl) (show 1<=[Tz (Tt iv x21)].length by simp)) (aj a6 a7)))) (u2 (al t3)))))))))))) (al (u2 (u2 s2))))) (ak (k5 (aj (al t3) t3)))) (by simp[up,upF,upV,upH,upB,EJ,gL,boL,lI]))
 (fun a0=>
 .rt [26] [] [] [] [3,4] [] (aj (aj a0 (al (u2 (al (k2 n11))))) (aj t3 t3)))) (by kernel_rfl)
theorem c19_ct(q:Aq)(r:Ret)(h:Ax (c19Step q) (MI q) r):CT TA 50 ([]) ([lkA q]) r.1 r.2:=
 CT.mach (fn:=Try.f50) (c:=zB Try.f50) (S:=EJ q) (hd:=LU) Try.func50 (by kernel_rfl) (nL rfl)
  (fun s o ho=>match s,ho with
   | .l0 v0 v1,ho=>c19S0_ok q v0 v1 o ho
  )
  (fun o ho=>c19En_ok q o ho) h
end Go.Proofs.Ytedjkebooffjpaa
namespace Go.Proofs.Ytedjkebooffjpaa
def wo(l:List Int)(x:Int):List Int:=l.filter (fun y=>y != x)
theorem Ll{l:List Int}{x:Int}{i:Nat}(h:i<l.length):wo (l.take (i+1)) x=wo (l.take i) x++(if (l.getD i 0 != x)=true then [l.getD i 0] else []):=by
 unfold wo
 rw[List.take_add_one,Bg 0 h,List.filter_append]
 congr 1
 show List.filter _ [l.getD i 0]=_
 rw[List.filter_cons];rfl
theorem NV(l:List Int)(x:Int):(wo l x).length<=l.length:=List.length_filter_le _ _
theorem rcp_c(cl:List Bool)(bw pe:List Int)(w:Int)(h1:cl.length<=1000000)(h2:bw.length<=1000000)(h3:pe.length<=1000000):
  CT TA 106 [] [sgA ⟨cl,bw,pe⟩,.int .i64 w] [some (Blk.mk (boL cl) 1 true true none),some (Blk.mk (bw.map (AV.int .i64)) 1 true true none),some (Blk.mk ((wo pe w).map (AV.int .i64)) 1 true true none)] (.agg [.sl 0 0 (boL cl).length,.sl 1 0 bw.length,.sl 2 0 (wo pe w).length]):=by
 refine rcp_ct ⟨cl,bw,pe⟩ w ([_,_,_],_) ?_
 have hL:=Ct cl
 unfold ME
 rw[Aa (Mv _),Aa (by rw[hL];show cl.length<=_;omega),Aa (by rw[hL];show cl.length * 1<=_;omega),Aa (BX _),Aa (by rw[Sy];show bw.length<=_;omega),Aa (by rw[Sy];show bw.length * 8<=_;omega)]
 refine Dc (fun i=>Er.l0 (i:Int) (wo (pe.take i) w)) pe.length (fun i hi h=>?_) ?_
 .refine .to (show Hm ⟨cl,bw,pe⟩ w i _=_ from ?_) h
  have hw:=NV (pe.take i) w
  rw[SX] at hw
  unfold Hm
  simp only
  rw[B4 0 hi,Ll hi]
  cases hx:pe.getD i 0 != w with
  | false=>rw[Ak rfl,Su (by simp),List.append_nil,zW i (by omega)]
  | true=>rw[An rfl,elG 0 hi,Aa (by simp only[Sy,Ta,Tb];omega),Aa (by simp only[Sy,Ta,Tb];omega),Ss rfl,zW i (by omega)]
 .refine .to (show Hm ⟨cl,bw,pe⟩ w pe.length _=_ from ?_) (.ret _)
  unfold Hm
  simp only
  rw[DY,List.take_length]
theorem clb_c(l:List Bool)(hl:l.length<=1000000):CT TA 55 [] [.lst (boL l)] [some (Blk.mk (boL l) 1 true true none)] (.sl 0 0 (boL l).length):=by
 have hL:=Ct l
 by_cases h:l=[]
 .subst h;exact cl55_e
 refine clb_ct l ([_],_) (.val ?_)
 unfold K7
 rw[Aa (fun e=>h (by unfold boL at e;exact List.map_eq_nil_iff.1 e)),Aa (Mv _),Aa (by omega),Aa (by omega),List.nil_append,SK]
theorem sva_c{n:Ac}(cl:List Bool)(bw pe:List Int)(hrw:Rows n.nx):CT TA 25 [] [Aj n,sgA ⟨cl,bw,pe⟩] [] (.bool (Cg n ⟨cl,bw,pe⟩)):=by
 generalize hs:(⟨cl,bw,pe⟩:Af)=s
 refine sva_ct n s ([],_) ?_
 unfold Lk Cg Jb Im
 rw[Aa hrw]
 cases hv:A6 n with
 | false=>exact .ret _
 | true=>
 have hv:=CJ.1 hv
 obtain⟨h48,hnb⟩:=FN hv
 unfold F4
 rw[Ss rfl,Ss rfl,Ak (by rfl),Ct,Sy,Sy,Sy,Bool.true_and]
 by_cases h1:s.cl.length=Au n
 case neg=>rw[An (Ti.2 (by simp only[iN];omega)),Ar h1];exact .ret _
 rw[Ak (by rw[h1];simp),AF h1,Bool.true_and]
 by_cases h2:s.bw.length=Au n
 case neg=>rw[An (Ti.2 (by simp only[iN];omega)),Ar h2];exact .ret _
 rw[Ak (by rw[h2];simp),AF h2,Bool.true_and]
 by_cases h3:n.bs.length<s.pe.length
 .rw[An (AF (by simp only[iN];omega))]
  have:(fnd (bdP n.bs.length s) 0 s.pe.length).isNone=false:=by
   cases hf:fnd (bdP n.bs.length s) 0 s.pe.length with
   | some i=>rfl
   | none=>
    have:=MF (nb:=n.bs.length) (s:=s) (SG _) fun j hj=>CF hf j (SH _) (by omega)
    omega
  rw[this,Bool.and_false];exact .ret _
 rw[Ak (Ar (by simp only[iN];omega))]
 refine(Hc (fun i=>C9.l0 (i:Int)) s.bw.length (bdW s) (rF:=fun _=>(([],.bool false):Ret)) (r:=([],.bool (fnd (bdP n.bs.length s) 0 s.pe.length).isNone)) (fun i hi _ hp=>?_) (fun i x hi _ hp hx=>?_) (fun _=>?_)).res (by cases fnd (bdW s) 0 s.bw.length<;>rfl)
 .refine .to (show Fb n s i=_ from ?_) (.ret _)
  unfold Fb
  unfold bdW at hp
  rw[B4 0 hi]
  cases hd1:decide (s.bw.getD i 0 < -1) with
  | true=>rw[An rfl]
  | false=>
   rw[hd1,So] at hp
   rw[Ak rfl]
   cases hd2:decide (8<=s.bw.getD i 0) with
   | true=>rw[An rfl]
   | false=>
    rw[hd2,So,SD] at hp
    rw[Ak rfl,An hp.1,elG true (show i<s.cl.length by omega),An hp.2]
 .refine .to (show Fb n s i=_ from ?_) hx
  unfold Fb
  unfold bdW at hp
  simp only[Bool.or_eq_false_iff] at hp
  rw[B4 0 hi,Ak hp.1,Ak hp.2.1,zW i (by omega)]
  cases h0:decide (0<=s.bw.getD i 0) with
  | false=>rw[Ak rfl]
  | true=>
   have hq:=hp.2.2
   rw[h0,Bool.true_and] at hq
   rw[An rfl,elG true (show i<s.cl.length by omega),Ak hq]
 .refine .to (show Fb n s s.bw.length=_ from ?_) ?_ (y:=some (.inl (.l1 ((0:Nat):Int))))
  .unfold Fb;rw[DY];rfl
  refine(Hc (fun i=>C9.l1 (i:Int)) s.pe.length (bdP n.bs.length s) (rF:=fun _=>(([],.bool false):Ret)) (r:=([],.bool true)) (fun i hi hj hp=>?_) (fun i x hi hj hp hx=>?_) (fun _=>?_)).res (by cases fnd (bdP n.bs.length s) 0 s.pe.length<;>rfl)
  .refine .to (show EY n s i=_ from ?_) (.ret _)
   unfold EY
   unfold bdP at hp
   rw[B4 0 hi]
   by_cases hd1:s.pe.getD i 0<0
   .rw[An (AF hd1)]
   rw[Ar hd1,So] at hp
   rw[Ak (Ar hd1)]
   by_cases hd2:(n.bs.length:Int)<=s.pe.getD i 0
   .rw[An (AF (by rw[Sy];exact hd2))]
   rw[Ar hd2,So] at hp
   rw[Ak (Ar (by rw[Sy];exact hd2)),Aa (by omega),AY (Bg true (show(s.pe.getD i 0).toNat<s.cl.length by omega))]
   cases hd3:s.cl.getD (s.pe.getD i 0).toNat true with
   | true=>rw[An rfl]
   | false=>
    rw[hd3,So] at hp
    rw[Ak rfl,Aa (BX _),Aa (by simp only[iN,Sy];omega),JN,Aa (by rw[SX];omega),An hp]
  .refine .to (show EY n s i=_ from ?_) hx
   unfold EY
   unfold bdP at hp
   simp only[Bool.or_eq_false_iff,decide_eq_false_iff_not] at hp
   rw[B4 0 hi,Ak (Ar hp.1),Ak (Ar (by rw[Sy];exact hp.2.1)),Aa (by omega),AY (Bg true (show(s.pe.getD i 0).toNat<s.cl.length by omega)),Ak hp.2.2.1,Aa (BX _),Aa (by simp only[iN,Sy];omega),JN,Aa (by rw[SX];omega),Ak hp.2.2.2,zW i (by omega)]
  .refine .to (show EY n s s.pe.length=_ from ?_) (.ret _)
   unfold EY;rw[DY]
theorem r20v_c{n:Ac}(cl:List Bool)(bw pe:List Int)(hrw:Rows n.nx):CT TA 75 [] [Aj n,sgA ⟨cl,bw,pe⟩] [] (.bool (Cg n ⟨cl,bw,pe⟩)):=by
 refine r20v_ct n ⟨cl,bw,pe⟩ ([],_) (.val ?_)
 unfold Lj Cg
 rw[Aa hrw]
 cases hv:A6 n with
 | false=>rfl
 | true=>rw[An rfl,Aa (CJ.1 hv)];rfl
def nsO(n:Ac):Af:=⟨Tu (Au n) false,Tu (Au n) (-1),[]⟩
def nsE(n:Ac):Int:=if A6 n=true then 0 else 20
def nsS(n:Ac):Af:=if A6 n=true then nsO n else ⟨[],[],[]⟩
theorem rep_bo(k:Nat):Tu k (AV.bool false)=boL (Tu k false):=by unfold boL;rw[List.map_replicate]
theorem Nd{c i:Nat}(h:i<c):(rpV c i).set (0+i) (-1)=rpV c (i+1):=by
 obtain⟨d,hd⟩:∃d,c-i=d+1:=⟨c-i-1,by omega⟩
 have hd2:c-(i+1)=d:=by omega
 unfold rpV
 rw[hd,hd2,SK,List.replicate_succ,List.set_append_right _ _ (by simp)]
 simp only[SP,Sc,List.set_cons_zero]
 rw[List.replicate_succ',List.append_assoc];rfl
theorem rpV_0(c:Nat):rpV c 0=Tu c 0:=by unfold rpV;simp
theorem rpV_c(c:Nat):rpV c c=Tu c (-1):=by unfold rpV;simp
theorem MX{n:Ac}(hrw:Rows n.nx):CT TA 31 [] [Aj n] [] (.tup [sgA (nsS n),.int .i64 (nsE n)]):=by
 have h:=r20n_ct n
 unfold L4 at h
 unfold nsS nsE
 cases hv:A6 n with
 | false=>rw[hv] at h;exact CT.w2 (h ([],_) (.val (by rw[Aa hrw];rfl)))
 | true=>
  have hvn:=CJ.1 hv
  have h48:=FN hvn
  rw[hv] at h
  have k:=CT.w2 (h ([],.tup [.agg [.lst (Tu (Au n) (AV.bool false)),.lst (Tt (AV.int .i64) (Tu (Au n) (-1))),.nils],.int .i64 0]) (by
   rw[Aa hrw,Ak (by rfl),Aa hvn,Aa (by simp only[iN];omega),Aa (by simp only[iN];omega),Aa (by simp only[iN];omega)]
   rw[show (Tu (iN (Au n)).toNat (0:Int))=rpV (Au n) 0 from(rpV_0 _).symm]
   refine Dc (fun i=>EA.l0 (i:Int) (rpV (Au n) i)) (Au n) (fun i hi hx=>?_) ?_
   .refine .to (show Gl n i (rpV (Au n) i)=_ from ?_) hx
    unfold Gl
    rw[An (AF (by simp only[iN,GM (Nat.le_of_lt hi)];omega)),Aa (by omega),Aa (by simp only[iN,GM (Nat.le_of_lt hi)];omega),Aa (show Nat.le _ _ from(by rw[Sy,GM (Nat.le_of_lt hi)];show 0+(i:Int).toNat+1<=_;omega)),SE,Nd hi,zW i (by omega)]
   .refine .to (show Gl n (Au n:Nat) (rpV (Au n) (Au n))=_ from ?_) (.ret _)
    unfold Gl
    rw[Ak (Ar (by simp only[iN,GM (SG _)];omega)),rpV_c];rfl))
  rw[rep_bo] at k
  exact k
theorem RT.lwk{A:Nat->Prop}{w:World}{es:List AV}{v:Value}(h:RT A w (.lst es) v):RT A w (.lst (es.map wkq)) v:=by
 cases h with
 | lnil a=>exact .lnil a
 | lst _ r o cap z g hcap hA hz h1 hc hh=>
  have hl:(es.map wkq).length=es.length:=Sy ..
  have hcl:∀e:AV,(wkq e).cells.length=e.cells.length:=fun e=>by cases e<;>rfl
  have key:∀{e c:AV},c∈(wkq e).cells->∃c',c'∈e.cells/\(c=c'\/(c' = .nils/\c = .lst [])):=fun {e c} hc=>by
   cases e with
   | nils=>exact⟨.nils,Sk.2 rfl,.inr ⟨rfl,Sk.1 hc⟩⟩
   | _=>exact⟨c,hc,.inl rfl⟩
  rw[<-hl]
  refine .lst _ r o cap z g (by rw[hl];exact hcap) (fun hn=>hA fun e=>hn (by rw[e];rfl)) (fun e he=>?_) (fun e he c hcm=>?_) (fun i j hi hj=>hc i j (by rw[<-hl];exact hi) hj) fun i j e c he hj=>?_
  .obtain⟨e0,he0,rfl⟩:=S0.1 he
   rw[hcl];exact hz e0 he0
  .obtain⟨e0,he0,rfl⟩:=S0.1 he
   obtain⟨c',hc',h | ⟨_,h⟩⟩:=key hcm
   .rw[h];exact h1 e0 he0 c' hc'
   .rw[h];rfl
  .rw[SF] at he
   obtain⟨e0,he0,rfl⟩:=Option.map_eq_some_iff.1 he
   by_cases hn:e0 = .nils
   .subst hn
    match j,hj with
    | 0,hj=>
     cases hj
     have:=hh i 0 .nils .nils he0 rfl
     have e:g i 0 = .slice none 0 0:=by {generalize g i 0=x at this;cases this;rfl}
     rw[e];exact .lnil none
   .have e:wkq e0=e0:=by cases e0<;>first | rfl | exact absurd rfl hn
    rw[e] at hj
    exact hh i j e0 c he0 hj
theorem VR.lwk{φ:Phi}{A:Nat->Prop}{w:World}{a b:AV}{es:List AV}{v:Value}(h:VR φ A w (.tup [.agg [a,.lst es],b]) v):VR φ A w (.tup [.agg [a,.lst (es.map wkq)],b]) v:=by
 obtain⟨us,rfl,hl,hh⟩:=h.tup_inv
 refine .tup _ us (by simpa using hl) fun i c u hc hu=>?_
 match i,hc with
 | 0,hc=>
  cases hc
  obtain⟨vs,rfl,hl2,h2⟩:=(hh 0 _ u rfl hu).agg_inv
  refine .agg _ vs (by simpa using hl2) fun j d x hd hx=>?_
  match j,hd with
  | 0,hd=>cases hd;exact h2 0 _ x rfl hx
  | 1,hd=>
   cases hd
   have:=h2 1 _ x rfl hx
   cases this with
   | imm _ _ h=>exact .imm _ _ (RT.lwk h)
  | j+2,hd=>simp at hd
 | 1,hc=>cases hc;exact hh 1 _ u rfl hu
 | i+2,hc=>simp at hc
def nlS(q:Int):Aq:=if 0<=q/\q<=48 then ⟨Tu q.toNat (-1),Tu q.toNat []⟩ else ⟨[],[]⟩
def nlE(q:Int):Int:=if 0<=q/\q<=48 then 0 else 19
theorem n19_c(q:Int):CT TA 17 [] [.int .i64 q] [] (.tup [lkA (nlS q),.int .i64 (nlE q)]):=by
 have h:=n19_ct q
 unfold LK at h
 unfold nlS nlE
 by_cases h0:q<0
 .rw[Su (by omega),Su (by omega)]
  exact CT.w2 (h ([],_) (.val (by rw[An (AF h0)])))
 by_cases h1:48<q
 .rw[Su (by omega),Su (by omega)]
  exact CT.w2 (h ([],_) (.val (by rw[Ak (Ar h0),An (AF h1)])))
 rw[Ss (by omega),Ss (by omega)]
 obtain⟨c,rfl⟩:∃c:Nat,q=(c:Int):=⟨q.toNat,by omega⟩
 have k:=(h ([],.tup [.agg [.lst (Tt (AV.int .i64) (Tu c (-1))),.lst (Tu c .nils)],.int .i64 0]) (by
  rw[Ak (Ar h0),Ak (Ar h1),Aa (by omega),Aa (by omega),Aa (by omega),Aa (by omega),SE,<-rpV_0]
  refine Dc (fun i=>Eg.l0 (i:Int) (rpV c i)) c (fun i hi hx=>?_) ?_
  .refine .to (show Hk (c:Int) i (rpV c i)=_ from ?_) hx
   unfold Hk
   rw[An (AF (by omega)),Aa (by omega),Aa (by simp only[iN,GM (Nat.le_of_lt hi)];omega),Aa (show Nat.le _ _ from(by rw[Sy,GM (Nat.le_of_lt hi)];show 0+(i:Int).toNat+1<=_;omega)),SE,Nd hi,zW i (by omega)]
  .refine .to (show Hk (c:Int) (c:Nat) (rpV c c)=_ from ?_) (.ret _)
   unfold Hk
   rw[Ak (Ar (by omega)),rpV_c,SE])).less fun _ _ _ _ h=>VR.lwk h
 have e:Tt wkq (Tu c AV.nils)=gL (Tu c []):=by unfold gL;rw[List.map_replicate,List.map_replicate];rfl
 rw[e] at k
 exact k
theorem M1{g:List (List Int)}{i:Nat}(h:i<g.length):g.take (i+1)=g.take i++[g.getD i []]:=by
 rw[List.take_add_one,Bg [] h];rfl
theorem c19_c(ow:List Int)(qu:List (List Int))(h1:ow.length<=1000)(h2:qu.length<=1000)(h3:∀r∈qu,r.length<=1000):
  CT TA 50 [] [lkA ⟨ow,qu⟩] [some (Blk.mk (ow.map (AV.int .i64)) 1 true true none),some (Blk.mk (gL qu) 1 true true none)] (.agg [.sl 0 0 ow.length,.sl 1 0 qu.length]):=by
 refine c19_ct ⟨ow,qu⟩ ([_,_],_) ?_
 unfold MI
 rw[Aa (BX _),Aa (by rw[Sy];show ow.length<=_;omega),Aa (by rw[Sy];show ow.length * 8<=_;omega)]
 refine Dc (fun i=>Eo.l0 (i:Int) (qu.take i)) qu.length (fun i hi hx=>?_) ?_
 .refine .to (show Hf ⟨ow,qu⟩ i (qu.take i)=_ from ?_) hx
  have hr:=h3 (qu.getD i []) (by rw[Sw,Sv hi];exact S1 _)
  unfold Hf
  simp only
  rw[show (gL qu).length=(Tt lI qu).length from rfl,B4 [] hi,Aa (BX _),Aa (by rw[Sy];omega),Aa (by rw[Sy];omega),Aa (by simp only[Sy,SX,Ta,Tb];omega),Aa (by simp only[Sy,SX,Ta,Tb];omega),M1 hi,zW i (by omega)]
 .refine .to (show Hf ⟨ow,qu⟩ qu.length (qu.take qu.length)=_ from ?_) (.ret _)
  unfold Hf
  simp only
  rw[show (gL qu).length=(Tt lI qu).length from rfl,DY,List.take_length];rfl
structure Dl(l:List Int)(w:Int)(v:List Int)(i j:Nat):Prop where
 len:v.length=l.length
 ij:i<=j
 jl:j<=l.length
 kep:v.take i=wo (l.take j) w
 rst:v.drop j=l.drop j
theorem wo_none{l:List Int}{w:Int}(h:w∉l):wo l w=l:=by
 unfold wo
 exact List.filter_eq_self.2 fun x hx=>Ti.2 fun e=>h (e ▸ hx)
theorem OX{v l:List Int}{j:Nat}(h:v.drop j=l.drop j):v.getD j 0=l.getD j 0/\v.drop (j+1)=l.drop (j+1):=by
 constructor
 .have:=congrArg (fun x=>x.getD 0 0) h
  simpa [Sw,Sf] using this
 .have:=congrArg (Tv 1) h
  rwa [Se,Se] at this
theorem Dl.skip{l:List Int}{w:Int}{v:List Int}{i j:Nat}(h:Dl l w v i j)(hj:j<l.length)(he:l.getD j 0=w):Dl l w v i (j+1):=by
 refine⟨h.len,Nat.le_succ_of_le h.ij,hj,?_,(OX h.rst).2⟩
 rw[Ll hj,Su (by rw[he];simp),List.append_nil];exact h.kep
theorem Dl.keep{l:List Int}{w:Int}{v:List Int}{i j:Nat}(h:Dl l w v i j)(hj:j<l.length)(he:l.getD j 0≠w):Dl l w (v.set (0+i) (l.getD j 0)) (i+1) (j+1):=by
 have hij:=h.ij
 have hl:=h.len
 refine⟨by rw[S3];exact hl,by omega,hj,?_,?_⟩
 .rw[Ll hj,Ss (Ti.2 he),<-h.kep,SK,List.take_add_one,List.take_set_of_le (SG _),Tp,Ss rfl,Ss (by omega)];rfl
 .rw[SK,List.drop_set,Ss (by omega)];exact(OX h.rst).2
theorem JJ{α:Type}{l:List α}{i j:Nat}{v d:α}:(l.set i v).getD j d=if i=j/\j<l.length then v else l.getD j d:=by
 rw[Sw,Tp,Sw]
 by_cases h:i=j
 .subst h
  by_cases hl:i<l.length
  .rw[Ss rfl,Ss hl,Ss ⟨rfl,hl⟩];rfl
  .rw[Ss rfl,Su hl,Su (fun e=>hl e.2),SR (by omega)]
 .rw[Su h,Su (fun e=>h e.1)]
theorem getR{α:Type}{n i:Nat}{v d:α}(h:i<n):(Tu n v).getD i d=v:=by
 rw[Sw,SV,Ss h];rfl
def FC(n:Ac):Af:=⟨Tu (Au n) false,Tu (Au n) (-1),[]⟩
def anS(s:Af)(x:Int):Af:=⟨s.cl,s.bw,s.pe++[x]⟩
def clS(s:Af)(c r:Int):Af:=⟨s.cl.set c.toNat true,if s.cl.getD c.toNat true=true then s.bw else s.bw.set c.toNat r,wo s.pe c⟩
theorem wo_mem{l:List Int}{x y:Int}:y∈wo l x↔y∈l/\y≠x:=by unfold wo;rw[List.mem_filter,Ti]
theorem OK(n:Ac):A9 n (FC n):=by
 refine⟨SP ..,SP ..,fun i hi=>?_,fun b hb=>(by cases hb),List.Pairwise.nil⟩
 have hi:i<Au n:=by have:(FC n).bw.length=Au n:=SP ..;omega
 show -1<=(Tu (Au n) (-1:Int)).getD i 0/\_
 rw[show (FC n).bw=Tu (Au n) (-1:Int) from rfl,getR hi];omega
theorem anS_ok{n:Ac}{s:Af}{x:Int}(h:A9 n s)(hx:0<=x/\x<(n.bs.length:Int))(hc:s.cl.getD x.toNat true=false)(hp:x∉s.pe):A9 n (anS s x):=by
 refine⟨h.lc,h.lb,h.bw,fun b hb=>?_,Q2 h.nd hp⟩
 rcases SZ.1 hb with hb | hb
 .exact h.pb b hb
 .rw[Sk.1 hb];exact⟨hx.1,hx.2,hc⟩
theorem wo_nd{l:List Int}(x:Int)(h:l.Nodup):(wo l x).Nodup:=h.sublist List.filter_sublist
theorem clS_ok{n:Ac}{s:Af}{c r:Int}(h:A9 n s)(hc:0<=c/\c<(Au n:Int))(hr : -1<=r/\r<8):A9 n (clS s c r):=by
 have lc:=h.lc
 have lb:=h.lb
 refine⟨by show(s.cl.set _ _).length=_;rw[S3,lc],by show(if _ then s.bw else s.bw.set _ _).length=_;split<;>simp[lb],fun i hi=>?_,fun b hb=>?_,wo_nd c h.nd⟩
 .show -1<=(if _ then s.bw else s.bw.set _ _).getD i 0/\(if _ then s.bw else s.bw.set _ _).getD i 0<8/\(0<=(if _ then s.bw else s.bw.set _ _).getD i 0->(s.cl.set c.toNat true).getD i true=true)
  have hi:i<s.bw.length:=by have:(clS s c r).bw.length=s.bw.length:=(by show(if _ then s.bw else s.bw.set _ _).length=_;split<;>simp);omega
  have hb:=h.bw i hi
  have e:(s.cl.set c.toNat true).getD i true=if c.toNat=i/\i<s.cl.length then true else s.cl.getD i true:=JJ
  rw[e]
  split
  .refine⟨hb.1,hb.2.1,fun h0=>?_⟩
   split
   .rfl
   .exact hb.2.2 h0
  .rw[JJ]
   split
   .rename_i h1
    exact⟨hr.1,hr.2,fun _=>by rw[Ss ⟨h1.1,by omega⟩]⟩
   .refine⟨hb.1,hb.2.1,fun h0=>?_⟩
    split
    .rfl
    .exact hb.2.2 h0
 .obtain⟨h1,h2⟩:=wo_mem.1 hb
  have:=h.pb b h1
  refine⟨this.1,this.2.1,?_⟩
  show(s.cl.set c.toNat true).getD b.toNat true=false
  rw[JJ,Su (by omega)];exact this.2.2
inductive Et where
 | l0 (v0:Int) (v1:List Bool)
def Gs(n:Ac)(q:Af):Et->St
 | .l0 v0 v1=>St.mk 28 [(6,AV.sl 0 0 (boL q.cl).length),(17,Tz (Tt iv q.pe)),(18,iv (iN (Tt iv q.pe).length)),(19,iv v0)] [some (bK (Tt bV v1) 1)]
def LR:Et->Nat
 | .l0 _ _=>0
def L6(n:Ac)(q:Af):Option (Et⊕Ret):=
 gu (Rows n.nx) <|
 br (!Cg n q)
 (some (.inr ([],AV.tup [AV.nils,iV 20])))
 (gu (q.cl.length<=1000000) <|
  some (.inl (.l0 ((0:Int)) (q.cl))))
def GA(n:Ac)(q:Af)(v0:Int)(v1:List Bool):Option (Et⊕Ret):=
 br (decide (v0<iN (Tt iV q.pe).length))
 (gu (0<=v0) <|
  el (q.pe) (v0.toNat) fun(x21:Int)=>
  gu (0<=x21) <|
  gu (x21<iN (boL q.cl).length) <|
  gu ((0+x21.toNat).succ.le (Tt bV v1).length) <|
  some (.inl (.l0 (i64.wrap (v0+1)) (v1.set (0+x21.toNat) true))))
 (gu ((boL q.cl).length=(Tt bV v1).length) <|
  some (.inr ([],AV.tup [Tz (Tt bV v1),iV 0])))
def sshStep(n:Ac)(q:Af):Et->Option (Et⊕Ret)
 | .l0 v0 v1=>GA n q v0 v1
theorem sshEn_ok(n:Ac)(q:Af)(o:Et⊕Ret)(h:L6 n q=some o):Arr TA Try.f24 0 (Gs n q) LR (zB Try.f24) [] {n:=Try.f24.ntmps,fr:=AK 0 ([Aj n,sgA q]),hp:=([])} o:=
 Scr.ok h mix (
 .rn 0 [] [] [] [] (al (u2 (u2 t3))) <|
 .gu fun a0=>
 have c0:=sva_c (q.cl) (q.bw) (q.pe) a0;
 .rn 0 [] [] [(11,hK c0 [] [])] [] (al (u2 (u2 (aj (k2 (aj t9 (aj t4 (al (c0))))) s2)))) <|
 .br (fun a1=>
 .rt [25] [] [] [] [] [] (aj (aj a1 (al t3)) (al t3)))
 (fun a1=>
 .gu fun a2=>
 have c1:=clb_c (q.cl) a2;
 .lp [24] [] [(15,hK c1 [] [])] [] [] [2] [6,17,18,19] (aj (aj a1 (aj (u2 (u2 (aj (k2 (al (c1))) s2))) (al (u2 (u2 (u2 t2)))))) t6))) (by kernel_rfl)
theorem sshS0_ok(n:Ac)(q:Af)(v0:Int)(v1:List Bool)(o:Et⊕Ret)(h:GA n q v0 v1=some o):Arr TA Try.f24 0 (Gs n q) LR (Ay Try.f24 0) (.rnd (Ay Try.f24 0)::AN Try.f24 0) (Gs n q (.l0 v0 v1)) o:=
 Scr.ok h mix (
 .rn 0 [] [] [] [] (al (al t3)) <|
 .br (fun a0=>
 .gu fun a1=>
 .el fun x21 a2=>
 .rn 0 [41] [(21,iv x21)] [] [] (aj a0 (al (aj (k2 (aj a1 (AE (f:=iv) a2))) (u2 s2)))) <|
 .gu fun a3=>
 .gu fun a4=>
 .gu fun a5=>
 .lq [] [] [] [] [] [0] [6,17,18,19] (up [] [(0,(Tt bV v1).set (0+x21.toNat) (bV true))] (Gs n q (.l0 (i64.wrap (v0+1)) (v1.set (0+x21.toNat) true)))) (aj (aj (u2 (u2 (aj (k2 (aj a3 a4)) (al (ak a5))))) (al (u2 s2))) t6) (by simp[up,upF,upV,upH,upB,Gs,gL,boL,lI,sA,bA]))
 (fun a0=>
 .rn 0 [40] [] [] [] (aj a0 (al (u2 (u2 t2)))) <|
 .gu fun a1=>
 .rt [] [] [] [] [] [0] (ak (al (aj a1 t2))))) (by kernel_rfl)
theorem ssh_ct(n:Ac)(q:Af)(r:Ret)(h:Ax (sshStep n q) (L6 n q) r):CT TA 24 ([]) ([Aj n,sgA q]) r.1 r.2:=
 CT.mach (fn:=Try.f24) (c:=zB Try.f24) (S:=Gs n q) (hd:=LR) Try.func24 (by kernel_rfl) (nL rfl)
  (fun s o ho=>match s,ho with
   | .l0 v0 v1,ho=>sshS0_ok n q v0 v1 o ho
  )
  (fun o ho=>sshEn_ok n q o ho) h
def Pm(n:Ac)(q:Af)(c:Int):Empty->St
 | x=>x.elim
def Pw:Empty->Nat
 | x=>x.elim
def Mc(n:Ac)(q:Af)(c:Int):Option (Empty⊕Ret):=
 gu (Rows n.nx) <|
 br (!Cg n q)
 (some (.inr ([],AV.tup [AV.agg [AV.nils,AV.nils,AV.nils],iV 20])))
 (br (decide (c<0))
  (some (.inr ([],AV.tup [AV.agg [AV.nils,AV.nils,AV.nils],iV 19])))
  (br (decide (iN (Tt bA n.bs).length<=c))
   (some (.inr ([],AV.tup [AV.agg [AV.nils,AV.nils,AV.nils],iV 19])))
   (gu (q.cl.length<=1000000) <|
    gu (q.pe.length<=1000000) <|
    gu (∀(b:Int),b∈q.pe->0<=b/\b<iN q.cl.length) <|
    gu (0<=c) <|
    el (Cz q) (c.toNat) fun(x26:Bool)=>
    br x26
    (some (.inr ([],AV.tup [AV.agg [AV.nils,AV.nils,AV.nils],iV 24])))
    (gu (q.bw.length<=1000000) <|
     gu ((Tt iV (wo q.pe (-1))).length+[iV c].length<=9223372036854775807) <|
     gu (((Tt iV (wo q.pe (-1))).length+[iV c].length) * 8<=140737488355328) <|
     some (.inr ([],AV.tup [AV.agg [Tz (boL q.cl),Tz (Tt iV q.bw),Tz (Tt iV (wo q.pe (-1))++[iV c])],iV 0]))))))
def rannStep(n:Ac)(q:Af)(c:Int):Empty->Option (Empty⊕Ret)
 | x=>x.elim
theorem Rp(n:Ac)(q:Af)(c:Int)(o:Empty⊕Ret)(h:Mc n q c=some o):Arr TA Try.f59 0 (Pm n q c) Pw (zB Try.f59) [] {n:=Try.f59.ntmps,fr:=AK 0 ([Aj n,sgA q,.int .i64 c]),hp:=([])} o:=
 Scr.ok h mix (
 .rn 0 [] [] [] [] (al (u2 (u2 t3))) <|
 .gu fun a0=>
 have c0:=r20v_c (q.cl) (q.bw) (q.pe) a0;
 .rn 0 [] [] [(10,hK c0 [] [])] [] (al (u2 (u2 (aj (k2 (aj t9 (aj t4 (al (c0))))) s2)))) <|
 .br (fun a1=>
 .rt [23] [] [] [] [] [] (aj (aj a1 (al (ak (aj (k2 n11) t2)))) (al (aj t4 t2))))
 (fun a1=>
 .br (fun a2=>
  .rt [22,31] [] [] [] [] [] (aj (aj a1 (aj (u2 (u2 (u2 (aj a2 (aj a2 (aj a2 (aj a2 (aj a2 (al (aj a2 t2)))))))))) (ak (al (ak (aj (k2 n11) t2)))))) (al (aj t4 t2))))
 (fun a2=>
  .rn 0 [22,30] [] [] [] (aj a1 (al (u2 (u2 (u2 (ag a2 (ag a2 (ag a2 (ag a2 (aj (aj a2 t3) (al (aj a2 t2)))))))))))) <|
  .br (fun a3=>
  .rt [30,43] [] [] [] [] [] (aj (aj a3 (al (ak (aj (k2 n11) t2)))) (al (aj t4 t2))))
  (fun a3=>
  .gu fun a4=>
  .gu fun a5=>
  .gu fun a6=>
  .gu fun a7=>
  .el fun x26 a8=>
  have c1:=cel_c q a4 a5 a6;
  .rn 0 [30,42] [(26,bV x26)] [(24,hK c1 [] [])] [] (aj a3 (al (u2 (aj (ak (aj t4 (al (c1)))) (u2 (aj (k2 (aj a7 (AE (f:=bV) a8))) s2)))))) <|
  .br (fun a9=>
   .rt [30,55] [] [] [] [] [] (aj (aj a9 (al (ak (aj (k2 n11) t2)))) (al (aj t4 t2))))
  (fun a9=>
   .gu fun a10=>
   have c2:=rcp_c (q.cl) (q.bw) (q.pe) (-1) a4 a10 a5;
   .rn 0 [30,54] [] [(30,hK c2 [] [])] [] (aj a9 (al (u2 (aj (ak (aj t4 (ak (al (c2))))) (al (k2 (show Nat.le 1 [AV.agg [Tz (boL q.cl),Tz (Tt iv q.bw),Tz (Tt iv q.pe)]].length from(nL rfl)))))))) <|
   .gu fun a11=>
   .gu fun a12=>
   .rt [30] [] [] [] [] [3,4,7] (aj (aj (u2 (u2 (u2 (u2 (aj (k2 (aj (show(Tt iv (wo q.pe (-1))).length=(wo q.pe (-1)).length by simp) (aj (aj (show nat_lit 1=nat_lit 1 from rfl) (show 1<=[iv c].length by simp)) (aj a11 a12)))) (u2 (al t3))))))) (al (u2 (aj (k2 n11) t2)))) (al (aj (aj (show(boL q.cl).length=(boL q.cl).length from rfl) (aj (show q.bw.length=(Tt iv q.bw).length by simp) (al (show(Tt iv (wo q.pe (-1))).length+[iv c].length=(Tt iv (wo q.pe (-1))++[iv c]).length by simp)))) t2)))))))) (by kernel_rfl)
theorem rann_ct(n:Ac)(q:Af)(c:Int)(r:Ret)(h:Ax (rannStep n q c) (Mc n q c) r):CT TA 59 ([]) ([Aj n,sgA q,.int .i64 c]) r.1 r.2:=
 CT.mach (fn:=Try.f59) (c:=zB Try.f59) (S:=Pm n q c) (hd:=Pw) Try.func59 (by kernel_rfl) (nL rfl)
  (fun s o ho=>match s,ho with
   | x,_=>x.elim)
  (fun o ho=>Rp n q c o ho) h
def Nv(q:Af)(c d:Int):Empty->St
 | x=>x.elim
def Oe:Empty->Nat
 | x=>x.elim
def Mb(q:Af)(c d:Int):Option (Empty⊕Ret):=
 gu (q.cl.length<=1000000) <|
 gu (q.bw.length<=1000000) <|
 gu (q.pe.length<=1000000) <|
 gu (0<=c) <|
 gu (c<iN (boL q.cl).length) <|
 el (q.cl) (0+c.toNat) fun(x14:Bool)=>
 br (!x14)
 (gu ((0+c.toNat).succ.le (boL q.cl).length) <|
  gu (c<iN q.bw.length) <|
  gu ((0+c.toNat).succ.le (Tt iV q.bw).length) <|
  some (.inr ([],AV.agg [Tz ((boL q.cl).set (0+c.toNat) (bV true)),Tz ((Tt iV q.bw).set (0+c.toNat) (iV d)),Tz (Tt iV (wo q.pe c))])))
 (some (.inr ([],AV.agg [Tz (boL q.cl),Tz (Tt iV q.bw),Tz (Tt iV (wo q.pe c))])))
def rshsStep(q:Af)(c d:Int):Empty->Option (Empty⊕Ret)
 | x=>x.elim
theorem Qe(q:Af)(c d:Int)(o:Empty⊕Ret)(h:Mb q c d=some o):Arr TA Try.f60 0 (Nv q c d) Oe (zB Try.f60) [] {n:=Try.f60.ntmps,fr:=AK 0 ([sgA q,.int .i64 c,.int .i64 d]),hp:=([])} o:=
 Scr.ok h mix (
 .rn 0 [] [] [] [] (al (u2 t2)) <|
 .gu fun a0=>
 .gu fun a1=>
 .gu fun a2=>
 have c0:=rcp_c (q.cl) (q.bw) (q.pe) c a0 a1 a2;
 .rn 0 [] [] [(9,hK c0 [] [])] [] (al (u2 (u2 (aj (k2 (aj t4 (ak (al (c0))))) (al (k2 (show Nat.le 1 [AV.agg [Tz (boL q.cl),Tz (Tt iv q.bw),Tz (Tt iv q.pe)]].length from(nL rfl)))))))) <|
 .gu fun a3=>
 .gu fun a4=>
 .el fun x14 a5=>
 .rn 0 [] [(14,bV x14)] [] [] (al (u2 (u2 (u2 (aj (k2 (aj a3 a4)) (aj (ak (AE (f:=bV) a5)) s2)))))) <|
 .br (fun a6=>
 .gu fun a7=>
 .gu fun a8=>
 .gu fun a9=>
 .rt [31] [] [] [] [] [2,3,4] (aj (aj a6 (aj (u2 (u2 (u2 (u2 (u2 (u2 (u2 (aj (k2 (aj a3 a4)) (aj (ak a7) (aj (k2 (aj a3 a8)) (al (k2 a9)))))))))))) (al (u2 (al (k2 n11)))))) (al (aj (show(boL q.cl).length=((boL q.cl).set (0+c.toNat) (bV true)).length by simp) (aj (show q.bw.length=((Tt iv q.bw).set (0+c.toNat) (iv d)).length by simp) (al (show(wo q.pe c).length=(Tt iv (wo q.pe c)).length by simp)))))))
 (fun a6=>
 .rt [30] [] [] [] [] [2,3,4] (aj (aj a6 (al (u2 (al (k2 n11))))) (al (aj (show(boL q.cl).length=(boL q.cl).length from rfl) (aj (show q.bw.length=(Tt iv q.bw).length by simp) (al (show(wo q.pe c).length=(Tt iv (wo q.pe c)).length by simp)))))))) (by kernel_rfl)
theorem rshs_ct(q:Af)(c d:Int)(r:Ret)(h:Ax (rshsStep q c d) (Mb q c d) r):CT TA 60 ([]) ([sgA q,.int .i64 c,.int .i64 d]) r.1 r.2:=
 CT.mach (fn:=Try.f60) (c:=zB Try.f60) (S:=Nv q c d) (hd:=Oe) Try.func60 (by kernel_rfl) (nL rfl)
  (fun s o ho=>match s,ho with
   | x,_=>x.elim)
  (fun o ho=>Qe q c d o ho) h
def k19St(q:Aq)(c d:Int):Empty->St
 | x=>x.elim
def k19Hd:Empty->Nat
 | x=>x.elim
def Lt(q:Aq)(c d:Int):Option (Empty⊕Ret):=
 br (!CZ q)
 (some (.inr ([],iV 20)))
 (br (decide (c<0))
  (some (.inr ([],iV 19)))
  (br (decide (8<=c))
   (some (.inr ([],iV 19)))
   (br (decide (d<0))
    (some (.inr ([],iV 19)))
    (br (decide (iN (Tt iV q.ow).length<=d))
     (some (.inr ([],iV 19)))
     (some (.inr ([],iV 0)))))))
def k19Step(q:Aq)(c d:Int):Empty->Option (Empty⊕Ret)
 | x=>x.elim
theorem k19En_ok(q:Aq)(c d:Int)(o:Empty⊕Ret)(h:Lt q c d=some o):Arr TA Try.f49 0 (k19St q c d) k19Hd (zB Try.f49) [] {n:=Try.f49.ntmps,fr:=AK 0 ([lkA q,.int .i64 c,.int .i64 d]),hp:=([])} o:=
 Scr.ok h mix (
 have c0:=rlv_c (q);
 .rn 1 [] [] [(8,hK c0 [] [])] [] (ag t2 (al (u2 (aj (ak (aj t3 (al (c0)))) s2)))) <|
 .br (fun a0=>
 .rt [19] [] [] [] [] [] (aj (aj a0 s2) t2))
 (fun a0=>
 .br (fun a1=>
  .rt [18,25] [] [] [] [] [] (aj (aj a0 (aj (u2 (u2 (u2 (aj a1 (aj a1 (ag a1 (u2 (k2 (aj t3 (u2 (k5 (al t3)))))))))))) (ak s2))) t2))
 (fun a1=>
  .br (fun a2=>
  .rt [18,24,33] [] [] [] [] [] (aj (aj a0 (aj (u2 (u2 (u2 (ag a1 (ag a1 (ag a1 (u2 (aj a2 (aj a2 (ag a2 (u2 (k5 (al t3))))))))))))) (ak s2))) t2))
  (fun a2=>
  .br (fun a3=>
   .rt [18,24,32,41] [] [] [] [] [] (aj (aj a0 (aj (u2 (u2 (u2 (ag a1 (ag a1 (ag a1 (u2 (ag a2 (ag a2 (ag a2 (u2 (aj a3 (aj a3 (aj a3 (aj a3 (aj a3 (al (aj a3 t2)))))))))))))))))) (ak s2))) t2))
  (fun a3=>
   .rn 0 [18,24,32,40] [] [] [] (aj a0 (al (u2 (u2 (u2 (ag a1 (ag a1 (ag a1 (u2 (ag a2 (ag a2 (ag a2 (u2 (ag a3 (ag a3 (ag a3 (ag a3 (aj (aj a3 t3) (al (aj a3 t2)))))))))))))))))))) <|
   .br (fun a4=>
   .rt [24,32,40,53] [] [] [] [] [] (aj (aj a4 s2) t2))
   (fun a4=>
   .rt [24,32,40,52] [] [] [] [] [] (aj (aj a4 s2) t2))))))) (by kernel_rfl)
theorem k19_ct(q:Aq)(c d:Int)(r:Ret)(h:Ax (k19Step q c d) (Lt q c d) r):CT TA 49 ([]) ([lkA q,.int .i64 c,.int .i64 d]) r.1 r.2:=
 CT.mach (fn:=Try.f49) (c:=zB Try.f49) (S:=k19St q c d) (hd:=k19Hd) Try.func49 (by kernel_rfl) (nL rfl)
  (fun s o ho=>match s,ho with
   | x,_=>x.elim)
  (fun o ho=>k19En_ok q c d o ho) h
def shE(n:Ac)(s:Af):Int:=if Cg n s=true then 0 else 20
def shO(n:Ac)(s:Af):List Bool:=if Cg n s=true then Cz s else []
theorem HY{n:Ac}{s:Af}(h:Cg n s=true):AA n/\A9 n s/\s.cl.length<=48/\s.bw.length<=48/\s.pe.length<=48/\n.bs.length<=s.cl.length/\∀b∈s.pe,0<=b/\b<(s.cl.length:Int):=by
 obtain⟨hv,h⟩:=PA.1 h
 have hc:=FN hv
 have lc:=h.lc
 have lb:=h.lb
 have pl:=h.pl
 exact⟨hv,h,by omega,by omega,by omega,by omega,fun b hb=>by have:=h.pb b hb;omega⟩
theorem ssh_c{n:Ac}(cl:List Bool)(bw pe:List Int)(hrw:Rows n.nx):CT TA 24 [] [Aj n,sgA ⟨cl,bw,pe⟩] [] (.tup [.lst (boL (shO n ⟨cl,bw,pe⟩)),.int .i64 (shE n ⟨cl,bw,pe⟩)]):=by
 generalize hs:(⟨cl,bw,pe⟩:Af)=s
 have k:=ssh_ct n s
 unfold L6 at k
 unfold shO shE
 cases h:Cg n s with
 | false=>rw[h] at k;exact CT.w2 (k ([],_) (.val (by rw[Aa hrw];rfl)))
 | true=>
  obtain⟨hv,hS,l1,l2,l3,l4,l5⟩:=HY h
  rw[h] at k
  refine k ([],_) ?_
  rw[Aa hrw,Ak (by rfl),Aa (by omega)]
  refine N3 (L:=fun i b=>Et.l0 (i:Int) b) (f:=fun c b=>c.set b.toNat true) (l:=s.pe) s.cl (fun i x hx h=>?_) ?_
  .have hlen:=LJ (s.pe.take i) s.cl
   have h2:=l5 x (Sz hx)
   have hi:=(Sx.1 hx).1
   have hL:=Ct s.cl
   generalize (s.pe.take i).foldl (fun c b=>c.set b.toNat true) s.cl=c at *
   refine .to (show GA n s i c=_ from ?_) h
   unfold GA
   rw[rngS hx,Aa h2.1,Aa (by simp only[iN];omega),Aa (show Nat.le _ _ from(by simp only[Sy];show 0+x.toNat+1<=_;omega)),zW i (by omega),SK]
  .refine .to (show GA n s s.pe.length (Cz s)=_ from ?_) (.ret _)
   unfold GA
   rw[DY,Aa (by rw[Ct,Sy,He])];rfl
def anE(n:Ac)(s:Af)(x:Int):Int:=if Cg n s=true then (if 0<=x/\x<(n.bs.length:Int) then (if (Cz s).getD x.toNat true=true then 24 else 0) else 19) else 20
def anO(n:Ac)(s:Af)(x:Int):Af:=if anE n s x=0 then anS s x else ⟨[],[],[]⟩
theorem anE_ok{n:Ac}{s:Af}{x:Int}(h:anE n s x=0):Cg n s=true/\(0<=x/\x<(n.bs.length:Int))/\(Cz s).getD x.toNat true=false:=by
 unfold anE at h
 split at h
 .rename_i h1
  split at h
  .rename_i h2
   split at h
   .cases h
   .rename_i h3;exact⟨h1,h2,by simpa using h3⟩
  .cases h
 .cases h
theorem wo_neg{n:Ac}{s:Af}(h:A9 n s):wo s.pe (-1)=s.pe:=wo_none fun hm=>by have:=h.pb _ hm;omega
theorem rann_c{n:Ac}(cl:List Bool)(bw pe:List Int)(x:Int)(hrw:Rows n.nx):CT TA 59 [] [Aj n,sgA ⟨cl,bw,pe⟩,.int .i64 x] [] (.tup [sgA (anO n ⟨cl,bw,pe⟩ x),.int .i64 (anE n ⟨cl,bw,pe⟩ x)]):=by
 generalize hs:(⟨cl,bw,pe⟩:Af)=s
 have k:=rann_ct n s x
 unfold Mc at k
 unfold anO
 have hbad:anE n s x≠0->(.tup [sgA (if anE n s x=0 then anS s x else ⟨[],[],[]⟩),.int .i64 (anE n s x)]:AV)=wk2 (.tup [.agg [.nils,.nils,.nils],.int .i64 (anE n s x)]):=fun h=>by rw[Su h];rfl
 unfold anE at hbad ⊢
 cases h:Cg n s with
 | false=>
  rw[h] at k hbad
  rw[hbad (by simp)]
  exact CT.w2 (k ([],_) (.val (by rw[Aa hrw];rfl)))
 | true=>
 obtain⟨hv,hS,l1,l2,l3,l4,l5⟩:=HY h
 rw[h] at k hbad
 simp only[Ss] at hbad ⊢
 by_cases h0:0<=x/\x<(n.bs.length:Int)
 case neg=>
  rw[Su h0] at hbad ⊢
  rw[hbad (by decide)]
  refine CT.w2 (k ([],_) (.val ?_))
  rw[Aa hrw,Ak (by rfl)]
  by_cases h1:x<0
  .rw[An (AF h1)]
  .rw[Ak (Ar h1),An (AF (by rw[Sy];simp only[iN];omega))]
 rw[Ss h0] at hbad ⊢
 have hsl:=He s
 have hgx:=Bg true (show x.toNat<(Cz s).length by omega)
 cases hx:(Cz s).getD x.toNat true with
 | true=>
  rw[hx,Ss rfl] at hbad
  simp only[Ss]
  rw[hbad (by decide)]
  refine CT.w2 (k ([],_) (.val ?_))
  rw[Aa hrw,Ak (by rfl),Ak (Ar (by omega)),Ak (Ar (by rw[Sy];simp only[iN];omega)),Aa (by omega),Aa (by omega),Aa l5,Aa h0.1,AY hgx,hx,An rfl]
 | false=>
  have e:(.tup [sgA (anS s x),.int .i64 0]:AV) = .tup [.agg [.lst (boL s.cl),.lst (Tt (AV.int .i64) s.bw),.lst (Tt (AV.int .i64) (wo s.pe (-1))++[.int .i64 x])],.int .i64 0]:=by
   rw[wo_neg hS]
   unfold anS sgA lI
   rw[SI];rfl
  have e2:(if (if false=true then (24:Int) else 0)=0 then anS s x else ⟨[],[],[]⟩)=anS s x:=rfl
  have e3:(if false=true then (24:Int) else 0)=0:=rfl
  rw[e2,e3,e]
  refine k ([],_) (.val ?_)
  have hw:=NV s.pe (-1)
  rw[Aa hrw,Ak (by rfl),Ak (Ar (by omega)),Ak (Ar (by rw[Sy];simp only[iN];omega)),Aa (by omega),Aa (by omega),Aa l5,Aa h0.1,AY hgx,hx,Ak rfl,Aa (by omega),Aa (by simp only[Sy,Ta,Tb];omega),Aa (by simp only[Sy,Ta,Tb];omega)]
theorem set_same{l:List Bool}{i:Nat}{v:Bool}(h:l.getD i true=v)(hi:i<l.length):l.set i v=l:=by
 apply List.ext_getElem?
 intro j
 rw[Tp]
 split
 .rename_i e;subst e
  rw[Sv hi]
  rw[Sw,Sv hi] at h
  exact congrArg some h.symm
 .rfl
theorem rshs_c(cl:List Bool)(bw pe:List Int)(c d:Int)(h1:cl.length<=1000000)(h2:bw.length<=1000000)(h3:pe.length<=1000000)(hc:0<=c)(hc1:c<(cl.length:Int))(hc2:c<(bw.length:Int)):
  CT TA 60 [] [sgA ⟨cl,bw,pe⟩,.int .i64 c,.int .i64 d] [] (sgA (clS ⟨cl,bw,pe⟩ c d)):=by
 refine rshs_ct ⟨cl,bw,pe⟩ c d ([],_) (.val ?_)
 have hL:=Ct cl
 unfold Mb
 simp only
 rw[Aa h1,Aa h2,Aa h3,Aa hc,Aa (by simp only[iN];omega),SK,AY (Bg true (show c.toNat<cl.length by omega))]
 unfold clS
 simp only
 cases h:cl.getD c.toNat true with
 | false=>
  rw[An (by rfl),Aa (show Nat.le _ _ from(show c.toNat+1<=_ by omega)),Aa hc2,Aa (show Nat.le _ _ from(by rw[Sy];show c.toNat+1<=_;omega)),Su (by simp)]
  unfold lI boL
  rw[Tn,Tn]
 | true=>
  rw[Ak (by rfl),Ss rfl,set_same h (by omega)];rfl
def k9E(l:Aq)(c d:Int):Int:=if CZ l=true then (if 0<=c/\c<8/\0<=d/\d<(l.ow.length:Int) then 0 else 19) else 20
theorem k19_c(ow:List Int)(qu:List (List Int))(c d:Int):CT TA 49 [] [lkA ⟨ow,qu⟩,.int .i64 c,.int .i64 d] [] (.int .i64 (k9E ⟨ow,qu⟩ c d)):=by
 refine k19_ct ⟨ow,qu⟩ c d ([],_) (.val ?_)
 unfold Lt k9E
 simp only
 cases h:CZ ⟨ow,qu⟩ with
 | false=>rfl
 | true=>
  rw[Ak (by rfl),Ss rfl,Sy]
  by_cases h0:c<0
  .rw[An (AF h0),Su (by omega)]
  by_cases h1:8<=c
  .rw[Ak (Ar h0),An (AF h1),Su (by omega)]
  by_cases h2:d<0
  .rw[Ak (Ar h0),Ak (Ar h1),An (AF h2),Su (by omega)]
  by_cases h3:(ow.length:Int)<=d
  .rw[Ak (Ar h0),Ak (Ar h1),Ak (Ar h2),An (AF h3),Su (by omega)]
  .rw[Ak (Ar h0),Ak (Ar h1),Ak (Ar h2),Ak (Ar h3),Ss (by omega)]
end Go.Proofs.Ytedjkebooffjpaa
namespace Go.AX
variable {P:Program}
def sgL:List Nat->List Nat
 | []=>[]
 | x::r=>match Nat.ble 1000000 x with | true=>sgL r | false=>x::sgL r
def fzL:List Nat->List Nat
 | []=>[]
 | x::r=>match Nat.ble 1000000 x with | true=>(x-1000000)::fzL r | false=>fzL r
inductive AQ {σ:Type} (S:σ->St):Option (σ⊕Ret)->Type 1 where
 | br {X Y:Option (σ⊕Ret)} {b:Bool} (x:b=true->AQ S X) (y:b=false->AQ S Y):AQ S (Go.AX.br b X Y)
 | gu {X:Option (σ⊕Ret)} {p:Prop} (x:p->AQ S X):AQ S (Go.AX.gu p X)
 | el {β:Type} {F:β->Option (σ⊕Ret)} {l:List β} {i:Nat} (x:(v:β)->l[i]?=some v->AQ S (F v)):AQ S (Go.AX.el l i F)
 | rn {X:Option (σ⊕Ret)} (K:Nat) (d:List Nat) (e:List (Nat×AV)) (cl:List (Nat×AH)) (F:List (Nat×Nat)) {p:Prop} (hp:p) (x:AQ S X):AQ S X
 | lp (d:List Nat) (e:List (Nat×AV)) (cl:List (Nat×AH)) (F vl:List (Nat×Nat)) (sg vars:List Nat) {s:σ} {p:Prop} (hp:p):AQ S (some (.inl s))
 | lq (d:List Nat) (e:List (Nat×AV)) (cl:List (Nat×AH)) (F vl:List (Nat×Nat)) (sg vars:List Nat) {s:σ} (s':St) {p:Prop} (hp:p) (h:s'=S s):AQ S (some (.inl s))
 | rt (d:List Nat) (e:List (Nat×AV)) (cl:List (Nat×AH)) (F:List (Nat×Nat)) (sg fz:List Nat) {r:Ret} {p:Prop} (hp:p):AQ S (some (.inr r))
 | no:AQ S none
def AQ.go{σ:Type}{S:σ->St}(P:Program)(fn:Func)(m:Nat){X:Option (σ⊕Ret)}(t:AQ S X):Cfg:=
 AQ.rec (motive:=fun _ _=>Cfg)
  (fun {_ _ b} _ _ ix iy c k st=>Raw.br b (fun h=>ix h c k st) (fun h=>iy h c k st))
  (fun {_ p} _ ix c k st=>Raw.gu p (fun h=>ix h c k st))
  (fun {_ _ l i} _ ix c k st=>Raw.el l i (fun v h=>ix v h c k st))
  (fun K d e cl F _ _ _ ix c k st=>rnR ix (gk P F m 4000 K (hT (ds d) e cl) c k st))
  (fun d e cl F vl sg vars _ _ _ c k st=>Raw.lp (Dz m vl (sgL sg) (fzL sg) vars (gm P F m 4000 (hT (ds d) e cl) c k st)))
  (fun d e cl F vl sg vars _ _ _ _ _ c k st=>Raw.lp (Dz m vl (sgL sg) (fzL sg) vars (gm P F m 4000 (hT (ds d) e cl) c k st)))
  (fun d e cl F sg fz _ _ _ c k st=>Raw.rt (E5 P fn m sg fz (gm P F m 4000 (hT (ds d) e cl) c k st)))
  (fun _ _ _=>Raw.no) t
def AQ.er{σ:Type}{S:σ->St}(fn:Func)(hd:σ->Nat){X:Option (σ⊕Ret)}(t:AQ S X):Raw:=
 AQ.rec (motive:=fun _ _=>Raw)
  (fun {_ _ b} _ _ ix iy=>Raw.br b ix iy)
  (fun {_ p} _ ix=>Raw.gu p ix)
  (fun {_ _ l i} _ ix=>Raw.el l i ix)
  (fun _ _ _ _ _ p _ _ ix=>Raw.rn p ix)
  (fun _ _ _ _ _ _ _ s p _=>Raw.lp (some (Ay fn (hd s),AN fn (hd s),S s,p)))
  (fun _ _ _ _ _ _ _ s s' p _ _=>Raw.lp (some (Ay fn (hd s),AN fn (hd s),s',p)))
  (fun _ _ _ _ _ _ r p _=>Raw.rt (some (r.1,r.2,p)))
  Raw.no t
theorem AQ.sound{σ:Type}{S:σ->St}{fn:Func}{m:Nat}{hd:σ->Nat}(hmix:P.follows .mixedOrders=true){X:Option (σ⊕Ret)}(t:AQ S X):
  ∀c k st,t.go P fn m c k st=t.er fn hd->∀o,X=some o->CD P fn m S hd c k st o:=by
 induction t with
 | br x y ix iy=>
  intro c k st h o ho
  have h':=h
  simp only[AQ.go,AQ.er,Raw.br.injEq,Sn,true_and] at h'
  rcases LB ho with ⟨hb,ho⟩ | ⟨hb,ho⟩
  .exact ix hb c k st (congrFun h'.1 hb) o ho
  .exact iy hb c k st (congrFun h'.2 hb) o ho
 | gu x ix=>
  intro c k st h o ho
  have h':=h
  simp only[AQ.go,AQ.er,Raw.gu.injEq,Sn,true_and] at h'
  obtain⟨hp,ho⟩:=L2 ho
  exact ix hp c k st (congrFun h' hp) o ho
 | el x ix=>
  intro c k st h o ho
  have h':=h
  simp only[AQ.go,AQ.er,Raw.el.injEq,Sn,true_and] at h'
  obtain⟨v,hv,ho⟩:=KT ho
  exact ix v hv c k st (congrFun (congrFun h' v) hv) o ho
 | rn K d e cl F hp x ix=>
  intro c k st h o ho
  have h':rnR (fun c k st=>x.go P fn m c k st) (gk P F m 4000 K (hT (ds d) e cl) c k st)=Raw.rn _ (x.er fn hd):=h
  generalize hg:gk P F m 4000 K (hT (ds d) e cl) c k st=y at h'
  cases y with
  | none=>simp[rnR] at h'
  | some y=>
   obtain⟨c',k',st',p'⟩:=y
   simp only[rnR,Raw.rn.injEq] at h'
   have hp':p':=h'.1 ▸ hp
   have hr:=ix c' k' st' h'.2 o ho
   cases o with
   | inl s=>exact fun post hk=>Fx hmix _ _ _ _ _ _ _ _ _ _ hg hp' (hr post hk)
   | inr r=>exact Fx hmix _ _ _ _ _ _ _ _ _ _ hg hp' hr
 | lp d e cl F vl sg vars hp=>
  intro c k st h o ho
  cases ho
  have h':=h
  simp only[AQ.go,AQ.er,Raw.lp.injEq] at h'
  exact CD.loop hmix h' hp
 | lq d e cl F vl sg vars s' hp hs=>
  intro c k st h o ho
  cases ho
  have h':=h
  simp only[AQ.go,AQ.er,Raw.lp.injEq] at h'
  subst hs
  exact CD.loop hmix h' hp
 | rt d e cl F sg fz hp=>
  intro c k st h o ho
  cases ho
  have h':=h
  simp only[AQ.go,AQ.er,Raw.rt.injEq] at h'
  exact CD.ret hmix h' hp
 | no=>intro c k st h o ho;cases ho
theorem AQ.ok{σ:Type}{S:σ->St}{fn:Func}{m:Nat}{hd:σ->Nat}{X:Option (σ⊕Ret)}{c:Code}{k:List Ks}{st:St}{o:σ⊕Ret}(ho:X=some o)(hmix:P.follows .mixedOrders=true)(t:AQ S X)
  (h:t.go P fn m (.inl c) k st=t.er fn hd):Arr P fn m S hd c k st o:=by
 have:=AQ.sound hmix t (.inl c) k st h o ho
 cases o<;>exact this
def endH(vars:List Nat):Nat->Option (DG×St×Prop)->Option (Code×List Ks×St×Prop)
 | 0,some (.loop c k,st,p)=>some (c,k,⟨st.n,vars.map fun s=>(s,Al st.fr s),st.hp⟩,p)
 | _,_=>none
def endV(P:Program)(fn:Func):Nat->Option (DG×St×Prop)->Option (St×AV×Prop)
 | 0,some (.done e,st,p)=>match FS e&&Nat.blt 0 st.n,GF P fn st with
  | true,some v=>some (⟨st.n,[],st.hp⟩,v,p)
  | _,_=>none
 | _,_=>none
def Iu(m:Nat)(σ fz vars:List Nat):Option ((Code⊕Exit)×List Ks×St×Prop)->Option ((Code⊕Exit)×List Ks×St×Prop)
 | some (.inr .normal,.code c::k,st,p)=>match Fq m σ fz,st.ren σ fz vars with
  | true,some (s,q)=>some (.inl c,k,s,p/\q)
  | _,_=>none
 | _=>none
theorem Oh{m:Nat}{σ fz vars:List Nat}{x:Option ((Code⊕Exit)×List Ks×St×Prop)}{c':Code⊕Exit}{k':List Ks}{st':St}{p:Prop}(h:Iu m σ fz vars x=some (c',k',st',p))(hp:p){post:Exit->St->Prop}(hh:F1 P m post c' k' st'):
  ∃c k st q,x=some (c,k,st,q)/\q/\F1 P m post c k st:=by
 unfold Iu at h
 split at h
 .rename_i c k st q
  split at h
  .rename_i s q' h1 h2
   simp only[R9,Sj] at h
   obtain⟨rfl,rfl,rfl,rfl⟩:=h
   exact⟨_,_,_,_,rfl,hp.1,T.ren (EI h1 h2 hp.2) hh⟩
  .cases h
 .cases h
inductive AS:Type 1 where
 | br (b:Bool) (x:b=true->AS) (y:b=false->AS)
 | gu (p:Prop) (x:p->AS)
 | el {β:Type} (l:List β) (i:Nat) (x:(v:β)->l[i]?=some v->AS)
 | rn (p:Prop) (x:AS)
 | lp (x:Option (Code×List Ks×St×Prop))
 | rt (x:Option (List (Option Blk)×AV×Prop))
 | lr (x:Option (St×AV×Prop))
 | no
abbrev Cfg3:=Code⊕Exit->List Ks->St->AS
def Fi(f:Code⊕Exit->List Ks->St->AS):Option ((Code⊕Exit)×List Ks×St×Prop)->AS
 | some (c,k,st,p)=>.rn p (f c k st)
 | none=>.no
inductive AO {σ:Type} (S:σ->St):Option (σ⊕Ret)->Type 1 where
 | br {X Y:Option (σ⊕Ret)} {b:Bool} (x:b=true->AO S X) (y:b=false->AO S Y):AO S (Go.AX.br b X Y)
 | gu {X:Option (σ⊕Ret)} {p:Prop} (x:p->AO S X):AO S (Go.AX.gu p X)
 | el {β:Type} {F:β->Option (σ⊕Ret)} {l:List β} {i:Nat} (x:(v:β)->l[i]?=some v->AO S (F v)):AO S (Go.AX.el l i F)
 | rn {X:Option (σ⊕Ret)} (K:Nat) (d:List Nat) (e:List (Nat×AV)) (cl:List (Nat×AH)) (F:List (Nat×Nat)) {p:Prop} (hp:p) (x:AO S X):AO S X
 | rf {X:Option (σ⊕Ret)} (K:Nat) (d:List Nat) (e:List (Nat×AV)) (cl:List (Nat×AH)) (F:List (Nat×Nat)) (sg fz vars:List Nat) {p:Prop} (hp:p) (x:AO S X):AO S X
 | lp (d:List Nat) (e:List (Nat×AV)) (cl:List (Nat×AH)) (F vl:List (Nat×Nat)) (sg vars:List Nat) {s:σ} {p:Prop} (hp:p):AO S (some (.inl s))
 | lq (d:List Nat) (e:List (Nat×AV)) (cl:List (Nat×AH)) (F vl:List (Nat×Nat)) (sg vars:List Nat) {s:σ} (s':St) {p:Prop} (hp:p) (h:s'=S s):AO S (some (.inl s))
 | rt (d:List Nat) (e:List (Nat×AV)) (cl:List (Nat×AH)) (F:List (Nat×Nat)) (sg fz:List Nat) {r:Ret} {p:Prop} (hp:p):AO S (some (.inr r))
 | lr (d:List Nat) (e:List (Nat×AV)) (cl:List (Nat×AH)) (F:List (Nat×Nat)) (vars:List Nat) {s:σ} (s':St) {p:Prop} (hp:p) (h:Ren 0 s' (S s)):AO S (some (.inl s))
 | rr (d:List Nat) (e:List (Nat×AV)) (cl:List (Nat×AH)) (F:List (Nat×Nat)) {r:Ret} (s':St) (v:AV) {p:Prop} (hp:p) (h:∃st1,Ren 0 {s' with fr:=[(0,v)]} st1/\st1.hp=r.1/\Al st1.fr 0=r.2):AO S (some (.inr r))
 | no:AO S none
def AO.go{σ:Type}{S:σ->St}(P:Program)(fn:Func)(m:Nat){X:Option (σ⊕Ret)}(t:AO S X):Cfg3:=
 AO.rec (motive:=fun _ _=>Cfg3)
  (fun {_ _ b} _ _ ix iy c k st=>AS.br b (fun h=>ix h c k st) (fun h=>iy h c k st))
  (fun {_ p} _ ix c k st=>AS.gu p (fun h=>ix h c k st))
  (fun {_ _ l i} _ ix c k st=>AS.el l i (fun v h=>ix v h c k st))
  (fun K d e cl F _ _ _ ix c k st=>Fi ix (gk P F m 4000 K (hT (ds d) e cl) c k st))
  (fun K d e cl F sg fz vars _ _ _ ix c k st=>Fi ix (Iu m sg fz vars (gk P F m 4000 K (hT (ds d) e cl) c k st)))
  (fun d e cl F vl sg vars _ _ _ c k st=>AS.lp (Dz m vl (sgL sg) (fzL sg) vars (gm P F m 4000 (hT (ds d) e cl) c k st)))
  (fun d e cl F vl sg vars _ _ _ _ _ c k st=>AS.lp (Dz m vl (sgL sg) (fzL sg) vars (gm P F m 4000 (hT (ds d) e cl) c k st)))
  (fun d e cl F sg fz _ _ _ c k st=>AS.rt (E5 P fn m sg fz (gm P F m 4000 (hT (ds d) e cl) c k st)))
  (fun d e cl F vars _ _ _ _ _ c k st=>AS.lp (endH vars m (gm P F m 4000 (hT (ds d) e cl) c k st)))
  (fun d e cl F _ _ _ _ _ _ c k st=>AS.lr (endV P fn m (gm P F m 4000 (hT (ds d) e cl) c k st)))
  (fun _ _ _=>AS.no) t
def AO.er{σ:Type}{S:σ->St}(fn:Func)(hd:σ->Nat){X:Option (σ⊕Ret)}(t:AO S X):AS:=
 AO.rec (motive:=fun _ _=>AS)
  (fun {_ _ b} _ _ ix iy=>AS.br b ix iy)
  (fun {_ p} _ ix=>AS.gu p ix)
  (fun {_ _ l i} _ ix=>AS.el l i ix)
  (fun _ _ _ _ _ p _ _ ix=>AS.rn p ix)
  (fun _ _ _ _ _ _ _ _ p _ _ ix=>AS.rn p ix)
  (fun _ _ _ _ _ _ _ s p _=>AS.lp (some (Ay fn (hd s),AN fn (hd s),S s,p)))
  (fun _ _ _ _ _ _ _ s s' p _ _=>AS.lp (some (Ay fn (hd s),AN fn (hd s),s',p)))
  (fun _ _ _ _ _ _ r p _=>AS.rt (some (r.1,r.2,p)))
  (fun _ _ _ _ _ s s' p _ _=>AS.lp (some (Ay fn (hd s),AN fn (hd s),s',p)))
  (fun _ _ _ _ _ s' v p _ _=>AS.lr (some (s',v,p)))
  AS.no t
theorem AO.sound{σ:Type}{S:σ->St}{fn:Func}{m:Nat}{hd:σ->Nat}(hmix:P.follows .mixedOrders=true){X:Option (σ⊕Ret)}(t:AO S X):
  ∀c k st,t.go P fn m c k st=t.er fn hd->∀o,X=some o->CD P fn m S hd c k st o:=by
 induction t with
 | br x y ix iy=>
  intro c k st h o ho
  have h':=h
  simp only[AO.go,AO.er,AS.br.injEq,Sn,true_and] at h'
  rcases LB ho with ⟨hb,ho⟩ | ⟨hb,ho⟩
  .exact ix hb c k st (congrFun h'.1 hb) o ho
  .exact iy hb c k st (congrFun h'.2 hb) o ho
 | gu x ix=>
  intro c k st h o ho
  have h':=h
  simp only[AO.go,AO.er,AS.gu.injEq,Sn,true_and] at h'
  obtain⟨hp,ho⟩:=L2 ho
  exact ix hp c k st (congrFun h' hp) o ho
 | el x ix=>
  intro c k st h o ho
  have h':=h
  simp only[AO.go,AO.er,AS.el.injEq,Sn,true_and] at h'
  obtain⟨v,hv,ho⟩:=KT ho
  exact ix v hv c k st (congrFun (congrFun h' v) hv) o ho
 | rn K d e cl F hp x ix=>
  intro c k st h o ho
  have h':Fi (fun c k st=>x.go P fn m c k st) (gk P F m 4000 K (hT (ds d) e cl) c k st)=AS.rn _ (x.er fn hd):=h
  generalize hg:gk P F m 4000 K (hT (ds d) e cl) c k st=y at h'
  cases y with
  | none=>simp[Fi] at h'
  | some y=>
   obtain⟨c',k',st',p'⟩:=y
   simp only[Fi,AS.rn.injEq] at h'
   have hp':p':=h'.1 ▸ hp
   have hr:=ix c' k' st' h'.2 o ho
   cases o with
   | inl s=>exact fun post hk=>Fx hmix _ _ _ _ _ _ _ _ _ _ hg hp' (hr post hk)
   | inr r=>exact Fx hmix _ _ _ _ _ _ _ _ _ _ hg hp' hr
 | rf K d e cl F sg fz vars hp x ix=>
  intro c k st h o ho
  have h':Fi (fun c k st=>x.go P fn m c k st) (Iu m sg fz vars (gk P F m 4000 K (hT (ds d) e cl) c k st))=AS.rn _ (x.er fn hd):=h
  generalize hg:Iu m sg fz vars (gk P F m 4000 K (hT (ds d) e cl) c k st)=y at h'
  cases y with
  | none=>simp[Fi] at h'
  | some y=>
   obtain⟨c',k',st',p'⟩:=y
   simp only[Fi,AS.rn.injEq] at h'
   have hp':p':=h'.1 ▸ hp
   have hr:=ix c' k' st' h'.2 o ho
   cases o with
   | inl s=>
    intro post hk
    obtain⟨c1,k1,st1,q1,g1,g2,g3⟩:=Oh hg hp' (hr post hk)
    exact Fx hmix _ _ _ _ _ _ _ _ _ _ g1 g2 g3
   | inr r=>
    obtain⟨c1,k1,st1,q1,g1,g2,g3⟩:=Oh hg hp' hr
    exact Fx hmix _ _ _ _ _ _ _ _ _ _ g1 g2 g3
 | lp d e cl F vl sg vars hp=>
  intro c k st h o ho
  cases ho
  have h':=h
  simp only[AO.go,AO.er,AS.lp.injEq] at h'
  exact CD.loop hmix h' hp
 | lq d e cl F vl sg vars s' hp hs=>
  intro c k st h o ho
  cases ho
  have h':=h
  simp only[AO.go,AO.er,AS.lp.injEq] at h'
  subst hs
  exact CD.loop hmix h' hp
 | rt d e cl F sg fz hp=>
  intro c k st h o ho
  cases ho
  have h':=h
  simp only[AO.go,AO.er,AS.rt.injEq] at h'
  exact CD.ret hmix h' hp
 | lr d e cl F vars s' hp hs=>
  intro c k st h o ho
  cases ho
  have h':=h
  simp only[AO.go,AO.er,AS.lp.injEq] at h'
  unfold endH at h'
  split at h'
  .rename_i c' k' st1 q hg
   simp only[R9,Sj] at h'
   obtain⟨rfl,rfl,rfl,rfl⟩:=h'
   intro post hk
   exact F8 hmix 4000 _ c k st _ _ _ hg hp (hk _ ((Ren.slots fun s=>Oo (fun s=>Al st1.fr s) vars s).trans hs))
  .cases h'
 | rr d e cl F s' v hp hs=>
  intro c k st h o ho
  cases ho
  have h':=h
  simp only[AO.go,AO.er,AS.lr.injEq] at h'
  unfold endV at h'
  split at h'
  .rename_i e1 st1 q hg
   split at h'
   .rename_i v1 hr1 hv
    simp only[R9,Sj] at h'
    obtain⟨rfl,rfl,rfl⟩:=h'
    simp only[SD] at hr1
    obtain⟨st2,k1,k2,k3⟩:=hs
    refine F8 (post:=Fin P fn 0 _ _) hmix 4000 _ c k st _ _ _ hg hp ⟨?_,v1,st2,hv,k1,k2,k3,SU hr1.2⟩
    cases e1<;>simp[FS] at hr1<;>simp
   .cases h'
  .cases h'
 | no=>intro c k st h o ho;cases ho
theorem AO.ok{σ:Type}{S:σ->St}{fn:Func}{m:Nat}{hd:σ->Nat}{X:Option (σ⊕Ret)}{c:Code}{k:List Ks}{st:St}{o:σ⊕Ret}(ho:X=some o)(hmix:P.follows .mixedOrders=true)(t:AO S X)
  (h:t.go P fn m (.inl c) k st=t.er fn hd):Arr P fn m S hd c k st o:=by
 have:=AO.sound hmix t (.inl c) k st h o ho
 cases o<;>exact this
end Go.AX
namespace Go.Proofs.Ytedjkebooffjpaa
def AG(A:List (List Int))(R k:Nat)(B:List (List Int)):List AV:=gL A++AV.sl R 0 k::gL B
theorem HA(A:List (List Int))(R k:Nat)(B:List (List Int)):(AG A R k B).length=A.length+1+B.length:=by
 unfold AG gL;simp;omega
theorem Qw{l:List Prop}(h:∀q∈l,q):l.foldr And True:=by
 induction l with
 | nil=>trivial
 | cons x r ih=>exact⟨h x (by simp),ih fun q hq=>h q (SM _ hq)⟩
theorem B8{α β:Type}{f:α->Option β}{x:α}{r:List α}{y:β}{l:List β}(h1:f x=some y)(h2:Cl f r=some l):Cl f (x::r)=some (y::l):=by
 simp only[Cl,h1,h2]
theorem ND(σ fz:List Nat)(hp:List (Option Blk)):∀A:List (List Int),Cl (Iz σ fz hp) (gL A)=some ((gL A).map fun v=>(v,True))
 | []=>rfl
 | x::A=>B8 (y:=(lI x,True)) rfl (ND σ fz hp A)
theorem O5{σ fz:List Nat}{hp:List (Option Blk)}{R k:Nat}{B:List (List Int)}{x:AV}{p:Prop}(h:DJ σ fz hp R 0 k=some (x,p)):
  ∀A:List (List Int),Cl (Iz σ fz hp) (AG A R k B)=some (((gL A).map fun v=>(v,True))++(x,p)::((gL B).map fun v=>(v,True)))
 | []=>B8 (y:=(x,p)) h (ND σ fz hp B)
 | y::A=>B8 (y:=(lI y,True)) rfl (O5 h A)
theorem noref_sl(A:List (List Int))(R k:Nat)(B:List (List Int)):Da (AG A R k B)=false:=by
 unfold Da AG
 rw[List.all_append,List.all_cons]
 simp[Bl,AV.cells,AV.noref]
theorem noref_gL(A:List (List Int)):Da (gL A)=true:=by
 unfold Da gL
 rw[List.all_map,SJ]
 intro x _;rfl
theorem Pn{σ fz:List Nat}{hp:List (Option Blk)}{A:List (List Int)}{R k z:Nat}{B:List (List Int)}{x:AV}{p:Prop}(h:DJ σ fz hp R 0 k=some (x,p))(hp':p):
  ∃q,BQ σ fz hp (Blk.mk (AG A R k B) z false true none)=some (Blk.mk (gL A++x::gL B) z (Da (gL A++x::gL B)) true none,q)/\q:=by
 have e1:((((gL A).map fun v=>(v,True))++(x,p)::((gL B).map fun v=>(v,True))):List (AV×Prop)).map (·.1)=gL A++x::gL B:=by
  rw[SI,Sq,Tm,Tm]
  have:((fun y:AV×Prop=>y.1) ∘ fun v:AV=>(v,True))=id:=rfl
  rw[this,List.map_id,List.map_id]
 refine⟨((((gL A).map fun v=>(v,True))++(x,p)::((gL B).map fun v=>(v,True))).map (·.2)).foldr And True,?_,Qw fun q hq=>?_⟩
 .unfold BQ
  simp only[O5 h A,e1]
 .rw[SI,Sq,Tm,Tm] at hq
  rcases SZ.1 hq with hq | hq
  .obtain⟨_,_,rfl⟩:=S0.1 hq;trivial
  .rcases SY.1 hq with rfl | hq
   .exact hp'
   .obtain⟨_,_,rfl⟩:=S0.1 hq;trivial
theorem Ky{σ fz:List Nat}{hp:List (Option Blk)}(A:List (List Int)){R k z R':Nat}(B:List (List Int))(h:C2 σ R=some R'):
  ∃q,BQ σ fz hp (Blk.mk (AG A R k B) z false true none)=some (Blk.mk (AG A R' k B) z false true none,q)/\q:=by
 obtain⟨q,h1,h2⟩:=Pn (fz:=fz) (hp:=hp) (A:=A) (R:=R) (k:=k) (z:=z) (B:=B) (x:=.sl R' 0 k) (p:=True) (σ:=σ) (by unfold DJ;rw[h]) trivial
 have e:Da (gL A++ .sl R' 0 k::gL B)=false:=noref_sl A R' k B
 rw[e] at h1
 exact⟨q,h1,h2⟩
theorem renB_fz{σ fz:List Nat}{hp:List (Option Blk)}(A:List (List Int)){R k z:Nat}(B:List (List Int)){r:List Int}(h:C2 σ R=none)(hm:Bp fz R=true)(hm2:Bp fz (R+1000)=false)(hr:nth hp R=some (Blk.mk (r.map (AV.int .i64)) 1 true true none))(hk:k=r.length):
  ∃q,BQ σ fz hp (Blk.mk (AG A R k B) z false true none)=some (Blk.mk (gL (A++r::B)) z true true none,q)/\q:=by
 obtain⟨q,h1,h2⟩:=Pn (fz:=fz) (hp:=hp) (A:=A) (R:=R) (k:=k) (z:=z) (B:=B) (x:=lI r) (p:=k=(r.map (AV.int .i64)).length) (σ:=σ) (by unfold DJ;rw[h,hm,hr];simp only[hm2];rfl) (by rw[hk,Sy])
 have e:gL A++lI r::gL B=gL (A++r::B):=by unfold gL;rw[SI];rfl
 rw[e,noref_gL] at h1
 exact⟨q,h1,h2⟩
def c19F(q:Aq)(x v0:Int)(v1:List (List Int))(v2:List Int)(v3:List (List Int)):St:=St.mk 28 [(1,.ptr 0 0 0),(2,.ptr 1 0 0),(3,.ptr 2 0 0),(4,.int .i64 v0)] [some (Blk.mk [.agg [.lst (Tt (AV.int .i64) q.ow),.lst (gL q.qu)]] 2 true true none),some (Blk.mk [.agg [.nils,.nils]] 2 true true none),some (Blk.mk [.agg [.sl 3 0 q.ow.length,.sl 4 0 (v1.length+1+v3.length)]] 2 false true none),some (Blk.mk (Tt (AV.int .i64) q.ow) 1 true true none),some (Blk.mk (AG v1 5 v2.length v3) 1 false true none),some (Blk.mk (v2.map (AV.int .i64)) 1 true true none)]
def JE(q:Aq)(x:Int)(v1:List (List Int))(v2:List Int)(v3:List (List Int)):Ret:=([some (Blk.mk (Tt (AV.int .i64) q.ow) 1 true true none),some (Blk.mk (AG v1 2 v2.length v3) 1 false true none),some (Blk.mk (v2.map (AV.int .i64)) 1 true true none)],.agg [.sl 0 0 q.ow.length,.sl 1 0 (v1.length+1+v3.length)])
theorem J4{σ fz vars:List Nat}{st:St}{L:List (Option Blk×Prop)}(h:Dx σ fz st.hp=some L):st.ren σ fz vars=some (⟨st.n,vars.map fun s=>(s,(Bi σ fz st.hp 3 (AX.Al st.fr s)).1),L.map (·.1)⟩,(vars.map fun s=>(Bi σ fz st.hp 3 (AX.Al st.fr s)).2).foldr And ((L.map (·.2)).foldr And True)):=by
 unfold St.ren;rw[h]
theorem Nm(A:List (List Int))(R k:Nat):Tt lI A++[AV.sl R 0 k]=AG A R k []:=rfl
theorem NN(A:List (List Int))(R k:Nat)(B:List (List Int))(r:List Int):AG A R k B++[Tz (r.map (AV.int .i64))]=AG A R k (B++[r]):=by
 unfold AG gL
 rw[List.append_assoc,List.cons_append,SI];rfl
theorem Ov(k:Nat)(A:List (List Int)):JV k (gL A):=fun e he c hc=>by
 unfold gL at he
 obtain⟨r,_,rfl⟩:=S0.1 he
 rw[Sk.1 hc];rfl
theorem IV{n R:Nat}(h:R<n)(A:List (List Int))(k:Nat)(B:List (List Int)):JV n (AG A R k B):=fun e he c hc=>by
 rcases SZ.1 he with he | he
 .exact Ov n A e he c hc
 .rcases SY.1 he with rfl | he
  .rw[Sk.1 hc]
   exact Nat.ble_eq_true_of_le h
  .exact Ov n B e he c hc
theorem c19ra{q:Aq}{x v0:Int}{v1:List (List Int)}{x21:List Int}{fr:List (Nat×AV)}{n7 n5:Nat}{b:Blk}(h1:AX.Al fr 1 = .ptr 0 0 0)(h2:AX.Al fr 2 = .ptr 1 0 0)(h3:AX.Al fr 3 = .ptr 2 0 0)(h4:AX.Al fr 4 = .int .i64 v0)
  (h7:n7=(Tt lI v1).length+1) (h5:n5=(Tt (AV.int .i64) x21).length):
  Ren 0 (St.mk 28 fr [some (Blk.mk [.agg [.lst (Tt (AV.int .i64) q.ow),.lst (gL q.qu)]] 2 true true none),some (Blk.mk [.agg [.nils,.nils]] 2 true true none),some (Blk.mk [.agg [.sl 3 0 q.ow.length,.sl 7 0 n7]] 2 false true none),some (Blk.mk (Tt (AV.int .i64) q.ow) 1 true true none),none,some (Blk.mk (Tt (AV.int .i64) x21) 1 true true none),some b,some (Blk.mk (Tt lI v1++[.sl 5 0 n5]) 1 false true none)]) (c19F q x v0 v1 x21 []):=by
 rw[Sy] at h7 h5
 subst h7 h5
 rw[Nm]
 refine(Ren.keys (fr':=[(1,.ptr 0 0 0),(2,.ptr 1 0 0),(3,.ptr 2 0 0),(4,.int .i64 v0)]) ⟨h1.symm,h2.symm,h3.symm,h4.symm,trivial⟩).trans ?_
 obtain⟨Q,hQ,hq⟩:=Ky (σ:=[0,1,2,3,7,5]) (fz:=[]) (hp:=[some (Blk.mk [.agg [.lst (Tt (AV.int .i64) q.ow),.lst (gL q.qu)]] 2 true true none),some (Blk.mk [.agg [.nils,.nils]] 2 true true none),some (Blk.mk [.agg [.sl 3 0 q.ow.length,.sl 7 0 (v1.length+1)]] 2 false true none),some (Blk.mk (Tt (AV.int .i64) q.ow) 1 true true none),none,some (Blk.mk (Tt (AV.int .i64) x21) 1 true true none),some b,some (Blk.mk (AG v1 5 x21.length []) 1 false true none)]) v1 (R:=5) (k:=x21.length) (z:=1) [] (R':=5) rfl
 have e:Dx [0,1,2,3,7,5] [] [some (Blk.mk [.agg [.lst (Tt (AV.int .i64) q.ow),.lst (gL q.qu)]] 2 true true none),some (Blk.mk [.agg [.nils,.nils]] 2 true true none),some (Blk.mk [.agg [.sl 3 0 q.ow.length,.sl 7 0 (v1.length+1)]] 2 false true none),some (Blk.mk (Tt (AV.int .i64) q.ow) 1 true true none),none,some (Blk.mk (Tt (AV.int .i64) x21) 1 true true none),some b,some (Blk.mk (AG v1 5 x21.length []) 1 false true none)]=some _:=B8 rfl (B8 rfl (B8 rfl (B8 rfl (B8 (y:=(some (Blk.mk (AG v1 5 x21.length []) 1 false true none),Q)) (by
  show(match BQ _ _ _ (Blk.mk (AG v1 5 x21.length []) 1 false true none) with | some x=>some (some x.1,x.2) | none=>none)=_
  rw[hQ]) (B8 rfl rfl)))))
 have R:=Ren.of (m:=0) [0,1,2,3,7,5] [] [1,2,3,4] (J4 (st:=⟨28,[(1,.ptr 0 0 0),(2,.ptr 1 0 0),(3,.ptr 2 0 0),(4,.int .i64 v0)],[some (Blk.mk [.agg [.lst (Tt (AV.int .i64) q.ow),.lst (gL q.qu)]] 2 true true none),some (Blk.mk [.agg [.nils,.nils]] 2 true true none),some (Blk.mk [.agg [.sl 3 0 q.ow.length,.sl 7 0 (v1.length+1)]] 2 false true none),some (Blk.mk (Tt (AV.int .i64) q.ow) 1 true true none),none,some (Blk.mk (Tt (AV.int .i64) x21) 1 true true none),some b,some (Blk.mk (AG v1 5 x21.length []) 1 false true none)]⟩) (vars:=[1,2,3,4]) e) ⟨trivial,trivial,trivial,trivial,trivial,trivial,⟨⟨trivial,trivial,trivial⟩,trivial⟩,trivial,hq,trivial,trivial⟩ rfl rfl rfl
 exact R
theorem c19rb{q:Aq}{x v0:Int}{v1:List (List Int)}{v2:List Int}{v3:List (List Int)}{x21:List Int}{fr:List (Nat×AV)}{n7:Nat}{b:Blk}(h1:AX.Al fr 1 = .ptr 0 0 0)(h2:AX.Al fr 2 = .ptr 1 0 0)(h3:AX.Al fr 3 = .ptr 2 0 0)(h4:AX.Al fr 4 = .int .i64 v0)
  (h7:n7=(AG v1 5 v2.length v3).length+1):
  Ren 0 (St.mk 28 fr [some (Blk.mk [.agg [.lst (Tt (AV.int .i64) q.ow),.lst (gL q.qu)]] 2 true true none),some (Blk.mk [.agg [.nils,.nils]] 2 true true none),some (Blk.mk [.agg [.sl 3 0 q.ow.length,.sl 7 0 n7]] 2 false true none),some (Blk.mk (Tt (AV.int .i64) q.ow) 1 true true none),none,some (Blk.mk (Tt (AV.int .i64) v2) 1 true true none),some b,some (Blk.mk (AG v1 5 v2.length v3++[Tz (Tt (AV.int .i64) x21)]) 1 false true none)]) (c19F q x v0 v1 v2 (v3++[x21])):=by
 have h7:n7=v1.length+1+(v3++[x21]).length:=by rw[h7,HA,SO];simp;omega
 subst h7
 rw[NN]
 generalize v3++[x21]=v3
 refine(Ren.keys (fr':=[(1,.ptr 0 0 0),(2,.ptr 1 0 0),(3,.ptr 2 0 0),(4,.int .i64 v0)]) ⟨h1.symm,h2.symm,h3.symm,h4.symm,trivial⟩).trans ?_
 obtain⟨Q,hQ,hq⟩:=Ky (σ:=[0,1,2,3,7,5]) (fz:=[]) (hp:=[some (Blk.mk [.agg [.lst (Tt (AV.int .i64) q.ow),.lst (gL q.qu)]] 2 true true none),some (Blk.mk [.agg [.nils,.nils]] 2 true true none),some (Blk.mk [.agg [.sl 3 0 q.ow.length,.sl 7 0 (v1.length+1+v3.length)]] 2 false true none),some (Blk.mk (Tt (AV.int .i64) q.ow) 1 true true none),none,some (Blk.mk (Tt (AV.int .i64) v2) 1 true true none),some b,some (Blk.mk (AG v1 5 v2.length v3) 1 false true none)]) v1 (R:=5) (k:=v2.length) (z:=1) v3 (R':=5) rfl
 have e:Dx [0,1,2,3,7,5] [] [some (Blk.mk [.agg [.lst (Tt (AV.int .i64) q.ow),.lst (gL q.qu)]] 2 true true none),some (Blk.mk [.agg [.nils,.nils]] 2 true true none),some (Blk.mk [.agg [.sl 3 0 q.ow.length,.sl 7 0 (v1.length+1+v3.length)]] 2 false true none),some (Blk.mk (Tt (AV.int .i64) q.ow) 1 true true none),none,some (Blk.mk (Tt (AV.int .i64) v2) 1 true true none),some b,some (Blk.mk (AG v1 5 v2.length v3) 1 false true none)]=some _:=B8 rfl (B8 rfl (B8 rfl (B8 rfl (B8 (y:=(some (Blk.mk (AG v1 5 v2.length v3) 1 false true none),Q)) (by
  show(match BQ _ _ _ (Blk.mk (AG v1 5 v2.length v3) 1 false true none) with | some x=>some (some x.1,x.2) | none=>none)=_
  rw[hQ]) (B8 rfl rfl)))))
 have R:=Ren.of (m:=0) [0,1,2,3,7,5] [] [1,2,3,4] (J4 (st:=⟨28,[(1,.ptr 0 0 0),(2,.ptr 1 0 0),(3,.ptr 2 0 0),(4,.int .i64 v0)],[some (Blk.mk [.agg [.lst (Tt (AV.int .i64) q.ow),.lst (gL q.qu)]] 2 true true none),some (Blk.mk [.agg [.nils,.nils]] 2 true true none),some (Blk.mk [.agg [.sl 3 0 q.ow.length,.sl 7 0 (v1.length+1+v3.length)]] 2 false true none),some (Blk.mk (Tt (AV.int .i64) q.ow) 1 true true none),none,some (Blk.mk (Tt (AV.int .i64) v2) 1 true true none),some b,some (Blk.mk (AG v1 5 v2.length v3) 1 false true none)]⟩) (vars:=[1,2,3,4]) e) ⟨trivial,trivial,trivial,trivial,trivial,trivial,⟨⟨trivial,trivial,trivial⟩,trivial⟩,trivial,hq,trivial,trivial⟩ rfl rfl rfl
 exact R
theorem c19re{q:Aq}{x:Int}{v1:List (List Int)}{v2:List Int}{v3:List (List Int)}{b0 b1 b2:Blk}:
  ∃st1,Ren 0 {(St.mk 28 [] [some b0,some b1,some b2,some (Blk.mk (Tt (AV.int .i64) q.ow) 1 true true none),some (Blk.mk (AG v1 5 v2.length v3) 1 false true none),some (Blk.mk (Tt (AV.int .i64) v2) 1 true true none)]) with fr:=[(0,.agg [.sl 3 0 q.ow.length,.sl 4 0 (v1.length+1+v3.length)])]} st1/\st1.hp=(JE q x v1 v2 v3).1/\AX.Al st1.fr 0=(JE q x v1 v2 v3).2:=by
 obtain⟨Q,hQ,hq⟩:=Ky (σ:=[3,4,5]) (fz:=[]) (hp:=[some b0,some b1,some b2,some (Blk.mk (Tt (AV.int .i64) q.ow) 1 true true none),some (Blk.mk (AG v1 5 v2.length v3) 1 false true none),some (Blk.mk (Tt (AV.int .i64) v2) 1 true true none)]) v1 (R:=5) (k:=v2.length) (z:=1) v3 (R':=2) rfl
 have e:Dx [3,4,5] [] [some b0,some b1,some b2,some (Blk.mk (Tt (AV.int .i64) q.ow) 1 true true none),some (Blk.mk (AG v1 5 v2.length v3) 1 false true none),some (Blk.mk (Tt (AV.int .i64) v2) 1 true true none)]=some _:=B8 rfl (B8 (y:=(some (Blk.mk (AG v1 2 v2.length v3) 1 false true none),Q)) (by
  show(match BQ _ _ _ (Blk.mk (AG v1 5 v2.length v3) 1 false true none) with | some x=>some (some x.1,x.2) | none=>none)=_
  rw[hQ]) (B8 rfl rfl))
 exact⟨_,Ren.of [3,4,5] [] [0] (J4 e) ⟨⟨trivial,trivial,trivial⟩,trivial,hq,trivial,trivial⟩ rfl rfl rfl,rfl,rfl⟩
inductive C8 where
 | l0 (v0:Int) (v1:List (List Int))
 | l1 (v0:Int) (v1:List (List Int)) (v2:List Int) (v3:List (List Int))
def D9(q:Aq)(x:Int):C8->St
 | .l0 v0 v1=>St.mk 28 [(1,AV.ptr 0 0 0),(2,AV.ptr 1 0 0),(3,AV.ptr 2 0 0),(4,iv v0)] [some (bK [AV.agg [Tz (Tt iv q.ow),Tz (gL q.qu)]] 2),some (bK [AV.agg [AV.nils,AV.nils]] 2),some (Blk.mk [AV.agg [AV.sl 3 0 q.ow.length,AV.sl 4 0 v1.length]] 2 false true none),some (bK (Tt iv q.ow) 1),some (bK (Tt lI v1) 1)]
 | .l1 v0 v1 v2 v3=>c19F q x v0 v1 v2 v3
def Jq:C8->Nat
 | .l0 _ _=>0
 | .l1 _ _ _ _=>0
def KJ(q:Aq)(x:Int):Option (C8⊕Ret):=
 gu (∀(e:AV),e∈Tt iV q.ow->e.cells.length=1) <|
 gu ((Tt iV q.ow).length<=9223372036854775807) <|
 gu ((Tt iV q.ow).length * 8<=140737488355328) <|
 some (.inl (.l0 ((0:Int)) ([])))
def Gc(q:Aq)(x v0:Int)(v1:List (List Int)):Option (C8⊕Ret):=
 br (decide (v0=x))
 (br (decide (v0<iN (gL q.qu).length))
  (gu (0<=v0) <|
   el (q.qu) (v0.toNat) fun(x21:List Int)=>
   gu (∀(e:AV),e∈Tt iV x21->e.cells.length=1) <|
   gu ((Tt iV x21).length<=9223372036854775807) <|
   gu ((Tt iV x21).length * 8<=140737488355328) <|
   gu ((Tt lI v1).length+[AV.sl 5 0 (Tt iV x21).length].length<=9223372036854775807) <|
   gu (((Tt lI v1).length+[AV.sl 5 0 (Tt iV x21).length].length) * 24<=140737488355328) <|
   gu (∀(e:AV),e∈(Blk.mk (Tt lI v1++[AV.sl 5 0 (Tt iV x21).length]) 1 false true none).es->∀(c:AV),c∈e.cells->Be 6 3 c=true) <|
   some (.inl (.l1 (i64.wrap (v0+1)) v1 x21 ([]))))
  (some (.inr ([some (bK (Tt iV q.ow) 1),some (bK (Tt lI v1) 1)],AV.agg [AV.sl 0 0 q.ow.length,AV.sl 1 0 v1.length]))))
 (br (decide (v0<iN (gL q.qu).length))
  (gu (0<=v0) <|
   el (q.qu) (v0.toNat) fun(x21:List Int)=>
   gu (∀(e:AV),e∈Tt iV x21->e.cells.length=1) <|
   gu ((Tt iV x21).length<=9223372036854775807) <|
   gu ((Tt iV x21).length * 8<=140737488355328) <|
   gu ((Tt lI v1).length+[Tz (Tt iV x21)].length<=9223372036854775807) <|
   gu (((Tt lI v1).length+[Tz (Tt iV x21)].length) * 24<=140737488355328) <|
   some (.inl (.l0 (i64.wrap (v0+1)) (v1++[x21]))))
  (some (.inr ([some (bK (Tt iV q.ow) 1),some (bK (Tt lI v1) 1)],AV.agg [AV.sl 0 0 q.ow.length,AV.sl 1 0 v1.length]))))
def Hd(q:Aq)(x v0:Int)(v1:List (List Int))(v2:List Int)(v3:List (List Int)):Option (C8⊕Ret):=
 br (decide (v0<iN (gL q.qu).length))
 (gu (0<=v0) <|
  el (q.qu) (v0.toNat) fun(x21:List Int)=>
  gu (∀(e:AV),e∈Tt iV x21->e.cells.length=1) <|
  gu ((Tt iV x21).length<=9223372036854775807) <|
  gu ((Tt iV x21).length * 8<=140737488355328) <|
  gu (∀(e:AV),e∈(Blk.mk (AG v1 5 v2.length v3) 1 false true none).es->∀(c:AV),c∈e.cells->Be 6 3 c=true) <|
  gu ((AG v1 5 v2.length v3).length=v1.length+1+v3.length) <|
  gu ((AG v1 5 v2.length v3).length+[Tz (Tt iV x21)].length<=9223372036854775807) <|
  gu (((AG v1 5 v2.length v3).length+[Tz (Tt iV x21)].length) * 24<=140737488355328) <|
  gu (∀(e:AV),e∈(Blk.mk (AG v1 5 v2.length v3++[Tz (Tt iV x21)]) 1 false true none).es->∀(c:AV),c∈e.cells->Be 6 3 c=true) <|
  some (.inl (.l1 (i64.wrap (v0+1)) v1 v2 (v3++[x21]))))
 (some (.inr (JE q x v1 v2 v3)))
def c9kStep(q:Aq)(x:Int):C8->Option (C8⊕Ret)
 | .l0 v0 v1=>Gc q x v0 v1
 | .l1 v0 v1 v2 v3=>Hd q x v0 v1 v2 v3
theorem c9kEn_ok(q:Aq)(x:Int)(o:C8⊕Ret)(h:KJ q x=some o):Arr TA Try.f50 0 (D9 q x) Jq (zB Try.f50) [] {n:=Try.f50.ntmps,fr:=AK 0 ([lkA q]),hp:=([])} o:=
 AO.ok h mix (
 .rn 0 [] [] [] [] (al (u2 t2)) <|
 .gu fun a0=>
 .gu fun a1=>
 .gu fun a2=>
 .lq [] [] [] [] [(2003,1)] [0,1,3,2,4] [1,2,3,4] (up [] [(2,[AV.agg [AV.sl 3 0 (Tt iv q.ow).length,AV.sl 4 0 0]])] (D9 q x (.l0 ((0:Int)) ([])))) (aj (aj (u2 (u2 (aj (ak (aj a0 (aj a1 a2))) (u2 (ak (al (k2 n11))))))) s2) (ak (k5 (aj (al t3) t3)))) (by simp[up,upF,upV,upH,upB,D9,gL,boL,lI])) (by kernel_rfl)
theorem c9kS0_ok(q:Aq)(x v0:Int)(v1:List (List Int))(o:C8⊕Ret)(h:Gc q x v0 v1=some o):Arr TA Try.f50 0 (D9 q x) Jq (Ay Try.f50 0) (.rnd (Ay Try.f50 0)::AN Try.f50 0) (D9 q x (.l0 v0 v1)) o:=
 AO.ok h mix (
 .br (fun a0=>
 .rn 0 [] [] [] [] (al (u2 (u2 (u2 (u2 (al t3)))))) <|
 .br (fun a1=>
  .gu fun a2=>
  .el fun x21 a3=>
  .gu fun a4=>
  .gu fun a5=>
  .gu fun a6=>
  .gu fun a7=>
  .gu fun a8=>
  .gu fun a9=>
  .lr [27] [(5007,AV.sl 6 0 0),(21,lI x21)] [] [] [1,2,3,4] (St.mk 28 [(1,AV.ptr 0 0 0),(2,AV.ptr 1 0 0),(3,AV.ptr 2 0 0),(4,iV (i64.wrap (v0+1)))] [some (bK [AV.agg [Tz (Tt iV q.ow),Tz (gL q.qu)]] 2),some (bK [AV.agg [AV.nils,AV.nils]] 2),some (Blk.mk [AV.agg [AV.sl 3 0 q.ow.length,AV.sl 7 0 ((Tt lI v1).length+[AV.sl 5 0 (Tt iV x21).length].length)]] 2 false true none),some (bK (Tt iV q.ow) 1),none,some (bK (Tt iV x21) 1),some (Blk.mk [AV.sl 5 0 (Tt iV x21).length] 1 false true none),some (Blk.mk (Tt lI v1++[AV.sl 5 0 (Tt iV x21).length]) 1 false true none)]) (aj a1 (aj (aj t2 (aj t2 (aj t2 (aj t2 (aj t2 (aj (ak (ak (aj a2 (AE (f:=lI) a3)))) (aj t2 (aj (ak (aj a4 (aj a5 a6))) (aj t2 (aj (ak (ak (aj (show(Tt lI v1).length=v1.length by simp) (aj (aj (show nat_lit 1=nat_lit 1 from rfl) (show 1<=[AV.sl 5 0 (Tt iV x21).length].length by simp)) (aj a7 a8))))) (aj t2 (al (aj a9 t3))))))))))))) (al (aj t2 (aj t2 s2))))) (by apply c19ra<;>first | assumption | rfl))
 (fun a1=>
  .rt [26] [] [] [] [3,4] [] (aj (aj a1 (al (u2 (al (k2 n11))))) (aj t3 t3))))
 (fun a0=>
 .rn 0 [] [] [] [] (al (u2 (u2 (u2 (u2 (al t3)))))) <|
 .br (fun a1=>
  .gu fun a2=>
  .el fun x21 a3=>
  .gu fun a4=>
  .gu fun a5=>
  .gu fun a6=>
  .gu fun a7=>
  .gu fun a8=>
  .lq [27] [(21,lI x21),(23,Tz [])] [] [] [] [0,1,2,3,6] [1,2,3,4] (up [] [(2,[AV.agg [AV.sl 3 0 q.ow.length,AV.sl 4 0 ((Tt lI v1).length+[Tz (Tt iv x21)].length)]]),(4,Tt lI v1++[Tz (Tt iv x21)])] (D9 q x (.l0 (i64.wrap (v0+1)) (v1++[x21])))) (aj (aj a1 (aj (u2 (u2 (u2 (u2 (u2 (aj (k2 (aj a2 (AE (f:=lI) a3))) (u2 (aj (ak (aj (aj a4 (aj a5 a6)) (show(Tt iv x21).length=(Tt iv x21).length from rfl))) (u2 (aj (k2 (aj (show(Tt lI v1).length=v1.length by simp) (aj (aj (show nat_lit 1=nat_lit 1 from rfl) (show 1<=[Tz (Tt iv x21)].length by simp)) (aj a7 a8)))) (u2 (al t3)))))))))))) (al (u2 (u2 s2))))) (ak (k5 (aj (al t3) t3)))) (by simp[up,upF,upV,upH,upB,D9,gL,boL,lI]))
 (fun a1=>
  .rt [26] [] [] [] [3,4] [] (aj (aj a1 (al (u2 (al (k2 n11))))) (aj t3 t3))))) (by kernel_rfl)
theorem c9kS1_ok(q:Aq)(x v0:Int)(v1:List (List Int))(v2:List Int)(v3:List (List Int))(o:C8⊕Ret)(h:Hd q x v0 v1 v2 v3=some o):Arr TA Try.f50 0 (D9 q x) Jq (Ay Try.f50 0) (.rnd (Ay Try.f50 0)::AN Try.f50 0) (D9 q x (.l1 v0 v1 v2 v3)) o:=
 AO.ok h mix (
 .rn 0 [] [] [] [] (al (u2 (u2 (u2 (u2 (al t3)))))) <|
 .br (fun a0=>
 .gu fun a1=>
 .el fun x21 a2=>
 .gu fun a3=>
 .gu fun a4=>
 .gu fun a5=>
 .gu fun a6=>
 .gu fun a7=>
 .gu fun a8=>
 .gu fun a9=>
 .gu fun a10=>
 .lr [27] [(5004,AV.sl 6 0 0),(5007,AV.sl 6 0 0),(21,lI x21),(23,Tz [])] [] [] [1,2,3,4] (St.mk 28 [(1,AV.ptr 0 0 0),(2,AV.ptr 1 0 0),(3,AV.ptr 2 0 0),(4,iV (i64.wrap (v0+1)))] [some (bK [AV.agg [Tz (Tt iV q.ow),Tz (gL q.qu)]] 2),some (bK [AV.agg [AV.nils,AV.nils]] 2),some (Blk.mk [AV.agg [AV.sl 3 0 q.ow.length,AV.sl 7 0 ((AG v1 5 v2.length v3).length+[Tz (Tt iV x21)].length)]] 2 false true none),some (bK (Tt iV q.ow) 1),none,some (bK (Tt iV v2) 1),some (bK [Tz (Tt iV x21)] 1),some (Blk.mk (AG v1 5 v2.length v3++[Tz (Tt iV x21)]) 1 false true none)]) (aj a0 (aj (aj t2 (aj t2 (aj t2 (aj t2 (aj t2 (aj (ak (ak (aj a1 (AE (f:=lI) a2)))) (aj t2 (aj (ak (aj (aj a3 (aj a4 a5)) (show(Tt iV x21).length=(Tt iV x21).length from rfl))) (aj t2 (aj (aj a6 (ak (ak (aj a7 (aj (aj (show nat_lit 1=nat_lit 1 from rfl) (show 1<=[Tz (Tt iV x21)].length by simp)) (aj a8 a9)))))) (aj t2 (al (aj a10 t3))))))))))))) (al (aj t2 (aj t2 s2))))) (by apply c19rb<;>first | assumption | rfl))
 (fun a0=>
 .rr [26] [] [] [] (St.mk 28 [] [some (bK [AV.agg [Tz (Tt iV q.ow),Tz (gL q.qu)]] 2),some (Blk.mk [AV.agg [AV.sl 3 0 q.ow.length,AV.sl 4 0 (v1.length+1+v3.length)]] 2 false true none),some (Blk.mk [AV.agg [AV.sl 3 0 q.ow.length,AV.sl 4 0 (v1.length+1+v3.length)]] 2 false true none),some (bK (Tt iV q.ow) 1),some (Blk.mk (AG v1 5 v2.length v3) 1 false true none),some (bK (Tt iV v2) 1)]) (AV.agg [AV.sl 3 0 q.ow.length,AV.sl 4 0 (v1.length+1+v3.length)]) (aj a0 (al (aj t2 (al (ak (ak (show Nat.le (nat_lit 1) (nat_lit 1) from(by first | exact nL rfl | decide)))))))) (by apply c19re<;>first | assumption | rfl))) (by kernel_rfl)
theorem c9k_ct(q:Aq)(x:Int)(r:Ret)(h:Ax (c9kStep q x) (KJ q x) r):CT TA 50 ([]) ([lkA q]) r.1 r.2:=
 CT.mach (fn:=Try.f50) (c:=zB Try.f50) (S:=D9 q x) (hd:=Jq) Try.func50 (by kernel_rfl) (nL rfl)
  (fun s o ho=>match s,ho with
   | .l0 v0 v1,ho=>c9kS0_ok q x v0 v1 o ho
   | .l1 v0 v1 v2 v3,ho=>c9kS1_ok q x v0 v1 v2 v3 o ho
  )
  (fun o ho=>c9kEn_ok q x o ho) h
def pd1St(q:Af)(c:Int):Empty->St
 | x=>x.elim
def pd1Hd:Empty->Nat
 | x=>x.elim
def Mt(q:Af)(c:Int):Option (Empty⊕Ret):=
 gu (0<=c) <|
 el (q.cl) (c.toNat) fun(x7:Bool)=>
 some (.inr ([some (bK [AV.agg [Tz (boL q.cl),Tz (Tt iV q.bw),Tz (Tt iV q.pe)]] 3)],bV x7))
def pd1Step(q:Af)(c:Int):Empty->Option (Empty⊕Ret)
 | x=>x.elim
theorem pd1En_ok(q:Af)(c:Int)(o:Empty⊕Ret)(h:Mt q c=some o):Arr TA Try.f138 1 (pd1St q c) pd1Hd (zB Try.f138) [] {n:=Try.f138.ntmps,fr:=AK 0 ([.int .i64 c,.ptr 0 0 0]),hp:=([some (bK [sgA q] 3)])} o:=
 Scr.ok h mix (
 .rn 0 [] [] [] [] s2 <|
 .gu fun a0=>
 .el fun x7 a1=>
 .rt [] [(7,bV x7)] [] [] [0] [] (aj (al (u2 (u2 (u2 (aj (k2 (aj a0 (AE (f:=bV) a1))) (u2 s2)))))) t3)) (by kernel_rfl)
theorem pd1_ct(q:Af)(c:Int)(r:Ret)(h:Ax (pd1Step q c) (Mt q c) r):CT TA 138 ([some (bK [sgA q] 3)]) ([.int .i64 c,.ptr 0 0 0]) r.1 r.2:=
 CT.mach (fn:=Try.f138) (c:=zB Try.f138) (S:=pd1St q c) (hd:=pd1Hd) Try.func138 (by kernel_rfl) (nL rfl)
  (fun s o ho=>match s,ho with
   | x,_=>x.elim)
  (fun o ho=>pd1En_ok q c o ho) h
inductive Es where
 | l0 (v0:Int)
def Ju(q:Aq)(c:Int):Es->St
 | .l0 v0=>St.mk 21 [(1,iv c),(2,AV.ptr 0 0 0),(5,iv v0)] [some (bK [AV.agg [Tz (Tt iv q.ow),Tz (gL q.qu)]] 2)]
def Lq:Es->Nat
 | .l0 _=>0
def Md(q:Aq)(c:Int):Option (Es⊕Ret):=
 some (.inl (.l0 ((0:Int))))
def EO(q:Aq)(c v0:Int):Option (Es⊕Ret):=
 br (decide (v0<iN (gL q.qu).length))
 (gu (0<=v0) <|
  el (q.qu) (v0.toNat) fun(x16:List Int)=>
  gu (x16.length<=9223372036854775807) <|
  br (Az x16 c)
  (some (.inr ([],iV v0)))
  (some (.inl (.l0 (i64.wrap (v0+1))))))
 (some (.inr ([],iV (-1))))
def at19Step(q:Aq)(c:Int):Es->Option (Es⊕Ret)
 | .l0 v0=>EO q c v0
theorem P2(q:Aq)(c:Int)(o:Es⊕Ret)(h:Md q c=some o):Arr TA Try.f107 0 (Ju q c) Lq (zB Try.f107) [] {n:=Try.f107.ntmps,fr:=AK 0 ([lkA q,.int .i64 c]),hp:=([])} o:=
 Scr.ok h mix (
 .lp [] [] [] [] [] [0] [1,2,5] (aj (ag t2 s2) t5)) (by kernel_rfl)
theorem RJ(q:Aq)(c v0:Int)(o:Es⊕Ret)(h:EO q c v0=some o):Arr TA Try.f107 0 (Ju q c) Lq (Ay Try.f107 0) (.rnd (Ay Try.f107 0)::AN Try.f107 0) (Ju q c (.l0 v0)) o:=
 Scr.ok h mix (
 .rn 0 [] [] [] [] (al (u2 (u2 (u2 (u2 (al t3)))))) <|
 .br (fun a0=>
 .gu fun a1=>
 .el fun x16 a2=>
 .gu fun a3=>
 have c0:=FI x16 c a3;
 .rn 0 [21] [(16,lI x16)] [(19,hK c0 [] [])] [] (aj a0 (al (u2 (u2 (u2 (aj (k2 (aj a1 (AE (f:=lI) a2))) (u2 (u2 (al (ak (k3 (al (c0))))))))))))) <|
 .br (fun a4=>
  .rt [39] [] [] [] [] [] (aj (aj a4 (al (u2 s2))) t2))
 (fun a4=>
  .lp [38] [] [] [] [] [0] [1,2,5] (aj (aj a4 (al (u2 (u2 s2)))) t5)))
 (fun a0=>
 .rt [20] [] [] [] [] [] (aj (aj a0 s2) t2))) (by kernel_rfl)
theorem at19_ct(q:Aq)(c:Int)(r:Ret)(h:Ax (at19Step q c) (Md q c) r):CT TA 107 ([]) ([lkA q,.int .i64 c]) r.1 r.2:=
 CT.mach (fn:=Try.f107) (c:=zB Try.f107) (S:=Ju q c) (hd:=Lq) Try.func107 (by kernel_rfl) (nL rfl)
  (fun s o ho=>match s,ho with
   | .l0 v0,ho=>RJ q c v0 o ho
  )
  (fun o ho=>P2 q c o ho) h
def dsS(g:List (List Int))(s:List Bool)(v goal:Nat):Int:=(AB g s goal g.length).getD v 0
def AW(g:List (List Int))(s:List Bool)(v goal:Nat):List Int:=Jv g (AB g s goal g.length) v
structure Pth(g:List (List Int))(s:List Bool)(v goal:Nat)(p:List Int):Prop where
 len:(p.length:Int)=dsS g s v goal+1
 pos:0<p.length
 hd:p.getD 0 0=(v:Int)
 last:p.getD (p.length-1) 0=(goal:Int)
 rng:∀k,k<p.length->0<=p.getD k 0/\p.getD k 0<(g.length:Int)/\s.getD (p.getD k 0).toNat false=false
 edge:∀k,k+1<p.length->p.getD (k+1) 0∈g.getD (p.getD k 0).toNat []
 nv:∀k,0<k->k<p.length->p.getD k 0≠(v:Int)
theorem FB{g:List (List Int)}{d:List Int}{a m k:Nat}(h:k<=m):(wkL g d a m).getD k 0=wkZ g d a k:=by
 unfold wkL
 rw[Sw,SF,SQ (by omega)];rfl
theorem pth_none{g:List (List Int)}{s:List Bool}{v goal:Nat}(h:dsS g s v goal<0):AW g s v goal=[]:=by
 unfold AW Jv;unfold dsS at h;rw[Ss h]
theorem MQ{g:List (List Int)}{s:List Bool}(hg:OkG g s){v goal:Nat}(hv:v<g.length)(hgo:goal<g.length)(h0:0<=dsS g s v goal):Pth g s v goal (AW g s v goal):=by
 have hD:=EE hg hgo
 unfold dsS at h0
 obtain⟨m,hm⟩:∃m:Nat,(AB g s goal g.length).getD v 0=(m:Int):=⟨((AB g s goal g.length).getD v 0).toNat,by omega⟩
 have hgd:=shN hD hv h0
 have hok:=I8 hg hgo hD hv hm hgd
 have e:AW g s v goal=wkL g (AB g s goal g.length) v m:=by
  unfold AW Jv;rw[Su (by omega),hm,SE]
 have hl:=JB g (AB g s goal g.length) v m
 rw[e]
 have hop:∀k,k<=m->s.getD (wkZ g (AB g s goal g.length) v k).toNat false=false:=fun k hk=>by
  obtain⟨a,b,c⟩:=hok k hk
  exact opnN hD (by omega) (by omega)
 refine⟨by unfold dsS;rw[hl,hm];omega,by omega,by rw[FB (by omega)];rfl,?_,fun k hk=>?_,fun k hk=>?_,fun k h1 hk=>?_⟩
 .rw[hl,Sd,FB (SG _)]
  obtain⟨a,b,c⟩:=hok m (SG _)
  have:=J5 hD (v:=(wkZ g (AB g s goal g.length) v m).toNat) (by omega) (by rw[c];omega)
  omega
 .rw[hl] at hk
  rw[FB (by omega)]
  obtain⟨a,b,_⟩:=hok k (by omega)
  exact⟨a,b,hop k (by omega)⟩
 .rw[hl] at hk
  rw[FB (by omega),FB (by omega)]
  obtain⟨a,b,c⟩:=hok k (by omega)
  exact Ni hg hD (by omega) (by omega) hgd
 .rw[hl] at hk
  rw[FB (by omega)]
  obtain⟨a,b,c⟩:=hok k (by omega)
  intro e
  rw[e,SE,hm] at c
  omega
theorem M5{n:Ac}(hv:AA n){c:Int}(h1:c<(n.bs.length:Int)):plF n c=none:=by
 cases hp:plF n c with
 | none=>rfl
 | some j=>
  obtain⟨t,ht,_,a,b,_⟩:=Is hp
  have h:=(hv.sb ht).2.2.2.2
  have hj:=(Sx.1 ht).1
  have hm:=J6 hv (i:=0) (j:=j) (by omega) (by omega)
  have h0:Aw n 0=(n.bs.length:Int):=by unfold Aw;simp
  omega
def Chn(n:Ac):Int->List Int->Prop
 | _,[]=>True
 | c,x::l=>folB n c x=true/\Chn n x l
def lstC:Int->List Int->Int
 | c,[]=>c
 | _,x::l=>lstC x l
theorem Chn.app{n:Ac}:∀{l m:List Int} {c:Int},Chn n c l->Chn n (lstC c l) m->Chn n c (l++m)
 | [],_,_,_,h=>h
 | _::_,_,_,h,k=>⟨h.1,Chn.app h.2 k⟩
theorem Chn.of{n:Ac}:∀{l:List Int} {c:Int},(∀k,k<l.length->folB n ((c::l).getD k 0) (l.getD k 0)=true)->Chn n c l
 | [],_,_=>trivial
 | x::l,c,h=>⟨h 0 (by simp),Chn.of fun k hk=>h (k+1) (by simpa using hk)⟩
theorem Chn.get{n:Ac}:∀{l:List Int} {c:Int},Chn n c l->∀k,k<l.length->folB n ((c::l).getD k 0) (l.getD k 0)=true
 | [],_,_,k,hk=>absurd hk (Nat.not_lt_zero _)
 | x::l,c,h,0,_=>h.1
 | x::l,c,h,k+1,hk=>Chn.get h.2 k (by simpa using hk)
def Ae(s:Av)(j:Int):List Int:=(Tx (s.k-j).toNat).map fun i:Nat=>s.b+j+(i:Int)
theorem F6(s:Av)(j:Int):(Ae s j).length=(s.k-j).toNat:=by unfold Ae;simp
theorem sltL_mem{s:Av}{j x:Int}:x∈Ae s j↔s.b+j<=x/\x<s.b+s.k:=by
 unfold Ae
 constructor
 .intro h
  obtain⟨i,hi,rfl⟩:=S0.1 h
  have:=Tl.1 hi
  omega
 .intro h
  exact S0.2 ⟨(x-s.b-j).toNat,Tl.2 (by omega),by omega⟩
theorem rngM{f:Nat->Int}{i:Nat}:(Tx (i+1)).map f=(Tx i).map f++[f i]:=by rw[Tj,SI];rfl
def Bh(cl:List Bool)(l:List Int):Bool:=(fnd (fun i=>cl.getD (l.getD i 0).toNat true) 0 l.length).isNone
theorem Og{cl:List Bool}{l:List Int}:Bh cl l=true↔∀c∈l,cl.getD c.toNat true=false:=by
 unfold Bh
 rw[Tk]
 constructor
 .intro h c hc
  obtain⟨i,hi,rfl⟩:=S7.1 hc
  have:=CF h i (SH _) (by omega)
  rwa [Sw (l:=l),Sv hi] at this
 .intro h
  exact Gu fun i _ hi=>h _ (EV (show i<l.length by omega))
theorem pd1_c(q:Af)(c:Int)(hc:0<=c/\c<(q.cl.length:Int)):CT TA 138 [some (Blk.mk [sgA q] 3 true true none)] [.int .i64 c,.ptr 0 0 0] [some (Blk.mk [sgA q] 3 true true none)] (.bool (q.cl.getD c.toNat true)):=by
 refine pd1_ct q c ([_],_) (.val ?_)
 unfold Mt
 rw[Aa hc.1,AY (Bg true (show c.toNat<q.cl.length by omega))];rfl
def atZ(qu:List (List Int))(r:Int):Int:=match fnd (fun i=>Az (qu.getD i []) r) 0 qu.length with | some i=>(i:Int) | none=> -1
theorem Pr(ow:List Int)(qu:List (List Int))(r:Int)(h1:qu.length<=1000)(h2:∀r∈qu,r.length<=1000):CT TA 107 [] [lkA ⟨ow,qu⟩,.int .i64 r] [] (.int .i64 (atZ qu r)):=by
 refine at19_ct ⟨ow,qu⟩ r ([],_) ?_
 unfold Md atZ
 have hg:∀i,i<qu.length->(qu.getD i []).length<=1000:=fun i hi=>h2 _ (by rw[Sw,Sv hi];exact S1 _)
 refine(Kl (fun i=>Es.l0 (i:Int)) qu.length (fun i=>Az (qu.getD i []) r) (rF:=fun i=>(([],.int .i64 (i:Int)):Ret)) (r:=([],.int .i64 (-1))) (fun i hi hp=>?_) (fun i x hi hp hx=>?_) (fun _=>?_)).res (by cases fnd (fun i=>Az (qu.getD i []) r) 0 qu.length<;>rfl)
 .have:=hg i hi
  refine .to (show EO ⟨ow,qu⟩ r i=_ from ?_) (.ret _)
  unfold EO
  simp only
  rw[show (gL qu).length=(Tt lI qu).length from rfl,B4 [] hi,Aa (by omega),An hp]
 .have:=hg i hi
  refine .to (show EO ⟨ow,qu⟩ r i=_ from ?_) hx
  unfold EO
  simp only
  rw[show (gL qu).length=(Tt lI qu).length from rfl,B4 [] hi,Aa (by omega),Ak hp,zW i (by omega)]
 .refine .to (show EO ⟨ow,qu⟩ r qu.length=_ from ?_) (.ret _)
  unfold EO
  simp only
  rw[show (gL qu).length=(Tt lI qu).length from rfl,DY]
def ownSt(q:Aq)(c d:Int):Empty->St
 | x=>x.elim
def ownHd:Empty->Nat
 | x=>x.elim
def K0(q:Aq)(c d:Int):Option (Empty⊕Ret):=
 br (k9E q c d != 0)
 (some (.inr ([],AV.tup [AV.agg [AV.nils,AV.nils],iV (k9E q c d)])))
 (gu (0<=d) <|
  el (q.ow) (d.toNat) fun(x20:Int)=>
  br (x20 != -1)
  (some (.inr ([],AV.tup [AV.agg [AV.nils,AV.nils],iV 24])))
  (el (q.qu) (d.toNat) fun(x27:List Int)=>
   gu (x27.length<=9223372036854775807) <|
   br (Az x27 c)
   (some (.inr ([],AV.tup [AV.agg [AV.nils,AV.nils],iV 24])))
   (gu (q.ow.length<=1000) <|
    gu (q.qu.length<=1000) <|
    gu (∀(r:List Int),r∈q.qu->r.length<=1000) <|
    gu (d<iN q.ow.length) <|
    gu ((0+d.toNat).succ.le (Tt iV q.ow).length) <|
    gu (q.qu.length=(gL q.qu).length) <|
    some (.inr ([],AV.tup [AV.agg [Tz ((Tt iV q.ow).set (0+d.toNat) (iV c)),Tz (gL q.qu)],iV 0])))))
def ownStep(q:Aq)(c d:Int):Empty->Option (Empty⊕Ret)
 | x=>x.elim
theorem ownEn_ok(q:Aq)(c d:Int)(o:Empty⊕Ret)(h:K0 q c d=some o):Arr TA Try.f19 0 (ownSt q c d) ownHd (zB Try.f19) [] {n:=Try.f19.ntmps,fr:=AK 0 ([lkA q,.int .i64 c,.int .i64 d]),hp:=([])} o:=
 Scr.ok h mix (
 have c0:=k19_c (q.ow) (q.qu) c (d);
 .rn 2 [] [] [(12,hK c0 [] [])] [] (aj (u2 t3) (aj (u2 (u2 (u2 (aj (k3 (aj t3 (k2 (al (c0))))) s2)))) (al (u2 s2)))) <|
 .br (fun a0=>
 .rt [29] [] [] [] [] [] (aj (aj a0 (al (ak (u2 (aj (k2 n11) s2))))) (al (aj t3 t2))))
 (fun a0=>
 .gu fun a1=>
 .el fun x20 a2=>
 .br (fun a3=>
  .rt [28,47] [(20,iv x20)] [] [] [] [] (aj (aj a0 (aj (u2 (u2 (u2 (aj (k2 (aj a1 (AE (f:=iv) a2))) (u2 (u2 (u2 (aj a3 (aj a3 (aj a3 (aj a3 (aj a3 (aj a3 (aj a3 (al (aj a3 t2)))))))))))))))) (ak (al (ak (aj (k2 n11) t2)))))) (al (aj t3 t2))))
 (fun a3=>
  .el fun x27 a4=>
  .gu fun a5=>
  have c1:=FI x27 c a5;
  .rn 0 [28,46] [(20,iv x20),(27,lI x27)] [(30,hK c1 [] [])] [] (aj a0 (al (u2 (u2 (u2 (aj (k2 (aj a1 (AE (f:=iv) a2))) (u2 (u2 (u2 (ag a3 (ag a3 (ag a3 (aj (aj a3 (k2 (aj a1 (AE (f:=lI) a4)))) (ag a3 (ag a3 (aj (aj a3 (ak (k3 (al (c1))))) (al (aj a3 t2)))))))))))))))))) <|
  .br (fun a6=>
  .rt [46,63] [] [] [] [] [] (aj (aj a6 (al (ak (aj (k2 n11) t2)))) (al (aj t3 t2))))
  (fun a6=>
  .gu fun a7=>
  .gu fun a8=>
  .gu fun a9=>
  have c2:=c19_c (q.ow) (q.qu) a7 a8 a9;
  .rn 0 [46,62] [] [(34,hK c2 [] [])] [] (aj a6 (al (u2 (aj (ak (aj t3 (al (c2)))) (al (k2 (show Nat.le 1 [AV.agg [Tz (Tt iv q.ow),Tz (gL q.qu)]].length from(nL rfl)))))))) <|
  .gu fun a10=>
  .gu fun a11=>
  .rn 1 [46] [] [] [] (aj (u2 (u2 (u2 (u2 (aj (k2 (aj a1 a10)) (al (k2 a11))))))) (al (u2 (aj (k2 n11) t2)))) <|
  .gu fun a12=>
  .rt [46] [] [] [] [] [2,3] (ak (al (aj (aj (show q.ow.length=((Tt iv q.ow).set (0+d.toNat) (iv c)).length by simp) (al a12)) t2))))))) (by kernel_rfl)
theorem own_ct(q:Aq)(c d:Int)(r:Ret)(h:Ax (ownStep q c d) (K0 q c d) r):CT TA 19 ([]) ([lkA q,.int .i64 c,.int .i64 d]) r.1 r.2:=
 CT.mach (fn:=Try.f19) (c:=zB Try.f19) (S:=ownSt q c d) (hd:=ownHd) Try.func19 (by kernel_rfl) (nL rfl)
  (fun s o ho=>match s,ho with
   | x,_=>x.elim)
  (fun o ho=>ownEn_ok q c d o ho) h
theorem Ny{l:Aq}(h:CZ l=true):∀r∈l.qu,r.length<=8:=fun r hr=>by
 unfold CZ at h
 simp only[SD,Tk] at h
 obtain⟨c,hc,rfl⟩:=S7.1 hr
 have hb:=CF h.2.2 c (SH _) (by omega)
 unfold bdR at hb
 rw[Bool.or_eq_false_iff] at hb
 have e:l.qu.getD c []=l.qu[c]:=by rw[Sw,Sv hc];rfl
 rw[<-e]
 refine row8 (SG _) fun j hj=>?_
 cases hf:fnd (bdQ l c) 0 (l.qu.getD c []).length with
 | none=>exact CF hf j (SH _) (by omega)
 | some i=>rw[hf] at hb;cases hb.2
theorem Jt{l:Aq}{c d:Int}(h:k9E l c d=0):CZ l=true/\(0<=c/\c<8)/\0<=d/\d<(l.ow.length:Int):=by
 unfold k9E at h
 split at h
 .rename_i h1
  split at h
  .rename_i h2;exact⟨h1,⟨h2.1,h2.2.1⟩,h2.2.2⟩
  .cases h
 .cases h
def owS(l:Aq)(r c:Int):Aq:=⟨l.ow.set c.toNat r,l.qu⟩
def owE(l:Aq)(r c:Int):Int:=if k9E l r c=0 then (if l.ow.getD c.toNat 0≠-1\/Az (l.qu.getD c.toNat []) r=true then 24 else 0) else k9E l r c
def owO(l:Aq)(r c:Int):Aq:=if owE l r c=0 then owS l r c else ⟨[],[]⟩
theorem owS_av(l:Aq)(r c:Int):(.tup [lkA (owS l r c),.int .i64 0]:AV) = .tup [.agg [.lst ((Tt (AV.int .i64) l.ow).set (0+c.toNat) (.int .i64 r)),.lst (gL l.qu)],.int .i64 0]:=by
 unfold owS lkA lI
 simp only[SK]
 rw[Tn]
theorem own_c(ow:List Int)(qu:List (List Int))(r c:Int):CT TA 19 [] [lkA ⟨ow,qu⟩,.int .i64 r,.int .i64 c] [] (.tup [lkA (owO ⟨ow,qu⟩ r c),.int .i64 (owE ⟨ow,qu⟩ r c)]):=by
 generalize hs:(⟨ow,qu⟩:Aq)=l
 have k:=own_ct l r c
 unfold K0 at k
 unfold owO
 have hbad:owE l r c≠0->(.tup [lkA (if owE l r c=0 then owS l r c else ⟨[],[]⟩),.int .i64 (owE l r c)]:AV)=wk2 (.tup [.agg [.nils,.nils],.int .i64 (owE l r c)]):=fun h=>by rw[Su h];rfl
 by_cases h1:k9E l r c=0
 case neg=>
  have e:owE l r c=k9E l r c:=by unfold owE;rw[Su h1]
  rw[hbad (by rw[e];exact h1),e]
  exact CT.w2 (k ([],_) (.val (by rw[An (Ti.2 h1)])))
 obtain⟨hb,hr,hc0,hc1⟩:=Jt h1
 obtain⟨hlen,h48⟩:=Oc hb
 have hrows:=Ny hb
 have eE:owE l r c=if l.ow.getD c.toNat 0≠-1\/Az (l.qu.getD c.toNat []) r=true then 24 else 0:=by unfold owE;rw[Ss h1]
 have hq:=Bg ([]:List Int) (show c.toNat<l.qu.length by omega)
 have hql:=hrows _ (Sz hq)
 rw[h1,Ak (by rfl),Aa hc0,AY (Bg 0 (show c.toNat<l.ow.length by omega))] at k
 by_cases h2:l.ow.getD c.toNat 0 = -1
 case neg=>
  have e:owE l r c=24:=by rw[eE,Ss (.inl h2)]
  rw[hbad (by rw[e];decide),e]
  exact CT.w2 (k ([],_) (.val (by rw[An (Ti.2 h2)])))
 rw[h2,Ak (by rfl),AY hq,Aa (by omega)] at k
 cases h3:Az (l.qu.getD c.toNat []) r with
 | true=>
  rw[h3] at k
  have e:owE l r c=24:=by rw[eE,Ss (.inr h3)]
  rw[hbad (by rw[e];decide),e]
  exact CT.w2 (k ([],_) (.val (by rw[An rfl])))
 | false=>
  rw[h3,Ak rfl,Aa (by omega),Aa (by omega),Aa (fun x hx=>by have:=hrows x hx;omega),Aa hc1,Aa (show Nat.le _ _ from(by rw[Sy];show 0+c.toNat+1<=_;omega)),Aa (BE _).symm] at k
  have e:owE l r c=0:=by rw[eE,Su (by rw[h2,h3];simp)]
  rw[e,Ss rfl,owS_av]
  exact k ([],_) (.ret _)
structure Cc(l:Aq):Prop where
 len:l.ow.length=l.qu.length
 l48:l.ow.length<=48
 ow:∀c,c<l.ow.length->-1<=l.ow.getD c 0/\l.ow.getD c 0<8
 qu:∀c,c<l.qu.length->∀r∈l.qu.getD c [],0<=r/\r<8/\r≠l.ow.getD c 0
 nd:l.qu.flatten.Nodup
theorem KO(g:List (List Int)){c:Nat}(h:c<g.length):g.flatten=(g.take c).flatten++(g.getD c []++(g.drop (c+1)).flatten):=by
 conv=>lhs;rw[<-List.take_append_drop c g]
 rw[List.flatten_append,Tf h,List.flatten_cons,Sw,Sv h];rfl
theorem Cc.b{l:Aq}(h:Cc l):CZ l=true:=by
 unfold CZ
 rw[AF h.l48,AF h.len,Bool.true_and,Bool.true_and,Tk]
 refine Gu fun c _ hc=>?_
 rw[SK] at hc
 have ho:=h.ow c (by have:=h.len;omega)
 unfold bdR bdO
 rw[Ar (by omega),Ar (by omega),Gu (fun k _ hk=>?_)];rfl
 have hr:=h.qu c hc _ (EV (show k<(l.qu.getD c []).length by omega))
 unfold bdQ
 rw[Ar (by omega),Ar (by omega),So,So,Bool.or_eq_false_iff]
 refine⟨?_,S5.2 hr.2.2⟩
 cases h2:Az (prL l c k) ((l.qu.getD c []).getD k 0) with
 | false=>rfl
 | true=>
  exfalso
  have hm:=CM.1 h2
  have hnd:=h.nd
  rw[KO l.qu hc] at hnd
  have hk':k<(l.qu.getD c []).length:=by omega
  have e:l.qu.getD c []=(l.qu.getD c []).take k++(l.qu.getD c []).getD k 0::(l.qu.getD c []).drop (k+1):=by
   conv=>lhs;rw[<-List.take_append_drop k (l.qu.getD c [])]
   rw[Tf hk',Sw (l:=l.qu.getD c []) (i:=k),Sv hk'];rfl
  rw[e,List.append_assoc,<-List.append_assoc] at hnd
  have:=(List.pairwise_append.1 hnd).2.2 _ hm ((l.qu.getD c []).getD k 0) (by simp)
  exact this rfl
theorem owE_ok{l:Aq}{r c:Int}(h:owE l r c=0):(0<=r/\r<8)/\(0<=c/\c<(l.ow.length:Int))/\l.ow.getD c.toNat 0 = -1/\r∉l.qu.getD c.toNat []:=by
 unfold owE at h
 split at h
 .rename_i h1
  obtain⟨_,h2,h3⟩:=Jt h1
  split at h
  .cases h
  .rename_i h4
   have h4:=not_or.1 h4
   refine⟨h2,h3,Classical.not_not.1 h4.1,fun hm=>h4.2 (CM.2 hm)⟩
 .rename_i h1;exact absurd h h1
theorem IM{α:Type}{l:List α}{i j:Nat}{v d:α}(hi:i<l.length):(l.set i v).getD j d=if i=j then v else l.getD j d:=by
 rw[Sw,Tp]
 by_cases e:i=j
 .subst e;rw[Ss rfl,Ss hi,Ss rfl];rfl
 .rw[Su e,Su e,<-Sw]
theorem Cc.own{l:Aq}(h:Cc l){r c:Int}(he:owE l r c=0):Cc (owS l r c):=by
 obtain⟨h1,h2,h3,h4⟩:=owE_ok he
 have hl:=h.len
 have hc:c.toNat<l.ow.length:=by omega
 refine⟨by show(l.ow.set c.toNat r).length=_;rw[S3];exact hl,by show(l.ow.set c.toNat r).length<=_;rw[S3];exact h.l48,fun d hd=>?_,fun d hd x hx=>?_,h.nd⟩
 .have hd:d<l.ow.length:=by have:(l.ow.set c.toNat r).length=l.ow.length:=S3 ..;have hd:d<(l.ow.set c.toNat r).length:=hd;omega
  show -1<=(l.ow.set c.toNat r).getD d 0/\(l.ow.set c.toNat r).getD d 0<8
  rw[IM hc]
  split
  .omega
  .exact h.ow d hd
 .obtain⟨a,b,e⟩:=h.qu d hd x hx
  refine⟨a,b,?_⟩
  show x≠(l.ow.set c.toNat r).getD d 0
  rw[IM hc]
  split
  .rename_i hcd;rintro rfl;rw[hcd] at h4;exact h4 hx
  .exact e
def asS(l:Aq)(r c:Int):Aq:=⟨l.ow,l.qu.set c.toNat (l.qu.getD c.toNat []++[r])⟩
def asE(l:Aq)(r c:Int):Int:=if k9E l r c=0 then (if 0<=atZ l.qu r\/l.ow.getD c.toNat 0=r then 24 else 0) else k9E l r c
def asO(l:Aq)(r c:Int):Aq:=if asE l r c=0 then asS l r c else ⟨[],[]⟩
theorem atZ_no{qu:List (List Int)}{r:Int}(h:¬0<=atZ qu r):r∉qu.flatten:=by
 intro hm
 obtain⟨w,hw,hr⟩:=List.mem_flatten.1 hm
 obtain⟨i,hi,rfl⟩:=S7.1 hw
 unfold atZ at h
 cases hf:fnd (fun i=>Az (qu.getD i []) r) 0 qu.length with
 | some j=>rw[hf] at h;simp only at h;omega
 | none=>
  have:=CF hf i (SH _) (by omega)
  rw[Sw,Sv hi] at this
  simp only[Option.getD_some] at this
  rw[CM.2 hr] at this
  cases this
theorem asE_ok{l:Aq}{r c:Int}(h:asE l r c=0):CZ l=true/\(0<=r/\r<8)/\(0<=c/\c<(l.ow.length:Int))/\l.ow.getD c.toNat 0≠r/\r∉l.qu.flatten:=by
 unfold asE at h
 split at h
 .rename_i h1
  obtain⟨h0,h2,h3⟩:=Jt h1
  split at h
  .cases h
  .rename_i h4
   have h4:=not_or.1 h4
   exact⟨h0,h2,h3,h4.2,atZ_no h4.1⟩
 .rename_i h1;exact absurd h h1
theorem Cc.ask{l:Aq}(h:Cc l){r c:Int}(he:asE l r c=0):Cc (asS l r c):=by
 obtain⟨_,h1,h2,h3,h4⟩:=asE_ok he
 have hl:=h.len
 have hc:c.toNat<l.qu.length:=by omega
 have hset:∀d,(asS l r c).qu.getD d []=if c.toNat=d then l.qu.getD c.toNat []++[r] else l.qu.getD d []:=fun d=>IM hc
 refine⟨by show l.ow.length=(l.qu.set c.toNat _).length;rw[S3];exact hl,h.l48,h.ow,fun d hd x hx=>?_,?_⟩
 .have hd:d<l.qu.length:=by have:(l.qu.set c.toNat (l.qu.getD c.toNat []++[r])).length=l.qu.length:=S3 ..;have hd:d<(l.qu.set c.toNat (l.qu.getD c.toNat []++[r])).length:=hd;omega
  rw[hset] at hx
  show 0<=x/\x<8/\x≠l.ow.getD d 0
  split at hx
  .rename_i e
   rcases SZ.1 hx with hx | hx
   .rw[<-e];exact h.qu _ hc x hx
   .rw[Sk.1 hx,<-e];exact⟨h1.1,h1.2,fun e=>h3 e.symm⟩
  .exact h.qu d hd x hx
 .show(l.qu.set c.toNat (l.qu.getD c.toNat []++[r])).flatten.Nodup
  have hnd:=h.nd
  have hcs:c.toNat<(l.qu.set c.toNat (l.qu.getD c.toNat []++[r])).length:=by rw[S3];exact hc
  rw[KO _ hcs]
  rw[KO l.qu hc] at hnd h4
  have e1:(l.qu.set c.toNat (l.qu.getD c.toNat []++[r])).take c.toNat=l.qu.take c.toNat:=List.take_set_of_le (SG _)
  have e2:(l.qu.set c.toNat (l.qu.getD c.toNat []++[r])).drop (c.toNat+1)=l.qu.drop (c.toNat+1):=List.drop_set_of_lt (Nat.lt_succ_self _)
  have e3:(l.qu.set c.toNat (l.qu.getD c.toNat []++[r])).getD c.toNat []=l.qu.getD c.toNat []++[r]:=by rw[IM hc,Ss rfl]
  rw[e1,e2,e3]
  generalize (l.qu.take c.toNat).flatten=A at *
  generalize (l.qu.drop (c.toNat+1)).flatten=B at *
  generalize l.qu.getD c.toNat []=R at *
  have hp:(A++(R++[r]++B)).Perm (r::(A++(R++B))):=by
   rw[List.append_assoc R [r] B,<-List.append_assoc A R,<-List.append_assoc A R]
   exact List.perm_middle
  exact hp.nodup_iff.2 (List.nodup_cons.2 ⟨h4,hnd⟩)
theorem nlS_ok{c:Nat}(h:c<=48):Cc ⟨Tu c (-1),Tu c []⟩:=by
 refine⟨by simp,by simpa using h,fun d hd=>?_,fun d hd x hx=>?_,?_⟩
 .have hd:d<c:=by simpa using hd
  show -1<=(Tu c (-1:Int)).getD d 0/\_
  rw[Sw,SV,Ss hd];simp
 .have:(Tu c ([]:List Int)).getD d []=[]:=by rw[Sw,SV];split<;>rfl
  rw[this] at hx;cases hx
 .show(Tu c ([]:List Int)).flatten.Nodup
  simp
theorem c19x_c(ow:List Int)(qu:List (List Int))(d:Int)(h1:ow.length<=1000)(h2:qu.length<=1000)(h3:∀r∈qu,r.length<=1000)(hd:0<=d/\d.toNat<qu.length):
  CT TA 50 [] [lkA ⟨ow,qu⟩] [some (Blk.mk (ow.map (AV.int .i64)) 1 true true none),some (Blk.mk (AG (qu.take d.toNat) 2 (qu.getD d.toNat []).length (qu.drop (d.toNat+1))) 1 false true none),some (Blk.mk ((qu.getD d.toNat []).map (AV.int .i64)) 1 true true none)]
   (.agg [.sl 0 0 ow.length,.sl 1 0 ((qu.take d.toNat).length+1+(qu.drop (d.toNat+1)).length)]):=by
 refine c9k_ct ⟨ow,qu⟩ d (JE ⟨ow,qu⟩ d (qu.take d.toNat) (qu.getD d.toNat []) (qu.drop (d.toNat+1))) ?_
 have hx:d=((d.toNat:Nat):Int):=(SW hd.1).symm
 have hr:∀i,i<qu.length->(qu.getD i []).length<=1000:=fun i hi=>h3 _ (by rw[Sw,Sv hi];exact S1 _)
 generalize hxx:d.toNat=x at *
 subst hx
 have hgl:(gL qu).length=qu.length:=BE qu
 unfold KJ
 simp only
 rw[Aa (BX _),Aa (by rw[Sy];omega),Aa (by rw[Sy];omega)]
 refine Dc (fun i=>C8.l0 (i:Int) (qu.take i)) x (fun i hi hy=>?_) ?_
 .refine .to (show Gc ⟨ow,qu⟩ x i (qu.take i)=_ from ?_) hy
  have:=hr i (by omega)
  unfold Gc
  simp only
  rw[Ak (Ar (by omega)),show(gL qu).length=(Tt lI qu).length from rfl,B4 [] (by omega),Aa (BX _),Aa (by rw[Sy];omega),Aa (by rw[Sy];omega),Aa (by simp only[Sy,SX,Ta,Tb];omega),Aa (by simp only[Sy,SX,Ta,Tb];omega),<-M1 (by omega),zW i (by omega)]
 .have hxr:=hr x hd.2
  have hL:∀i,i<=qu.length-(x+1)->((qu.drop (x+1)).take i).length=i:=fun i hi=>by rw[SX,Si];omega
  refine .to (show Gc ⟨ow,qu⟩ x x (qu.take x)=some (.inl (.l1 ((x+1+0:Nat):Int) (qu.take x) (qu.getD x []) ((qu.drop (x+1)).take 0))) from ?_) ?_
  .unfold Gc
   simp only
   rw[An (SB trivial),show(gL qu).length=(Tt lI qu).length from rfl,B4 [] hd.2,Aa (BX _),Aa (by rw[Sy];omega),Aa (by rw[Sy];omega),Aa (by simp only[Sy,SX,Ta,Tb];omega),Aa (by simp only[Sy,SX,Ta,Tb];omega),Aa (show ∀e∈Tt lI (qu.take x)++[AV.sl 5 0 (Tt (AV.int .i64) (qu.getD x [])).length],∀c∈e.cells,Be 6 3 c=true from by rw[Nm];exact IV (by decide) _ _ _),zW x (by omega)]
   rfl
  .refine Dc (fun i=>C8.l1 ((x+1+i:Nat):Int) (qu.take x) (qu.getD x []) ((qu.drop (x+1)).take i)) (qu.length-(x+1)) (fun i hi hy=>?_) ?_
   .refine .to (show Hd ⟨ow,qu⟩ x _ (qu.take x) (qu.getD x []) ((qu.drop (x+1)).take i)=_ from ?_) hy
    have:=hr (x+1+i) (by omega)
    have ht:(qu.drop (x+1)).take (i+1)=(qu.drop (x+1)).take i++[qu.getD (x+1+i) []]:=by
     rw[List.take_add_one,Sf,Bg [] (show x+1+i<qu.length by omega)];rfl
    have hl:=hL i (by omega)
    have hlx:(qu.take x).length=x:=by rw[SX];omega
    unfold Hd
    simp only
    rw[show (gL qu).length=(Tt lI qu).length from rfl,B4 [] (by omega),Aa (BX _),Aa (by rw[Sy];omega),Aa (by rw[Sy];omega),Aa (show ∀e∈AG (qu.take x) 5 (qu.getD x []).length ((qu.drop (x+1)).take i),∀c∈e.cells,Be 6 3 c=true from IV (by decide) _ _ _),Aa (HA ..),Aa (by rw[HA];simp only[Ta,Tb];omega),Aa (by rw[HA];simp only[Ta,Tb];omega),Aa (show ∀e∈AG (qu.take x) 5 (qu.getD x []).length ((qu.drop (x+1)).take i)++[Tz (Tt (AV.int .i64) (qu.getD (x+1+i) []))],∀c∈e.cells,Be 6 3 c=true from by rw[NN];exact IV (by decide) _ _ _),ht,zW (x+1+i) (by omega)]
    rfl
   .refine .to (show Hd ⟨ow,qu⟩ x _ (qu.take x) (qu.getD x []) ((qu.drop (x+1)).take (qu.length-(x+1)))=_ from ?_) (.ret _)
    unfold Hd
    simp only
    rw[Ak (Ar (by rw[hgl];simp only[iN];omega)),List.take_of_length_le (l:=Tv (x+1) qu) (i:=qu.length-(x+1)) (by rw[Si];exact SG _)]
def I7(q:Aq)(c d:Int):Ret:=([],.tup [lkA (asS q c d),.int .i64 0])
theorem M8(A:List (List Int))(R k:Nat)(B:List (List Int))(τ:Nat->Nat):(AG A R k B).map (Du τ)=AG A (τ R) k B:=by
 unfold AG gL
 rw[SI,Sq,Tm,Tm];rfl
theorem mix_get(A:List (List Int))(R k:Nat)(B:List (List Int)):(AG A R k B)[A.length]?=some (.sl R 0 k):=by
 unfold AG
 rw[List.getElem?_append_right (by rw[BE];omega),BE,Sc];rfl
theorem mix_set(A:List (List Int))(R k:Nat)(B:List (List Int))(R' k':Nat):(AG A R k B).set A.length (.sl R' 0 k')=AG A R' k' B:=by
 unfold AG
 rw[List.set_append_right _ _ (by rw[BE];omega),BE,Sc];rfl
theorem set_mid{g:List (List Int)}{c:Nat}(h:c<g.length)(r:List Int):g.set c r=g.take c++r::g.drop (c+1):=List.set_eq_take_append_cons_drop .. |>.trans (by rw[Ss h])
theorem askre{q:Aq}{c d:Int}{b0 b1 b5:Blk}{n6:Nat}(hd:0<=d/\d.toNat<q.qu.length)(hn:n6=(Tt (AV.int .i64) (q.qu.getD d.toNat [])).length+1):
  ∃st1,Ren 0 {(St.mk 46 [] [some b0,some b1,some (Blk.mk (Tt (AV.int .i64) q.ow) 1 true true none),some (Blk.mk ((Tt (Du (tau [] 2)) (AG (q.qu.take d.toNat) 2 (q.qu.getD d.toNat []).length (q.qu.drop (d.toNat+1)))).set (0+d.toNat) (.sl 6 0 n6)) 1 false true none),none,some b5,some (Blk.mk (Tt (AV.int .i64) (q.qu.getD d.toNat [])++[.int .i64 c]) 1 true true none)]) with fr:=[(0,.tup [.agg [.sl 2 0 q.ow.length,.sl 3 0 ((q.qu.take d.toNat).length+1+(q.qu.drop (d.toNat+1)).length)],.int .i64 0])]} st1/\st1.hp=(I7 q c d).1/\AX.Al st1.fr 0=(I7 q c d).2:=by
 have hA:(q.qu.take d.toNat).length=d.toNat:=by rw[SX];omega
 have e1:(Tt (Du (tau [] 2)) (AG (q.qu.take d.toNat) 2 (q.qu.getD d.toNat []).length (q.qu.drop (d.toNat+1)))).set (0+d.toNat) (.sl 6 0 n6)=AG (q.qu.take d.toNat) 6 n6 (q.qu.drop (d.toNat+1)):=by
  rw[M8,show 0+d.toNat=(q.qu.take d.toNat).length by omega];exact mix_set ..
 have e2:Tt (AV.int .i64) (q.qu.getD d.toNat [])++[AV.int .i64 c]=(q.qu.getD d.toNat []++[c]).map (AV.int .i64):=by rw[SI];rfl
 have e3:n6=(q.qu.getD d.toNat []++[c]).length:=by rw[hn,Sy,SO];rfl
 have e4:(asS q c d).qu=q.qu.take d.toNat++(q.qu.getD d.toNat []++[c])::q.qu.drop (d.toNat+1):=set_mid hd.2 _
 have e5:asS q c d=⟨q.ow,q.qu.take d.toNat++(q.qu.getD d.toNat []++[c])::q.qu.drop (d.toNat+1)⟩:=by rw[<-e4];rfl
 unfold I7
 rw[e1,e2,e5]
 generalize q.qu.take d.toNat=A at *
 generalize q.qu.drop (d.toNat+1)=B at *
 generalize q.qu.getD d.toNat []++[c]=r at *
 obtain⟨Q,hQ,hq⟩:=renB_fz (σ:=[2,3]) (fz:=[6]) (hp:=[some b0,some b1,some (Blk.mk (Tt (AV.int .i64) q.ow) 1 true true none),some (Blk.mk (AG A 6 n6 B) 1 false true none),none,some b5,some (Blk.mk (r.map (AV.int .i64)) 1 true true none)]) A (R:=6) (k:=n6) (z:=1) B (r:=r) rfl rfl rfl rfl e3
 have e:Dx [2,3] [6] [some b0,some b1,some (Blk.mk (Tt (AV.int .i64) q.ow) 1 true true none),some (Blk.mk (AG A 6 n6 B) 1 false true none),none,some b5,some (Blk.mk (r.map (AV.int .i64)) 1 true true none)]=some _:=B8 rfl (B8 (y:=(some (Blk.mk (gL (A++r::B)) 1 true true none),Q)) (by
  show(match BQ _ _ _ (Blk.mk (AG A 6 n6 B) 1 false true none) with | some x=>some (some x.1,x.2) | none=>none)=_
  rw[hQ]) rfl)
 have R1:=Ren.of (m:=0) [2,3] [6] [0] (J4 (st:=⟨46,[(0,.tup [.agg [.sl 2 0 q.ow.length,.sl 3 0 (A.length+1+B.length)],.int .i64 0])],[some b0,some b1,some (Blk.mk (Tt (AV.int .i64) q.ow) 1 true true none),some (Blk.mk (AG A 6 n6 B) 1 false true none),none,some b5,some (Blk.mk (r.map (AV.int .i64)) 1 true true none)]⟩) (vars:=[0]) e) ⟨⟨⟨trivial,trivial,trivial⟩,trivial,trivial⟩,trivial,hq,trivial⟩ rfl rfl rfl
 have R2:Ren 0 ⟨46,[(0,.tup [.agg [.sl 0 0 q.ow.length,.sl 1 0 (A.length+1+B.length)],.int .i64 0])],[some (Blk.mk (Tt (AV.int .i64) q.ow) 1 true true none),some (Blk.mk (gL (A++r::B)) 1 true true none)]⟩ ⟨46,[(0,.tup [.agg [.lst (Tt (AV.int .i64) q.ow),.lst (gL (A++r::B))],.int .i64 0])],[]⟩:=
  Ren.of (m:=0) (p:=((q.ow.length=(Tt (AV.int .i64) q.ow).length/\(A.length+1+B.length)=(gL (A++r::B)).length/\True)/\True/\True)/\True) [] [0,1] [0] rfl ⟨⟨⟨(Sy ..).symm,by rw[BE,SO,Ta];omega,trivial⟩,trivial,trivial⟩,trivial⟩ rfl rfl rfl
 exact⟨_,Ren.trans R1 R2,rfl,rfl⟩
def askSt(q:Aq)(c d:Int):Empty->St
 | x=>x.elim
def askHd:Empty->Nat
 | x=>x.elim
def MG(q:Aq)(c d:Int):Option (Empty⊕Ret):=
 br (k9E q c d != 0)
 (some (.inr ([],AV.tup [AV.agg [AV.nils,AV.nils],iV (k9E q c d)])))
 (gu (q.qu.length<=1000) <|
  gu (∀(r:List Int),r∈q.qu->r.length<=1000) <|
  br (decide (0<=atZ q.qu c))
  (some (.inr ([],AV.tup [AV.agg [AV.nils,AV.nils],iV 24])))
  (gu (0<=d) <|
   el (q.ow) (d.toNat) fun(x25:Int)=>
   br (x25==c)
   (some (.inr ([],AV.tup [AV.agg [AV.nils,AV.nils],iV 24])))
   (gu (q.ow.length<=1000) <|
    gu (0<=d/\d.toNat<q.qu.length) <|
    gu (∀(e:AV),e∈(Blk.mk (Tt (Du (tau [] 2)) (AG (Tw d.toNat q.qu) 2 (q.qu.getD d.toNat []).length (Tv (d.toNat+1) q.qu))) 1 false true none).es->∀(c:AV),c∈e.cells->Be 5 3 c=true) <|
    gu (d<iN ((Tw d.toNat q.qu).length+1+(Tv (d.toNat+1) q.qu).length)) <|
    gu ((Tt (Du (tau [] 2)) (AG (Tw d.toNat q.qu) 2 (q.qu.getD d.toNat []).length (Tv (d.toNat+1) q.qu)))[0+d.toNat]?=some (AV.sl 4 0 (q.qu.getD d.toNat []).length)) <|
    gu ((Tt iV (q.qu.getD d.toNat [])).length+[iV c].length<=9223372036854775807) <|
    gu (((Tt iV (q.qu.getD d.toNat [])).length+[iV c].length) * 8<=140737488355328) <|
    gu ((0+d.toNat).succ.le (Tt (Du (tau [] 2)) (AG (Tw d.toNat q.qu) 2 (q.qu.getD d.toNat []).length (Tv (d.toNat+1) q.qu))).length) <|
    some (.inr (I7 q c d)))))
def askStep(q:Aq)(c d:Int):Empty->Option (Empty⊕Ret)
 | x=>x.elim
theorem askEn_ok(q:Aq)(c d:Int)(o:Empty⊕Ret)(h:MG q c d=some o):Arr TA Try.f61 0 (askSt q c d) askHd (zB Try.f61) [] {n:=Try.f61.ntmps,fr:=AK 0 ([lkA q,.int .i64 c,.int .i64 d]),hp:=([])} o:=
 AO.ok h mix (
 have c0:=k19_c (q.ow) (q.qu) c (d);
 .rn 2 [] [] [(12,hK c0 [] [])] [] (aj (u2 t3) (aj (u2 (u2 (u2 (aj (k3 (aj t3 (k2 (al (c0))))) s2)))) (al (u2 s2)))) <|
 .br (fun a0=>
 .rt [29] [] [] [] [] [] (aj (aj a0 (al (ak (u2 (aj (k2 n11) s2))))) (al (aj t3 t2))))
 (fun a0=>
 .gu fun a1=>
 .gu fun a2=>
 .br (fun a3=>
  have c1:=Pr (q.ow) (q.qu) c a1 a2;
  .rt [28,43] [] [(19,hK c1 [] [])] [] [] [] (aj (aj a0 (aj (u2 (u2 (aj (k2 (aj t3 (ak (al (c1))))) (u2 (u2 (aj a3 (aj a3 (aj a3 (aj a3 (aj a3 (aj a3 (aj a3 (al (aj a3 t2)))))))))))))) (ak (al (ak (aj (k2 n11) t2)))))) (al (aj t3 t2))))
 (fun a3=>
  .gu fun a4=>
  .el fun x25 a5=>
  have c1:=Pr (q.ow) (q.qu) c a1 a2;
  .rn 0 [28,42] [(25,iv x25)] [(19,hK c1 [] [])] [] (aj a0 (al (u2 (u2 (aj (k2 (aj t3 (ak (al (c1))))) (u2 (u2 (ag a3 (ag a3 (ag a3 (aj (aj a3 (k2 (aj a4 (AE (f:=iv) a5)))) (ag a3 (ag a3 (aj (aj a3 t3) (al (aj a3 t2)))))))))))))))) <|
  .br (fun a6=>
  .rt [42,59] [] [] [] [] [] (aj (aj a6 (al (ak (aj (k2 n11) t2)))) (al (aj t3 t2))))
  (fun a6=>
  .gu fun a7=>
  .gu fun a8=>
  have c2:=c19x_c (q.ow) (q.qu) d a7 a1 a2 a8;
  .rn 0 [42,58] [] [(32,hK c2 [] [])] [] (aj a6 (al (u2 (aj (ak (aj t3 (al (c2)))) (al (k2 (show Nat.le 1 [AV.agg [Tz (Tt iv q.ow),Tz (gL q.qu)]].length from(nL rfl)))))))) <|
  .gu fun a9=>
  .gu fun a10=>
  .gu fun a11=>
  .gu fun a12=>
  .gu fun a13=>
  .gu fun a14=>
  .rr [42] [(5003,AV.sl 5 0 0),(40,AV.sl 4 0 (q.qu.getD d.toNat []).length)] [] [] (St.mk 46 [] [some (Blk.mk [AV.agg [AV.sl 2 0 q.ow.length,AV.sl 3 0 ((Tw d.toNat q.qu).length+1+(Tv (d.toNat+1) q.qu).length)]] 2 false true none),some (Blk.mk [AV.agg [AV.sl 2 0 q.ow.length,AV.sl 3 0 ((Tw d.toNat q.qu).length+1+(Tv (d.toNat+1) q.qu).length)]] 2 false true none),some (bK (Tt iV q.ow) 1),some (Blk.mk ((Tt (Du (tau [] 2)) (AG (Tw d.toNat q.qu) 2 (q.qu.getD d.toNat []).length (Tv (d.toNat+1) q.qu))).set (0+d.toNat) (AV.sl 6 0 ((Tt iV (q.qu.getD d.toNat [])).length+[iV c].length))) 1 false true none),none,some (bK [iV c] 1),some (bK (Tt iV (q.qu.getD d.toNat [])++[iV c]) 1)]) (AV.tup [AV.agg [AV.sl 2 0 q.ow.length,AV.sl 3 0 ((Tw d.toNat q.qu).length+1+(Tv (d.toNat+1) q.qu).length)],iV 0]) (aj (aj t2 (aj t2 (aj t2 (aj t2 (aj t2 (aj t2 (aj (aj a9 (ak (ak (aj a4 a10)))) (aj (aj a9 (ak a11)) (aj t2 (aj t2 (aj (ak (ak (aj (show(Tt iV (q.qu.getD d.toNat [])).length=(q.qu.getD d.toNat []).length by simp) (aj (aj (show nat_lit 1=nat_lit 1 from rfl) (show 1<=[iV c].length by simp)) (aj a12 a13))))) (aj (aj a9 (ak (ak (aj a4 a10)))) (al (aj a9 (ak (ak a14)))))))))))))))) (al (aj t2 (aj (ak (ak (show Nat.le (nat_lit 1) (nat_lit 1) from(by first | exact nL rfl | decide)))) t2)))) (by apply askre<;>first | assumption | rfl))))) (by kernel_rfl)
theorem ask_ct(q:Aq)(c d:Int)(r:Ret)(h:Ax (askStep q c d) (MG q c d) r):CT TA 61 ([]) ([lkA q,.int .i64 c,.int .i64 d]) r.1 r.2:=
 CT.mach (fn:=Try.f61) (c:=zB Try.f61) (S:=askSt q c d) (hd:=askHd) Try.func61 (by kernel_rfl) (nL rfl)
  (fun s o ho=>match s,ho with
   | x,_=>x.elim)
  (fun o ho=>askEn_ok q c d o ho) h
def lg1St(l:List Bool)(d c:Int)(x:Av)(q:Af):Empty->St
 | x=>x.elim
def lg1Hd:Empty->Nat
 | x=>x.elim
def Kw(l:List Bool)(d c:Int)(x:Av)(q:Af):Option (Empty⊕Ret):=
 gu (0<=c) <|
 el l (c.toNat) fun(x9:Bool)=>
 br (!x9)
 (some (.inr ([some (bK [Tz (boL l)] 1),some (bK [iV d] 1),some (bK [AV.agg [AV.str x.nm,bV x.dep,iV x.i,iV x.o,iV x.k,iV x.b]] 6),some (bK [AV.agg [Tz (boL q.cl),Tz (Tt iV q.bw),Tz (Tt iV q.pe)]] 3)],bV true)))
 (br (c==d)
  (some (.inr ([some (bK [Tz (boL l)] 1),some (bK [iV d] 1),some (bK [AV.agg [AV.str x.nm,bV x.dep,iV x.i,iV x.o,iV x.k,iV x.b]] 6),some (bK [AV.agg [Tz (boL q.cl),Tz (Tt iV q.bw),Tz (Tt iV q.pe)]] 3)],bV true)))
  (br (c==x.i)
   (el (q.cl) (c.toNat) fun(x26:Bool)=>
    some (.inr ([some (bK [Tz (boL l)] 1),some (bK [iV d] 1),some (bK [AV.agg [AV.str x.nm,bV x.dep,iV x.i,iV x.o,iV x.k,iV x.b]] 6),some (bK [AV.agg [Tz (boL q.cl),Tz (Tt iV q.bw),Tz (Tt iV q.pe)]] 3)],bV !x26)))
   (some (.inr ([some (bK [Tz (boL l)] 1),some (bK [iV d] 1),some (bK [AV.agg [AV.str x.nm,bV x.dep,iV x.i,iV x.o,iV x.k,iV x.b]] 6),some (bK [AV.agg [Tz (boL q.cl),Tz (Tt iV q.bw),Tz (Tt iV q.pe)]] 3)],bV false)))))
def lg1Step(l:List Bool)(d c:Int)(x:Av)(q:Af):Empty->Option (Empty⊕Ret)
 | x=>x.elim
theorem lg1En_ok(l:List Bool)(d c:Int)(x:Av)(q:Af)(o:Empty⊕Ret)(h:Kw l d c x q=some o):Arr TA Try.f66 4 (lg1St l d c x q) lg1Hd (zB Try.f66) [] {n:=Try.f66.ntmps,fr:=AK 0 ([.int .i64 c,.ptr 0 0 0,.ptr 1 0 0,.ptr 2 0 0,.ptr 3 0 0]),hp:=([some (bK [.lst (boL l)] 1),some (bK [.int .i64 d] 1),some (bK [sA x] 6),some (bK [sgA q] 3)])} o:=
 Scr.ok h mix (
 .rn 0 [] [] [] [] s2 <|
 .gu fun a0=>
 .el fun x9 a1=>
 .br (fun a2=>
 .rt [25] [(9,bV x9)] [] [] [0,1,2,3] [] (aj (al (u2 (u2 (aj (k2 (aj a0 (AE (f:=bV) a1))) (u2 (u2 (u2 (aj a2 (aj a2 (aj a2 (ag a2 (u2 (k2 (k5 (k5 (aj t3 s2)))))))))))))))) t6))
 (fun a2=>
 .br (fun a3=>
  .rt [24,35] [(9,bV x9)] [] [] [0,1,2,3] [] (aj (al (u2 (u2 (aj (k2 (aj a0 (AE (f:=bV) a1))) (u2 (u2 (u2 (ag a2 (ag a2 (aj (aj a2 t3) (ag a2 (u2 (aj a3 (aj a3 (aj a3 (aj a3 (aj a3 (ak (k5 (aj a3 (ag a3 s2))))))))))))))))))))) t6))
 (fun a3=>
  .br (fun a4=>
  .el fun x26 a5=>
  .rt [24,34,45] [(9,bV x9),(26,bV x26)] [] [] [0,1,2,3] [] (aj (al (u2 (u2 (aj (k2 (aj a0 (AE (f:=bV) a1))) (u2 (u2 (u2 (ag a2 (ag a2 (aj (aj a2 t3) (ag a2 (u2 (ag a3 (ag a3 (ag a3 (aj (aj a3 t3) (ag a3 (ag a4 (ag a4 (ag a4 (aj (aj a4 (k2 (aj a0 (AE (f:=bV) a5)))) (ag a4 (ag a4 (aj (aj a3 (aj a4 t2)) (ag a3 s2))))))))))))))))))))))))) t6))
  (fun a4=>
  .rt [24,34,44] [(9,bV x9)] [] [] [0,1,2,3] [] (aj (al (u2 (u2 (aj (k2 (aj a0 (AE (f:=bV) a1))) (u2 (u2 (u2 (ag a2 (ag a2 (aj (aj a2 t3) (ag a2 (u2 (ag a3 (ag a3 (ag a3 (aj (aj a3 t3) (ag a3 (aj a4 (aj a4 (aj a4 (aj a4 (aj a4 (aj a4 (aj (aj a3 (aj a4 t2)) (ag a3 s2))))))))))))))))))))))))) t6))))) (by kernel_rfl)
theorem lg1_ct(l:List Bool)(d c:Int)(x:Av)(q:Af)(r:Ret)(h:Ax (lg1Step l d c x q) (Kw l d c x q) r):CT TA 66 ([some (bK [.lst (boL l)] 1),some (bK [.int .i64 d] 1),some (bK [sA x] 6),some (bK [sgA q] 3)]) ([.int .i64 c,.ptr 0 0 0,.ptr 1 0 0,.ptr 2 0 0,.ptr 3 0 0]) r.1 r.2:=
 CT.mach (fn:=Try.f66) (c:=zB Try.f66) (S:=lg1St l d c x q) (hd:=lg1Hd) Try.func66 (by kernel_rfl) (nL rfl)
  (fun s o ho=>match s,ho with
   | x,_=>x.elim)
  (fun o ho=>lg1En_ok l d c x q o ho) h
def lg2St(d c:Int)(q:Af):Empty->St
 | x=>x.elim
def lg2Hd:Empty->Nat
 | x=>x.elim
def LM(d c:Int)(q:Af):Option (Empty⊕Ret):=
 gu (0<=c) <|
 el (q.cl) (c.toNat) fun(x8:Bool)=>
 br (!x8)
 (some (.inr ([some (bK [AV.agg [Tz (boL q.cl),Tz (Tt iV q.bw),Tz (Tt iV q.pe)]] 3),some (bK [iV d] 1)],bV true)))
 (some (.inr ([some (bK [AV.agg [Tz (boL q.cl),Tz (Tt iV q.bw),Tz (Tt iV q.pe)]] 3),some (bK [iV d] 1)],bV (c==d))))
def lg2Step(d c:Int)(q:Af):Empty->Option (Empty⊕Ret)
 | x=>x.elim
theorem lg2En_ok(d c:Int)(q:Af)(o:Empty⊕Ret)(h:LM d c q=some o):Arr TA Try.f67 2 (lg2St d c q) lg2Hd (zB Try.f67) [] {n:=Try.f67.ntmps,fr:=AK 0 ([.int .i64 c,.ptr 0 0 0,.ptr 1 0 0]),hp:=([some (bK [sgA q] 3),some (bK [.int .i64 d] 1)])} o:=
 Scr.ok h mix (
 .rn 0 [] [] [] [] s2 <|
 .gu fun a0=>
 .el fun x8 a1=>
 .br (fun a2=>
 .rt [23] [(8,bV x8)] [] [] [0,1] [] (aj (al (u2 (u2 (u2 (aj (k2 (aj a0 (AE (f:=bV) a1))) (u2 (u2 (u2 (aj a2 (aj a2 (aj a2 (ag a2 s2)))))))))))) t4))
 (fun a2=>
 .rt [22] [(8,bV x8)] [] [] [0,1] [] (aj (al (u2 (u2 (u2 (aj (k2 (aj a0 (AE (f:=bV) a1))) (u2 (u2 (u2 (ag a2 (ag a2 (aj (aj a2 t3) (ag a2 s2)))))))))))) t4))) (by kernel_rfl)
theorem lg2_ct(d c:Int)(q:Af)(r:Ret)(h:Ax (lg2Step d c q) (LM d c q) r):CT TA 67 ([some (bK [sgA q] 3),some (bK [.int .i64 d] 1)]) ([.int .i64 c,.ptr 0 0 0,.ptr 1 0 0]) r.1 r.2:=
 CT.mach (fn:=Try.f67) (c:=zB Try.f67) (S:=lg2St d c q) (hd:=lg2Hd) Try.func67 (by kernel_rfl) (nL rfl)
  (fun s o ho=>match s,ho with
   | x,_=>x.elim)
  (fun o ho=>lg2En_ok d c q o ho) h
def plcSt(n:Ac)(c:Int):Empty->St
 | x=>x.elim
def plcHd:Empty->Nat
 | x=>x.elim
def MA(n:Ac)(c:Int):Option (Empty⊕Ret):=
 gu (Rows n.nx) <|
 br (ckE n c != 0)
 (some (.inr ([],AV.tup [iV 0,iV 0,iV (ckE n c)])))
 (gu (AA n) <|
  gu (-1000<=c/\c<=1000) <|
  some (.inr ([],AV.tup [iV (plI n c),iV (plJ n c),iV 0])))
def plcStep(n:Ac)(c:Int):Empty->Option (Empty⊕Ret)
 | x=>x.elim
theorem plcEn_ok(n:Ac)(c:Int)(o:Empty⊕Ret)(h:MA n c=some o):Arr TA Try.f62 0 (plcSt n c) plcHd (zB Try.f62) [] {n:=Try.f62.ntmps,fr:=AK 0 ([Aj n,.int .i64 c]),hp:=([])} o:=
 Scr.ok h mix (
 .rn 0 [] [] [] [] (al (u2 t4)) <|
 .gu fun a0=>
 have c0:=ck_c n c a0;
 .rn 1 [] [] [(12,hK c0 [] [])] [] (aj (u2 (u2 (aj (k2 (aj t9 (ak (al (c0))))) s2))) (al (u2 s2))) <|
 .br (fun a1=>
 .rt [29] [] [] [] [] [] (aj (aj a1 (al (u2 (k2 s2)))) (al t4)))
 (fun a1=>
 .gu fun a2=>
 .gu fun a3=>
 have c1:=place_ct a2 c a3;
 .rt [28] [] [(19,hK c1 [] [])] [] [] [] (aj (aj a1 (aj (u2 (u2 (aj (k2 (aj t9 (ak (al (c1))))) (u2 (u2 (u2 (u2 s2))))))) (al (u2 (u2 (u2 (u2 t2))))))) (al t4)))) (by kernel_rfl)
theorem plc_ct(n:Ac)(c:Int)(r:Ret)(h:Ax (plcStep n c) (MA n c) r):CT TA 62 ([]) ([Aj n,.int .i64 c]) r.1 r.2:=
 CT.mach (fn:=Try.f62) (c:=zB Try.f62) (S:=plcSt n c) (hd:=plcHd) Try.func62 (by kernel_rfl) (nL rfl)
  (fun s o ho=>match s,ho with
   | x,_=>x.elim)
  (fun o ho=>plcEn_ok n c o ho) h
def shP(n:Ac)(s:Af)(blk goal:Int):List Bool:=(Tx n.bs.length).map fun b:Nat=> !(!((Cz s).getD b true)||((b:Int)==blk||((b:Int)==goal&&!(s.cl.getD b true))))
def shQ(n:Ac)(s:Af)(blk:Int):List Bool:=(Tx n.bs.length).map fun b:Nat=> !(!(s.cl.getD b true)||(b:Int)==blk)
theorem sht_mono{x:Nat}:∀{l:List Int} {c:List Bool},(l.foldl (fun c b=>c.set b.toNat true) c).getD x true=false->c.getD x true=false:=by
 intro l
 induction l with
 | nil=>intro c h;exact h
 | cons y l ih=>
  intro c h
  have:=ih h
  rw[JJ] at this
  split at this
  .cases this
  .exact this
theorem II{f:Nat->Bool}{m x:Nat}{d:Bool}(h:x<m):((Tx m).map f).getD x d=f x:=by
 rw[Sw,SF,SQ h];rfl
theorem Ha(n:Ac)(s:Af)(a b:Int):(shP n s a b).length=n.bs.length:=by unfold shP;simp
theorem H1(n:Ac)(s:Af)(a:Int):(shQ n s a).length=n.bs.length:=by unfold shQ;simp
theorem okg{n:Ac}(hv:AA n)(hrw:Rows n.nx){s:List Bool}(hs:s.length=n.bs.length):OkG n.nx s/\Asc n.nx:=by
 obtain⟨hg,ha⟩:=HC hrw hv.chk
 have hl:=hv.nx
 exact⟨⟨hg.len,hg.row,by omega⟩,ha⟩
def AD(n:Ac)(s:Af)(blk goal:Int):List Int:=
 if AW n.nx (shP n s blk goal) blk.toNat goal.toNat=[] then AW n.nx (shQ n s blk) blk.toNat goal.toNat else AW n.nx (shP n s blk goal) blk.toNat goal.toNat
theorem JL{n:Ac}(hv:AA n)(hrw:Rows n.nx){sh:List Bool}(hl:sh.length=n.bs.length){a b:Nat}(ha:a<n.bs.length)(hb:b<n.bs.length):AW n.nx sh a b=[]\/(0<=dsS n.nx sh a b/\Pth n.nx sh a b (AW n.nx sh a b)):=by
 have hn:=hv.nx
 obtain⟨hg,_⟩:=okg hv hrw hl
 cases Int.lt_or_le (dsS n.nx sh a b) 0 with
 | inl h=>exact .inl (pth_none h)
 | inr h=>exact .inr ⟨h,MQ hg (by omega) (by omega) h⟩
theorem legP_ok{n:Ac}(hv:AA n)(hrw:Rows n.nx){s:Af}{blk goal:Int}(hb:0<=blk/\blk<(n.bs.length:Int))(hg:0<=goal/\goal<(n.bs.length:Int))(hne:AD n s blk goal≠[]):
  ∃sh,Pth n.nx sh blk.toNat goal.toNat (AD n s blk goal)/\∀x∈(AD n s blk goal).tail,0<=x/\x<(n.bs.length:Int)/\x≠blk/\s.cl.getD x.toNat true=false:=by
 have hn:=hv.nx
 have key:∀sh:List Bool,Pth n.nx sh blk.toNat goal.toNat (AD n s blk goal)->(∀b:Nat,b<n.bs.length->(b:Int)≠blk->sh.getD b false=false->s.cl.getD b true=false)->∃sh,Pth n.nx sh blk.toNat goal.toNat (AD n s blk goal)/\∀x∈(AD n s blk goal).tail,0<=x/\x<(n.bs.length:Int)/\x≠blk/\s.cl.getD x.toNat true=false:=by
  intro sh hp ho
  refine⟨sh,hp,fun x hx=>?_⟩
  obtain⟨i,hi,rfl⟩:=S7.1 hx
  rw[List.length_tail] at hi
  have e:(AD n s blk goal).tail[i]=(AD n s blk goal).getD (i+1) 0:=by
   rw[List.getElem_tail,Sw,Sv (show i+1<(AD n s blk goal).length by omega)];rfl
  rw[e]
  obtain⟨r1,r2,r3⟩:=hp.rng (i+1) (by omega)
  have r4:=hp.nv (i+1) (by omega) (by omega)
  rw[hn] at r2
  have r5:(AD n s blk goal).getD (i+1) 0≠blk:=by omega
  exact⟨r1,r2,r5,ho _ (by omega) (by omega) r3⟩
 have hP:=JL hv hrw (Ha n s blk goal) (a:=blk.toNat) (b:=goal.toNat) (by omega) (by omega)
 have hQ:=JL hv hrw (H1 n s blk) (a:=blk.toNat) (b:=goal.toNat) (by omega) (by omega)
 by_cases h:AW n.nx (shP n s blk goal) blk.toNat goal.toNat=[]
 .have e:AD n s blk goal=AW n.nx (shQ n s blk) blk.toNat goal.toNat:=by unfold AD;rw[Ss h]
  refine key (shQ n s blk) ?_ fun b hb hne ho=>?_
  .rw[e];exact(hQ.resolve_left fun h2=>hne (e.trans h2)).2
  .unfold shQ at ho
   rw[II hb] at ho
   have:((b:Int)==blk)=false:=by simpa using hne
   rw[this] at ho
   simpa using ho
 .have e:AD n s blk goal=AW n.nx (shP n s blk goal) blk.toNat goal.toNat:=by unfold AD;rw[Su h]
  refine key (shP n s blk goal) ?_ fun b hb hne ho=>?_
  .rw[e];exact(hP.resolve_left h).2
  .unfold shP at ho
   rw[II hb] at ho
   have:((b:Int)==blk)=false:=by simpa using hne
   rw[this] at ho
   cases hc:s.cl.getD b true with
   | false=>rfl
   | true=>
    have hsl:(Cz s).getD b true=true:=by
     cases h2:(Cz s).getD b true with
     | true=>rfl
     | false=>exfalso;exact absurd (sht_mono h2) (by rw[hc];simp)
    rw[hc,hsl] at ho
    simp at ho
def AZ(n:Ac)(s:Af)(c sp:Int):Option (List Int):=match plF n c with
 | some i=>if (i:Int)=sp then some (Ae (n.ss.getD i s0) (c-(n.ss.getD i s0).b+1))
  else if AD n s (n.ss.getD i s0).o (n.ss.getD sp.toNat s0).i=[] then none
  else some (Ae (n.ss.getD i s0) (c-(n.ss.getD i s0).b+1)++([(n.ss.getD i s0).o]++((AD n s (n.ss.getD i s0).o (n.ss.getD sp.toNat s0).i).tail++Ae (n.ss.getD sp.toNat s0) 0)))
 | none=>if AD n s c (n.ss.getD sp.toNat s0).i=[] then none else some ((AD n s c (n.ss.getD sp.toNat s0).i).tail++Ae (n.ss.getD sp.toNat s0) 0)
def BM(n:Ac)(s:Af)(c sp:Int):List Int×Bool:=match AZ n s c sp with
 | some l=>if Bh s.cl l=true then (l,true) else ([],false)
 | none=>([],false)
def A2(n:Ac)(s:Af)(c sp:Int):Int:=if Cg n s=true then (if (0<=c/\c<(Au n:Int))/\0<=sp/\sp<(n.ss.length:Int) then 0 else 19) else 20
theorem IJ{n:Ac}(hv:AA n){i:Nat}{t:Av}(ht:n.ss[i]?=some t){j:Int}(hj:0<=j):∀x∈Ae t j,0<=x/\x<(Au n:Int):=fun x hx=>by
 have:=sltL_mem.1 hx
 have he:=hv.ends ht
 have hb:=hv.sb ht
 omega
theorem LA{n:Ac}(hv:AA n)(hrw:Rows n.nx){s:Af}{c sp:Int}(hc:0<=c/\c<(Au n:Int))(hsp:0<=sp/\sp<(n.ss.length:Int)){l:List Int}(h:AZ n s c sp=some l):
  ∀x∈l,0<=x/\x<(Au n:Int):=by
 have hs:=Bg s0 (show sp.toNat<n.ss.length by omega)
 have ge:=hv.goodT _ _ hs
 have gi:=ge.hi
 have hce:=hv.cel
 have hpt:∀{blk:Int},(0<=blk/\blk<(n.bs.length:Int))->AD n s blk (n.ss.getD sp.toNat s0).i≠[]->∀x∈(AD n s blk (n.ss.getD sp.toNat s0).i).tail,0<=x/\x<(Au n:Int):=fun hb hne x hx=>by
  obtain⟨sh,_,h⟩:=legP_ok hv hrw hb (by omega) hne
  have:=h x hx
  omega
 unfold AZ at h
 cases hp:plF n c with
 | none=>
  have hb:=Js hv hc.1 hc.2 hp
  rw[hp] at h
  simp only at h
  split at h
  .cases h
  .rename_i hne
   cases h
   intro x hx
   rcases SZ.1 hx with hx | hx
   .exact hpt ⟨hc.1,hb⟩ hne x hx
   .exact IJ hv hs (Int.le_refl _) x hx
 | some i=>
  obtain⟨t,ht,hg,h1,h2,hil⟩:=Is hp
  have gt:=hv.goodT _ _ ht
  have go:=gt.ho
  rw[hp] at h
  simp only[hg] at h
  split at h
  .cases h
   exact IJ hv ht (by omega)
  .split at h
   .cases h
   .rename_i hne
    cases h
    intro x hx
    rcases SZ.1 hx with hx | hx
    .exact IJ hv ht (by omega) x hx
    rcases SZ.1 hx with hx | hx
    .rw[Sk.1 hx];omega
    rcases SZ.1 hx with hx | hx
    .exact hpt (by omega) hne x hx
    .exact IJ hv hs (Int.le_refl _) x hx
theorem GE{n:Ac}{s:Af}{c sp:Int}:((BM n s c sp).2=true->AZ n s c sp=some (BM n s c sp).1/\Bh s.cl (BM n s c sp).1=true)/\((BM n s c sp).2=false->(BM n s c sp).1=[]):=by
 unfold BM
 cases AZ n s c sp with
 | none=>exact⟨fun h=>(by cases h),fun _=>rfl⟩
 | some l=>
  simp only
  split
  .rename_i h;exact⟨fun _=>⟨rfl,h⟩,fun h=>(by cases h)⟩
  .exact⟨fun h=>(by cases h),fun _=>rfl⟩
def Hx(cl:List Bool)(l:List Int):Int:=match fnd (fun i=>cl.getD (l.getD i 0).toNat true) 0 l.length with | some i=>(i:Int) | none=> -1
theorem pasZ_b(cl:List Bool)(l:List Int):decide (0<=Hx cl l)=!(Bh cl l):=by
 unfold Hx Bh
 cases fnd (fun i=>cl.getD (l.getD i 0).toNat true) 0 l.length with
 | none=>rfl
 | some i=>simp
theorem lg1_c(l:List Bool)(d c:Int)(x:Av)(q:Af)(hc:0<=c/\c<(l.length:Int)/\c<(q.cl.length:Int)):CT TA 66 [some (Blk.mk [.lst (boL l)] 1 true true none),some (Blk.mk [.int .i64 d] 1 true true none),some (Blk.mk [sA x] 6 true true none),some (Blk.mk [sgA q] 3 true true none)] [.int .i64 c,.ptr 0 0 0,.ptr 1 0 0,.ptr 2 0 0,.ptr 3 0 0] [some (Blk.mk [.lst (boL l)] 1 true true none),some (Blk.mk [.int .i64 d] 1 true true none),some (Blk.mk [sA x] 6 true true none),some (Blk.mk [sgA q] 3 true true none)] (.bool (!(l.getD c.toNat true)||(c==d||(c==x.i&&!(q.cl.getD c.toNat true))))):=by
 refine lg1_ct l d c x q ([_,_,_,_],_) (.val ?_)
 unfold Kw
 rw[Aa hc.1,AY (Bg true (show c.toNat<l.length by omega)),AY (Bg true (show c.toNat<q.cl.length by omega))]
 cases l.getD c.toNat true<;>cases c==d<;>cases c==x.i<;>rfl
theorem lg2_c(d c:Int)(q:Af)(hc:0<=c/\c<(q.cl.length:Int)):CT TA 67 [some (Blk.mk [sgA q] 3 true true none),some (Blk.mk [.int .i64 d] 1 true true none)] [.int .i64 c,.ptr 0 0 0,.ptr 1 0 0] [some (Blk.mk [sgA q] 3 true true none),some (Blk.mk [.int .i64 d] 1 true true none)] (.bool (!(q.cl.getD c.toNat true)||c==d)):=by
 refine lg2_ct d c q ([_,_],_) (.val ?_)
 unfold LM
 rw[Aa hc.1,AY (Bg true (show c.toNat<q.cl.length by omega))]
 cases q.cl.getD c.toNat true<;>rfl
def plO(n:Ac)(c:Int):Int:=if ckE n c=0 then plI n c else 0
def pjO(n:Ac)(c:Int):Int:=if ckE n c=0 then plJ n c else 0
theorem plc_c{n:Ac}(c:Int)(hrw:Rows n.nx):CT TA 62 [] [Aj n,.int .i64 c] [] (.tup [.int .i64 (plO n c),.int .i64 (pjO n c),.int .i64 (ckE n c)]):=by
 refine plc_ct n c ([],_) (.val ?_)
 unfold MA plO pjO
 rw[Aa hrw]
 by_cases h:ckE n c=0
 .obtain⟨hv,h0,h1⟩:=ckE_ok h
  have:=hv.cel
  rw[Ak (by rw[h];rfl),Aa hv,Aa (by omega),Ss h,Ss h,h]
 .rw[An (Ti.2 h),Su h,Su h]
theorem dis_c{g:List (List Int)}{s:List Bool}(w:Int)(hg:OkG g s)(hw:0<=w/\w<(g.length:Int)):CT TA 71 [] [.lst (gL g),.lst (boL s),.int .i64 w] [] (lI (AB g s w.toNat g.length)):=by
 have:=Q7 hg w.toNat (by omega)
 rw[SW hw.1] at this
 exact this
theorem hop_c{g:List (List Int)}{d:List Int}(v:Int)(hg:OkG g (Tu g.length false))(hd:d.length=g.length)(hsm:Dv d)(hv:0<=v/\v<(g.length:Int)):CT TA 139 [] [.lst (gL g),lI d,.int .i64 v] [] (.int .i64 (B3 g d v.toNat)):=by
 have:=hop_ct hg d hd hsm v.toNat (by omega)
 rw[SW hv.1] at this
 exact this
theorem chkp_c{g:List (List Int)}(s:List Bool)(v w:Int)(hrw:Rows g):CT TA 70 [] [.lst (gL g),.lst (boL s),.int .i64 v,.int .i64 w] [] (.int .i64 (C4 g s v w)):=QS hrw v w
inductive En where
 | l0 (v0:List Int) (v1 v2:Int)
def Gb(g:List (List Int))(l:List Bool)(p q:Int):En->St
 | .l0 v0 v1 v2=>St.mk 52 [(0,Tz (gL g)),(11,Tz (Tt iv (AB g l q.toNat g.length))),(12,AV.sl 0 0 v0.length),(35,iv v1),(36,iv v2)] [some (bK (Tt iv v0) 1)]
def Lf:En->Nat
 | .l0 _ _ _=>0
def Kn(g:List (List Int))(l:List Bool)(p q:Int):Option (En⊕Ret):=
 gu (Rows g) <|
 br (C4 g l p q != 0)
 (some (.inr ([],AV.tup [AV.nils,iV (C4 g l p q)])))
 (gu (OkG g l) <|
  gu (0<=q/\q<iN g.length) <|
  gu (0<=p) <|
  el (AB g l q.toNat g.length) (p.toNat) fun(x27:Int)=>
  br (decide (x27<0))
  (some (.inr ([],AV.tup [AV.nils,iV 0])))
  (el (AB g l q.toNat g.length) (p.toNat) fun(x34:Int)=>
   some (.inl (.l0 ([p]) x34 ((0:Int))))))
def Gt(g:List (List Int))(l:List Bool)(p q:Int)(v0:List Int)(v1 v2:Int):Option (En⊕Ret):=
 br (decide (v2<v1))
 (gu (0<=i64.wrap (iN v0.length-1)) <|
  gu (i64.wrap (iN v0.length-1)<iN v0.length) <|
  el v0 (0+(i64.wrap (iN v0.length-1)).toNat) fun(x46:Int)=>
  gu (OkG g (Tu g.length false)) <|
  gu ((AB g l q.toNat g.length).length=g.length) <|
  gu (Dv (AB g l q.toNat g.length)) <|
  gu (0<=x46/\x46<iN g.length) <|
  gu ((Tt iV v0).length+[iV (B3 g (AB g l q.toNat g.length) x46.toNat)].length<=9223372036854775807) <|
  gu (((Tt iV v0).length+[iV (B3 g (AB g l q.toNat g.length) x46.toNat)].length) * 8<=140737488355328) <|
  some (.inl (.l0 (v0++[B3 g (AB g l q.toNat g.length) x46.toNat]) v1 (i64.wrap (v2+1)))))
 (some (.inr ([some (bK (Tt iV v0) 1)],AV.tup [AV.sl 0 0 v0.length,iV 0])))
def ptkStep(g:List (List Int))(l:List Bool)(p q:Int):En->Option (En⊕Ret)
 | .l0 v0 v1 v2=>Gt g l p q v0 v1 v2
theorem ptkEn_ok(g:List (List Int))(l:List Bool)(p q:Int)(o:En⊕Ret)(h:Kn g l p q=some o):Arr TA Try.f111 0 (Gb g l p q) Lf (zB Try.f111) [] {n:=Try.f111.ntmps,fr:=AK 0 ([.lst (gL g),.lst (boL l),.int .i64 p,.int .i64 q]),hp:=([])} o:=
 Scr.ok h mix (
 .rn 0 [] [] [] [] (al t3) <|
 .gu fun a0=>
 have c0:=chkp_c l p q a0;
 .rn 1 [] [] [(17,hK c0 [] [])] [] (aj (u2 (u2 (u2 (u2 (aj (k3 (k5 (al (c0)))) s2))))) (al (u2 s2))) <|
 .br (fun a1=>
 .rt [39] [] [] [] [] [] (aj (aj a1 (al (u2 (ak s2)))) (al t3)))
 (fun a1=>
 .gu fun a2=>
 .gu fun a3=>
 have c1:=dis_c q a2 a3;
 .rn 0 [38] [] [(24,hK c1 [] [])] [] (aj a1 (al (u2 (u2 (u2 (aj (ak (k5 (al (c1)))) s2)))))) <|
 .gu fun a4=>
 .el fun x27 a5=>
 .rn 0 [] [(27,iv x27)] [] [] (al (u2 (u2 (aj (k2 (aj a4 (AE (f:=iv) a5))) (u2 s2))))) <|
 .br (fun a6=>
  .rt [59] [] [] [] [] [] (aj (aj a6 (al t3)) (al t3)))
 (fun a6=>
  .rn 0 [58] [] [] [] (aj a6 (al (u2 (u2 s2)))) <|
  .el fun x34 a7=>
  .lp [] [(34,iv x34)] [] [] [] [0] [0,11,12,35,36] (aj (al (u2 (u2 (aj (k2 (aj a4 (AE (f:=iv) a7))) (u2 t2))))) t7)))) (by kernel_rfl)
theorem ptkS0_ok(g:List (List Int))(l:List Bool)(p q:Int)(v0:List Int)(v1 v2:Int)(o:En⊕Ret)(h:Gt g l p q v0 v1 v2=some o):Arr TA Try.f111 0 (Gb g l p q) Lf (Ay Try.f111 0) (.rnd (Ay Try.f111 0)::AN Try.f111 0) (Gb g l p q (.l0 v0 v1 v2)) o:=
 Scr.ok h mix (
 .rn 0 [] [] [] [] (al (al t3)) <|
 .br (fun a0=>
 .gu fun a1=>
 .gu fun a2=>
 .el fun x46 a3=>
 .gu fun a4=>
 .gu fun a5=>
 .gu fun a6=>
 .gu fun a7=>
 .gu fun a8=>
 .gu fun a9=>
 have c0:=hop_c x46 a4 a5 a6 a7;
 .lq [75] [(46,iv x46)] [(47,hK c0 [] [])] [] [] [2] [0,11,12,35,36] (up [(12,AV.sl 0 0 ((Tt iv v0).length+[iv (B3 g (AB g l q.toNat g.length) x46.toNat)].length))] [(0,Tt iv v0++[iv (B3 g (AB g l q.toNat g.length) x46.toNat)])] (Gb g l p q (.l0 (v0++[B3 g (AB g l q.toNat g.length) x46.toNat]) v1 (i64.wrap (v2+1))))) (aj (aj a0 (aj (u2 (u2 (u2 (u2 (u2 (u2 (u2 (aj (k2 (aj a1 a2)) (aj (ak (AE (f:=iv) a3)) (aj (ak (k5 (al (c0)))) (u2 (aj (k2 (aj (show(Tt iv v0).length=v0.length by simp) (aj (aj (show nat_lit 1=nat_lit 1 from rfl) (show 1<=[iv (B3 g (AB g l q.toNat g.length) x46.toNat)].length by simp)) (aj a8 a9)))) s2)))))))))))) (al (u2 s2)))) t7) (by simp[up,upF,upV,upH,upB,Gb,gL,boL,lI]))
 (fun a0=>
 .rt [74] [] [] [] [0] [] (aj (aj a0 (al (u2 (u2 t2)))) (aj t3 t2)))) (by kernel_rfl)
theorem ptk_ct(g:List (List Int))(l:List Bool)(p q:Int)(r:Ret)(h:Ax (ptkStep g l p q) (Kn g l p q) r):CT TA 111 ([]) ([.lst (gL g),.lst (boL l),.int .i64 p,.int .i64 q]) r.1 r.2:=
 CT.mach (fn:=Try.f111) (c:=zB Try.f111) (S:=Gb g l p q) (hd:=Lf) Try.func111 (by kernel_rfl) (nL rfl)
  (fun s o ho=>match s,ho with
   | .l0 v0 v1 v2,ho=>ptkS0_ok g l p q v0 v1 v2 o ho
  )
  (fun o ho=>ptkEn_ok g l p q o ho) h
theorem pthK{g:List (List Int)}(l:List Bool)(p q:Int)(hrw:Rows g):CT TA 111 [] [.lst (gL g),.lst (boL l),.int .i64 p,.int .i64 q] [some (Blk.mk ((Ad g l p q).1.map (AV.int .i64)) 1 true true none)] (.tup [.sl 0 0 (Ad g l p q).1.length,.int .i64 (Ad g l p q).2]):=by
 have k:=ptk_ct g l p q
 unfold Kn at k
 by_cases h:C4 g l p q=0
 case neg=>
  have e:Ad g l p q=([],C4 g l p q):=by unfold Ad;rw[Su h]
  rw[e]
  exact M4 (hout:=[]) 1 (k ([],_) (.val (by rw[Aa hrw,An (Ti.2 h)])))
 obtain⟨hg,_,⟨h0,h1⟩,⟨h2,h3⟩⟩:=chk_ok hrw h
 have hD:=EE hg (goal:=q.toNat) (by omega)
 have hdl:=hD.len
 have hbd:=hD.bnd p.toNat (by omega)
 have hgl:=hg.len
 have hel:=Bg 0 (show p.toNat<(AB g l q.toNat g.length).length by omega)
 by_cases hn:(AB g l q.toNat g.length).getD p.toNat 0<0
 .have e:Ad g l p q=([],0):=by unfold Ad;rw[Ss h,Ss hn]
  rw[e]
  exact M4 (hout:=[]) 1 (k ([],_) (.val (by rw[Aa hrw,h,Ak (by rfl),Aa hg,Aa ⟨h2,h3⟩,Aa h0,AY hel,An (AF hn)])))
 obtain⟨m,hm⟩:∃m:Nat,(AB g l q.toNat g.length).getD p.toNat 0=(m:Int):=⟨((AB g l q.toNat g.length).getD p.toNat 0).toNat,by omega⟩
 have e:Ad g l p q=(wkL g (AB g l q.toNat g.length) p.toNat m,0):=by unfold Ad;rw[Ss h,Su hn,hm,SE]
 have hok:=I8 hg (goal:=q.toNat) (by omega) hD (by omega) hm (shN (a:=p.toNat) hD (by omega) (by omega))
 have hg0:OkG g (Tu g.length false):=⟨hg.len,hg.row,by simp⟩
 have hsm:=OQ g l q.toNat g.length (by omega)
 rw[e]
 refine k ([_],_) ?_
 rw[Aa hrw,h,Ak (by rfl),Aa hg,Aa ⟨h2,h3⟩,Aa h0,AY hel,Ak (Ar hn),AY hel,hm]
 have e0:([p]:List Int)=wkL g (AB g l q.toNat g.length) p.toNat 0:=by
  unfold wkL
  show [p]=[wkZ g _ p.toNat 0]
  rw[wkZ];congr 1;omega
 rw[e0]
 refine Dc (fun i=>En.l0 (wkL g (AB g l q.toNat g.length) p.toNat i) (m:Int) (i:Int)) m (fun i hi hx=>?_) ?_
 .refine .to (show Gt g l p q _ _ _=_ from ?_) hx
  have hl:=JB g (AB g l q.toNat g.length) p.toNat i
  obtain⟨a1,a2,_⟩:=hok i (by omega)
  have hw:i64.wrap (iN (wkL g (AB g l q.toNat g.length) p.toNat i).length-1)=(i:Int):=by rw[hl,Fz (by simp only[iN];omega) (by simp only[iN];omega)];simp only[iN];omega
  have hgt:(wkL g (AB g l q.toNat g.length) p.toNat i)[0+i]?=some (wkZ g (AB g l q.toNat g.length) p.toNat i):=by
   rw[SK,Bg 0 (show i<_ by omega),FB (SG _)]
  unfold Gt
  rw[An (AF (by omega)),hw,Aa (by omega),Aa (by simp only[iN];omega),SE,AY hgt,Aa hg0,Aa hdl,Aa hsm,Aa ⟨a1,a2⟩,Aa (by simp only[Sy,Ta,Tb];omega),Aa (by simp only[Sy,Ta,Tb];omega),O9,zW i (by omega)];rfl
 .refine .to (show Gt g l p q _ _ _=_ from ?_) (.ret _)
  unfold Gt
  rw[Ak (Ar (by omega))]
inductive Ez where
 | l0 (v0:List Bool) (v1:Int)
def Fu(n:Ac)(l:List Bool)(d a g:Int)(x:Av)(q:Af):Ez->St
 | .l0 v0 v1=>St.mk 40 [(1,AV.fn 66 [AV.ptr 0 0 0,AV.ptr 1 0 0,AV.ptr 2 0 0,AV.ptr 3 0 0]),(2,iv a),(3,iv g),(4,AV.ptr 4 0 0),(9,AV.sl 5 0 v0.length),(18,iv (iN (Tt bA n.bs).length)),(19,iv v1)] [some (bK [Tz (boL l)] 1),some (bK [iv d] 1),some (bK [sA x] 6),some (bK [AV.agg [Tz (boL q.cl),Tz (Tt iv q.bw),Tz (Tt iv q.pe)]] 3),some (bK [Aj n] 8),some (bK (Tt bV v0) 1)]
def KX:Ez->Nat
 | .l0 _ _=>0
def Kk(n:Ac)(l:List Bool)(d a g:Int)(x:Av)(q:Af):Option (Ez⊕Ret):=
 gu (1 * iN (Tt bA n.bs).length<=281474976710656) <|
 gu (iN (Tt bA n.bs).length<=9223372036854775807) <|
 some (.inl (.l0 (Tu (Tt bA n.bs).length false) ((0:Int))))
def Hb(n:Ac)(l:List Bool)(d a g:Int)(x:Av)(q:Af)(v0:List Bool)(v1:Int):Option (Ez⊕Ret):=
 br (decide (v1<iN (Tt bA n.bs).length))
 (gu (0<=v1/\v1<iN l.length/\v1<iN q.cl.length) <|
  gu (0<=v1) <|
  gu (v1<iN v0.length) <|
  gu ((0+v1.toNat).succ.le (Tt bV v0).length) <|
  some (.inl (.l0 (v0.set (0+v1.toNat) !(!l.getD v1.toNat true||(v1==d||v1==x.i&&!q.cl.getD v1.toNat true))) (i64.wrap (v1+1)))))
 (gu (Rows n.nx) <|
  gu (∀(blk:Blk),blk∈[bK (Tt iV (Ad n.nx v0 a g).fst) 1]->BS blk) <|
  some (.inr ([some (bK [Tz (boL l)] 1),some (bK [iV d] 1),some (bK [AV.agg [AV.str x.nm,bV x.dep,iV x.i,iV x.o,iV x.k,iV x.b]] 6),some (bK [AV.agg [Tz (boL q.cl),Tz (Tt iV q.bw),Tz (Tt iV q.pe)]] 3)],Tz (Tt iV (Ad n.nx v0 a g).fst))))
def paAStep(n:Ac)(l:List Bool)(d a g:Int)(x:Av)(q:Af):Ez->Option (Ez⊕Ret)
 | .l0 v0 v1=>Hb n l d a g x q v0 v1
theorem paAEn_ok(n:Ac)(l:List Bool)(d a g:Int)(x:Av)(q:Af)(o:Ez⊕Ret)(h:Kk n l d a g x q=some o):Arr TA Try.f65 4 (Fu n l d a g x q) KX (zB Try.f65) [] {n:=Try.f65.ntmps,fr:=AK 0 ([Aj n,.fn 66 [.ptr 0 0 0,.ptr 1 0 0,.ptr 2 0 0,.ptr 3 0 0],.int .i64 a,.int .i64 g]),hp:=([some (bK [.lst (boL l)] 1),some (bK [.int .i64 d] 1),some (bK [sA x] 6),some (bK [sgA q] 3)])} o:=
 Scr.ok h mix (
 .rn 0 [] [] [] [] (al (u2 t2)) <|
 .gu fun a0=>
 .gu fun a1=>
 .lq [] [] [] [] [] [0,1,2,3,4,5] [1,2,3,4,9,18,19] (up [(9,AV.sl 5 0 (Tt bA n.bs).length)] [(5,Tu (Tt bA n.bs).length (bV false))] (Fu n l d a g x q (.l0 (Tu (Tt bA n.bs).length false) ((0:Int))))) (aj (aj (u2 (u2 (u2 (aj (k2 (aj (show 0<=iN (Tt bA n.bs).length from(Int.natCast_nonneg _)) (aj (show iN (Tt bA n.bs).length<=iN (Tt bA n.bs).length by omega) (aj a0 a1)))) s2)))) (al (u2 (u2 t2)))) (aj t5 (ak (k3 t9)))) (by simp[up,upF,upV,upH,upB,Fu,gL,boL,lI,sA,bA])) (by kernel_rfl)
theorem paAS0_ok(n:Ac)(l:List Bool)(d a g:Int)(x:Av)(q:Af)(v0:List Bool)(v1:Int)(o:Ez⊕Ret)(h:Hb n l d a g x q v0 v1=some o):Arr TA Try.f65 4 (Fu n l d a g x q) KX (Ay Try.f65 0) (.rnd (Ay Try.f65 0)::AN Try.f65 0) (Fu n l d a g x q (.l0 v0 v1)) o:=
 Scr.ok h mix (
 .rn 0 [] [] [] [] (al (al t3)) <|
 .br (fun a0=>
 .rn 0 [41] [] [] [] (aj a0 (al (u2 s2))) <|
 .gu fun a1=>
 .gu fun a2=>
 .gu fun a3=>
 .gu fun a4=>
 have c0:=lg1_c l d v1 x q a1;
 .lq [] [] [(26,hK c0 [0,1,2,3] [])] [] [] [0,1,2,3,4,5] [1,2,3,4,9,18,19] (up [(9,AV.sl 5 0 v0.length)] [(5,(Tt bV v0).set (0+v1.toNat) (bV !(!l.getD v1.toNat true||(v1==d||v1==x.i&&!q.cl.getD v1.toNat true))))] (Fu n l d a g x q (.l0 (v0.set (0+v1.toNat) !(!l.getD v1.toNat true||(v1==d||v1==x.i&&!q.cl.getD v1.toNat true))) (i64.wrap (v1+1))))) (aj (aj (u2 (u2 (u2 (u2 (aj (ak (k5 (k5 (al (c0))))) (u2 (aj (k2 (aj a2 a3)) (al (k2 a4))))))))) (al (u2 s2))) (aj t5 (ak (k3 t9)))) (by simp[up,upF,upV,upH,upB,Fu,gL,boL,lI,sA,bA]))
 (fun a0=>
 .gu fun a1=>
 .gu fun a2=>
 have c0:=pthK v0 a g a1;
 .rt [40] [] [(36,hK c0 [] [5])] [] [0,1,2,3] [6] (aj (aj a0 (aj (u2 (u2 (u2 (u2 (u2 (aj (k5 (aj (show v0.length=(Tt bV v0).length by simp) (k2 (aj (c0) a2)))) (u2 (u2 (u2 (u2 s2)))))))))) (al (u2 s2)))) (aj (show(Ad n.nx v0 a g).fst.length=(Tt iv (Ad n.nx v0 a g).fst).length by simp) t5)))) (by kernel_rfl)
theorem paA_ct(n:Ac)(l:List Bool)(d a g:Int)(x:Av)(q:Af)(r:Ret)(h:Ax (paAStep n l d a g x q) (Kk n l d a g x q) r):CT TA 65 ([some (bK [.lst (boL l)] 1),some (bK [.int .i64 d] 1),some (bK [sA x] 6),some (bK [sgA q] 3)]) ([Aj n,.fn 66 [.ptr 0 0 0,.ptr 1 0 0,.ptr 2 0 0,.ptr 3 0 0],.int .i64 a,.int .i64 g]) r.1 r.2:=
 CT.mach (fn:=Try.f65) (c:=zB Try.f65) (S:=Fu n l d a g x q) (hd:=KX) Try.func65 (by kernel_rfl) (nL rfl)
  (fun s o ho=>match s,ho with
   | .l0 v0 v1,ho=>paAS0_ok n l d a g x q v0 v1 o ho
  )
  (fun o ho=>paAEn_ok n l d a g x q o ho) h
inductive Ek where
 | l0 (v0:List Bool) (v1:Int)
def Ff(n:Ac)(d a g:Int)(q:Af):Ek->St
 | .l0 v0 v1=>St.mk 40 [(1,AV.fn 67 [AV.ptr 0 0 0,AV.ptr 1 0 0]),(2,iv a),(3,iv g),(4,AV.ptr 2 0 0),(9,AV.sl 3 0 v0.length),(18,iv (iN (Tt bA n.bs).length)),(19,iv v1)] [some (bK [AV.agg [Tz (boL q.cl),Tz (Tt iv q.bw),Tz (Tt iv q.pe)]] 3),some (bK [iv d] 1),some (bK [Aj n] 8),some (bK (Tt bV v0) 1)]
def Mn:Ek->Nat
 | .l0 _ _=>0
def K8(n:Ac)(d a g:Int)(q:Af):Option (Ek⊕Ret):=
 gu (1 * iN (Tt bA n.bs).length<=281474976710656) <|
 gu (iN (Tt bA n.bs).length<=9223372036854775807) <|
 some (.inl (.l0 (Tu (Tt bA n.bs).length false) ((0:Int))))
def Hn(n:Ac)(d a g:Int)(q:Af)(v0:List Bool)(v1:Int):Option (Ek⊕Ret):=
 br (decide (v1<iN (Tt bA n.bs).length))
 (gu (0<=v1/\v1<iN q.cl.length) <|
  gu (0<=v1) <|
  gu (v1<iN v0.length) <|
  gu ((0+v1.toNat).succ.le (Tt bV v0).length) <|
  some (.inl (.l0 (v0.set (0+v1.toNat) !(!q.cl.getD v1.toNat true||v1==d)) (i64.wrap (v1+1)))))
 (gu (Rows n.nx) <|
  gu (∀(blk:Blk),blk∈[bK (Tt iV (Ad n.nx v0 a g).fst) 1]->BS blk) <|
  some (.inr ([some (bK [AV.agg [Tz (boL q.cl),Tz (Tt iV q.bw),Tz (Tt iV q.pe)]] 3),some (bK [iV d] 1)],Tz (Tt iV (Ad n.nx v0 a g).fst))))
def paBStep(n:Ac)(d a g:Int)(q:Af):Ek->Option (Ek⊕Ret)
 | .l0 v0 v1=>Hn n d a g q v0 v1
theorem paBEn_ok(n:Ac)(d a g:Int)(q:Af)(o:Ek⊕Ret)(h:K8 n d a g q=some o):Arr TA Try.f65 2 (Ff n d a g q) Mn (zB Try.f65) [] {n:=Try.f65.ntmps,fr:=AK 0 ([Aj n,.fn 67 [.ptr 0 0 0,.ptr 1 0 0],.int .i64 a,.int .i64 g]),hp:=([some (bK [sgA q] 3),some (bK [.int .i64 d] 1)])} o:=
 Scr.ok h mix (
 .rn 0 [] [] [] [] (al (u2 t2)) <|
 .gu fun a0=>
 .gu fun a1=>
 .lq [] [] [] [] [] [0,1,2,3] [1,2,3,4,9,18,19] (up [(9,AV.sl 3 0 (Tt bA n.bs).length)] [(3,Tu (Tt bA n.bs).length (bV false))] (Ff n d a g q (.l0 (Tu (Tt bA n.bs).length false) ((0:Int))))) (aj (aj (u2 (u2 (u2 (aj (k2 (aj (show 0<=iN (Tt bA n.bs).length from(Int.natCast_nonneg _)) (aj (show iN (Tt bA n.bs).length<=iN (Tt bA n.bs).length by omega) (aj a0 a1)))) s2)))) (al (u2 (u2 t2)))) (aj t3 (k2 t9))) (by simp[up,upF,upV,upH,upB,Ff,gL,boL,lI,sA,bA])) (by kernel_rfl)
theorem paBS0_ok(n:Ac)(d a g:Int)(q:Af)(v0:List Bool)(v1:Int)(o:Ek⊕Ret)(h:Hn n d a g q v0 v1=some o):Arr TA Try.f65 2 (Ff n d a g q) Mn (Ay Try.f65 0) (.rnd (Ay Try.f65 0)::AN Try.f65 0) (Ff n d a g q (.l0 v0 v1)) o:=
 Scr.ok h mix (
 .rn 0 [] [] [] [] (al (al t3)) <|
 .br (fun a0=>
 .rn 0 [41] [] [] [] (aj a0 (al (u2 s2))) <|
 .gu fun a1=>
 .gu fun a2=>
 .gu fun a3=>
 .gu fun a4=>
 have c0:=lg2_c d v1 q a1;
 .lq [] [] [(26,hK c0 [0,1] [])] [] [] [0,1,2,3] [1,2,3,4,9,18,19] (up [(9,AV.sl 3 0 v0.length)] [(3,(Tt bV v0).set (0+v1.toNat) (bV !(!q.cl.getD v1.toNat true||v1==d)))] (Ff n d a g q (.l0 (v0.set (0+v1.toNat) !(!q.cl.getD v1.toNat true||v1==d)) (i64.wrap (v1+1))))) (aj (aj (u2 (u2 (u2 (u2 (aj (k2 (k5 (al (c0)))) (u2 (aj (k2 (aj a2 a3)) (al (k2 a4))))))))) (al (u2 s2))) (aj t3 (k2 t9))) (by simp[up,upF,upV,upH,upB,Ff,gL,boL,lI,sA,bA]))
 (fun a0=>
 .gu fun a1=>
 .gu fun a2=>
 have c0:=pthK v0 a g a1;
 .rt [40] [] [(36,hK c0 [] [3])] [] [0,1] [4] (aj (aj a0 (aj (u2 (u2 (u2 (u2 (u2 (aj (k5 (aj (show v0.length=(Tt bV v0).length by simp) (k2 (aj (c0) a2)))) (u2 (u2 (u2 (u2 s2)))))))))) (al (u2 s2)))) (aj (show(Ad n.nx v0 a g).fst.length=(Tt iv (Ad n.nx v0 a g).fst).length by simp) t3)))) (by kernel_rfl)
theorem paB_ct(n:Ac)(d a g:Int)(q:Af)(r:Ret)(h:Ax (paBStep n d a g q) (K8 n d a g q) r):CT TA 65 ([some (bK [sgA q] 3),some (bK [.int .i64 d] 1)]) ([Aj n,.fn 67 [.ptr 0 0 0,.ptr 1 0 0],.int .i64 a,.int .i64 g]) r.1 r.2:=
 CT.mach (fn:=Try.f65) (c:=zB Try.f65) (S:=Ff n d a g q) (hd:=Mn) Try.func65 (by kernel_rfl) (nL rfl)
  (fun s o ho=>match s,ho with
   | .l0 v0 v1,ho=>paBS0_ok n d a g q v0 v1 o ho
  )
  (fun o ho=>paBEn_ok n d a g q o ho) h
def bmV(f:Nat->Bool)(c i:Nat):List Bool:=(Tx i).map f++Tu (c-i) false
theorem Nf{f:Nat->Bool}{c i:Nat}(h:i<=c):(bmV f c i).length=c:=by unfold bmV;simp;omega
theorem Nz{f:Nat->Bool}{c i:Nat}(h:i<c):(bmV f c i).set (0+i) (f i)=bmV f c (i+1):=by
 obtain⟨d,hd⟩:∃d,c-i=d+1:=⟨c-i-1,by omega⟩
 have hd2:c-(i+1)=d:=by omega
 unfold bmV
 rw[hd,hd2,SK,List.replicate_succ,List.set_append_right _ _ (by simp)]
 simp only[Sy,Td,Sc,List.set_cons_zero]
 rw[Tj,SI,List.append_assoc];rfl
theorem bmV_0(f:Nat->Bool)(c:Nat):bmV f c 0=Tu c false:=by unfold bmV;simp
theorem bmV_c(f:Nat->Bool)(c:Nat):bmV f c c=(Tx c).map f:=by unfold bmV;simp
def shG(nb:Nat)(l cl:List Bool)(d goal:Int):List Bool:=(Tx nb).map fun b:Nat=> !(!(l.getD b true)||((b:Int)==d||((b:Int)==goal&&!(cl.getD b true))))
def shW(nb:Nat)(cl:List Bool)(d:Int):List Bool:=(Tx nb).map fun b:Nat=> !(!(cl.getD b true)||(b:Int)==d)
theorem IK(l:List Int):∀(blk:Blk),blk∈[Blk.mk (Tt (AV.int .i64) l) 1 true true none]->BS blk:=fun blk hb=>by
 rw[Sk.1 hb]
 intro e he c hc
 obtain⟨x,_,rfl⟩:=S0.1 he
 rw[Sk.1 hc];rfl
theorem I4(n:Ac)(l:List Bool)(d a g:Int)(x:Av)(q:Af)(hrw:Rows n.nx)(hn:n.bs.length<=1000/\n.bs.length<=l.length/\n.bs.length<=q.cl.length):
  CT TA 65 [some (Blk.mk [.lst (boL l)] 1 true true none),some (Blk.mk [.int .i64 d] 1 true true none),some (Blk.mk [sA x] 6 true true none),some (Blk.mk [sgA q] 3 true true none)] [Aj n,.fn 66 [.ptr 0 0 0,.ptr 1 0 0,.ptr 2 0 0,.ptr 3 0 0],.int .i64 a,.int .i64 g] [some (Blk.mk [.lst (boL l)] 1 true true none),some (Blk.mk [.int .i64 d] 1 true true none),some (Blk.mk [sA x] 6 true true none),some (Blk.mk [sgA q] 3 true true none)] (lI (Ad n.nx (shG n.bs.length l q.cl d x.i) a g).1):=by
 refine paA_ct n l d a g x q ([_,_,_,_],_) ?_
 obtain⟨n1,n2,n3⟩:=hn
 unfold Kk
 have hb:(Tt bA n.bs).length=n.bs.length:=Sy ..
 rw[hb,Aa (by simp only[iN];omega),Aa (by simp only[iN];omega)]
 rw[<-bmV_0 (fun b:Nat=> !(!(l.getD b true)||((b:Int)==d||((b:Int)==x.i&&!(q.cl.getD b true)))))]
 refine Dc (fun i=>Ez.l0 (bmV (fun b:Nat=> !(!(l.getD b true)||((b:Int)==d||((b:Int)==x.i&&!(q.cl.getD b true))))) n.bs.length i) (i:Int)) n.bs.length (fun i hi hx=>?_) ?_
 .refine .to (show Hb n l d a g x q _ _=_ from ?_) hx
  unfold Hb
  have hl:=Nf (f:=fun b:Nat=> !(!(l.getD b true)||((b:Int)==d||((b:Int)==x.i&&!(q.cl.getD b true))))) (Nat.le_of_lt hi)
  rw[hb,An (AF (by simp only[iN];omega)),Aa (by simp only[iN];omega),Aa (by omega),Aa (by simp only[iN,hl];omega),Aa (show Nat.le _ _ from(by rw[Sy,hl];show 0+(i:Int).toNat+1<=_;omega)),SE,Nz (f:=fun b:Nat=> !(!(l.getD b true)||((b:Int)==d||((b:Int)==x.i&&!(q.cl.getD b true))))) hi,zW i (by omega)]
 .refine .to (show Hb n l d a g x q _ _=_ from ?_) (.ret _)
  unfold Hb
  rw[hb,Ak (Ar (by simp only[iN];omega)),Aa hrw,Aa (IK _),bmV_c];rfl
theorem IG(n:Ac)(d a g:Int)(q:Af)(hrw:Rows n.nx)(hn:n.bs.length<=1000/\n.bs.length<=q.cl.length):
  CT TA 65 [some (Blk.mk [sgA q] 3 true true none),some (Blk.mk [.int .i64 d] 1 true true none)] [Aj n,.fn 67 [.ptr 0 0 0,.ptr 1 0 0],.int .i64 a,.int .i64 g] [some (Blk.mk [sgA q] 3 true true none),some (Blk.mk [.int .i64 d] 1 true true none)] (lI (Ad n.nx (shW n.bs.length q.cl d) a g).1):=by
 refine paB_ct n d a g q ([_,_],_) ?_
 obtain⟨n1,n3⟩:=hn
 unfold K8
 have hb:(Tt bA n.bs).length=n.bs.length:=Sy ..
 rw[hb,Aa (by simp only[iN];omega),Aa (by simp only[iN];omega)]
 rw[<-bmV_0 (fun b:Nat=> !(!(q.cl.getD b true)||(b:Int)==d))]
 refine Dc (fun i=>Ek.l0 (bmV (fun b:Nat=> !(!(q.cl.getD b true)||(b:Int)==d)) n.bs.length i) (i:Int)) n.bs.length (fun i hi hx=>?_) ?_
 .refine .to (show Hn n d a g q _ _=_ from ?_) hx
  unfold Hn
  have hl:=Nf (f:=fun b:Nat=> !(!(q.cl.getD b true)||(b:Int)==d)) (Nat.le_of_lt hi)
  rw[hb,An (AF (by simp only[iN];omega)),Aa (by simp only[iN];omega),Aa (by omega),Aa (by simp only[iN,hl];omega),Aa (show Nat.le _ _ from(by rw[Sy,hl];show 0+(i:Int).toNat+1<=_;omega)),SE,Nz (f:=fun b:Nat=> !(!(q.cl.getD b true)||(b:Int)==d)) hi,zW i (by omega)]
 .refine .to (show Hn n d a g q _ _=_ from ?_) (.ret _)
  unfold Hn
  rw[hb,Ak (Ar (by simp only[iN];omega)),Aa hrw,Aa (IK _),bmV_c];rfl
def grwSt(z:Int):Empty->St
 | x=>x.elim
def grwHd:Empty->Nat
 | x=>x.elim
def IB(z:Int):Option (Empty⊕Ret):=
 br (decide (z<0))
 (none)
 (br (decide (0<i64.wrap (z-0)))
  (gu (0<i64.wrap (z-0)) <|
   gu (i64.wrap (z-0)<=9223372036854775807) <|
   gu ((i64.wrap (z-0)).toNat * 8<=140737488355328) <|
   some (.inr ([some (bK (Tu (i64.wrap (z-0)).toNat (iV 0)) 1)],AV.sl 0 0 0)))
  (some (.inr ([],AV.nils))))
def grwStep(z:Int):Empty->Option (Empty⊕Ret)
 | x=>x.elim
theorem grwEn_ok(z:Int)(o:Empty⊕Ret)(h:IB z=some o):Arr TA Try.f112 0 (grwSt z) grwHd (zB Try.f112) [] {n:=Try.f112.ntmps,fr:=AK 0 ([.nils,.int .i64 z]),hp:=([])} o:=
 Scr.ok h mix (
 .rn 1 [] [] [] [] (u2 (al (u2 s2))) <|
 .br (fun a0=>
 .no)
 (fun a0=>
 .rn 1 [12] [] [] [] (aj a0 (aj (u2 (u2 (u2 (u2 (u2 (aj t3 (aj t3 s2))))))) (al (u2 s2)))) <|
 .br (fun a1=>
  .gu fun a2=>
  .gu fun a3=>
  .gu fun a4=>
  .rt [33] [] [] [] [0] [] (aj (aj a1 (aj (u2 (u2 (u2 (aj t3 (u2 (aj (k2 (aj a2 (aj a3 a4))) (u2 (u2 (aj (k2 (aj (show(0:Int)<=(0:Int) from(by first | exact nL rfl | decide)) (aj (show(0:Int)<=(0:Int) from(by first | exact nL rfl | decide)) (aj (show 0<=iN (i64.wrap (z-0)).toNat from(Int.natCast_nonneg _)) (show iN (i64.wrap (z-0)).toNat<=iN (i64.wrap (z-0)).toNat by omega))))) s2))))))))) (al (u2 s2)))) t3))
 (fun a1=>
  .rt [32] [] [] [] [] [] (aj (aj a1 (al (u2 s2))) t2)))) (by kernel_rfl)
theorem NS(z:Int)(r:Ret)(h:Ax (grwStep z) (IB z) r):CT TA 112 ([]) ([.nils,.int .i64 z]) r.1 r.2:=
 CT.mach (fn:=Try.f112) (c:=zB Try.f112) (S:=grwSt z) (hd:=grwHd) Try.func112 (by kernel_rfl) (nL rfl)
  (fun s o ho=>match s,ho with
   | x,_=>x.elim)
  (fun o ho=>grwEn_ok z o ho) h
inductive Dq where
 | l0 (v0:Int) (v1:List Int)
def GK(x:Av)(k:Int):Dq->St
 | .l0 v0 v1=>St.mk 20 [(1,iv v0),(2,AV.ptr 0 0 0),(5,AV.sl 1 0 v1.length)] [some (bK [sA x] 6),some (bK (Tt iv v1) 1)]
def Kv:Dq->Nat
 | .l0 _ _=>0
def Kp(x:Av)(k:Int):Option (Dq⊕Ret):=
 some (.inl (.l0 k ([])))
def GS(x:Av)(k v0:Int)(v1:List Int):Option (Dq⊕Ret):=
 br (decide (v0<x.k))
 (gu ((Tt iV v1).length+[iV (i64.wrap (x.b+v0))].length<=9223372036854775807) <|
  gu (((Tt iV v1).length+[iV (i64.wrap (x.b+v0))].length) * 8<=140737488355328) <|
  some (.inl (.l0 (i64.wrap (v0+1)) (v1++[i64.wrap (x.b+v0)]))))
 (some (.inr ([some (bK (Tt iV v1) 1)],AV.sl 0 0 v1.length)))
def slkStep(x:Av)(k:Int):Dq->Option (Dq⊕Ret)
 | .l0 v0 v1=>GS x k v0 v1
theorem slkEn_ok(x:Av)(k:Int)(o:Dq⊕Ret)(h:Kp x k=some o):Arr TA Try.f63 0 (GK x k) Kv (zB Try.f63) [] {n:=Try.f63.ntmps,fr:=AK 0 ([sA x,.int .i64 k]),hp:=([])} o:=
 Scr.ok h mix (
 .lp [] [] [] [] [(5,1)] [0,1] [1,2,5] (aj (ag t2 s2) t6)) (by kernel_rfl)
theorem slkS0_ok(x:Av)(k v0:Int)(v1:List Int)(o:Dq⊕Ret)(h:GS x k v0 v1=some o):Arr TA Try.f63 0 (GK x k) Kv (Ay Try.f63 0) (.rnd (Ay Try.f63 0)::AN Try.f63 0) (GK x k (.l0 v0 v1)) o:=
 Scr.ok h mix (
 .rn 0 [] [] [] [] (al (u2 (u2 (u2 (al t3))))) <|
 .br (fun a0=>
 .gu fun a1=>
 .gu fun a2=>
 .lq [19] [] [] [] [] [0,3] [1,2,5] (up [(5,AV.sl 1 0 ((Tt iv v1).length+[iv (i64.wrap (x.b+v0))].length))] [(1,Tt iv v1++[iv (i64.wrap (x.b+v0))])] (GK x k (.l0 (i64.wrap (v0+1)) (v1++[i64.wrap (x.b+v0)])))) (aj (aj a0 (aj (u2 (u2 (u2 (u2 (aj t3 (u2 (aj (k2 (aj (show(Tt iv v1).length=v1.length by simp) (aj (aj (show nat_lit 1=nat_lit 1 from rfl) (show 1<=[iv (i64.wrap (x.b+v0))].length by simp)) (aj a1 a2)))) s2))))))) (al (u2 (u2 s2))))) t6) (by simp[up,upF,upV,upH,upB,GK,gL,boL,lI,sA]))
 (fun a0=>
 .rt [18] [] [] [] [1] [] (aj (aj a0 (al (u2 s2))) t3))) (by kernel_rfl)
theorem slk_ct(x:Av)(k:Int)(r:Ret)(h:Ax (slkStep x k) (Kp x k) r):CT TA 63 ([]) ([sA x,.int .i64 k]) r.1 r.2:=
 CT.mach (fn:=Try.f63) (c:=zB Try.f63) (S:=GK x k) (hd:=Kv) Try.func63 (by kernel_rfl) (nL rfl)
  (fun s o ho=>match s,ho with
   | .l0 v0 v1,ho=>slkS0_ok x k v0 v1 o ho
  )
  (fun o ho=>slkEn_ok x k o ho) h
theorem CT.virt{f:FuncId}{hin hout:List (Option Blk)}{args:List AV}(z:Nat)(h:CT TA f hin args hout .nils):CT TA f hin args (hout++[some (Blk.mk [] z true true none)]) (.sl hout.length 0 0):=by
 intro φ A w vs h1 h2 h3 h4 h5
 refine(h φ A w vs h1 h2 h3 h4 h5).mono fun e w' ⟨v,φ',he,C⟩=>⟨v,φ',he,?_⟩
 have hnone:φ' hout.length=none:=C.out _ (SG _)
 have hmut:∀r,Mut φ' (nth (hout++[some (Blk.mk [] z true true none)])) r->Mut φ' (nth hout) r:=by
  rintro r ⟨b,blk',z',g1,g2,g3⟩
  rcases Fm g1 with g | ⟨rfl,rfl⟩
  .exact⟨b,blk',z',g,g2,g3⟩
  .rw[hnone] at g3;cases g3
 have hok:∀r,Ok A w.heap.size φ' (nth hout) w' r->Ok A w.heap.size φ' (nth (hout++[some (Blk.mk [] z true true none)])) w' r:=fun r ⟨g1,g2,g3⟩=>⟨g1,g2,fun h=>g3 (hmut r h)⟩
 have brm:∀{b:Nat} {blk:Blk},BR φ' (Ok A w.heap.size φ' (nth hout) w') w' b blk->BR φ' (Ok A w.heap.size φ' (nth (hout++[some (Blk.mk [] z true true none)])) w') w' b blk:=by
  rintro b blk (h1 | ⟨r,cs,T,h1,h2,h3,h5⟩ | h1)
  .exact .inl h1
  .refine .inr (.inl ⟨r,cs,T,h1,h2,h3,fun i e he=>⟨(h5 i e he).1,fun j c hc=>?_⟩⟩)
   obtain⟨g3,v,g4,g5⟩:=(h5 i e he).2 j c hc
   exact⟨g3,v,g4,g5.mono (fun _ _ h=>h) hok (fun _ _=>rfl) (fun _=>SG _)⟩
  .exact .inr (.inr h1)
 have hlen:(hout++[some (Blk.mk [] z true true none)]).length=hout.length+1:=by simp
 have hs:∀b r z',(nth (hout++[some (Blk.mk [] z true true none)]) b).isSome=true->φ' b=some (r,z')->(nth hout b).isSome=true:=by
  intro b r z' g1 g2
  obtain⟨blk',g⟩:=Option.isSome_iff_exists.1 g1
  rcases Fm g with g | ⟨rfl,_⟩
  .rw[g];rfl
  .rw[hnone] at g2;cases g2
 refine⟨C.par,C.keep,fun r hr=>C.mutd r (hmut r hr),⟨fun b blk' hb'=>?_,fun b blk' hb' hf=>?_,fun b b' r z1 z2 g1 g2 g3 g4=>C.heap.inj b b' r z1 z2 (hs b r z1 g1 g3) (hs b' r z2 g2 g4) g3 g4⟩,?_,fun b hb'=>C.out b (by rw[hlen] at hb';omega),by have:=C.len;rw[hlen];omega,C.own⟩
 .rcases Fm hb' with g | ⟨rfl,rfl⟩
  .exact brm (C.heap.blk b blk' g)
  .exact .inl ⟨rfl,hnone,rfl,rfl⟩
 .rcases Fm hb' with g | ⟨rfl,rfl⟩
  .exact C.heap.flat b blk' g hf
  .intro e he;cases he
 .have:=C.val
  rw[this.nils_inv]
  exact .slnil _ 0 none
theorem Cq.nought{es:List AV}{z:Nat}{fl:Bool}:Cq (Blk.mk es z fl true none) (Blk.mk [] z true true none):=⟨rfl,fun _=>rfl,rfl,SH _,fun i e h=>(by simp at h),fun _ e he=>(by cases he),fun _=>rfl⟩
theorem grow_c(n:Int)(h0:0<=n/\n<=10000000000):CT TA 112 [] [.nils,.int .i64 n] [some (Blk.mk [] 1 true true none)] (.sl 0 0 0):=by
 obtain⟨h0,h1⟩:=h0
 have hw:i64.wrap (n-0)=n:=by rw[Int.sub_zero];exact Fz (by omega) (by omega)
 by_cases hp:0<n
 .refine CT.lessOut (hout:=[some (Blk.mk (Tu (i64.wrap (n-0)).toNat (AV.int i64 0)) 1 true true none)]) ?_ rfl fun b blk' hb=>?_
  .refine NS n ([_],.sl 0 0 0) (.val ?_)
   unfold IB
   rw[Ak (Ar (by omega)),hw,An (AF hp),Aa hp,Aa (by omega),Aa (by omega)]
  .match b,hb with
   | 0,hb=>cases hb;exact⟨_,rfl,Cq.nought,rfl⟩
 .have e:n=0:=by omega
  subst e
  refine CT.virt 1 (hout:=[]) ?_
  refine NS 0 ([],.nils) (.val ?_)
  unfold IB
  rw[Ak (by rfl),hw,Ak (by rfl)]
theorem Dd(x:Av)(k:Int)(hk:0<=k/\k<=1000)(hb:0<=x.b/\x.b<=1000)(hx:x.k<=1000):CT TA 63 [] [sA x,.int .i64 k] [some (Blk.mk ((Ae x k).map (AV.int .i64)) 1 true true none)] (.sl 0 0 (Ae x k).length):=by
 refine slk_ct x k ([_],_) ?_
 unfold Kp
 have e0:(some (.inl (Dq.l0 (k+((0:Nat):Int)) ((Tx 0).map fun i:Nat=>x.b+k+(i:Int)))):Option (Dq⊕Ret))=some (.inl (.l0 k [])):=by simp
 rw[<-e0]
 refine Dc (fun i=>Dq.l0 (k+(i:Int)) ((Tx i).map fun i:Nat=>x.b+k+(i:Int))) (x.k-k).toNat (fun i hi hx=>?_) ?_
 .refine .to (show GS x k _ _=_ from ?_) hx
  unfold GS
  have w1:i64.wrap (x.b+(k+(i:Int)))=x.b+k+(i:Int):=by rw[Fz (by omega) (by omega)];omega
  have w2:i64.wrap (k+(i:Int)+1)=k+((i+1:Nat):Int):=by rw[Fz (by omega) (by omega)];omega
  rw[An (AF (by omega)),Aa (by simp only[Sy,Td,Ta,Tb];omega),Aa (by simp only[Sy,Td,Ta,Tb];omega),w1,w2,rngM]
 .refine .to (show GS x k _ _=_ from ?_) (.ret _)
  unfold GS
  rw[Ak (Ar (by omega))];rfl
inductive Ex where
 | l0 (v0:Int)
def IQ(q:Af)(l:List Int)(z:Nat):Ex->St
 | .l0 v0=>St.mk 19 [(0,AV.sl 0 0 z),(1,AV.fn 138 [AV.ptr 1 0 0]),(7,iv (iN z)),(8,iv v0)] [some (bK (Tt iv l) 1),some (bK [AV.agg [Tz (boL q.cl),Tz (Tt iv q.bw),Tz (Tt iv q.pe)]] 3)]
def KS:Ex->Nat
 | .l0 _=>0
def L9(q:Af)(l:List Int)(z:Nat):Option (Ex⊕Ret):=
 some (.inl (.l0 ((0:Int))))
def Ft(q:Af)(l:List Int)(z:Nat)(v0:Int):Option (Ex⊕Ret):=
 br (decide (v0<iN z))
 (gu (0<=v0) <|
  gu (v0<iN z) <|
  el l (0+v0.toNat) fun(x15:Int)=>
  gu (0<=x15/\x15<iN q.cl.length) <|
  br (q.cl.getD x15.toNat true)
  (some (.inr ([some (bK (Tt iV l) 1),some (bK [AV.agg [Tz (boL q.cl),Tz (Tt iV q.bw),Tz (Tt iV q.pe)]] 3)],iV v0)))
  (some (.inl (.l0 (i64.wrap (v0+1))))))
 (some (.inr ([some (bK (Tt iV l) 1),some (bK [AV.agg [Tz (boL q.cl),Tz (Tt iV q.bw),Tz (Tt iV q.pe)]] 3)],iV (-1))))
def ixlStep(q:Af)(l:List Int)(z:Nat):Ex->Option (Ex⊕Ret)
 | .l0 v0=>Ft q l z v0
theorem ixlEn_ok(q:Af)(l:List Int)(z:Nat)(o:Ex⊕Ret)(h:L9 q l z=some o):Arr TA Try.f133 2 (IQ q l z) KS (zB Try.f133) [] {n:=Try.f133.ntmps,fr:=AK 0 ([.sl 0 0 z,.fn 138 [.ptr 1 0 0]]),hp:=([some (bK (l.map (AV.int .i64)) 1),some (bK [sgA q] 3)])} o:=
 Scr.ok h mix (
 .lp [] [] [] [] [] [0,1] [0,1,7,8] (aj (u2 (al (u2 (u2 t2)))) (ak (u2 t5)))) (by kernel_rfl)
theorem ixlS0_ok(q:Af)(l:List Int)(z:Nat)(v0:Int)(o:Ex⊕Ret)(h:Ft q l z v0=some o):Arr TA Try.f133 2 (IQ q l z) KS (Ay Try.f133 0) (.rnd (Ay Try.f133 0)::AN Try.f133 0) (IQ q l z (.l0 v0)) o:=
 Scr.ok h mix (
 .rn 0 [] [] [] [] (al (al t3)) <|
 .br (fun a0=>
 .rn 0 [19] [] [] [] (aj a0 (al (u2 s2))) <|
 .gu fun a1=>
 .gu fun a2=>
 .el fun x15 a3=>
 .gu fun a4=>
 have c0:=pd1_c q x15 a4;
 .rn 0 [] [(15,iv x15)] [(16,hK c0 [1] [])] [] (al (u2 (u2 (u2 (aj (k2 (aj a1 a2)) (aj (ak (AE (f:=iv) a3)) (al (k5 (al (c0)))))))))) <|
 .br (fun a5=>
  .rt [33] [] [] [] [0,1] [] (aj (aj a5 (al (u2 s2))) t4))
 (fun a5=>
  .lp [32] [] [] [] [] [0,1] [0,1,7,8] (aj (aj a5 (al (u2 s2))) (ak (u2 t5)))))
 (fun a0=>
 .rt [18] [] [] [] [0,1] [] (aj (aj a0 s2) t4))) (by kernel_rfl)
theorem ixl_ct(q:Af)(l:List Int)(z:Nat)(r:Ret)(h:Ax (ixlStep q l z) (L9 q l z) r):CT TA 133 ([some (bK (l.map (AV.int .i64)) 1),some (bK [sgA q] 3)]) ([.sl 0 0 z,.fn 138 [.ptr 1 0 0]]) r.1 r.2:=
 CT.mach (fn:=Try.f133) (c:=zB Try.f133) (S:=IQ q l z) (hd:=KS) Try.func133 (by kernel_rfl) (nL rfl)
  (fun s o ho=>match s,ho with
   | .l0 v0,ho=>ixlS0_ok q l z v0 o ho
  )
  (fun o ho=>ixlEn_ok q l z o ho) h
theorem ixl_c(q:Af)(l:List Int)(z:Nat)(hz:z=l.length)(hl:l.length<=1000000)(hr:∀c∈l,0<=c/\c<(q.cl.length:Int)):CT TA 133 [some (Blk.mk (l.map (AV.int .i64)) 1 true true none),some (Blk.mk [sgA q] 3 true true none)] [.sl 0 0 z,.fn 138 [.ptr 1 0 0]] [some (Blk.mk (l.map (AV.int .i64)) 1 true true none),some (Blk.mk [sgA q] 3 true true none)] (.int .i64 (Hx q.cl l)):=by
 subst hz
 refine ixl_ct q l l.length ([_,_],_) ?_
 unfold L9 Hx
 refine(Kl (fun i=>Ex.l0 (i:Int)) l.length (fun i=>q.cl.getD (l.getD i 0).toNat true) (rF:=fun i=>(([some (Blk.mk (l.map (AV.int .i64)) 1 true true none),some (Blk.mk [sgA q] 3 true true none)],.int .i64 (i:Int)):Ret)) (r:=([some (Blk.mk (l.map (AV.int .i64)) 1 true true none),some (Blk.mk [sgA q] 3 true true none)],.int .i64 (-1))) (fun i hi hp=>?_) (fun i x hi hp hx=>?_) (fun _=>?_)).res (by cases fnd (fun i=>q.cl.getD (l.getD i 0).toNat true) 0 l.length<;>rfl)
 .have hm:=hr _ (EV hi)
  refine .to (show Ft q l l.length i=_ from ?_) (.ret _)
  unfold Ft
  rw[An (AF (by simp only[iN];omega)),Aa (by omega),Aa (by simp only[iN];omega),SK,elG 0 hi,Aa hm,An hp];rfl
 .have hm:=hr _ (EV hi)
  refine .to (show Ft q l l.length i=_ from ?_) hx
  unfold Ft
  rw[An (AF (by simp only[iN];omega)),Aa (by omega),Aa (by simp only[iN];omega),SK,elG 0 hi,Aa hm,Ak hp,zW i (by omega)]
 .refine .to (show Ft q l l.length l.length=_ from ?_) (.ret _)
  unfold Ft
  rw[Ak (Ar (by simp only[iN];omega))];rfl
def cflSt(q:Af)(l:List Int)(z:Nat):Empty->St
 | x=>x.elim
def cflHd:Empty->Nat
 | x=>x.elim
def K5(q:Af)(l:List Int)(z:Nat):Option (Empty⊕Ret):=
 gu (z=l.length) <|
 gu (l.length<=1000000) <|
 gu (∀(c:Int),c∈l->0<=c/\c<iN q.cl.length) <|
 some (.inr ([some (bK (Tt iV l) 1),some (bK [AV.agg [Tz (boL q.cl),Tz (Tt iV q.bw),Tz (Tt iV q.pe)]] 3)],bV (decide (0<=Hx q.cl l))))
def cflStep(q:Af)(l:List Int)(z:Nat):Empty->Option (Empty⊕Ret)
 | x=>x.elim
theorem cflEn_ok(q:Af)(l:List Int)(z:Nat)(o:Empty⊕Ret)(h:K5 q l z=some o):Arr TA Try.f137 2 (cflSt q l z) cflHd (zB Try.f137) [] {n:=Try.f137.ntmps,fr:=AK 0 ([.sl 0 0 z,.fn 138 [.ptr 1 0 0]]),hp:=([some (bK (l.map (AV.int .i64)) 1),some (bK [sgA q] 3)])} o:=
 Scr.ok h mix (
 .rn 0 [] [] [] [] s2 <|
 .gu fun a0=>
 .gu fun a1=>
 .gu fun a2=>
 have c0:=ixl_c q l z a0 a1 a2;
 .rt [] [] [(7,hK c0 [0,1] [])] [] [0,1] [] (aj (al (u2 (u2 (aj (k3 (u2 (k2 (al (c0))))) (u2 s2))))) t4)) (by kernel_rfl)
theorem cfl_ct(q:Af)(l:List Int)(z:Nat)(r:Ret)(h:Ax (cflStep q l z) (K5 q l z) r):CT TA 137 ([some (bK (l.map (AV.int .i64)) 1),some (bK [sgA q] 3)]) ([.sl 0 0 z,.fn 138 [.ptr 1 0 0]]) r.1 r.2:=
 CT.mach (fn:=Try.f137) (c:=zB Try.f137) (S:=cflSt q l z) (hd:=cflHd) Try.func137 (by kernel_rfl) (nL rfl)
  (fun s o ho=>match s,ho with
   | x,_=>x.elim)
  (fun o ho=>cflEn_ok q l z o ho) h
theorem cfl_c(q:Af)(l:List Int)(z:Nat)(hz:z=l.length)(hl:l.length<=1000000)(hr:∀c∈l,0<=c/\c<(q.cl.length:Int)):CT TA 137 [some (Blk.mk (l.map (AV.int .i64)) 1 true true none),some (Blk.mk [sgA q] 3 true true none)] [.sl 0 0 z,.fn 138 [.ptr 1 0 0]] [some (Blk.mk (l.map (AV.int .i64)) 1 true true none),some (Blk.mk [sgA q] 3 true true none)] (.bool (!(Bh q.cl l))):=by
 refine cfl_ct q l z ([_,_],_) (.val ?_)
 unfold K5
 rw[Aa hz,Aa hl,Aa hr,pasZ_b];rfl
def palSt(q:Af)(l:List Int)(z:Nat):Empty->St
 | x=>x.elim
def palHd:Empty->Nat
 | x=>x.elim
def L5(q:Af)(l:List Int)(z:Nat):Option (Empty⊕Ret):=
 gu (z=l.length) <|
 gu (l.length<=1000000) <|
 gu (∀(c:Int),c∈l->0<=c/\c<iN q.cl.length) <|
 some (.inr ([some (bK (Tt iV l) 1)],bV !!Bh q.cl l))
def palStep(q:Af)(l:List Int)(z:Nat):Empty->Option (Empty⊕Ret)
 | x=>x.elim
theorem palEn_ok(q:Af)(l:List Int)(z:Nat)(o:Empty⊕Ret)(h:L5 q l z=some o):Arr TA Try.f110 1 (palSt q l z) palHd (zB Try.f110) [] {n:=Try.f110.ntmps,fr:=AK 0 ([sgA q,.sl 0 0 z]),hp:=([some (bK (l.map (AV.int .i64)) 1)])} o:=
 Scr.ok h mix (
 .rn 0 [] [] [] [] (al (u2 t2)) <|
 .gu fun a0=>
 .gu fun a1=>
 .gu fun a2=>
 have c0:=cfl_c q l z a0 a1 a2;
 .rt [] [] [(7,hK c0 [0,1] [])] [] [0] [] (aj (al (u2 (u2 (aj (k3 (u2 (k2 (al (c0))))) (u2 s2))))) t3)) (by kernel_rfl)
theorem pal_ct(q:Af)(l:List Int)(z:Nat)(r:Ret)(h:Ax (palStep q l z) (L5 q l z) r):CT TA 110 ([some (bK (l.map (AV.int .i64)) 1)]) ([sgA q,.sl 0 0 z]) r.1 r.2:=
 CT.mach (fn:=Try.f110) (c:=zB Try.f110) (S:=palSt q l z) (hd:=palHd) Try.func110 (by kernel_rfl) (nL rfl)
  (fun s o ho=>match s,ho with
   | x,_=>x.elim)
  (fun o ho=>palEn_ok q l z o ho) h
theorem pal_c(q:Af)(l:List Int)(z:Nat)(hz:z=l.length)(hl:l.length<=1000000)(hr:∀c∈l,0<=c/\c<(q.cl.length:Int)):CT TA 110 [some (Blk.mk (l.map (AV.int .i64)) 1 true true none)] [sgA q,.sl 0 0 z] [some (Blk.mk (l.map (AV.int .i64)) 1 true true none)] (.bool (Bh q.cl l)):=by
 refine pal_ct q l z ([_],_) (.val ?_)
 unfold L5
 rw[Aa hz,Aa hl,Aa hr,Bool.not_not]
def rskSt(q:Af)(l:List Int)(z:Nat):Empty->St
 | x=>x.elim
def rskHd:Empty->Nat
 | x=>x.elim
def J9(q:Af)(l:List Int)(z:Nat):Option (Empty⊕Ret):=
 gu (z=l.length) <|
 gu (l.length<=1000000) <|
 gu (∀(c:Int),c∈l->0<=c/\c<iN q.cl.length) <|
 br (!Bh q.cl l)
 (some (.inr ([some (bK (Tt iV l) 1)],AV.tup [AV.nils,bV false,iV 0])))
 (some (.inr ([some (bK (Tt iV l) 1)],AV.tup [AV.sl 0 0 z,bV true,iV 0])))
def rskStep(q:Af)(l:List Int)(z:Nat):Empty->Option (Empty⊕Ret)
 | x=>x.elim
theorem rskEn_ok(q:Af)(l:List Int)(z:Nat)(o:Empty⊕Ret)(h:J9 q l z=some o):Arr TA Try.f64 1 (rskSt q l z) rskHd (zB Try.f64) [] {n:=Try.f64.ntmps,fr:=AK 0 ([sgA q,.sl 0 0 z]),hp:=([some (bK (l.map (AV.int .i64)) 1)])} o:=
 Scr.ok h mix (
 .rn 0 [] [] [] [] (al (u2 t4)) <|
 .gu fun a0=>
 .gu fun a1=>
 .gu fun a2=>
 have c0:=pal_c q l z a0 a1 a2;
 .rn 0 [] [] [(9,hK c0 [0] [])] [] (al (u2 (u2 (aj (k2 (aj t4 (k2 (al (c0))))) s2)))) <|
 .br (fun a3=>
 .rt [21] [] [] [] [0] [] (aj (aj a3 (al t4)) (aj t4 t2)))
 (fun a3=>
 .rt [20] [] [] [] [0] [] (aj (aj a3 (al (u2 (u2 t3)))) (aj t4 t2)))) (by kernel_rfl)
theorem M2(q:Af)(l:List Int)(z:Nat)(r:Ret)(h:Ax (rskStep q l z) (J9 q l z) r):CT TA 64 ([some (bK (l.map (AV.int .i64)) 1)]) ([sgA q,.sl 0 0 z]) r.1 r.2:=
 CT.mach (fn:=Try.f64) (c:=zB Try.f64) (S:=rskSt q l z) (hd:=rskHd) Try.func64 (by kernel_rfl) (nL rfl)
  (fun s o ho=>match s,ho with
   | x,_=>x.elim)
  (fun o ho=>rskEn_ok q l z o ho) h
inductive DV where
 | l0 (v0 v1:Int)
 | l1 (v0:List Int) (v1:Int)
def Fw(l y z:List Int):DV->St
 | .l0 v0 v1=>St.mk 36 [(0,AV.sl 0 0 3),(3,iv v0),(9,AV.sl 0 0 3),(10,iv 3),(11,iv v1)] [some (bK [Tz (Tt iv l),Tz (Tt iv y),Tz (Tt iv z)] 1)]
 | .l1 v0 v1=>St.mk 36 [(6,AV.sl 1 0 v0.length),(25,AV.sl 0 0 3),(26,iv 3),(27,iv v1)] [some (bK [Tz (Tt iv l),Tz (Tt iv y),Tz (Tt iv z)] 1),some (bK (Tt iv v0) 1)]
def Kf:DV->Nat
 | .l0 _ _=>0
 | .l1 _ _=>1
def LC(l y z:List Int):Option (DV⊕Ret):=
 some (.inl (.l0 ((0:Int)) ((0:Int))))
def D2(l y z:List Int)(v0 v1:Int):Option (DV⊕Ret):=
 br (decide (v1<3))
 (gu (0<=v1) <|
  gu (v1<3) <|
  el ([l,y,z]) (0+v1.toNat) fun(x14:List Int)=>
  br (decide (i64.wrap (v0+iN (Tt iV x14).length)<0))
  (none)
  (some (.inl (.l0 (i64.wrap (v0+iN (Tt iV x14).length)) (i64.wrap (v1+1))))))
 (gu (0<=v0/\v0<=10000000000) <|
  some (.inl (.l1 ([]) ((0:Int)))))
def D3(l y z:List Int)(v0:List Int)(v1:Int):Option (DV⊕Ret):=
 br (decide (v1<3))
 (gu (0<=v1) <|
  gu (v1<3) <|
  el ([l,y,z]) (0+v1.toNat) fun(x30:List Int)=>
  gu (∀(e:AV),e∈Tt iV x30->e.cells.length=1) <|
  gu ((Tt iV v0).length+(Tt iV x30).length<=9223372036854775807) <|
  gu (((Tt iV v0).length+(Tt iV x30).length) * 8<=140737488355328) <|
  some (.inl (.l1 (v0++x30) (i64.wrap (v1+1)))))
 (some (.inr ([some (bK [Tz (Tt iV l),Tz (Tt iV y),Tz (Tt iV z)] 1),some (bK (Tt iV v0) 1)],AV.sl 1 0 v0.length)))
def cc3Step(l y z:List Int):DV->Option (DV⊕Ret)
 | .l0 v0 v1=>D2 l y z v0 v1
 | .l1 v0 v1=>D3 l y z v0 v1
theorem cc3En_ok(l y z:List Int)(o:DV⊕Ret)(h:LC l y z=some o):Arr TA Try.f68 1 (Fw l y z) Kf (zB Try.f68) [] {n:=Try.f68.ntmps,fr:=AK 0 ([.sl 0 0 3]),hp:=([some (bK [lI l,lI y,lI z] 1)])} o:=
 Scr.ok h mix (
 .lp [] [] [] [] [] [0] [0,3,9,10,11] (aj (u2 (u2 (al (u2 (u2 t2))))) t7)) (by kernel_rfl)
theorem cc3S0_ok(l y z:List Int)(v0 v1:Int)(o:DV⊕Ret)(h:D2 l y z v0 v1=some o):Arr TA Try.f68 1 (Fw l y z) Kf (Ay Try.f68 0) (.rnd (Ay Try.f68 0)::AN Try.f68 0) (Fw l y z (.l0 v0 v1)) o:=
 Scr.ok h mix (
 .rn 0 [] [] [] [] (al (al t3)) <|
 .br (fun a0=>
 .gu fun a1=>
 .gu fun a2=>
 .el fun x14 a3=>
 .rn 2 [25] [(14,lI x14)] [] [] (aj a0 (aj (aj (k2 (aj a1 a2)) (aj (ak (AE (f:=lI) a3)) s2)) (aj (u2 (u2 (u2 (aj t3 s2)))) (al (u2 s2))))) <|
 .br (fun a4=>
  .no)
 (fun a4=>
  .lp [40] [] [] [] [] [0] [0,3,9,10,11] (aj (aj a4 (al (u2 s2))) t7)))
 (fun a0=>
 .gu fun a1=>
 have c0:=grow_c v0 a1;
 .lp [24] [] [(24,hK c0 [] [])] [] [] [0,1] [6,25,26,27] (aj (aj a0 (aj (u2 (aj (k3 (al (c0))) s2)) (al (u2 (u2 t2))))) t7))) (by kernel_rfl)
theorem cc3S1_ok(l y z:List Int)(v0:List Int)(v1:Int)(o:DV⊕Ret)(h:D3 l y z v0 v1=some o):Arr TA Try.f68 1 (Fw l y z) Kf (Ay Try.f68 1) (.rnd (Ay Try.f68 1)::AN Try.f68 1) (Fw l y z (.l1 v0 v1)) o:=
 Scr.ok h mix (
 .rn 0 [] [] [] [] (al (al t3)) <|
 .br (fun a0=>
 .gu fun a1=>
 .gu fun a2=>
 .el fun x30 a3=>
 .rn 0 [57] [(30,lI x30)] [] [] (aj a0 (al (aj (k2 (aj a1 a2)) (aj (ak (AE (f:=lI) a3)) s2)))) <|
 .gu fun a4=>
 .gu fun a5=>
 .gu fun a6=>
 .lq [] [] [] [] [] [0,2] [6,25,26,27] (up [(6,AV.sl 1 0 ((Tt iv v0).length+(Tt iv x30).length))] [(1,Tt iv v0++Tt iv x30)] (Fw l y z (.l1 (v0++x30) (i64.wrap (v1+1))))) (aj (aj (u2 (u2 (aj (k2 (aj (show(Tt iv v0).length=v0.length by simp) (aj a4 (aj a5 a6)))) s2))) (al (u2 s2))) t7) (by simp[up,upF,upV,upH,upB,Fw,gL,boL,lI]))
 (fun a0=>
 .rt [56] [] [] [] [0,1] [] (aj (aj a0 (al (u2 s2))) t4))) (by kernel_rfl)
theorem cc3_ct(l y z:List Int)(r:Ret)(h:Ax (cc3Step l y z) (LC l y z) r):CT TA 68 ([some (bK [lI l,lI y,lI z] 1)]) ([.sl 0 0 3]) r.1 r.2:=
 CT.mach (fn:=Try.f68) (c:=zB Try.f68) (S:=Fw l y z) (hd:=Kf) Try.func68 (by kernel_rfl) (nL rfl)
  (fun s o ho=>match s,ho with
   | .l0 v0 v1,ho=>cc3S0_ok l y z v0 v1 o ho
   | .l1 v0 v1,ho=>cc3S1_ok l y z v0 v1 o ho
  )
  (fun o ho=>cc3En_ok l y z o ho) h
theorem HW(q:Af)(l:List Int)(z:Nat)(hz:z=l.length)(hl:l.length<=1000000)(hr:∀c∈l,0<=c/\c<(q.cl.length:Int))(hp:Bh q.cl l=true):CT TA 64 [some (Blk.mk (l.map (AV.int .i64)) 1 true true none)] [sgA q,.sl 0 0 z] [some (Blk.mk (l.map (AV.int .i64)) 1 true true none)] (.tup [.sl 0 0 z,.bool true,.int .i64 0]):=by
 refine M2 q l z ([_],_) (.val ?_)
 unfold J9
 rw[Aa hz,Aa hl,Aa hr,hp,Ak (by rfl)]
theorem Il(q:Af)(l:List Int)(z:Nat)(hz:z=l.length)(hl:l.length<=1000000)(hr:∀c∈l,0<=c/\c<(q.cl.length:Int))(hp:Bh q.cl l=false):CT TA 64 [some (Blk.mk (l.map (AV.int .i64)) 1 true true none)] [sgA q,.sl 0 0 z] [some (Blk.mk (l.map (AV.int .i64)) 1 true true none)] (.tup [.nils,.bool false,.int .i64 0]):=by
 refine M2 q l z ([_],_) (.val ?_)
 unfold J9
 rw[Aa hz,Aa hl,Aa hr,hp,An (by rfl)]
theorem ER(l y z:List Int)(hl:(l++y++z).length<=1000000):CT TA 68 [some (Blk.mk [lI l,lI y,lI z] 1 true true none)] [.sl 0 0 3] [some (Blk.mk [.any,.any,.any] 1 true true none),some (Blk.mk ((l++y++z).map (AV.int .i64)) 1 true true none)] (.sl 1 0 (l++y++z).length):=by
 simp only[SO] at hl
 obtain⟨h1,h2,h3⟩:l.length<=1000000/\y.length<=1000000/\z.length<=1000000:=⟨by omega,by omega,by omega⟩
 refine CT.lessOut (hout:=[some (Blk.mk [lI l,lI y,lI z] 1 true true none),some (Blk.mk ((l++y++z).map (AV.int .i64)) 1 true true none)]) ?_ rfl fun b blk' hb=>?_
 .refine cc3_ct l y z ([_,_],_) ?_
  unfold LC
  have w1:i64.wrap (0+iN (Tt (AV.int i64) l).length)=(l.length:Int):=by
   rw[Int.zero_add,Fz]<;>simp only[iN,Sy]<;>omega
  have w2:i64.wrap ((l.length:Int)+iN (Tt (AV.int i64) y).length)=((l.length+y.length:Nat):Int):=by
   rw[Fz]<;>simp only[iN,Sy]<;>omega
  have w5:i64.wrap (((l.length+y.length:Nat):Int)+iN (Tt (AV.int i64) z).length)=((l.length+y.length+z.length:Nat):Int):=by
   rw[Fz]<;>simp only[iN,Sy]<;>omega
  have w3:i64.wrap (0+1)=1:=by decide
  have w4:i64.wrap (1+1)=2:=by decide
  have w6:i64.wrap (2+1)=3:=by decide
  refine .to (show D2 l y z 0 0=some (.inl (.l0 (l.length:Int) 1)) from ?_) (.to (show D2 l y z _ 1=some (.inl (.l0 ((l.length+y.length:Nat):Int) 2)) from ?_) (.to (show D2 l y z _ 2=some (.inl (.l0 ((l.length+y.length+z.length:Nat):Int) 3)) from ?_) (.to (show D2 l y z _ 3=some (.inl (.l1 [] 0)) from ?_) (.to (show D3 l y z [] 0=some (.inl (.l1 l 1)) from ?_) (.to (show D3 l y z l 1=some (.inl (.l1 (l++y) 2)) from ?_) (.to (show D3 l y z (l++y) 2=some (.inl (.l1 (l++y++z) 3)) from ?_) (.to (show D3 l y z (l++y++z) 3=_ from ?_) (.ret _))))))))
  .unfold D2
   rw[An (AF (by omega)),Aa (by omega),Aa (by omega),AY (show [l,y,z][0+Ty 0]?=some l from rfl),w1,Ak (Ar (by omega)),w3]
  .unfold D2
   rw[An (AF (by omega)),Aa (by omega),Aa (by omega),AY (show [l,y,z][0+Ty 1]?=some y from rfl),w2,Ak (Ar (by omega)),w4]
  .unfold D2
   rw[An (AF (by omega)),Aa (by omega),Aa (by omega),AY (show [l,y,z][0+Ty 2]?=some z from rfl),w5,Ak (Ar (by omega)),w6]
  .unfold D2
   rw[Ak (Ar (by omega)),Aa (by omega)]
  .unfold D3
   rw[An (AF (by omega)),Aa (by omega),Aa (by omega),AY (show [l,y,z][0+Ty 0]?=some l from rfl),Aa (BX _),Aa (by simp only[Sy,Tb];omega),Aa (by simp only[Sy,Tb];omega),w3,List.nil_append]
  .unfold D3
   rw[An (AF (by omega)),Aa (by omega),Aa (by omega),AY (show [l,y,z][0+Ty 1]?=some y from rfl),Aa (BX _),Aa (by simp only[Sy];omega),Aa (by simp only[Sy];omega),w4]
  .unfold D3
   rw[An (AF (by omega)),Aa (by omega),Aa (by omega),AY (show [l,y,z][0+Ty 2]?=some z from rfl),Aa (BX _),Aa (by simp only[Sy,SO];omega),Aa (by simp only[Sy,SO];omega),w6]
  .unfold D3
   rw[Ak (Ar (by omega))];rfl
 .match b,hb with
  | 0,hb=>cases hb;exact⟨_,rfl,⟨rfl,fun _=>rfl,rfl,SG _,fun i e he=>(by
    match i,he with
    | 0,he=>cases he;exact⟨_,rfl,rfl,fun j c hc=>(by match j,hc with | 0,hc=>cases hc;exact⟨_,rfl,Bj.any rfl⟩)⟩
    | 1,he=>cases he;exact⟨_,rfl,rfl,fun j c hc=>(by match j,hc with | 0,hc=>cases hc;exact⟨_,rfl,Bj.any rfl⟩)⟩
    | 2,he=>cases he;exact⟨_,rfl,rfl,fun j c hc=>(by match j,hc with | 0,hc=>cases hc;exact⟨_,rfl,Bj.any rfl⟩)⟩),fun _ e he=>(by simp only[SY,List.not_mem_nil,or_false] at he;rcases he with rfl | rfl | rfl<;>intro c hc<;>rw[Sk.1 hc]<;>rfl),fun e=>(by cases e)⟩,rfl⟩
  | 1,hb=>cases hb;exact⟨_,rfl,Cq.refl (fun _ e he=>by obtain⟨x,_,rfl⟩:=S0.1 he;intro c hc;rw[Sk.1 hc];rfl),rfl⟩
  | b+2,hb=>simp[nth] at hb
end Go.Proofs.Ytedjkebooffjpaa

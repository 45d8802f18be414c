/- Parts of the proof:Sg2m,SgC,SgD,SgE,SgH,Rp1m,RpA,Rp2m,RpB,Rp3m,RpC,Sg3m,SgF,SgI,SgG,Sg4m,SgJ,SgK,Sg6m,SgL. -/
import Derived.Test.YtedjkebooffjpaaProg
import Derived.KernelRfl
import Derived.Test.YtedjkebooffjpaaSignalsActsM6
noncomputable section
set_option linter.unusedVariables false
set_option linter.unusedSimpArgs false
open Go Go.AX Go.Proofs
set_option maxRecDepth 100000
set_option maxHeartbeats 4000000
set_option linter.unusedVariables false
set_option linter.unusedSimpArgs false
open Go.IntKind (i64 u64)
namespace Go.Proofs.Ytedjkebooffjpaa
def conSt(l:List Int)(q:Int):Empty->St
 | x=>x.elim
def conHd:Empty->Nat
 | x=>x.elim
def Mh(l:List Int)(q:Int):Option (Empty⊕Ret):=
 gu (l.length<=9223372036854775807) <|
 some (.inr ([],bV (decide (0<=CX l q))))
def conStep(l:List Int)(q:Int):Empty->Option (Empty⊕Ret)
 | x=>x.elim
theorem conEn_ok(l:List Int)(q:Int)(o:Empty⊕Ret)(h:Mh l q=some o):Arr Try.prog Try.f47 0 (conSt l q) conHd (zB Try.f47) [] {n:=Try.f47.ntmps,fr:=AA 0 ([lI l,.int .i64 q]),hp:=([])} o:=
 Scr.ok h mix (
 .rn 0 [] [] [] [] s2 <|
 .gu fun a0=>
 have c0:=idx_c l q a0;
 .rt [] [] [(7,hK c0 [] [])] [] [] [] (aj (al (u2 (u2 (aj (ak (k3 (al (c0)))) (u2 s2))))) t2)) (by kernel_rfl)
theorem con_ct(l:List Int)(q:Int)(r:Ret)(h:Al (conStep l q) (Mh l q) r):CT Try.prog 47 ([]) ([lI l,.int .i64 q]) r.1 r.2:=
 CT.mach (fn:=Try.f47) (c:=zB Try.f47) (S:=conSt l q) (hd:=conHd) Try.func47 (by kernel_rfl) (nL rfl)
  (fun s o ho=>match s,ho with
   | x,_=>x.elim)
  (fun o ho=>conEn_ok l q o ho) h
inductive Ex where
 | l0 (v0:Int)
def JV(l:List Int)(w:Int):Ex->St
 | .l0 v0=>St.mk 19 [(0,AV.sl 0 0 l.length),(1,AV.fn 101 [AV.ptr 1 0 0]),(7,iv (iN l.length)),(8,iv v0)] [some (bK (List.map (iv) l) 1),some (bK [iv w] 1)]
def Nc:Ex->Nat
 | .l0 _=>0
def ixwEn(l:List Int)(w:Int):Option (Ex⊕Ret):=
 some (.inl (.l0 ((0:Int))))
def Fe(l:List Int)(w v0:Int):Option (Ex⊕Ret):=
 br (decide (v0<iN l.length))
 (gu (0<=v0) <|
  gu (v0<iN l.length) <|
  el l (0+v0.toNat) fun(x15:Int)=>
  br (x15==w)
  (some (.inr ([some (bK (List.map iV l) 1),some (bK [iV w] 1)],iV v0)))
  (some (.inl (.l0 (i64.wrap (v0+1))))))
 (some (.inr ([some (bK (List.map iV l) 1),some (bK [iV w] 1)],iV (-1))))
def ixwStep(l:List Int)(w:Int):Ex->Option (Ex⊕Ret)
 | .l0 v0=>Fe l w v0
theorem ixwEn_ok(l:List Int)(w:Int)(o:Ex⊕Ret)(h:ixwEn l w=some o):Arr Try.prog Try.f133 2 (JV l w) Nc (zB Try.f133) [] {n:=Try.f133.ntmps,fr:=AA 0 ([.sl 0 0 l.length,.fn 101 [.ptr 1 0 0]]),hp:=([some (bK (l.map (AV.int .i64)) 1),some (bK [.int .i64 w] 1)])} o:=
 Scr.ok h mix (
 .lp [] [] [] [] [] [0,1] [0,1,7,8] (aj (u2 (al (u2 (u2 t2)))) (ak (u2 t5)))) (by kernel_rfl)
theorem ixwS0_ok(l:List Int)(w v0:Int)(o:Ex⊕Ret)(h:Fe l w v0=some o):Arr Try.prog Try.f133 2 (JV l w) Nc (Av Try.f133 0) (.rnd (Av Try.f133 0)::AG Try.f133 0) (JV l w (.l0 v0)) o:=
 Scr.ok h mix (
 .rn 0 [] [] [] [] (al (al t3)) <|
 .br (fun a0=>
 .rn 0 [19] [] [] [] (aj a0 (al (u2 s2))) <|
 .gu fun a1=>
 .gu fun a2=>
 .el fun x15 a3=>
 have c0:=wh1_c x15 (w);
 .rn 0 [] [(15,iv x15)] [(16,hK c0 [1] [])] [] (al (u2 (u2 (u2 (aj (k2 (aj a1 a2)) (aj (ak (Aq (f:=iv) a3)) (al (k5 (al (c0)))))))))) <|
 .br (fun a4=>
  .rt [33] [] [] [] [0,1] [] (aj (aj a4 (al (u2 s2))) t4))
 (fun a4=>
  .lp [32] [] [] [] [] [0,1] [0,1,7,8] (aj (aj a4 (al (u2 s2))) (ak (u2 t5)))))
 (fun a0=>
 .rt [18] [] [] [] [0,1] [] (aj (aj a0 s2) t4))) (by kernel_rfl)
theorem ixw_ct(l:List Int)(w:Int)(r:Ret)(h:Al (ixwStep l w) (ixwEn l w) r):CT Try.prog 133 ([some (bK (l.map (AV.int .i64)) 1),some (bK [.int .i64 w] 1)]) ([.sl 0 0 l.length,.fn 101 [.ptr 1 0 0]]) r.1 r.2:=
 CT.mach (fn:=Try.f133) (c:=zB Try.f133) (S:=JV l w) (hd:=Nc) Try.func133 (by kernel_rfl) (nL rfl)
  (fun s o ho=>match s,ho with
   | .l0 v0,ho=>ixwS0_ok l w v0 o ho
  )
  (fun o ho=>ixwEn_ok l w o ho) h
inductive C5 where
 | l0 (v0:Int)
 | l1 (v0:Int)
def GA(n:Aa)(q:Ac):C5->St
 | .l0 v0=>St.mk 96 [(2,AV.ptr 0 0 0),(3,AV.ptr 1 0 0),(5,iv v0)] [some (bK [Ad n] 8),some (bK [AV.agg [AV.lst (boL q.cl),AV.lst (List.map (iv) q.bw),AV.lst (List.map (iv) q.pe)]] 3)]
 | .l1 v0=>St.mk 96 [(2,AV.ptr 0 0 0),(3,AV.ptr 1 0 0),(6,iv v0)] [some (bK [Ad n] 8),some (bK [AV.agg [AV.lst (boL q.cl),AV.lst (List.map (iv) q.bw),AV.lst (List.map (iv) q.pe)]] 3)]
def JH:C5->Nat
 | .l0 _=>0
 | .l1 _=>1
def foEn(n:Aa)(q:Ac):Option (C5⊕Ret):=
 gu (Ax n) <|
 br (iN (boL q.cl).length != iN (Ar n))
 (some (.inr ([],bV false)))
 (br (iN (List.map iV q.bw).length != iN (boL q.cl).length)
  (some (.inr ([],bV false)))
  (some (.inl (.l0 ((0:Int))))))
def E6(n:Aa)(q:Ac)(v0:Int):Option (C5⊕Ret):=
 br (decide (v0<iN (List.map iV q.bw).length))
 (gu (0<=v0) <|
  el (q.bw) (v0.toNat) fun(x33:Int)=>
  br (decide (x33 < -1))
  (some (.inr ([],bV false)))
  (el (q.bw) (v0.toNat) fun(x40:Int)=>
   br (decide (8<=x40))
   (some (.inr ([],bV false)))
   (el (q.bw) (v0.toNat) fun(x48:Int)=>
    br (x48 != -1)
    (el (q.cl) (v0.toNat) fun(x55:Bool)=>
     br (!x55)
     (some (.inr ([],bV false)))
     (some (.inl (.l0 (i64.wrap (v0+1))))))
    (some (.inl (.l0 (i64.wrap (v0+1))))))))
 (some (.inl (.l1 ((0:Int)))))
def EH(n:Aa)(q:Ac)(v0:Int):Option (C5⊕Ret):=
 br (decide (v0<iN (List.map iV q.pe).length))
 (gu (0<=v0) <|
  el (q.pe) (v0.toNat) fun(x70:Int)=>
  br (decide (x70<0))
  (some (.inr ([],bV false)))
  (br (decide (iN (List.map bA n.bs).length<=x70))
   (some (.inr ([],bV false)))
   (gu (0<=x70) <|
    el (q.cl) (x70.toNat) fun(x85:Bool)=>
    br x85
    (some (.inr ([],bV false)))
    (gu (∀(e:AV),e∈List.map iV q.pe->e.cells.length=1) <|
     gu (v0<=iN (List.map iV q.pe).length) <|
     gu ((List.take (v0.toNat-Int.toNat 0) (List.drop (Int.toNat 0) q.pe)).length<=9223372036854775807) <|
     br (Ak (List.take (v0.toNat-Int.toNat 0) (List.drop (Int.toNat 0) q.pe)) x70)
     (some (.inr ([],bV false)))
     (some (.inl (.l1 (i64.wrap (v0+1)))))))))
 (some (.inr ([],bV true)))
def foStep(n:Aa)(q:Ac):C5->Option (C5⊕Ret)
 | .l0 v0=>E6 n q v0
 | .l1 v0=>EH n q v0
theorem foEn_ok(n:Aa)(q:Ac)(o:C5⊕Ret)(h:foEn n q=some o):Arr Try.prog Try.f117 0 (GA n q) JH (zB Try.f117) [] {n:=Try.f117.ntmps,fr:=AA 0 ([Ad n,sgA q]),hp:=([])} o:=
 Scr.ok h mix (
 .rn 0 [] [] [] [] (al (u2 (u2 t2))) <|
 .gu fun a0=>
 .br (fun a1=>
 have c0:=Gi a0;
 .rt [29] [] [(12,hK c0 [] [])] [] [] [] (aj (aj (u2 (u2 (u2 (u2 (aj (ak (aj t9 (al (c0)))) (aj t3 (u2 (aj a1 (aj a1 (aj a1 (aj a1 (aj a1 (aj a1 (aj a1 (al (aj a1 t2)))))))))))))))) (ak s2)) t2))
 (fun a1=>
 have c0:=Gi a0;
 .rn 0 [28] [] [(12,hK c0 [] [])] [] (al (u2 (u2 (u2 (u2 (aj (ak (aj t9 (al (c0)))) (aj t3 (u2 (ag a1 (ag a1 (ag a1 (ag a1 (ag a1 (ag a1 (aj (aj a1 t3) (al (aj a1 t2))))))))))))))))) <|
 .br (fun a2=>
  .rt [28,45] [] [] [] [] [] (aj (aj a2 s2) t2))
 (fun a2=>
  .lp [28,44] [] [] [] [] [0,1] [2,3,5] (aj (aj a2 s2) t6)))) (by kernel_rfl)
theorem foS0_ok(n:Aa)(q:Ac)(v0:Int)(o:C5⊕Ret)(h:E6 n q v0=some o):Arr Try.prog Try.f117 0 (GA n q) JH (Av Try.f117 0) (.rnd (Av Try.f117 0)::AG Try.f117 0) (GA n q (.l0 v0)) o:=
 Scr.ok h mix (
 .rn 0 [] [] [] [] (al (u2 (u2 (u2 (u2 (al t3)))))) <|
 .br (fun a0=>
 .gu fun a1=>
 .el fun x33 a2=>
 .br (fun a3=>
  .rt [55,73] [(33,iv x33)] [] [] [] [] (aj (aj a0 (aj (u2 (u2 (u2 (aj (k2 (aj a1 (Aq (f:=iv) a2))) (u2 (u2 (u2 (aj a3 (aj a3 (aj a3 (aj a3 (aj a3 (aj a3 (ag a3 (u2 (ak (k3 (k5 (k5 (al t3)))))))))))))))))))) (ak s2))) t2))
 (fun a3=>
  .el fun x40 a4=>
  .br (fun a5=>
  .rt [55,72,89] [(33,iv x33),(40,iv x40)] [] [] [] [] (aj (aj a0 (aj (u2 (u2 (u2 (aj (k2 (aj a1 (Aq (f:=iv) a2))) (u2 (u2 (u2 (ag a3 (ag a3 (ag a3 (aj (aj a3 (k2 (aj a1 (Aq (f:=iv) a4)))) (ag a3 (ag a3 (ag a3 (u2 (aj a5 (aj a5 (aj a5 (aj a5 (aj a5 (aj a5 (aj a5 (ak (k5 (aj a5 (al (aj a5 t2))))))))))))))))))))))))))) (ak s2))) t2))
  (fun a5=>
  .el fun x48 a6=>
  .br (fun a7=>
   .el fun x55 a8=>
   .rn 0 [55,72,88,103] [(33,iv x33),(40,iv x40),(48,iv x48),(55,bV x55)] [] [] (aj a0 (al (u2 (u2 (u2 (aj (k2 (aj a1 (Aq (f:=iv) a2))) (u2 (u2 (u2 (ag a3 (ag a3 (ag a3 (aj (aj a3 (k2 (aj a1 (Aq (f:=iv) a4)))) (ag a3 (ag a3 (ag a3 (u2 (ag a5 (ag a5 (ag a5 (aj (aj a5 (k2 (aj a1 (Aq (f:=iv) a6)))) (ag a5 (ag a5 (ag a5 (ag a7 (ag a7 (ag a7 (aj (aj a7 (k2 (aj a1 (Aq (f:=bV) a8)))) (ag a7 (ag a7 (aj (aj a5 (aj a7 t2)) (al (aj a5 t2))))))))))))))))))))))))))))))))) <|
   .br (fun a9=>
   .rt [72,88,103,119] [] [] [] [] [] (aj (aj a9 s2) t2))
   (fun a9=>
   .lp [72,88,103,118] [] [] [] [] [0,1] [2,3,5] (aj (aj a9 (al (u2 (u2 s2)))) t6)))
  (fun a7=>
   .lp [55,72,88,102] [(33,iv x33),(40,iv x40),(48,iv x48)] [] [] [] [0,1] [2,3,5] (aj (aj a0 (aj (u2 (u2 (u2 (aj (k2 (aj a1 (Aq (f:=iv) a2))) (u2 (u2 (u2 (ag a3 (ag a3 (ag a3 (aj (aj a3 (k2 (aj a1 (Aq (f:=iv) a4)))) (ag a3 (ag a3 (ag a3 (u2 (ag a5 (ag a5 (ag a5 (aj (aj a5 (k2 (aj a1 (Aq (f:=iv) a6)))) (ag a5 (ag a5 (ag a5 (aj a7 (aj a7 (aj a7 (aj a7 (aj a7 (aj a7 (aj (aj a5 (aj a7 t2)) (al (aj a5 t2))))))))))))))))))))))))))))))) (ak (al (u2 (u2 s2)))))) t6)))))
 (fun a0=>
 .lp [54] [] [] [] [] [0,1] [2,3,6] (aj (aj a0 s2) t6))) (by kernel_rfl)
theorem foS1_ok(n:Aa)(q:Ac)(v0:Int)(o:C5⊕Ret)(h:EH n q v0=some o):Arr Try.prog Try.f117 0 (GA n q) JH (Av Try.f117 1) (.rnd (Av Try.f117 1)::AG Try.f117 1) (GA n q (.l1 v0)) o:=
 Scr.ok h mix (
 .rn 0 [] [] [] [] (al (u2 (u2 (u2 (u2 (al t3)))))) <|
 .br (fun a0=>
 .gu fun a1=>
 .el fun x70 a2=>
 .rn 0 [129] [(70,iv x70)] [] [] (aj a0 (al (u2 (u2 (u2 (aj (k2 (aj a1 (Aq (f:=iv) a2))) (u2 s2))))))) <|
 .br (fun a3=>
  .rt [149] [] [] [] [] [] (aj (aj (u2 (u2 (u2 (aj a3 (aj a3 (aj a3 (aj a3 (aj a3 (ag a3 (u2 (k5 (aj t3 (u2 (ak (k5 (al t3)))))))))))))))) (ak s2)) t2))
 (fun a3=>
  .br (fun a4=>
  .rt [148,163] [] [] [] [] [] (aj (aj (u2 (u2 (u2 (ag a3 (ag a3 (ag a3 (ag a3 (aj (aj a3 t3) (ag a3 (u2 (aj a4 (aj a4 (aj a4 (aj a4 (aj a4 (ag a4 (u2 (ak (k5 (al t3)))))))))))))))))))) (ak s2)) t2))
  (fun a4=>
  .gu fun a5=>
  .el fun x85 a6=>
  .br (fun a7=>
   .rt [148,162,177] [(85,bV x85)] [] [] [] [] (aj (aj (u2 (u2 (u2 (ag a3 (ag a3 (ag a3 (ag a3 (aj (aj a3 t3) (ag a3 (u2 (ag a4 (ag a4 (ag a4 (aj (aj a4 (k2 (aj a5 (Aq (f:=bV) a6)))) (ag a4 (ag a4 (u2 (aj a7 (aj a7 (aj a7 (aj a7 (aj a7 (aj a7 (al (aj a7 t2))))))))))))))))))))))))) (ak s2)) t2))
  (fun a7=>
   .gu fun a8=>
   .gu fun a9=>
   .gu fun a10=>
   have c0:=FR (List.take (v0.toNat-Int.toNat 0) (List.drop (Int.toNat 0) q.pe)) x70 a10;
   .rn 0 [148,162,176] [(85,bV x85)] [(94,hK c0 [] [])] [] (al (u2 (u2 (u2 (ag a3 (ag a3 (ag a3 (ag a3 (aj (aj a3 t3) (ag a3 (u2 (ag a4 (ag a4 (ag a4 (aj (aj a4 (k2 (aj a5 (Aq (f:=bV) a6)))) (ag a4 (ag a4 (u2 (ag a7 (ag a7 (ag a7 (aj (aj a7 (k2 (aj a8 (aj (show(0:Int)<=(0:Int) from(by first | exact nL rfl | decide)) (aj a1 (aj a9 (show iN (List.map (iv) q.pe).length<=iN (List.map (iv) q.pe).length by omega))))))) (ag a7 (aj (aj a7 (ak (k3 (al (show CT Try.prog 26 [] [AV.lst (List.take (v0.toNat-Int.toNat 0) (List.drop (Int.toNat 0) (List.map (iv) q.pe))),iv x70] [] (bV (Ak (List.take (v0.toNat-Int.toNat 0) (List.drop (Int.toNat 0) q.pe)) x70)) from CT.eqs (c0) (by first | (simp only[boL,Tz,Ud,List.map_take,List.map_drop,List.map_replicate,List.nil_append];done) | (simp only[boL,Tz,Ud,List.map_take,List.map_drop,List.map_replicate,List.nil_append];rfl) | (simp[gL,boL,lI,sA,bA];done) | (simp[gL,boL,lI,sA,bA];rfl) | (simp only[Ad,Tz,Ud,Tg,Th];rfl)) (by first | (simp only[boL,Tz,Ud,List.map_take,List.map_drop,List.map_replicate,List.nil_append];done) | (simp only[boL,Tz,Ud,List.map_take,List.map_drop,List.map_replicate,List.nil_append];rfl) | (simp[gL,boL,lI,sA,bA];done) | (simp[gL,boL,lI,sA,bA];rfl) | (simp only[Ad,Tz,Ud,Tg,Th];rfl))))))) (al (aj a7 t2)))))))))))))))))))))))))) <|
   .br (fun a11=>
   .rt [148,162,176,191] [] [] [] [] [] (aj (aj a11 s2) t2))
   (fun a11=>
   .lp [148,162,176,190] [] [] [] [] [0,1] [2,3,6] (aj (aj a11 (al (u2 (u2 s2)))) t6))))))
 (fun a0=>
 .rt [128] [] [] [] [] [] (aj (aj a0 s2) t2))) (by kernel_rfl)
theorem fo_ct(n:Aa)(q:Ac)(r:Ret)(h:Al (foStep n q) (foEn n q) r):CT Try.prog 117 ([]) ([Ad n,sgA q]) r.1 r.2:=
 CT.mach (fn:=Try.f117) (c:=zB Try.f117) (S:=GA n q) (hd:=JH) Try.func117 (by kernel_rfl) (nL rfl)
  (fun s o ho=>match s,ho with
   | .l0 v0,ho=>foS0_ok n q v0 o ho
   | .l1 v0,ho=>foS1_ok n q v0 o ho
  )
  (fun o ho=>foEn_ok n q o ho) h
inductive ED where
 | l0 (v0:Int) (v1:List Int)
def E5(n:Aa):ED->St
 | .l0 v0 v1=>St.mk 29 [(2,AV.ptr 0 0 0),(4,AV.ptr 1 0 0),(5,iv v0)] [some (bK [AV.agg [AV.nils,AV.nils,AV.nils]] 3),some (Blk.mk [AV.agg [AV.sl 2 0 (List.replicate (iN (Ar n)).toNat false).length,AV.sl 3 0 v1.length,AV.nils]] 3 false true none),some (bK (List.replicate (iN (Ar n)).toNat (bV false)) 1),some (bK (List.map (iv) v1) 1)]
def MD:ED->Nat
 | .l0 _ _=>0
def MJ(n:Aa):Option (ED⊕Ret):=
 gu (Rows n.nx) <|
 br (!AY n)
 (some (.inr ([],AV.tup [AV.agg [AV.nils,AV.nils,AV.nils],iV 20])))
 (gu (Ax n) <|
  gu (1 * iN (Ar n)<=281474976710656) <|
  gu (iN (Ar n)<=9223372036854775807) <|
  gu (8 * iN (Ar n)<=281474976710656) <|
  some (.inl (.l0 ((0:Int)) (List.replicate (iN (Ar n)).toNat 0))))
def Hl(n:Aa)(v0:Int)(v1:List Int):Option (ED⊕Ret):=
 br (decide (v0<iN v1.length))
 (gu (0<=v0) <|
  gu (v0<iN v1.length) <|
  gu ((0+v0.toNat).succ.le (List.map iV v1).length) <|
  some (.inl (.l0 (i64.wrap (v0+1)) (v1.set (0+v0.toNat) (-1)))))
 (some (.inr ([],AV.tup [AV.agg [AV.lst (List.replicate (iN (Ar n)).toNat (bV false)),AV.lst (List.map iV v1),AV.nils],iV 0])))
def r20nStep(n:Aa):ED->Option (ED⊕Ret)
 | .l0 v0 v1=>Hl n v0 v1
theorem QP(n:Aa)(o:ED⊕Ret)(h:MJ n=some o):Arr Try.prog Try.f31 0 (E5 n) MD (zB Try.f31) [] {n:=Try.f31.ntmps,fr:=AA 0 ([Ad n]),hp:=([])} o:=
 Scr.ok h mix (
 .rn 0 [] [] [] [] (al (u2 t3)) <|
 .gu fun a0=>
 have c0:=IT a0;
 .rn 0 [] [] [(7,hK c0 [] [])] [] (al (u2 (aj (ak (aj t9 (al (c0)))) s2))) <|
 .br (fun a1=>
 .rt [17] [] [] [] [] [] (aj (aj a1 (al (ak (aj (k2 n11) t2)))) (al (aj t4 t2))))
 (fun a1=>
 .gu fun a2=>
 .gu fun a3=>
 .gu fun a4=>
 .gu fun a5=>
 have c1:=Gi a2;
 have c2:=Gi a2;
 .lq [16] [] [(11,hK c1 [] []),(14,hK c2 [] [])] [] [] [1,4,2,3] [2,4,5] (up [] [(1,[AV.agg [AV.sl 2 0 (iN (Ar n)).toNat,AV.sl 3 0 (iN (Ar n)).toNat,AV.nils]]),(3,List.replicate (iN (Ar n)).toNat (iv 0))] (E5 n (.l0 ((0:Int)) (List.replicate (iN (Ar n)).toNat 0)))) (aj (aj a1 (aj (u2 (aj (ak (aj t9 (al (c1)))) (aj (k2 (aj (show 0<=iN (Ar n) by simp) (aj (show iN (Ar n)<=iN (Ar n) by omega) (aj a3 a4)))) (u2 (aj (ak (aj t9 (al (c2)))) (aj (k2 (aj (show 0<=iN (Ar n) by simp) (aj (show iN (Ar n)<=iN (Ar n) by omega) (aj a5 a4)))) (aj t3 (ak (al (k2 n11)))))))))) s2)) (ak (k3 (aj (al t4) t3)))) (by simp[up,upF,upV,upH,upB,E5,gL,boL,lI,sA,bA]))) (by kernel_rfl)
theorem Rd(n:Aa)(v0:Int)(v1:List Int)(o:ED⊕Ret)(h:Hl n v0 v1=some o):Arr Try.prog Try.f31 0 (E5 n) MD (Av Try.f31 0) (.rnd (Av Try.f31 0)::AG Try.f31 0) (E5 n (.l0 v0 v1)) o:=
 Scr.ok h mix (
 .rn 0 [] [] [] [] (al (u2 (u2 (u2 (u2 (al t3)))))) <|
 .br (fun a0=>
 .gu fun a1=>
 .gu fun a2=>
 .gu fun a3=>
 .lq [43] [] [] [] [] [0,1,2,3] [2,4,5] (up [] [(1,[AV.agg [AV.sl 2 0 (List.replicate (iN (Ar n)).toNat false).length,AV.sl 3 0 v1.length,AV.nils]]),(3,(List.map (iv) v1).set (0+v0.toNat) (iv (-1)))] (E5 n (.l0 (i64.wrap (v0+1)) (v1.set (0+v0.toNat) (-1))))) (aj (aj a0 (aj (u2 (u2 (u2 (aj (k2 (aj a1 a2)) (al (ak a3)))))) (al (u2 (u2 s2))))) (ak (k3 (aj (al t4) t3)))) (by simp[up,upF,upV,upH,upB,E5,gL,boL,lI,sA,bA]))
 (fun a0=>
 .rt [42] [] [] [] [] [2,3] (aj (aj a0 (al (u2 (aj (k2 n11) t2)))) (al (aj (aj (show(List.replicate (iN (Ar n)).toNat false).length=(List.replicate (iN (Ar n)).toNat (bV false)).length by simp) (aj (show v1.length=(List.map (iv) v1).length by simp) t2)) t2))))) (by kernel_rfl)
theorem r20n_ct(n:Aa)(r:Ret)(h:Al (r20nStep n) (MJ n) r):CT Try.prog 31 ([]) ([Ad n]) r.1 r.2:=
 CT.mach (fn:=Try.f31) (c:=zB Try.f31) (S:=E5 n) (hd:=MD) Try.func31 (by kernel_rfl) (nL rfl)
  (fun s o ho=>match s,ho with
   | .l0 v0 v1,ho=>Rd n v0 v1 o ho
  )
  (fun o ho=>QP n o ho) h
inductive Dg where
 | l0 (v0:Int) (v1 v2 v3 v4 v5 v6 v7 v8:Bool)
 | l1 (v0:Int) (v1:List Int) (v2:Nat) (v3:Int) (v4 v5 v6 v7 v8 v9 v10 v11:Bool)
def F5(q:Ao):Dg->St
 | .l0 v0 v1 v2 v3 v4 v5 v6 v7 v8=>St.mk 71 [(1,AV.ptr 0 0 0),(3,AV.ptr 1 0 0),(22,AV.lst (gL q.qu)),(23,iv (iN (gL q.qu).length)),(24,iv v0)] [some (bK [AV.agg [AV.lst (List.map (iv) q.ow),AV.lst (gL q.qu)]] 2),some (bK [AV.agg [bV v1,bV v2,bV v3,bV v4,bV v5,bV v6,bV v7,bV v8]] 8)]
 | .l1 v0 v1 v2 v3 v4 v5 v6 v7 v8 v9 v10 v11=>St.mk 71 [(1,AV.ptr 0 0 0),(3,AV.ptr 1 0 0),(4,iv v0),(22,AV.lst (gL q.qu)),(23,iv (iN (gL q.qu).length)),(24,iv v0),(44,AV.lst (List.map (iv) v1)),(45,iv (iN v2)),(46,iv v3)] [some (bK [AV.agg [AV.lst (List.map (iv) q.ow),AV.lst (gL q.qu)]] 2),some (bK [AV.agg [bV v4,bV v5,bV v6,bV v7,bV v8,bV v9,bV v10,bV v11]] 8)]
def JK:Dg->Nat
 | .l0 _ _ _ _ _ _ _ _ _=>0
 | .l1 _ _ _ _ _ _ _ _ _ _ _ _=>1
def MG(q:Ao):Option (Dg⊕Ret):=
 br (decide (48<iN (List.map iV q.ow).length))
 (some (.inr ([],bV false)))
 (br (iN (List.map iV q.ow).length != iN (gL q.qu).length)
  (some (.inr ([],bV false)))
  (some (.inl (.l0 ((0:Int)) (false) (false) (false) (false) (false) (false) (false) (false)))))
def GM(q:Ao)(v0:Int)(v1 v2 v3 v4 v5 v6 v7 v8:Bool):Option (Dg⊕Ret):=
 br (decide (v0<iN (gL q.qu).length))
 (gu (0<=v0) <|
  el (q.qu) (v0.toNat) fun(x27:List Int)=>
  el (q.ow) (v0.toNat) fun(x32:Int)=>
  br (x32 != -1)
  (el (q.ow) (v0.toNat) fun(x39:Int)=>
   br (!Ev x39)
   (some (.inr ([],bV false)))
   (some (.inl (.l1 v0 x27 ((List.map iV x27).length) ((0:Int)) v1 v2 v3 v4 v5 v6 v7 v8))))
  (some (.inl (.l1 v0 x27 ((List.map iV x27).length) ((0:Int)) v1 v2 v3 v4 v5 v6 v7 v8))))
 (some (.inr ([],bV true)))
def EF(q:Ao)(v0:Int)(v1:List Int)(v2:Nat)(v3:Int)(v4 v5 v6 v7 v8 v9 v10 v11:Bool):Option (Dg⊕Ret):=
 br (decide (v3<iN v2))
 (gu (0<=v3) <|
  el v1 (v3.toNat) fun(x48:Int)=>
  br (!Ev x48)
  (some (.inr ([],bV false)))
  (gu (0<=x48) <|
   gu (x48<8) <|
   el ([v4,v5,v6,v7,v8,v9,v10,v11]) (0+x48.toNat * 1) fun(x56:Bool)=>
   br x56
   (some (.inr ([],bV false)))
   (gu (0<=v0) <|
    el (q.ow) (v0.toNat) fun(x62:Int)=>
    br (x62==x48)
    (some (.inr ([],bV false)))
    (gu ((0+x48.toNat * 1+1).le 8) <|
     some (.inl (.l1 v0 v1 v2 (i64.wrap (v3+1)) (bif Nat.beq 0 (0+x48.toNat * 1) then true else v4) (bif Nat.beq 1 (0+x48.toNat * 1) then true else v5) (bif Nat.beq 2 (0+x48.toNat * 1) then true else v6) (bif Nat.beq 3 (0+x48.toNat * 1) then true else v7) (bif Nat.beq 4 (0+x48.toNat * 1) then true else v8) (bif Nat.beq 5 (0+x48.toNat * 1) then true else v9) (bif Nat.beq 6 (0+x48.toNat * 1) then true else v10) (bif Nat.beq 7 (0+x48.toNat * 1) then true else v11)))))))
 (some (.inl (.l0 (i64.wrap (v0+1)) v4 v5 v6 v7 v8 v9 v10 v11)))
def JB(q:Ao):Dg->Option (Dg⊕Ret)
 | .l0 v0 v1 v2 v3 v4 v5 v6 v7 v8=>GM q v0 v1 v2 v3 v4 v5 v6 v7 v8
 | .l1 v0 v1 v2 v3 v4 v5 v6 v7 v8 v9 v10 v11=>EF q v0 v1 v2 v3 v4 v5 v6 v7 v8 v9 v10 v11
theorem ilvEn_ok(q:Ao)(o:Dg⊕Ret)(h:MG q=some o):Arr Try.prog Try.f51 0 (F5 q) JK (zB Try.f51) [] {n:=Try.f51.ntmps,fr:=AA 0 ([lkA q]),hp:=([])} o:=
 Scr.ok h mix (
 .rn 0 [] [] [] [] (al (u2 t2)) <|
 .br (fun a0=>
 .rt [25] [] [] [] [] [] (aj (aj (u2 (u2 (u2 (u2 (u2 (aj a0 (aj a0 (aj a0 (aj a0 (aj a0 (aj a0 (aj a0 (al (aj a0 t2)))))))))))))) (ak s2)) t2))
 (fun a0=>
 .rn 0 [24] [] [] [] (al (u2 (u2 (u2 (u2 (u2 (ag a0 (ag a0 (ag a0 (ag a0 (ag a0 (ag a0 (aj (aj a0 t3) (al (aj a0 t2))))))))))))))) <|
 .br (fun a1=>
  .rt [24,41] [] [] [] [] [] (aj (aj a1 s2) t2))
 (fun a1=>
  .lp [24,40] [] [] [] [] [0,1] [1,3,22,23,24] (aj (aj a1 (u2 (al (u2 (u2 (u2 t2)))))) t8)))) (by kernel_rfl)
theorem ilvS0_ok(q:Ao)(v0:Int)(v1 v2 v3 v4 v5 v6 v7 v8:Bool)(o:Dg⊕Ret)(h:GM q v0 v1 v2 v3 v4 v5 v6 v7 v8=some o):Arr Try.prog Try.f51 0 (F5 q) JK (Av Try.f51 0) (.rnd (Av Try.f51 0)::AG Try.f51 0) (F5 q (.l0 v0 v1 v2 v3 v4 v5 v6 v7 v8)) o:=
 Scr.ok h mix (
 .rn 0 [] [] [] [] (al (al t3)) <|
 .br (fun a0=>
 .gu fun a1=>
 .el fun x27 a2=>
 .rn 0 [51] [(27,lI x27)] [] [] (aj a0 (al (u2 (aj (k2 (aj a1 (Aq (f:=lI) a2))) (u2 (u2 s2)))))) <|
 .el fun x32 a3=>
 .br (fun a4=>
  .el fun x39 a5=>
  have c0:=JS (x39);
  .rn 0 [71] [(32,iv x32),(39,iv x39)] [(41,hK c0 [] [])] [] (al (u2 (u2 (u2 (aj (k2 (aj a1 (Aq (f:=iv) a3))) (u2 (u2 (u2 (ag a4 (ag a4 (ag a4 (aj (aj a4 (k2 (aj a1 (Aq (f:=iv) a5)))) (ag a4 (aj (aj a4 (k2 (al (c0)))) (ag a4 (al (aj a4 t2))))))))))))))))) <|
  .br (fun a6=>
  .rt [71,87] [] [] [] [] [] (aj (aj a6 s2) t2))
  (fun a6=>
  .lp [71,86] [] [] [] [] [0,1] [1,3,4,22,23,24,44,45,46] (aj (aj a6 (al (u2 (u2 t2)))) (k3 t9))))
 (fun a4=>
  .lp [70] [(32,iv x32)] [] [] [] [0,1] [1,3,4,22,23,24,44,45,46] (aj (aj (u2 (u2 (u2 (aj (k2 (aj a1 (Aq (f:=iv) a3))) (u2 (u2 (u2 (aj a4 (aj a4 (aj a4 (aj a4 (aj a4 (aj a4 (aj a4 (al (aj a4 t2)))))))))))))))) (ak (al (u2 (u2 t2))))) (k3 t9))))
 (fun a0=>
 .rt [50] [] [] [] [] [] (aj (aj a0 s2) t2))) (by kernel_rfl)
theorem ilvS1_ok(q:Ao)(v0:Int)(v1:List Int)(v2:Nat)(v3:Int)(v4 v5 v6 v7 v8 v9 v10 v11:Bool)(o:Dg⊕Ret)(h:EF q v0 v1 v2 v3 v4 v5 v6 v7 v8 v9 v10 v11=some o):Arr Try.prog Try.f51 0 (F5 q) JK (Av Try.f51 1) (.rnd (Av Try.f51 1)::AG Try.f51 1) (F5 q (.l1 v0 v1 v2 v3 v4 v5 v6 v7 v8 v9 v10 v11)) o:=
 Scr.ok h mix (
 .rn 0 [] [] [] [] (al (al t3)) <|
 .br (fun a0=>
 .gu fun a1=>
 .el fun x48 a2=>
 .rn 0 [95] [(48,iv x48)] [] [] (aj a0 (al (aj (k2 (aj a1 (Aq (f:=iv) a2))) (u2 s2)))) <|
 .br (fun a3=>
  have c0:=JS (x48);
  .rt [107] [] [(51,hK c0 [] [])] [] [] [] (aj (aj (u2 (aj (k2 (al (c0))) (u2 (u2 (aj a3 (aj a3 (aj a3 (ag a3 (u2 (k2 (k5 (al t3)))))))))))) (ak s2)) t2))
 (fun a3=>
  .gu fun a4=>
  .gu fun a5=>
  .el fun x56 a6=>
  .br (fun a7=>
  have c0:=JS (x48);
  .rt [106,117] [(56,AV.tup [bV x56])] [(51,hK c0 [] [])] [] [] [] (aj (aj (u2 (aj (k2 (al (c0))) (u2 (u2 (ag a3 (aj (aj a3 (k2 (aj a4 a5))) (aj (aj a3 (ak (Aq (f:=bV) a6))) (ag a3 (u2 (aj a7 (aj a7 (aj a7 (aj a7 (aj a7 (aj a7 (aj a7 (al (aj a7 t2)))))))))))))))))) (ak s2)) t2))
  (fun a7=>
  .gu fun a8=>
  .el fun x62 a9=>
  have c0:=JS (x48);
  .rn 0 [106,116] [(56,AV.tup [bV x56]),(62,iv x62)] [(51,hK c0 [] [])] [] (al (u2 (aj (k2 (al (c0))) (u2 (u2 (ag a3 (aj (aj a3 (k2 (aj a4 a5))) (aj (aj a3 (ak (Aq (f:=bV) a6))) (ag a3 (u2 (ag a7 (ag a7 (ag a7 (aj (aj a7 (k2 (aj a8 (Aq (f:=iv) a9)))) (ag a7 (ag a7 (aj (aj a7 t3) (al (aj a7 t2))))))))))))))))))) <|
  .br (fun a10=>
   .rt [106,116,133] [] [] [] [] [] (aj (aj a10 s2) t2))
  (fun a10=>
   .gu fun a11=>
   .lp [106,116,132] [(68,AV.tup [AV.unk])] [] [] [] [0,1] [1,3,4,22,23,24,44,45,46] (aj (aj a10 (aj (u2 (aj (k2 (aj a4 a5)) (al (ak a11)))) (al (u2 s2)))) (k3 t9))))))
 (fun a0=>
 .lp [94] [] [] [] [] [0,1] [1,3,22,23,24] (aj (aj a0 (al (u2 s2))) t8))) (by kernel_rfl)
theorem ilv_ct(q:Ao)(r:Ret)(h:Al (JB q) (MG q) r):CT Try.prog 51 ([]) ([lkA q]) r.1 r.2:=
 CT.mach (fn:=Try.f51) (c:=zB Try.f51) (S:=F5 q) (hd:=JK) Try.func51 (by kernel_rfl) (nL rfl)
  (fun s o ho=>match s,ho with
   | .l0 v0 v1 v2 v3 v4 v5 v6 v7 v8,ho=>ilvS0_ok q v0 v1 v2 v3 v4 v5 v6 v7 v8 o ho
   | .l1 v0 v1 v2 v3 v4 v5 v6 v7 v8 v9 v10 v11,ho=>ilvS1_ok q v0 v1 v2 v3 v4 v5 v6 v7 v8 v9 v10 v11 o ho
  )
  (fun o ho=>ilvEn_ok q o ho) h
inductive C6 where
 | l0 (v0:Int) (v1 v2 v3 v4 v5 v6 v7 v8:Bool)
 | l1 (v0 v1 v2:Int) (v3 v4 v5 v6 v7 v8 v9 v10 v11:Bool)
def Gn(q:Ao):C6->St
 | .l0 v0 v1 v2 v3 v4 v5 v6 v7 v8=>St.mk 81 [(1,AV.ptr 0 0 0),(3,AV.ptr 1 0 0),(4,iv v0)] [some (bK [AV.agg [AV.lst (List.map (iv) q.ow),AV.lst (gL q.qu)]] 2),some (bK [AV.agg [bV v1,bV v2,bV v3,bV v4,bV v5,bV v6,bV v7,bV v8]] 8)]
 | .l1 v0 v1 v2 v3 v4 v5 v6 v7 v8 v9 v10 v11=>St.mk 81 [(1,AV.ptr 0 0 0),(3,AV.ptr 1 0 0),(4,iv v0),(5,iv v1),(34,AV.ptr 0 0 0),(35,AV.lst (List.map (iv) q.ow)),(36,iv v0),(37,AV.iptr [iv v2]),(38,iv v2),(39,bV v3)] [some (bK [AV.agg [AV.lst (List.map (iv) q.ow),AV.lst (gL q.qu)]] 2),some (bK [AV.agg [bV v4,bV v5,bV v6,bV v7,bV v8,bV v9,bV v10,bV v11]] 8)]
def JN:C6->Nat
 | .l0 _ _ _ _ _ _ _ _ _=>0
 | .l1 _ _ _ _ _ _ _ _ _ _ _ _=>1
def KX(q:Ao):Option (C6⊕Ret):=
 br (decide (48<iN (List.map iV q.ow).length))
 (some (.inr ([],bV false)))
 (br (iN (List.map iV q.ow).length != iN (gL q.qu).length)
  (some (.inr ([],bV false)))
  (some (.inl (.l0 ((0:Int)) (false) (false) (false) (false) (false) (false) (false) (false)))))
def Hd(q:Ao)(v0:Int)(v1 v2 v3 v4 v5 v6 v7 v8:Bool):Option (C6⊕Ret):=
 br (decide (v0<iN (List.map iV q.ow).length))
 (gu (0<=v0) <|
  el (q.ow) (v0.toNat) fun(x30:Int)=>
  br (decide (x30 < -1))
  (some (.inr ([],bV false)))
  (el (q.ow) (v0.toNat) fun(x37:Int)=>
   br (decide (8<=x37))
   (some (.inr ([],bV false)))
   (some (.inl (.l1 v0 ((0:Int)) x37 (decide (8<=x37)) v1 v2 v3 v4 v5 v6 v7 v8)))))
 (some (.inr ([],bV true)))
def E9(q:Ao)(v0 v1 v2:Int)(v3 v4 v5 v6 v7 v8 v9 v10 v11:Bool):Option (C6⊕Ret):=
 gu (0<=v0) <|
 el (q.qu) (v0.toNat) fun(x45:List Int)=>
 br (decide (v1<iN (List.map iV x45).length))
 (el (q.qu) (v0.toNat) fun(x54:List Int)=>
  gu (0<=v1) <|
  el x54 (v1.toNat) fun(x57:Int)=>
  br (decide (x57<0))
  (some (.inr ([],bV false)))
  (br (decide (8<=x57))
   (some (.inr ([],bV false)))
   (gu (0<=x57) <|
    gu (x57<8) <|
    el ([v4,v5,v6,v7,v8,v9,v10,v11]) (0+x57.toNat * 1) fun(x68:Bool)=>
    br x68
    (some (.inr ([],bV false)))
    (el (q.ow) (v0.toNat) fun(x75:Int)=>
     br (x57==x75)
     (some (.inr ([],bV false)))
     (gu ((0+x57.toNat * 1+1).le 8) <|
      some (.inl (.l1 v0 (i64.wrap (v1+1)) v2 v3 (bif Nat.beq 0 (0+x57.toNat * 1) then true else v4) (bif Nat.beq 1 (0+x57.toNat * 1) then true else v5) (bif Nat.beq 2 (0+x57.toNat * 1) then true else v6) (bif Nat.beq 3 (0+x57.toNat * 1) then true else v7) (bif Nat.beq 4 (0+x57.toNat * 1) then true else v8) (bif Nat.beq 5 (0+x57.toNat * 1) then true else v9) (bif Nat.beq 6 (0+x57.toNat * 1) then true else v10) (bif Nat.beq 7 (0+x57.toNat * 1) then true else v11))))))))
 (some (.inl (.l0 (i64.wrap (v0+1)) v4 v5 v6 v7 v8 v9 v10 v11)))
def Jg(q:Ao):C6->Option (C6⊕Ret)
 | .l0 v0 v1 v2 v3 v4 v5 v6 v7 v8=>Hd q v0 v1 v2 v3 v4 v5 v6 v7 v8
 | .l1 v0 v1 v2 v3 v4 v5 v6 v7 v8 v9 v10 v11=>E9 q v0 v1 v2 v3 v4 v5 v6 v7 v8 v9 v10 v11
theorem rlvEn_ok(q:Ao)(o:C6⊕Ret)(h:KX q=some o):Arr Try.prog Try.f91 0 (Gn q) JN (zB Try.f91) [] {n:=Try.f91.ntmps,fr:=AA 0 ([lkA q]),hp:=([])} o:=
 Scr.ok h mix (
 .rn 0 [] [] [] [] (al (u2 t2)) <|
 .br (fun a0=>
 .rt [23] [] [] [] [] [] (aj (aj (u2 (u2 (u2 (u2 (u2 (aj a0 (aj a0 (aj a0 (aj a0 (aj a0 (aj a0 (aj a0 (al (aj a0 t2)))))))))))))) (ak s2)) t2))
 (fun a0=>
 .rn 0 [22] [] [] [] (al (u2 (u2 (u2 (u2 (u2 (ag a0 (ag a0 (ag a0 (ag a0 (ag a0 (ag a0 (aj (aj a0 t3) (al (aj a0 t2))))))))))))))) <|
 .br (fun a1=>
  .rt [22,39] [] [] [] [] [] (aj (aj a1 s2) t2))
 (fun a1=>
  .lp [22,38] [] [] [] [] [0,1] [1,3,4] (aj (aj a1 (u2 s2)) t6)))) (by kernel_rfl)
theorem rlvS0_ok(q:Ao)(v0:Int)(v1 v2 v3 v4 v5 v6 v7 v8:Bool)(o:C6⊕Ret)(h:Hd q v0 v1 v2 v3 v4 v5 v6 v7 v8=some o):Arr Try.prog Try.f91 0 (Gn q) JN (Av Try.f91 0) (.rnd (Av Try.f91 0)::AG Try.f91 0) (Gn q (.l0 v0 v1 v2 v3 v4 v5 v6 v7 v8)) o:=
 Scr.ok h mix (
 .rn 0 [] [] [] [] (al (u2 (u2 (u2 (u2 (al t3)))))) <|
 .br (fun a0=>
 .gu fun a1=>
 .el fun x30 a2=>
 .br (fun a3=>
  .rt [49,67] [(30,iv x30)] [] [] [] [] (aj (aj a0 (aj (u2 (u2 (u2 (aj (k2 (aj a1 (Aq (f:=iv) a2))) (u2 (u2 (u2 (aj a3 (aj a3 (aj a3 (aj a3 (aj a3 (aj a3 (al (aj a3 t2))))))))))))))) (ak s2))) t2))
 (fun a3=>
  .el fun x37 a4=>
  .rn 0 [49,66] [(30,iv x30),(37,iv x37)] [] [] (aj a0 (al (u2 (u2 (u2 (aj (k2 (aj a1 (Aq (f:=iv) a2))) (u2 (u2 (u2 (ag a3 (ag a3 (ag a3 (aj (aj a3 (k2 (aj a1 (Aq (f:=iv) a4)))) (ag a3 (ag a3 (al (aj a3 t2))))))))))))))))) <|
  .br (fun a5=>
  .rt [66,81] [] [] [] [] [] (aj (aj a5 s2) t2))
  (fun a5=>
  .lp [66,80] [] [] [] [] [0,1] [1,3,4,5,34,35,36,37,38,39] (aj (aj a5 s2) (ak (k3 t9))))))
 (fun a0=>
 .rt [48] [] [] [] [] [] (aj (aj a0 s2) t2))) (by kernel_rfl)
theorem rlvS1_ok(q:Ao)(v0 v1 v2:Int)(v3 v4 v5 v6 v7 v8 v9 v10 v11:Bool)(o:C6⊕Ret)(h:E9 q v0 v1 v2 v3 v4 v5 v6 v7 v8 v9 v10 v11=some o):Arr Try.prog Try.f91 0 (Gn q) JN (Av Try.f91 1) (.rnd (Av Try.f91 1)::AG Try.f91 1) (Gn q (.l1 v0 v1 v2 v3 v4 v5 v6 v7 v8 v9 v10 v11)) o:=
 Scr.ok h mix (
 .gu fun a0=>
 .el fun x45 a1=>
 .rn 0 [] [(45,lI x45)] [] [] (al (u2 (u2 (u2 (u2 (aj (k2 (aj a0 (Aq (f:=lI) a1))) (u2 (u2 (al t3))))))))) <|
 .br (fun a2=>
 .el fun x54 a3=>
 .gu fun a4=>
 .el fun x57 a5=>
 .rn 0 [97] [(54,lI x54),(57,iv x57)] [] [] (aj a2 (al (u2 (u2 (u2 (aj (k2 (aj a0 (Aq (f:=lI) a3))) (u2 (u2 (aj (k2 (aj a4 (Aq (f:=iv) a5))) (u2 s2)))))))))) <|
 .br (fun a6=>
  .rt [123] [] [] [] [] [] (aj (aj (u2 (u2 (u2 (aj a6 (aj a6 (ag a6 (u2 (k3 (aj t3 (u2 (k2 (k5 (al t3))))))))))))) (ak s2)) t2))
 (fun a6=>
  .br (fun a7=>
  .rt [122,131] [] [] [] [] [] (aj (aj (u2 (u2 (u2 (ag a6 (ag a6 (ag a6 (u2 (aj a7 (aj a7 (aj a7 (ag a7 (u2 (k2 (k5 (al t3))))))))))))))) (ak s2)) t2))
  (fun a7=>
  .gu fun a8=>
  .gu fun a9=>
  .el fun x68 a10=>
  .br (fun a11=>
   .rt [122,130,141] [(68,AV.tup [bV x68])] [] [] [] [] (aj (aj (u2 (u2 (u2 (ag a6 (ag a6 (ag a6 (u2 (ag a7 (aj (aj a7 (k2 (aj a8 a9))) (aj (aj a7 (ak (Aq (f:=bV) a10))) (ag a7 (u2 (aj a11 (aj a11 (aj a11 (aj a11 (aj a11 (aj a11 (aj a11 (al (aj a11 t2))))))))))))))))))))) (ak s2)) t2))
  (fun a11=>
   .el fun x75 a12=>
   .rn 0 [122,130,140] [(68,AV.tup [bV x68]),(75,iv x75)] [] [] (al (u2 (u2 (u2 (ag a6 (ag a6 (ag a6 (u2 (ag a7 (aj (aj a7 (k2 (aj a8 a9))) (aj (aj a7 (ak (Aq (f:=bV) a10))) (ag a7 (u2 (ag a11 (ag a11 (ag a11 (ag a11 (aj (aj a11 (k2 (aj a0 (Aq (f:=iv) a12)))) (ag a11 (aj (aj a11 t3) (al (aj a11 t2)))))))))))))))))))))) <|
   .br (fun a13=>
   .rt [122,130,140,157] [] [] [] [] [] (aj (aj a13 s2) t2))
   (fun a13=>
   .gu fun a14=>
   .lp [122,130,140,156] [(80,AV.tup [AV.unk])] [] [] [] [0,1] [1,3,4,5,34,35,36,37,38,39] (aj (aj a13 (aj (u2 (aj (k2 (aj a8 a9)) (al (ak a14)))) (al (u2 (u2 s2))))) (ak (k3 t9))))))))
 (fun a2=>
 .lp [96] [] [] [] [] [0,1] [1,3,4] (aj (aj a2 (al (u2 (u2 s2)))) t6))) (by kernel_rfl)
theorem rlv_ct(q:Ao)(r:Ret)(h:Al (Jg q) (KX q) r):CT Try.prog 91 ([]) ([lkA q]) r.1 r.2:=
 CT.mach (fn:=Try.f91) (c:=zB Try.f91) (S:=Gn q) (hd:=JN) Try.func91 (by kernel_rfl) (nL rfl)
  (fun s o ho=>match s,ho with
   | .l0 v0 v1 v2 v3 v4 v5 v6 v7 v8,ho=>rlvS0_ok q v0 v1 v2 v3 v4 v5 v6 v7 v8 o ho
   | .l1 v0 v1 v2 v3 v4 v5 v6 v7 v8 v9 v10 v11,ho=>rlvS1_ok q v0 v1 v2 v3 v4 v5 v6 v7 v8 v9 v10 v11 o ho
  )
  (fun o ho=>rlvEn_ok q o ho) h
end Go.Proofs.Ytedjkebooffjpaa
namespace Go.Proofs.Ytedjkebooffjpaa
theorem EJ{σ ρ:Type}{step:σ->Option (σ⊕ρ)}(L:Nat->σ)(N:Nat)(p:Nat->Bool){rF:Nat->ρ}{r:ρ}
  (hb:∀i,i<N->(∀j,j<i->p j=false)->p i=true->Al step (some (.inl (L i))) (rF i))
  (hg:∀i x,i<N->(∀j,j<i->p j=false)->p i=false->Al step (some (.inl (L (i+1)))) x->Al step (some (.inl (L i))) x)
  (he:fnd p 0 N=none->Al step (some (.inl (L N))) r):Al step (some (.inl (L 0))) (match fnd p 0 N with | some i=>rF i | none=>r):=by
 have key:∀k i,i+k=N->(∀j,j<i->p j=false)->fnd p 0 N=fnd p i (N-i)->Al step (some (.inl (L i))) (match fnd p i (N-i) with | some i=>rF i | none=>r):=by
  intro k
  induction k with
  | zero=>intro i hi _ h0
          have e:i=N:=by omega
          subst e
          rw[DW (by omega)] at h0 ⊢
          exact he h0
  | succ k ih=>
   intro i hi hj h0
   have hlt:i<N:=by omega
   rw[Dq hlt] at h0 ⊢
   cases hp:p i with
   | true=>exact hb i hlt hj hp
   | false=>
    rw[hp] at h0
    refine hg i _ hlt hj hp (ih (i+1) (by omega) (fun j h=>?_) h0)
    rcases Uh j i with h1 | h1
    .exact hj j h1
    .have:j=i:=by omega
     subst this;exact hp
 exact key N 0 (by omega) (fun j h=>absurd h (Ug _)) rfl
theorem Ia(l:List Int)(x:Int)(hl:l.length<=9223372036854775807):CT Try.prog 47 [] [lI l,.int .i64 x] [] (.bool (Ak l x)):=by
 refine con_ct l x ([],_) ?_
 unfold Mh
 rw[Ab hl,idxZ_has];exact .ret _
theorem ixw_c(l:List Int)(w:Int)(hl:l.length<=1000000):CT Try.prog 133 [some (Blk.mk (l.map (AV.int .i64)) 1 true true none),some (Blk.mk [.int .i64 w] 1 true true none)] [.sl 0 0 l.length,.fn 101 [.ptr 1 0 0]] [some (Blk.mk (l.map (AV.int .i64)) 1 true true none),some (Blk.mk [.int .i64 w] 1 true true none)] (.int .i64 (CX l w)):=by
 refine ixw_ct l w ([_,_],_) ?_
 refine(NS (fun i=>Ex.l0 (i:Int)) l.length (fun i=>l.getD i 0==w) (rF:=fun i=>([some (Blk.mk (l.map (AV.int .i64)) 1 true true none),some (Blk.mk [.int .i64 w] 1 true true none)],.int .i64 (i:Int))) (r:=([some (Blk.mk (l.map (AV.int .i64)) 1 true true none),some (Blk.mk [.int .i64 w] 1 true true none)],.int .i64 (-1))) (fun i hi hp=>?_) (fun i r hi hp hr=>?_) (fun _=>?_)).res (by unfold CX;split<;>simp_all)
 .refine .to (show Fe l w i=_ from ?_) (.ret _)
  unfold Fe
  rw[Ah (AB (by simp only[iN];omega)),Ab (by omega),Ab (by simp only[iN];omega),TB,elG 0 hi,Ah hp]
 .refine .to (show Fe l w i=_ from ?_) hr
  unfold Fe
  rw[Ah (AB (by simp only[iN];omega)),Ab (by omega),Ab (by simp only[iN];omega),TB,elG 0 hi,Af hp,zW i (by omega)]
 .refine .to (show Fe l w l.length=_ from ?_) (.ret _)
  unfold Fe
  rw[Af (Au (by simp only[iN];omega))]
theorem BV{n:Aa}(hv:Ax n):Ar n<=48/\n.bs.length<=Ar n:=⟨hv.cel.2.2,hv.cel.2.1⟩
theorem Kb{α:Type}(l:List α)(i:Nat):List.take ((i:Int).toNat-Int.toNat 0) (List.drop (Int.toNat 0) l)=l.take i:=by
 rw[Tv];simp
theorem K7{nb:Nat}{s:Ac}{i:Nat}(hi:i<=s.pe.length)(hbd:∀j,j<i->bdP nb s j=false):i<=nb:=by
 unfold bdP at hbd
 simp only[Bool.or_eq_false_iff,decide_eq_false_iff_not] at hbd
 have hn:(s.pe.take i).Nodup:=KJ fun j h=>by
  rw[TP] at h
  have e:(s.pe.take i).getD j 0=s.pe.getD j 0:=by rw[Tl,TE,Ti (by omega),<-Tl]
  rw[e,List.take_take,Nat.min_eq_left (by omega)]
  exact(hbd j (by omega)).2.2.2
 have:=HC hn (d:=(List.range nb).map fun i:Nat=>(i:Int)) fun x hx=>by
  obtain⟨j,hj,rfl⟩:=TZ.1 hx
  rw[TP] at hj
  have:=hbd j (by omega)
  rw[Tl,Tk (show j<s.pe.length by omega)] at this
  simp only[Option.getD_some] at this
  rw[List.getElem_take]
  exact LH (by omega) (by omega)
 rw[Tn,T5,TP] at this
 omega
theorem fo_c{n:Aa}(s:Ac)(hv:Ax n):CT Try.prog 117 [] [Ad n,sgA s] [] (.bool (FB n s)):=by
 refine fo_ct n s ([],_) ?_
 obtain⟨h48,hnb⟩:=BV hv
 unfold foEn FB
 rw[Ab hv,BW,Tn]
 by_cases h1:s.cl.length=Ar n
 case neg=>rw[Ah (T9.2 (by simp only[iN];omega)),Au h1];exact .ret _
 rw[Af (by rw[h1];simp),AB h1,Bool.true_and]
 by_cases h2:s.bw.length=Ar n
 case neg=>rw[Ah (T9.2 (by simp only[iN];omega)),Au h2];exact .ret _
 rw[Af (by rw[h1,h2];simp),AB h2,Bool.true_and]
 refine(EJ (fun i=>C5.l0 (i:Int)) s.bw.length (bdW s) (rF:=fun _=>([],.bool false)) (r:=([],.bool (fnd (bdP n.bs.length s) 0 s.pe.length).isNone)) (fun i hi _ hp=>?_) (fun i x hi _ hp hx=>?_) (fun _=>?_)).res (by cases fnd (bdW s) 0 s.bw.length<;>rfl)
 .refine .to (show E6 n s i=_ from ?_) (.ret _)
  unfold E6
  unfold bdW at hp
  rw[Cn 0 hi]
  cases hd1:decide (s.bw.getD i 0 < -1) with
  | true=>rw[Ah rfl]
  | false=>
   rw[hd1,Te] at hp
   rw[Af rfl,elG 0 hi]
   cases hd2:decide (8<=s.bw.getD i 0) with
   | true=>rw[Ah rfl]
   | false=>
    rw[hd2,Te,Tu] at hp
    rw[Af rfl,elG 0 hi,Ah (by have:=of_decide_eq_true hp.1;exact T9.2 (by omega)),elG true (show i<s.cl.length by omega),Ah hp.2]
 .refine .to (show E6 n s i=_ from ?_) hx
  unfold E6
  unfold bdW at hp
  simp only[Bool.or_eq_false_iff] at hp
  rw[Cn 0 hi,Af hp.1,elG 0 hi,Af hp.2.1,elG 0 hi,zW i (by omega)]
  have h3:=of_decide_eq_false hp.1
  by_cases hm:s.bw.getD i 0 = -1
  .rw[Af (by rw[hm];rfl)]
  .rw[Ah (T9.2 hm),elG true (show i<s.cl.length by omega)]
   have hq:=hp.2.2
   rw[AB (show 0<=s.bw.getD i 0 by omega),Bool.true_and] at hq
   rw[Af hq]
 .refine .to (show E6 n s s.bw.length=_ from ?_) ?_ (y:=some (.inl (.l1 ((0:Nat):Int))))
  .unfold E6;rw[Cf];rfl
  refine(EJ (fun i=>C5.l1 (i:Int)) s.pe.length (bdP n.bs.length s) (rF:=fun _=>([],.bool false)) (r:=([],.bool true)) (fun i hi hj hp=>?_) (fun i x hi hj hp hx=>?_) (fun _=>?_)).res (by cases fnd (bdP n.bs.length s) 0 s.pe.length<;>rfl)
  .have hi24:=K7 (Nat.le_of_lt hi) hj
   refine .to (show EH n s i=_ from ?_) (.ret _)
   unfold EH
   unfold bdP at hp
   rw[Cn 0 hi]
   by_cases hd1:s.pe.getD i 0<0
   .rw[Ah (AB hd1)]
   rw[Au hd1,Te] at hp
   rw[Af (Au hd1)]
   by_cases hd2:(n.bs.length:Int)<=s.pe.getD i 0
   .rw[Ah (AB (by rw[Tn];exact hd2))]
   rw[Au hd2,Te] at hp
   rw[Af (Au (by rw[Tn];exact hd2)),Ab (by omega),A4 (Be true (show(s.pe.getD i 0).toNat<s.cl.length by omega))]
   cases hd3:s.cl.getD (s.pe.getD i 0).toNat true with
   | true=>rw[Ah rfl]
   | false=>
    rw[hd3,Te] at hp
    rw[Af rfl,Ab (E2 _),Ab (by simp only[iN,Tn];omega),Kb,Ab (by rw[TP];omega),Ah hp]
  .have hi24:=K7 (Nat.le_of_lt hi) hj
   refine .to (show EH n s i=_ from ?_) hx
   unfold EH
   unfold bdP at hp
   simp only[Bool.or_eq_false_iff,decide_eq_false_iff_not] at hp
   rw[Cn 0 hi,Af (Au hp.1),Af (Au (by rw[Tn];exact hp.2.1)),Ab (by omega),A4 (Be true (show(s.pe.getD i 0).toNat<s.cl.length by omega)),Af hp.2.2.1,Ab (E2 _),Ab (by simp only[iN,Tn];omega),Kb,Ab (by rw[TP];omega),Af hp.2.2.2,zW i (by omega)]
  .refine .to (show EH n s s.pe.length=_ from ?_) (.ret _)
   unfold EH;rw[Cf]
def prL(l:Ao)(c k:Nat):List Int:=(l.qu.take c).flatten++(l.qu.getD c []).take k
def bdO(l:Ao)(c:Nat):Bool:=decide (l.ow.getD c 0 < -1)||decide (8<=l.ow.getD c 0)
def bdQ(l:Ao)(c k:Nat):Bool:=decide ((l.qu.getD c []).getD k 0<0)||(decide (8<=(l.qu.getD c []).getD k 0)||(Ak (prL l c k) ((l.qu.getD c []).getD k 0)||(l.qu.getD c []).getD k 0==l.ow.getD c 0))
def bdR(l:Ao)(c:Nat):Bool:=bdO l c||(fnd (bdQ l c) 0 (l.qu.getD c []).length).isSome
def Bv(l:Ao):Bool:=decide (l.ow.length<=48)&&(decide (l.ow.length=l.qu.length)&&(fnd (bdR l) 0 l.qu.length).isNone)
theorem Kh{l:Ao}(h:Bv l=true):l.ow.length=l.qu.length/\l.ow.length<=48:=by
 unfold Bv at h
 simp only[Tu,decide_eq_true_eq] at h
 exact⟨h.2.1,h.1⟩
theorem Cy{l:List Int}{x:Int}(h0:0<=x)(i:Nat):(bif Nat.beq i (0+x.toNat * 1) then true else Ak l (i:Int))=Ak (l++[x]) (i:Int):=by
 rw[beqM,Bool.eq_iff_iff,Dy,TR,Tb]
 split
 .exact⟨fun _=>.inr (by omega),fun _=>rfl⟩
 .rw[Dy];exact⟨.inl,fun h=>h.elim id fun e=>absurd e (by omega)⟩
theorem PA{l:Ao}{c k:Nat}(h:k<(l.qu.getD c []).length):prL l c (k+1)=prL l c k++[(l.qu.getD c []).getD k 0]:=by
 unfold prL
 rw[List.take_add_one,Be 0 h,List.append_assoc];rfl
theorem P9{l:Ao}{c:Nat}:prL l c (l.qu.getD c []).length=prL l (c+1) 0:=by
 unfold prL
 rw[List.take_length,List.take_zero,List.append_nil,List.take_add_one,List.flatten_append,Tl]
 cases l.qu[c]?<;>simp
theorem J2{α:Type}{f:Nat->Bool}{k:Nat}(h:k<8){F:Bool->Option α}:el [f 0,f 1,f 2,f 3,f 4,f 5,f 6,f 7] (0+k * 1) F=F (f k):=by
 have e:[f 0,f 1,f 2,f 3,f 4,f 5,f 6,f 7]=(List.range 8).map f:=rfl
 rw[e,TB,Nat.mul_one]
 exact A4 (by rw[Tw,TH h];rfl)
theorem le8{x:Int}(h0:0<=x)(h1:x<8):(0+x.toNat * 1+1).le 8:=show 0+x.toNat * 1+1<=8 by omega
theorem I3{l:Ao}{c k:Nat}(h:bdQ l c k=false):0<=(l.qu.getD c []).getD k 0/\(l.qu.getD c []).getD k 0<8/\Ak (prL l c k) ((l.qu.getD c []).getD k 0)=false/\((l.qu.getD c []).getD k 0==l.ow.getD c 0)=false:=by
 unfold bdQ at h
 simp only[Bool.or_eq_false_iff,decide_eq_false_iff_not] at h
 exact⟨by omega,by omega,h.2.2.1,h.2.2.2⟩
theorem Ip{l:Ao}{c k:Nat}(hk:k<=(l.qu.getD c []).length)(h:∀j,j<k->bdQ l c j=false):k<=8:=by
 have hn:((l.qu.getD c []).take k).Nodup:=KJ fun j hj=>by
  rw[TP] at hj
  have e:((l.qu.getD c []).take k).getD j 0=(l.qu.getD c []).getD j 0:=by rw[Tl,TE,Ti (by omega),<-Tl]
  rw[e,List.take_take,Nat.min_eq_left (by omega)]
  have:=(I3 (h j (by omega))).2.2.1
  cases h2:Ak ((l.qu.getD c []).take j) ((l.qu.getD c []).getD j 0) with
  | false=>rfl
  | true=>exact absurd (TR.2 (.inr (Dy.1 h2))) (JG this)
 have:=HC hn (d:=(List.range 8).map fun i:Nat=>(i:Int)) fun x hx=>by
  obtain⟨j,hj,rfl⟩:=TZ.1 hx
  rw[TP] at hj
  have:=I3 (h j (by omega))
  rw[Tl,Tk (show j<(l.qu.getD c []).length by omega)] at this
  simp only[Option.getD_some] at this
  rw[List.getElem_take]
  exact LH (by omega) (by omega)
 rw[Tn,T5,TP] at this
 omega
def H7(l:Ao)(c:Nat):Dg:=let f:=fun i:Nat=>Ak (prL l c 0) (i:Int);.l0 (c:Int) (f 0) (f 1) (f 2) (f 3) (f 4) (f 5) (f 6) (f 7)
def Hw(l:Ao)(c k:Nat):Dg:=let f:=fun i:Nat=>Ak (prL l c k) (i:Int);.l1 (c:Int) (l.qu.getD c []) (l.qu.getD c []).length (k:Int) (f 0) (f 1) (f 2) (f 3) (f 4) (f 5) (f 6) (f 7)
theorem P1{l:Ao}{c:Nat}(hc:c<l.qu.length)(ho:l.ow.length=l.qu.length)(h48:l.ow.length<=48){x:Ret}(hx:fnd (bdQ l c) 0 (l.qu.getD c []).length=none->Al (JB l) (some (.inl (H7 l (c+1)))) x):
  Al (JB l) (some (.inl (Hw l c 0))) (match fnd (bdQ l c) 0 (l.qu.getD c []).length with | some _=>([],.bool false) | none=>x):=by
 refine(EJ (fun k=>Hw l c k) (l.qu.getD c []).length (bdQ l c) (rF:=fun _=>(([],.bool false):Ret)) (r:=x) (fun k hk hj hp=>?_) (fun k x hk hj hp hx=>?_) (fun hn=>?_)).res (by cases fnd (bdQ l c) 0 (l.qu.getD c []).length<;>rfl)
 .have h8:=Ip (Nat.le_of_lt hk) hj
  refine .to (show EF l c (l.qu.getD c []) (l.qu.getD c []).length k (Ak (prL l c k) ((0:Nat):Int)) (Ak (prL l c k) ((1:Nat):Int)) (Ak (prL l c k) ((2:Nat):Int)) (Ak (prL l c k) ((3:Nat):Int)) (Ak (prL l c k) ((4:Nat):Int)) (Ak (prL l c k) ((5:Nat):Int)) (Ak (prL l c k) ((6:Nat):Int)) (Ak (prL l c k) ((7:Nat):Int))=_ from ?_) (.ret _)
  unfold EF
  unfold bdQ at hp
  rw[Ah (AB (by simp only[iN];omega)),Ab (by omega),elG 0 hk]
  unfold Ev
  by_cases h0:(l.qu.getD c []).getD k 0<0
  .rw[Au (show ¬0<=(l.qu.getD c []).getD k 0 by omega),Ah (by rfl)]
  by_cases h1:8<=(l.qu.getD c []).getD k 0
  .rw[Au (show ¬(l.qu.getD c []).getD k 0<8 by omega),Ah (by simp)]
  rw[Au h0,Au h1,Te,Te] at hp
  rw[AB (show 0<=(l.qu.getD c []).getD k 0 by omega),AB (show(l.qu.getD c []).getD k 0<8 by omega),Af (by rfl),Ab (by omega),Ab (by omega),J2 (f:=fun i:Nat=>Ak (prL l c k) (i:Int)) (by omega),TN (by omega)]
  cases h2:Ak (prL l c k) ((l.qu.getD c []).getD k 0) with
  | true=>rw[Ah rfl]
  | false=>
   rw[h2,Te] at hp
   rw[Af rfl,Ab (by omega),elG 0 (show c<l.ow.length by omega),Ah (by rw[<-hp];exact BEq.comm)]
 .have h8:=Ip (Nat.le_of_lt hk) hj
  obtain⟨a1,a2,a3,a4⟩:=I3 hp
  refine .to (show EF l c (l.qu.getD c []) (l.qu.getD c []).length k (Ak (prL l c k) ((0:Nat):Int)) (Ak (prL l c k) ((1:Nat):Int)) (Ak (prL l c k) ((2:Nat):Int)) (Ak (prL l c k) ((3:Nat):Int)) (Ak (prL l c k) ((4:Nat):Int)) (Ak (prL l c k) ((5:Nat):Int)) (Ak (prL l c k) ((6:Nat):Int)) (Ak (prL l c k) ((7:Nat):Int))=some (.inl (Hw l c (k+1))) from ?_) hx
  unfold EF Hw
  rw[Ah (AB (by simp only[iN];omega)),Ab (by omega),elG 0 hk]
  unfold Ev
  rw[AB a1,AB a2,Af (by rfl),Ab a1,Ab a2,J2 (f:=fun i:Nat=>Ak (prL l c k) (i:Int)) (by omega),TN a1,a3,Af rfl,Ab (by omega),elG 0 (show c<l.ow.length by omega),Af (by rw[<-a4];exact BEq.comm),Ab (le8 a1 a2),zW k (by omega),Cy a1,Cy a1,Cy a1,Cy a1,Cy a1,Cy a1,Cy a1,Cy a1,PA hk]
 .refine .to (show EF l c (l.qu.getD c []) (l.qu.getD c []).length (l.qu.getD c []).length _ _ _ _ _ _ _ _=some (.inl (H7 l (c+1))) from ?_) (hx hn)
  unfold EF H7
  rw[Af (Au (by simp only[iN];omega)),zW c (by omega),P9]
theorem bdO_rob{x:Int}:(x != -1&&!(Ev x))=(decide (x < -1)||decide (8<=x)):=by
 unfold Ev
 rw[Bool.eq_iff_iff]
 simp only[Tu,T9,T7,Bool.and_eq_false_iff,decide_eq_false_iff_not,TY,decide_eq_true_eq]
 omega
theorem ilv_c(l:Ao):CT Try.prog 51 [] [lkA l] [] (.bool (Bv l)):=by
 refine ilv_ct l ([],_) ?_
 unfold MG Bv
 rw[Tn,Bt]
 by_cases h1:l.ow.length<=48
 case neg=>rw[Ah (AB (by simp only[iN];omega)),Au h1];exact .ret _
 rw[Af (Au (by simp only[iN];omega)),AB h1,Bool.true_and]
 by_cases h2:l.ow.length=l.qu.length
 case neg=>rw[Ah (T9.2 (by simp only[iN];omega)),Au h2];exact .ret _
 rw[Af (by rw[h2];simp),AB h2,Bool.true_and]
 refine Al.res (r:=match fnd (bdR l) 0 l.qu.length with | some _=>(([],.bool false):Ret) | none=>(([],.bool true):Ret)) ?_ (by cases fnd (bdR l) 0 l.qu.length<;>rfl)
 have st:∀c,c<l.qu.length->JB l (H7 l c)=br (bdO l c) (some (.inr ([],.bool false))) (some (.inl (Hw l c 0))):=fun c hc=>by
  show GM l c _ _ _ _ _ _ _ _=_
  unfold GM
  rw[show (gL l.qu).length=(List.map lI l.qu).length from rfl,Cn [] hc,elG 0 (show c<l.ow.length by omega)]
  unfold bdO
  rw[<-bdO_rob]
  cases l.ow.getD c 0 != -1 with
  | false=>rw[Af rfl,Af (by rfl),Tn];rfl
  | true=>
   rw[Ah rfl,elG 0 (show c<l.ow.length by omega),Bool.true_and]
   cases Ev (l.ow.getD c 0) with
   | false=>rw[Ah (by rfl),Ah (by rfl)]
   | true=>rw[Af (by rfl),Af (by rfl),Tn];rfl
 refine(EJ (fun c=>H7 l c) l.qu.length (bdR l) (rF:=fun _=>(([],.bool false):Ret)) (r:=(([],.bool true):Ret)) (fun c hc _ hp=>?_) (fun c x hc _ hp hx=>?_) (fun _=>?_)).res (by cases fnd (bdR l) 0 l.qu.length<;>rfl)
 .refine .to (st c hc) ?_
  unfold bdR at hp
  cases ho:bdO l c with
  | true=>exact .ret _
  | false=>
   rw[ho,Te] at hp
   rw[Af rfl]
   refine(P1 hc h2 h1 (x:=(([],.bool false):Ret)) fun e=>by rw[e] at hp;cases hp).res ?_
   cases fnd (bdQ l c) 0 (l.qu.getD c []).length<;>rfl
 .refine .to (st c hc) ?_
  unfold bdR at hp
  rw[Bool.or_eq_false_iff] at hp
  rw[Af hp.1]
  have:=P1 hc h2 h1 (x:=x) fun _=>hx
  cases hf:fnd (bdQ l c) 0 (l.qu.getD c []).length with
  | none=>rw[hf] at this;exact this
  | some i=>rw[hf] at hp;cases hp.2
 .refine .to (show GM l (l.qu.length:Nat) _ _ _ _ _ _ _ _=_ from ?_) (.ret _)
  unfold GM
  rw[show (gL l.qu).length=(List.map lI l.qu).length from rfl,Cf]
def HS(l:Ao)(c:Nat):C6:=let f:=fun i:Nat=>Ak (prL l c 0) (i:Int);.l0 (c:Int) (f 0) (f 1) (f 2) (f 3) (f 4) (f 5) (f 6) (f 7)
def HW(l:Ao)(c k:Nat):C6:=let f:=fun i:Nat=>Ak (prL l c k) (i:Int);.l1 (c:Int) (k:Int) (l.ow.getD c 0) (decide (8<=l.ow.getD c 0)) (f 0) (f 1) (f 2) (f 3) (f 4) (f 5) (f 6) (f 7)
theorem NB{l:Ao}{c:Nat}(hc:c<l.qu.length)(ho:l.ow.length=l.qu.length)(h48:l.ow.length<=48){x:Ret}(hx:fnd (bdQ l c) 0 (l.qu.getD c []).length=none->Al (Jg l) (some (.inl (HS l (c+1)))) x):
  Al (Jg l) (some (.inl (HW l c 0))) (match fnd (bdQ l c) 0 (l.qu.getD c []).length with | some _=>([],.bool false) | none=>x):=by
 refine(EJ (fun k=>HW l c k) (l.qu.getD c []).length (bdQ l c) (rF:=fun _=>(([],.bool false):Ret)) (r:=x) (fun k hk hj hp=>?_) (fun k x hk hj hp hx=>?_) (fun hn=>?_)).res (by cases fnd (bdQ l c) 0 (l.qu.getD c []).length<;>rfl)
 .have h8:=Ip (Nat.le_of_lt hk) hj
  refine .to (show E9 l c k (l.ow.getD c 0) (decide (8<=l.ow.getD c 0)) (Ak (prL l c k) ((0:Nat):Int)) (Ak (prL l c k) ((1:Nat):Int)) (Ak (prL l c k) ((2:Nat):Int)) (Ak (prL l c k) ((3:Nat):Int)) (Ak (prL l c k) ((4:Nat):Int)) (Ak (prL l c k) ((5:Nat):Int)) (Ak (prL l c k) ((6:Nat):Int)) (Ak (prL l c k) ((7:Nat):Int))=_ from ?_) (.ret _)
  unfold E9
  unfold bdQ at hp
  rw[Ab (by omega),elG [] hc,Ah (AB (by simp only[iN,Tn];omega)),elG [] hc,Ab (by omega),elG 0 hk]
  by_cases h0:(l.qu.getD c []).getD k 0<0
  .rw[Ah (AB h0)]
  by_cases h1:8<=(l.qu.getD c []).getD k 0
  .rw[Af (Au h0),Ah (AB h1)]
  rw[Au h0,Au h1,Te,Te] at hp
  rw[Af (Au h0),Af (Au h1),Ab (by omega),Ab (by omega),J2 (f:=fun i:Nat=>Ak (prL l c k) (i:Int)) (by omega),TN (by omega)]
  cases h2:Ak (prL l c k) ((l.qu.getD c []).getD k 0) with
  | true=>rw[Ah rfl]
  | false=>
   rw[h2,Te] at hp
   rw[Af rfl,elG 0 (show c<l.ow.length by omega),Ah hp]
 .have h8:=Ip (Nat.le_of_lt hk) hj
  obtain⟨a1,a2,a3,a4⟩:=I3 hp
  refine .to (show E9 l c k (l.ow.getD c 0) (decide (8<=l.ow.getD c 0)) (Ak (prL l c k) ((0:Nat):Int)) (Ak (prL l c k) ((1:Nat):Int)) (Ak (prL l c k) ((2:Nat):Int)) (Ak (prL l c k) ((3:Nat):Int)) (Ak (prL l c k) ((4:Nat):Int)) (Ak (prL l c k) ((5:Nat):Int)) (Ak (prL l c k) ((6:Nat):Int)) (Ak (prL l c k) ((7:Nat):Int))=some (.inl (HW l c (k+1))) from ?_) hx
  unfold E9 HW
  rw[Ab (by omega),elG [] hc,Ah (AB (by simp only[iN,Tn];omega)),elG [] hc,Ab (by omega),elG 0 hk,Af (Au (by omega)),Af (Au (by omega)),Ab a1,Ab a2,J2 (f:=fun i:Nat=>Ak (prL l c k) (i:Int)) (by omega),TN a1,a3,Af rfl,elG 0 (show c<l.ow.length by omega),Af a4,Ab (le8 a1 a2),zW k (by omega),Cy a1,Cy a1,Cy a1,Cy a1,Cy a1,Cy a1,Cy a1,Cy a1,PA hk]
 .refine .to (show E9 l c ((l.qu.getD c []).length:Nat) _ _ _ _ _ _ _ _ _ _=some (.inl (HS l (c+1))) from ?_) (hx hn)
  unfold E9 HS
  rw[Ab (by omega),elG [] hc,Tn,Af (Au (by simp only[iN];omega)),zW c (by omega),P9]
theorem rlv_c(l:Ao):CT Try.prog 91 [] [lkA l] [] (.bool (Bv l)):=by
 refine rlv_ct l ([],_) ?_
 unfold KX Bv
 rw[Tn,Bt]
 by_cases h1:l.ow.length<=48
 case neg=>rw[Ah (AB (by simp only[iN];omega)),Au h1];exact .ret _
 rw[Af (Au (by simp only[iN];omega)),AB h1,Bool.true_and]
 by_cases h2:l.ow.length=l.qu.length
 case neg=>rw[Ah (T9.2 (by simp only[iN];omega)),Au h2];exact .ret _
 rw[Af (by rw[h2];simp),AB h2,Bool.true_and]
 refine Al.res (r:=match fnd (bdR l) 0 l.qu.length with | some _=>(([],.bool false):Ret) | none=>(([],.bool true):Ret)) ?_ (by cases fnd (bdR l) 0 l.qu.length<;>rfl)
 have st:∀c,c<l.qu.length->Jg l (HS l c)=br (bdO l c) (some (.inr ([],.bool false))) (some (.inl (HW l c 0))):=fun c hc=>by
  show Hd l c _ _ _ _ _ _ _ _=_
  unfold Hd
  rw[Cn 0 (show c<l.ow.length by omega)]
  unfold bdO
  cases decide (l.ow.getD c 0 < -1) with
  | true=>rfl
  | false=>
   rw[Af rfl,elG 0 (show c<l.ow.length by omega),Te]
   rfl
 refine(EJ (fun c=>HS l c) l.qu.length (bdR l) (rF:=fun _=>(([],.bool false):Ret)) (r:=(([],.bool true):Ret)) (fun c hc _ hp=>?_) (fun c x hc _ hp hx=>?_) (fun _=>?_)).res (by cases fnd (bdR l) 0 l.qu.length<;>rfl)
 .refine .to (st c hc) ?_
  unfold bdR at hp
  cases ho:bdO l c with
  | true=>exact .ret _
  | false=>
   rw[ho,Te] at hp
   rw[Af rfl]
   refine(NB hc h2 h1 (x:=(([],.bool false):Ret)) fun e=>by rw[e] at hp;cases hp).res ?_
   cases fnd (bdQ l c) 0 (l.qu.getD c []).length<;>rfl
 .refine .to (st c hc) ?_
  unfold bdR at hp
  rw[Bool.or_eq_false_iff] at hp
  rw[Af hp.1]
  have:=NB hc h2 h1 (x:=x) fun _=>hx
  cases hf:fnd (bdQ l c) 0 (l.qu.getD c []).length with
  | none=>rw[hf] at this;exact this
  | some i=>rw[hf] at hp;cases hp.2
 .refine .to (show Hd l (l.qu.length:Nat) _ _ _ _ _ _ _ _=_ from ?_) (.ret _)
  unfold Hd
  rw[Af (Au (by simp only[iN,Tn];omega))]
theorem Nh{P:Program}{o:Oper}{ev:Operand->AV}{h:Hp}{nb:Nat}{t t' e:TypeId}{x y:Operand}(ho:o.op = .binOp .eql t x y t')(hu:P.underlying t=some (.slice e))(hx:ev x = .lst [])(hy:ev y = .nils):
  IA P o ev h nb (fun R=>∃b,R={v:=.bool b}):=by
 intro φ A w a K Q hA hv hh hn k
 have h1:=hv x;rw[hx] at h1
 have h2:=hv y;rw[hy] at h2;have h2:=h2.nils_inv
 have hs:∃ad c,a.eval x = .slice ad 0 c:=by
  rcases h1.lst_inv with ⟨_,ad,he⟩ | ⟨r,o',cap,z,g,he,_⟩
  .exact⟨ad,0,he⟩
  .exact⟨_,cap,he⟩
 obtain⟨ad,c,he⟩:=hs
 have key:∃b,(execOp a.eval o).run P w = .ok (.value (.bool b)) w:=by
  have hg:(eqGuard .eql t x y (.slice ad 0 c) (.slice none 0 0)).run P w = .ok () w:=by unfold eqGuard;split<;>simp_all
  have hr:∃b,(Op.equal t (.slice ad 0 c) (.slice none 0 0)).run P w = .ok b w:=by
   have key:∀d,∃b,(Op.equalIn (d+1) t (.slice ad 0 c) (.slice none 0 0)).run P w = .ok b w:=by
    intro d
    cases ad with
    | none=>exact⟨true,by simp[Op.equalIn,run_underlying hu]⟩
    | some ad=>exact⟨false,by simp[Op.equalIn,run_underlying hu]⟩
   exact key 9999
  obtain⟨b,hr⟩:=hr
  refine⟨b,?_⟩
  simp only[execOp,ho,he,h2,Sem.run_bind,hg,Result.andThen_ok,binOp,hr];rfl
 obtain⟨b,hb⟩:=key
 have hv1:Ai P o ev h nb {v:=.bool b}->True:=fun _=>trivial
 unfold Oper.wp
 rw[hb]
 refine k {v:=.bool b} _ w φ ⟨b,rfl⟩ ⟨BN.refl _ w,fun _ _=>rfl,fun b hb=>hn b (by simpa using hb),fun b r z hb h=>?_,fun b b' r z z' hb _ h _=>?_,.imm _ _ (.bool _),fun b blk hm=>by simp at hm,fun blk hm=>by simp at hm,?_,?_⟩
 .rw[hn b hb] at h;cases h
 .rw[hn b hb] at h;cases h
 .intro b blk hm;simp at hm
 .intro b blk hm;simp at hm
theorem cl97_e:CT Try.prog 97 [] [.lst []] [some (Blk.mk [] 1 true true none)] (.sl 0 0 0):=by
 refine CT.of Try.func97 (show Try.f97.body=some (zB Try.f97) from by kernel_rfl) (nL rfl) ?_
 refine T.seq ?_
 refine T.ops (st':=?st1) ?steps1 ?post1
 case steps1=>
  refine .av (.nils) rfl rfl rfl (by kernel_rfl) ?_
  exact .nil _
 show T Try.prog 0 _ _ _
 refine T.seq (T.seq ?_)
 refine T.opsN (.val (v:=.lst []) (noG rfl) rfl (nL rfl) (Cr (hint:=.no) (R:={v:=.lst []}) (p:=True) (by kernel_rfl) trivial).1 (.one (S:=fun R=>∃b,R={v:=.bool b}) (noG rfl) (Nh (e:=3) rfl (by kernel_rfl) rfl rfl) (fun R hR=>?_) (fun R hR=>?_)))
 .obtain⟨b,rfl⟩:=hR
  exact⟨OpR.fits_value _ _,fun b hb=>by simp at hb,fun d hd=>by cases hd;exact nL rfl⟩
 obtain⟨b,rfl⟩:=hR
 refine .nil ?_
 cases b with
 | true=>
  refine T.cond_true rfl (T.seq ?_)
  refine T.ops (st':=?st2) ?steps2 ?post2
  case steps2=>
   refine .av (.nils) rfl rfl rfl (by kernel_rfl) ?_
   exact .nil _
  refine T.ret ?_
  refine⟨.inr rfl,.nils,⟨Try.f97.ntmps,[(0,.sl 0 0 0)],[some (Blk.mk [] 1 true true none)]⟩,rfl,Ren.less rfl (Ty _) (fun s=>?_) (fun b blk hb=>?_),rfl,rfl,(nL rfl)⟩
  .cases s with
   | zero=>exact .nilS _ _
   | succ s=>exact .refl _
  .cases b with
   | zero=>simp[nth] at hb;subst hb;exact .inr ⟨Tx _,rfl,rfl,rfl,rfl⟩
   | succ b=>simp[nth] at hb
 | false=>
  refine T.cond_false rfl (T.skip ?_)
  refine T.seq ?_
  refine T.ops (st':=?st3) ?steps3 ?post3
  case steps3=>
   refine .new (v:=.sl 0 0 0) (blk:=Blk.mk [] 1 true true none) rfl rfl (nL rfl) (Cr (hint:=.no) (R:={v:=.sl 0 0 0,new:=[Blk.mk [] 1 true true none]}) (p:=True) (by kernel_rfl) trivial).1 ?_
   refine .av (.lst []) rfl rfl rfl (by kernel_rfl) ?_
   refine .move (v:=.sl 1 0 0) (b:=0) (blk:=Blk.mk [] 1 true true none) rfl rfl (nL rfl) rfl rfl (Ty _) (Cr (hint:=.no) (R:={v:=.sl 1 0 0,dead:=[0],new:=[Blk.mk [] 1 true true none]}) (p:=0=0/\CE (nth [some (Blk.mk [] 1 true true none)]) 1 (.lst [])/\0+0<=9223372036854775807/\(0+0) * 8<=140737488355328) (by kernel_rfl) ⟨rfl,(fun e he=>by cases he),(by omega),(by omega)⟩).1 ?_
   refine .av (.sl 1 0 0) rfl rfl rfl (by kernel_rfl) ?_
   exact .nil _
  refine T.ret ?_
  exact⟨.inr rfl,.sl 1 0 0,⟨Try.f97.ntmps,[(0,.sl 0 0 0)],[some (Blk.mk [] 1 true true none)]⟩,rfl,Ren.of (p:=True/\True/\True) [1] [] [0] (by kernel_rfl) ⟨trivial,trivial,trivial⟩ rfl rfl rfl,rfl,rfl,(nL rfl)⟩
theorem cl55_e:CT Try.prog 55 [] [.lst []] [some (Blk.mk [] 1 true true none)] (.sl 0 0 0):=by
 refine CT.of Try.func55 (show Try.f55.body=some (zB Try.f55) from by kernel_rfl) (nL rfl) ?_
 refine T.seq ?_
 refine T.ops (st':=?st1) ?steps1 ?post1
 case steps1=>
  refine .av (.nils) rfl rfl rfl (by kernel_rfl) ?_
  exact .nil _
 show T Try.prog 0 _ _ _
 refine T.seq (T.seq ?_)
 refine T.opsN (.val (v:=.lst []) (noG rfl) rfl (nL rfl) (Cr (hint:=.no) (R:={v:=.lst []}) (p:=True) (by kernel_rfl) trivial).1 (.one (S:=fun R=>∃b,R={v:=.bool b}) (noG rfl) (Nh (e:=4) rfl (by kernel_rfl) rfl rfl) (fun R hR=>?_) (fun R hR=>?_)))
 .obtain⟨b,rfl⟩:=hR
  exact⟨OpR.fits_value _ _,fun b hb=>by simp at hb,fun d hd=>by cases hd;exact nL rfl⟩
 obtain⟨b,rfl⟩:=hR
 refine .nil ?_
 cases b with
 | true=>
  refine T.cond_true rfl (T.seq ?_)
  refine T.ops (st':=?st2) ?steps2 ?post2
  case steps2=>
   refine .av (.nils) rfl rfl rfl (by kernel_rfl) ?_
   exact .nil _
  refine T.ret ?_
  refine⟨.inr rfl,.nils,⟨Try.f55.ntmps,[(0,.sl 0 0 0)],[some (Blk.mk [] 1 true true none)]⟩,rfl,Ren.less rfl (Ty _) (fun s=>?_) (fun b blk hb=>?_),rfl,rfl,(nL rfl)⟩
  .cases s with
   | zero=>exact .nilS _ _
   | succ s=>exact .refl _
  .cases b with
   | zero=>simp[nth] at hb;subst hb;exact .inr ⟨Tx _,rfl,rfl,rfl,rfl⟩
   | succ b=>simp[nth] at hb
 | false=>
  refine T.cond_false rfl (T.skip ?_)
  refine T.seq ?_
  refine T.ops (st':=?st3) ?steps3 ?post3
  case steps3=>
   refine .new (v:=.sl 0 0 0) (blk:=Blk.mk [] 1 true true none) rfl rfl (nL rfl) (Cr (hint:=.no) (R:={v:=.sl 0 0 0,new:=[Blk.mk [] 1 true true none]}) (p:=True) (by kernel_rfl) trivial).1 ?_
   refine .av (.lst []) rfl rfl rfl (by kernel_rfl) ?_
   refine .move (v:=.sl 1 0 0) (b:=0) (blk:=Blk.mk [] 1 true true none) rfl rfl (nL rfl) rfl rfl (Ty _) (Cr (hint:=.no) (R:={v:=.sl 1 0 0,dead:=[0],new:=[Blk.mk [] 1 true true none]}) (p:=0=0/\CE (nth [some (Blk.mk [] 1 true true none)]) 1 (.lst [])/\0+0<=9223372036854775807/\(0+0) * 1<=140737488355328) (by kernel_rfl) ⟨rfl,(fun e he=>by cases he),(by omega),(by omega)⟩).1 ?_
   refine .av (.sl 1 0 0) rfl rfl rfl (by kernel_rfl) ?_
   exact .nil _
  refine T.ret ?_
  exact⟨.inr rfl,.sl 1 0 0,⟨Try.f55.ntmps,[(0,.sl 0 0 0)],[some (Blk.mk [] 1 true true none)]⟩,rfl,Ren.of (p:=True/\True/\True) [1] [] [0] (by kernel_rfl) ⟨trivial,trivial,trivial⟩ rfl rfl rfl,rfl,rfl,(nL rfl)⟩
def Od(c:Int):Empty->St
 | x=>x.elim
def PS:Empty->Nat
 | x=>x.elim
def HH(c:Int):Option (Empty⊕Ret):=
 some (.inr ([],AV.tup [uV (u64.wrap (u64.wrap (u64.wrap (0 * c.fdiv 4294967296)+(u64.wrap (u64.wrap (0 * u64.wrap (iN (BitVec.ofInt 64 c &&& BitVec.ofInt 64 4294967295).toNat))+(u64.wrap (1 * u64.wrap (iN (BitVec.ofInt 64 c &&& BitVec.ofInt 64 4294967295).toNat))).fdiv 4294967296)).fdiv 4294967296)+(u64.wrap (u64.wrap (iN (BitVec.ofInt 64 (u64.wrap (u64.wrap (0 * u64.wrap (iN (BitVec.ofInt 64 c &&& BitVec.ofInt 64 4294967295).toNat))+(u64.wrap (1 * u64.wrap (iN (BitVec.ofInt 64 c &&& BitVec.ofInt 64 4294967295).toNat))).fdiv 4294967296)) &&& BitVec.ofInt 64 4294967295).toNat)+u64.wrap (1 * c.fdiv 4294967296))).fdiv 4294967296)),uV (u64.wrap (1 * c))]))
def mulSStep(c:Int):Empty->Option (Empty⊕Ret)
 | x=>x.elim
theorem Rq(c:Int)(o:Empty⊕Ret)(h:HH c=some o):Arr Try.prog Try.f132 0 (Od c) PS (zB Try.f132) [] {n:=Try.f132.ntmps,fr:=AA 0 ([.int .u64 1,.int .u64 c]),hp:=([])} o:=
 Scr.ok h mix (
 .rt [] [] [] [] [] [] (aj (aj t3 (aj (u2 (u2 s2)) (aj (u2 (aj (ak (show Int.NonNeg (32:Int) from(by first | decide | exact S0 _))) s2)) (aj (u2 (u2 s2)) (aj (u2 (aj (ak (show Int.NonNeg (32:Int) from(by first | decide | exact S0 _))) s2)) (aj (u2 (u2 (aj t3 s2))) (aj (u2 (u2 (aj t3 (u2 (aj (ak (show Int.NonNeg (32:Int) from(by first | decide | exact S0 _))) (aj t3 s2)))))) (aj (u2 (u2 s2)) (aj (u2 (aj (ak (show Int.NonNeg (32:Int) from(by first | decide | exact S0 _))) s2)) (aj (u2 (u2 (u2 (aj t3 (aj t3 s2))))) (aj (u2 (u2 (aj t3 (u2 (aj t3 (u2 (aj (ak (show Int.NonNeg (32:Int) from(by first | decide | exact S0 _))) (aj t3 s2)))))))) (al (u2 (u2 (aj t3 s2))))))))))))))) (al t3))) (by kernel_rfl)
theorem mulS_ct(c:Int)(r:Ret)(h:Al (mulSStep c) (HH c) r):CT Try.prog 132 ([]) ([.int .u64 1,.int .u64 c]) r.1 r.2:=
 CT.mach (fn:=Try.f132) (c:=zB Try.f132) (S:=Od c) (hd:=PS) Try.func132 (by kernel_rfl) (nL rfl)
  (fun s o ho=>match s,ho with
   | x,_=>x.elim)
  (fun o ho=>Rq c o ho) h
theorem mulS_fin:∀n:Fin 49,HH ((n.val:Nat):Int)=some (.inr ([],AV.tup [AV.int .u64 0,AV.int .u64 ((n.val:Nat):Int)])):=fun n=>by
 have h:∀n:Fin 49,(match HH ((n.val:Nat):Int) with | some (.inr ([],.tup [.int _ a,.int _ b]))=>decide (a=0)&&decide (b=((n.val:Nat):Int)) | _=>false)=true:=by decide +kernel
 have h:=h n
 unfold HH at h ⊢
 simp only[Tu,decide_eq_true_eq] at h
 rw[h.1,h.2]
theorem mul64_c(c:Int)(h:0<=c/\c<=48):CT Try.prog 132 [] [.int .u64 1,.int .u64 c] [] (.tup [.int .u64 0,.int .u64 c]):=by
 refine mulS_ct c ([],_) (.val ?_)
 have:=mulS_fin ⟨c.toNat,by omega⟩
 have e:((c.toNat:Nat):Int)=c:=by omega
 simp only[e] at this
 exact this
def Pt(c:Int):Empty->St
 | x=>x.elim
def Py:Empty->Nat
 | x=>x.elim
def KO(c:Int):Option (Empty⊕Ret):=
 gu (0<=c/\c<=48) <|
 some (.inr ([],AV.tup [uV 0,uV c]))
def mulTStep(c:Int):Empty->Option (Empty⊕Ret)
 | x=>x.elim
theorem Sz(c:Int)(o:Empty⊕Ret)(h:KO c=some o):Arr Try.prog Try.f95 0 (Pt c) Py (zB Try.f95) [] {n:=Try.f95.ntmps,fr:=AA 0 ([.int .u64 1,.int .u64 c]),hp:=([])} o:=
 Scr.ok h mix (
 .rn 0 [] [] [] [] (al t3) <|
 .gu fun a0=>
 have c0:=mul64_c c a0;
 .rt [] [] [(25,hK c0 [] [])] [] [] [] (aj (ak (aj (u2 (u2 (aj (ak (k3 (al (c0)))) (u2 (u2 (u2 (u2 s2))))))) (al (u2 (u2 (u2 s2)))))) (al t3))) (by kernel_rfl)
theorem mulT_ct(c:Int)(r:Ret)(h:Al (mulTStep c) (KO c) r):CT Try.prog 95 ([]) ([.int .u64 1,.int .u64 c]) r.1 r.2:=
 CT.mach (fn:=Try.f95) (c:=zB Try.f95) (S:=Pt c) (hd:=Py) Try.func95 (by kernel_rfl) (nL rfl)
  (fun s o ho=>match s,ho with
   | x,_=>x.elim)
  (fun o ho=>Sz c o ho) h
theorem mul_c(c:Int)(h:0<=c/\c<=48):CT Try.prog 95 [] [.int .u64 1,.int .u64 c] [] (.tup [.int .u64 0,.int .u64 c]):=by
 refine mulT_ct c ([],_) (.val ?_)
 unfold KO
 rw[Ab h]
inductive Ee where
 | l0 (v0:Int) (v1:List Int)
def Fp(c:Int):Ee->St
 | .l0 v0 v1=>St.mk 48 [(7,AV.sl 0 0 (i64.wrap (u64.wrap c)).toNat),(8,iv v0)] [some (bK (List.map (iv) v1) 1)]
def LN:Ee->Nat
 | .l0 _ _=>0
def Lb(c:Int):Option (Ee⊕Ret):=
 br (decide (c<0))
 (none)
 (gu (0<=u64.wrap c/\u64.wrap c<=48) <|
  br (decide (9223372036854775807<u64.wrap c))
  (none)
  (gu (0<=i64.wrap (u64.wrap c)) <|
   gu (8 * i64.wrap (u64.wrap c)<=281474976710656) <|
   gu (i64.wrap (u64.wrap c)<=9223372036854775807) <|
   some (.inl (.l0 (iN (min 1 (i64.wrap (u64.wrap c)).toNat)) (List.take (min 1 (i64.wrap (u64.wrap c)).toNat) [-1]++List.drop (0+min 1 (i64.wrap (u64.wrap c)).toNat) (List.replicate (i64.wrap (u64.wrap c)).toNat 0))))))
def Js(c v0:Int)(v1:List Int):Option (Ee⊕Ret):=
 br (decide (v0<iN (i64.wrap (u64.wrap c)).toNat))
 (gu (0<=v0) <|
  gu (v0<=iN (i64.wrap (u64.wrap c)).toNat) <|
  gu (0+v0.toNat+((i64.wrap (u64.wrap c)).toNat-v0.toNat)<=(List.map iV v1).length) <|
  gu (0+(v0.toNat-Int.toNat 0)<=(List.map iV v1).length) <|
  some (.inl (.l0 (i64.wrap (v0+iN (min (List.take (v0.toNat-Int.toNat 0) (List.drop 0 (List.map iV v1))).length ((i64.wrap (u64.wrap c)).toNat-v0.toNat)))) (List.take (0+v0.toNat) v1++List.take (min (List.take (v0.toNat-Int.toNat 0) (List.drop 0 (List.map iV v1))).length ((i64.wrap (u64.wrap c)).toNat-v0.toNat)) (List.take (v0.toNat-Int.toNat 0) (List.drop 0 v1))++List.drop (0+v0.toNat+min (List.take (v0.toNat-Int.toNat 0) (List.drop 0 (List.map iV v1))).length ((i64.wrap (u64.wrap c)).toNat-v0.toNat)) v1))))
 (some (.inr ([some (bK (List.map iV v1) 1)],AV.sl 0 0 (i64.wrap (u64.wrap c)).toNat)))
def Lu(c:Int):Ee->Option (Ee⊕Ret)
 | .l0 v0 v1=>Js c v0 v1
theorem repEn_ok(c:Int)(o:Ee⊕Ret)(h:Lb c=some o):Arr Try.prog Try.f44 0 (Fp c) LN (zB Try.f44) [] {n:=Try.f44.ntmps,fr:=AA 0 ([lI [-1],.int .i64 c]),hp:=([])} o:=
 Scr.ok h mix (
 .rn 1 [] [] [] [] (u2 (al (u2 s2))) <|
 .br (fun a0=>
 .no)
 (fun a0=>
 .gu fun a1=>
 have c0:=mul_c (u64.wrap c) a1;
 .rn 1 [20] [] [(18,hK c0 [] [])] [] (aj a0 (aj (u2 (u2 (u2 (u2 (u2 (aj (ak (k3 (al (c0)))) (u2 (u2 (u2 (u2 s2)))))))))) (al (u2 (u2 (u2 (aj t3 (aj t3 (al t3))))))))) <|
 .br (fun a2=>
  .no)
 (fun a2=>
  .gu fun a3=>
  .gu fun a4=>
  .gu fun a5=>
  .lq [52] [] [] [] [] [0] [7,8] (up [] [(0,[]++List.take (min 1 (i64.wrap (u64.wrap c)).toNat) [iv (-1)]++List.drop (0+min 1 (i64.wrap (u64.wrap c)).toNat) (List.replicate (i64.wrap (u64.wrap c)).toNat (iv 0)))] (Fp c (.l0 (iN (min 1 (i64.wrap (u64.wrap c)).toNat)) (List.take (min 1 (i64.wrap (u64.wrap c)).toNat) [-1]++List.drop (0+min 1 (i64.wrap (u64.wrap c)).toNat) (List.replicate (i64.wrap (u64.wrap c)).toNat 0))))) (aj (aj a2 (aj (u2 (u2 (aj (k2 (aj a3 (aj (show i64.wrap (u64.wrap c)<=i64.wrap (u64.wrap c) by omega) (aj a4 a5)))) s2))) (al (u2 (u2 (aj (k2 (aj (show 0+(i64.wrap (u64.wrap c)).toNat<=(List.replicate (i64.wrap (u64.wrap c)).toNat (iv 0)).length by simp) (show ∀(e:AV),e∈[iv (-1:Int)]->e.cells.length=nat_lit 1 from(by first | decide | exact S0 _)))) s2)))))) t4) (by simp[up,upF,upV,upH,upB,Fp,gL,boL,lI])))) (by kernel_rfl)
theorem repS0_ok(c v0:Int)(v1:List Int)(o:Ee⊕Ret)(h:Js c v0 v1=some o):Arr Try.prog Try.f44 0 (Fp c) LN (Av Try.f44 0) (.rnd (Av Try.f44 0)::AG Try.f44 0) (Fp c (.l0 v0 v1)) o:=
 Scr.ok h mix (
 .rn 0 [] [] [] [] (al (u2 (u2 (u2 (al t3))))) <|
 .br (fun a0=>
 .gu fun a1=>
 .gu fun a2=>
 .gu fun a3=>
 .gu fun a4=>
 .lq [75] [] [] [] [] [0] [7,8] (up [] [(0,List.take (0+v0.toNat) (List.map (iv) v1)++List.take (min (List.take (v0.toNat-Int.toNat 0) (List.drop 0 (List.map (iv) v1))).length ((i64.wrap (u64.wrap c)).toNat-v0.toNat)) (List.take (v0.toNat-Int.toNat 0) (List.drop 0 (List.map (iv) v1)))++List.drop (0+v0.toNat+min (List.take (v0.toNat-Int.toNat 0) (List.drop 0 (List.map (iv) v1))).length ((i64.wrap (u64.wrap c)).toNat-v0.toNat)) (List.map (iv) v1))] (Fp c (.l0 (i64.wrap (v0+iN (min (List.take (v0.toNat-Int.toNat 0) (List.drop 0 (List.map (iv) v1))).length ((i64.wrap (u64.wrap c)).toNat-v0.toNat)))) (List.take (0+v0.toNat) v1++List.take (min (List.take (v0.toNat-Int.toNat 0) (List.drop 0 (List.map (iv) v1))).length ((i64.wrap (u64.wrap c)).toNat-v0.toNat)) (List.take (v0.toNat-Int.toNat 0) (List.drop 0 v1))++List.drop (0+v0.toNat+min (List.take (v0.toNat-Int.toNat 0) (List.drop 0 (List.map (iv) v1))).length ((i64.wrap (u64.wrap c)).toNat-v0.toNat)) v1)))) (aj (aj a0 (al (u2 (u2 (u2 (aj (k2 (aj a1 (aj a2 (aj (show iN (i64.wrap (u64.wrap c)).toNat<=iN (i64.wrap (u64.wrap c)).toNat by omega) (show iN (i64.wrap (u64.wrap c)).toNat<=iN (i64.wrap (u64.wrap c)).toNat by omega))))) (u2 (u2 (aj (k2 (aj (show(0:Int)<=(0:Int) from(by first | exact nL rfl | decide)) (aj a1 (aj a2 (show iN (i64.wrap (u64.wrap c)).toNat<=iN (i64.wrap (u64.wrap c)).toNat by omega))))) (aj (k2 (aj a3 (aj (show nat_lit 1=nat_lit 1 from rfl) a4))) (aj t3 s2))))))))))) t4) (by simp[up,upF,upV,upH,upB,Fp,gL,boL,lI]))
 (fun a0=>
 .rt [74] [] [] [] [0] [] (aj (aj a0 (al (u2 s2))) t3))) (by kernel_rfl)
theorem rep_ct(c:Int)(r:Ret)(h:Al (Lu c) (Lb c) r):CT Try.prog 44 ([]) ([lI [-1],.int .i64 c]) r.1 r.2:=
 CT.mach (fn:=Try.f44) (c:=zB Try.f44) (S:=Fp c) (hd:=LN) Try.func44 (by kernel_rfl) (nL rfl)
  (fun s o ho=>match s,ho with
   | .l0 v0 v1,ho=>repS0_ok c v0 v1 o ho
  )
  (fun o ho=>repEn_ok c o ho) h
def rpV(c m:Nat):List Int:=List.replicate m (-1)++List.replicate (c-m) 0
theorem rpV_step{c m k:Nat}(hk:k<=m)(hc:m+k<=c):List.take (0+m) (rpV c m)++List.take k (List.take (m-0) (List.drop 0 (rpV c m)))++List.drop (0+m+k) (rpV c m)=rpV c (m+k):=by
 have e1:List.take m (rpV c m)=List.replicate m (-1):=by unfold rpV;rw[List.take_append_of_le_length (by simp)];simp
 have e2:List.drop (m+k) (rpV c m)=List.replicate (c-(m+k)) 0:=by
  unfold rpV
  rw[List.drop_append,List.drop_of_length_le (by simp),TG,List.nil_append,List.drop_replicate];congr 1;omega
 rw[TB,Nat.sub_zero,List.drop_zero,e1,e2,List.take_replicate,Nat.min_eq_left hk,List.replicate_append_replicate];rfl
theorem FN{c m:Nat}(h:m<=c):(rpV c m).length=c:=by unfold rpV;simp;omega
theorem wrapU{x:Int}(h1:0<=x)(h2:x<=9223372036854775807):u64.wrap x=x:=by simp only[IntKind.wrap,IntKind.bits,IntKind.signed];simp;omega
theorem wrapI{x:Int}(h1:0<=x)(h2:x<=9223372036854775807):i64.wrap x=x:=by simp only[IntKind.wrap,IntKind.bits,IntKind.signed];simp;omega
theorem rep_c(x:Int)(h:0<=x/\x<=48):CT Try.prog 44 [] [lI [-1],.int .i64 x] [some (Blk.mk ((List.replicate x.toNat (-1)).map (AV.int .i64)) 1 true true none)] (.sl 0 0 x.toNat):=by
 obtain⟨c,rfl⟩:∃c:Nat,x=c:=⟨x.toNat,by omega⟩
 have h48:c<=48:=by omega
 refine rep_ct (c:Int) ([_],_) ?_
 have wu:=wrapU (x:=(c:Int)) (by omega) (by omega)
 have wi:=wrapI (x:=(c:Int)) (by omega) (by omega)
 have hS:∀a b,Lu (c:Int) (.l0 a b)=Js c a b:=fun _ _=>rfl
 unfold Js at hS
 unfold Lb
 simp only[wu,wi,Tv] at hS ⊢
 rw[Af (Tq (by omega)),Ab (by omega),Af (Tq (by omega)),Ab (by omega),Ab (by omega),Ab (by omega)]
 have key:∀(d m:Nat),c-m<=d->m<=c->(1<=m\/c=0)->Al (Lu (c:Int)) (some (.inl (.l0 (m:Int) (rpV c m)))) (([some (Blk.mk ((List.replicate c (-1)).map (AV.int .i64)) 1 true true none)],.sl 0 0 c):Ret):=by
  intro d
  induction d with
  | zero=>
   intro m hd hm _
   obtain rfl:m=c:=by omega
   refine .to (hS _ _) ?_
   rw[Af (Tq (by simp only[iN];omega))]
   have:rpV m m=List.replicate m (-1):=by unfold rpV;simp
   rw[this];exact .ret _
  | succ d ih=>
   intro m hd hm h1
   by_cases he:m=c
   .exact ih m (by omega) hm h1
   have hl:=FN hm
   refine .to (hS _ _) ?_
   have hk:min (List.take (m-Int.toNat 0) (List.drop 0 (List.map (AV.int i64) (rpV c m)))).length (c-m)=min m (c-m):=by
    rw[List.drop_zero,TP,Tn,hl];simp only[Int.toNat_zero];omega
   rw[Ah (Ts (by simp only[iN];omega)),Ab (by omega),Ab (by simp only[iN];omega),Tv,Ab (by rw[Tn,hl];omega),Ab (by rw[Tn,hl];simp only[Int.toNat_zero];omega),hk,wrapI (by simp only[iN];omega) (by simp only[iN];omega)]
   have e:=rpV_step (c:=c) (m:=m) (k:=min m (c-m)) (by omega) (by omega)
   have e2:(m:Int)+iN (min m (c-m))=((m+min m (c-m):Nat):Int):=by simp only[iN];omega
   rw[e2]
   have:=ih (m+min m (c-m)) (by omega) (by omega) (by omega)
   rw[<-e] at this
   exact this
 have e0:(some (.inl (.l0 (iN (min 1 c)) (List.take (min 1 c) [-1]++List.drop (0+min 1 c) (List.replicate c 0)))):Option (Ee⊕Ret))=some (.inl (.l0 ((min 1 c:Nat):Int) (rpV c (min 1 c)))):=by
  have:List.take (min 1 c) [-1]++List.drop (0+min 1 c) (List.replicate c (0:Int))=rpV c (min 1 c):=by
   unfold rpV
   cases c with
   | zero=>rfl
   | succ c=>rw[show min 1 (c+1)=1 by omega,TB,List.drop_replicate];rfl
  rw[this]
 rw[e0]
 exact key c (min 1 c) (by omega) (by omega) (by omega)
inductive Df where
 | l0 (v0:Int)
 | l1 (v0:Int)
def Gp(n:Aa)(q:Ac):Df->St
 | .l0 v0=>St.mk 101 [(2,AV.ptr 0 0 0),(3,AV.ptr 1 0 0),(42,AV.lst (List.map (iv) q.bw)),(43,iv (iN (List.map (iv) q.bw).length)),(44,iv v0)] [some (bK [Ad n] 8),some (bK [AV.agg [AV.lst (boL q.cl),AV.lst (List.map (iv) q.bw),AV.lst (List.map (iv) q.pe)]] 3)]
 | .l1 v0=>St.mk 101 [(2,AV.ptr 0 0 0),(3,AV.ptr 1 0 0),(69,AV.lst (List.map (iv) q.pe)),(70,iv (iN (List.map (iv) q.pe).length)),(71,iv v0)] [some (bK [Ad n] 8),some (bK [AV.agg [AV.lst (boL q.cl),AV.lst (List.map (iv) q.bw),AV.lst (List.map (iv) q.pe)]] 3)]
def JD:Df->Nat
 | .l0 _=>0
 | .l1 _=>1
def KL(n:Aa)(q:Ac):Option (Df⊕Ret):=
 gu (Rows n.nx) <|
 br (FP n != 0)
 (some (.inr ([],bV false)))
 (br (iN (boL q.cl).length != BT n)
  (some (.inr ([],bV false)))
  (br (iN (List.map iV q.bw).length != BT n)
   (some (.inr ([],bV false)))
   (br (decide (iN (List.map bA n.bs).length<iN (List.map iV q.pe).length))
    (some (.inr ([],bV false)))
    (some (.inl (.l0 ((0:Int))))))))
def ES(n:Aa)(q:Ac)(v0:Int):Option (Df⊕Ret):=
 br (decide (v0<iN (List.map iV q.bw).length))
 (gu (0<=v0) <|
  el (q.bw) (v0.toNat) fun(x47:Int)=>
  br (decide (x47 < -1))
  (some (.inr ([],bV false)))
  (br (decide (8<=x47))
   (some (.inr ([],bV false)))
   (br (decide (0<=x47))
    (el (q.cl) (v0.toNat) fun(x62:Bool)=>
     br (!x62)
     (some (.inr ([],bV false)))
     (some (.inl (.l0 (i64.wrap (v0+1))))))
    (some (.inl (.l0 (i64.wrap (v0+1))))))))
 (some (.inl (.l1 ((0:Int)))))
def E1(n:Aa)(q:Ac)(v0:Int):Option (Df⊕Ret):=
 br (decide (v0<iN (List.map iV q.pe).length))
 (gu (0<=v0) <|
  el (q.pe) (v0.toNat) fun(x74:Int)=>
  br (decide (x74<0))
  (some (.inr ([],bV false)))
  (br (decide (iN (List.map bA n.bs).length<=x74))
   (some (.inr ([],bV false)))
   (gu (0<=x74) <|
    el (q.cl) (x74.toNat) fun(x89:Bool)=>
    br x89
    (some (.inr ([],bV false)))
    (gu (∀(e:AV),e∈List.map iV q.pe->e.cells.length=1) <|
     gu (v0<=iN (List.map iV q.pe).length) <|
     gu ((List.take (v0.toNat-Int.toNat 0) (List.drop (Int.toNat 0) q.pe)).length<=9223372036854775807) <|
     br (Ak (List.take (v0.toNat-Int.toNat 0) (List.drop (Int.toNat 0) q.pe)) x74)
     (some (.inr ([],bV false)))
     (some (.inl (.l1 (i64.wrap (v0+1)))))))))
 (some (.inr ([],bV true)))
def svaStep(n:Aa)(q:Ac):Df->Option (Df⊕Ret)
 | .l0 v0=>ES n q v0
 | .l1 v0=>E1 n q v0
theorem svaEn_ok(n:Aa)(q:Ac)(o:Df⊕Ret)(h:KL n q=some o):Arr Try.prog Try.f25 0 (Gp n q) JD (zB Try.f25) [] {n:=Try.f25.ntmps,fr:=AA 0 ([Ad n,sgA q]),hp:=([])} o:=
 Scr.ok h mix (
 .rn 0 [] [] [] [] (al (u2 (u2 t2))) <|
 .gu fun a0=>
 have c0:=cnt_c a0;
 .rn 0 [] [] [(13,hK c0 [] [])] [] (al (u2 (aj (ak (aj t9 (al (c0)))) (u2 (u2 (u2 (u2 s2))))))) <|
 .br (fun a1=>
 .rt [37] [] [] [] [] [] (aj (aj (u2 (u2 (u2 (aj a1 (aj a1 (aj a1 (aj a1 (aj a1 (ag a1 (u2 (k5 (aj t3 (u2 (k2 (k5 (al t3)))))))))))))))) (ak s2)) t2))
 (fun a1=>
 .br (fun a2=>
  .rt [36,51] [] [] [] [] [] (aj (aj (u2 (u2 (u2 (ag a1 (ag a1 (ag a1 (ag a1 (aj (aj a1 t3) (ag a1 (u2 (aj a2 (aj a2 (aj a2 (aj a2 (aj a2 (ag a2 (u2 (k2 (k5 (al t3)))))))))))))))))))) (ak s2)) t2))
 (fun a2=>
  .br (fun a3=>
  .rt [36,50,65] [] [] [] [] [] (aj (aj (u2 (u2 (u2 (ag a1 (ag a1 (ag a1 (ag a1 (aj (aj a1 t3) (ag a1 (u2 (ag a2 (ag a2 (ag a2 (ag a2 (aj (aj a2 t3) (ag a2 (u2 (aj a3 (aj a3 (aj a3 (aj a3 (aj a3 (aj a3 (aj a3 (al (aj a3 t2)))))))))))))))))))))))))) (ak s2)) t2))
  (fun a3=>
  .rn 0 [36,50,64] [] [] [] (al (u2 (u2 (u2 (ag a1 (ag a1 (ag a1 (ag a1 (aj (aj a1 t3) (ag a1 (u2 (ag a2 (ag a2 (ag a2 (ag a2 (aj (aj a2 t3) (ag a2 (u2 (ag a3 (ag a3 (ag a3 (ag a3 (ag a3 (ag a3 (aj (aj a3 t3) (al (aj a3 t2))))))))))))))))))))))))))) <|
  .br (fun a4=>
   .rt [36,50,64,81] [] [] [] [] [] (aj (aj a4 s2) t2))
  (fun a4=>
   .lp [36,50,64,80] [] [] [] [] [0,1] [2,3,42,43,44] (aj (aj a4 (al (u2 (u2 (u2 t2))))) t8)))))) (by kernel_rfl)
theorem svaS0_ok(n:Aa)(q:Ac)(v0:Int)(o:Df⊕Ret)(h:ES n q v0=some o):Arr Try.prog Try.f25 0 (Gp n q) JD (Av Try.f25 0) (.rnd (Av Try.f25 0)::AG Try.f25 0) (Gp n q (.l0 v0)) o:=
 Scr.ok h mix (
 .rn 0 [] [] [] [] (al (al t3)) <|
 .br (fun a0=>
 .gu fun a1=>
 .el fun x47 a2=>
 .rn 0 [91] [(47,iv x47)] [] [] (aj a0 (al (u2 (aj (k2 (aj a1 (Aq (f:=iv) a2))) (u2 (u2 s2)))))) <|
 .br (fun a3=>
  .rt [103] [] [] [] [] [] (aj (aj (u2 (u2 (u2 (aj a3 (aj a3 (ag a3 (u2 (k5 (k5 (al t3)))))))))) (ak s2)) t2))
 (fun a3=>
  .br (fun a4=>
  .rt [102,111] [] [] [] [] [] (aj (aj (u2 (u2 (u2 (ag a3 (ag a3 (ag a3 (u2 (aj a4 (aj a4 (aj a4 (ak (k5 (aj a4 (al (aj a4 t2))))))))))))))) (ak s2)) t2))
  (fun a4=>
  .br (fun a5=>
   .el fun x62 a6=>
   .rn 0 [102,110,117] [(62,bV x62)] [] [] (al (u2 (u2 (u2 (ag a3 (ag a3 (ag a3 (u2 (ag a4 (ag a4 (ag a4 (ag a5 (ag a5 (ag a5 (aj (aj a5 (k2 (aj a1 (Aq (f:=bV) a6)))) (ag a5 (ag a5 (aj (aj a4 (aj a5 t2)) (al (aj a4 t2)))))))))))))))))))) <|
   .br (fun a7=>
   .rt [102,110,117,133] [] [] [] [] [] (aj (aj a7 s2) t2))
   (fun a7=>
   .lp [102,110,117,132] [] [] [] [] [0,1] [2,3,42,43,44] (aj (aj a7 (al (u2 s2))) t8)))
  (fun a5=>
   .lp [102,110,116] [] [] [] [] [0,1] [2,3,42,43,44] (aj (aj (u2 (u2 (u2 (ag a3 (ag a3 (ag a3 (u2 (ag a4 (ag a4 (ag a4 (aj a5 (aj a5 (aj a5 (aj a5 (aj a5 (aj a5 (aj (aj a4 (aj a5 t2)) (al (aj a4 t2))))))))))))))))))) (ak (al (u2 s2)))) t8)))))
 (fun a0=>
 .lp [90] [] [] [] [] [0,1] [2,3,69,70,71] (aj (aj a0 (al (u2 (u2 (u2 t2))))) t8))) (by kernel_rfl)
theorem svaS1_ok(n:Aa)(q:Ac)(v0:Int)(o:Df⊕Ret)(h:E1 n q v0=some o):Arr Try.prog Try.f25 0 (Gp n q) JD (Av Try.f25 1) (.rnd (Av Try.f25 1)::AG Try.f25 1) (Gp n q (.l1 v0)) o:=
 Scr.ok h mix (
 .rn 0 [] [] [] [] (al (al t3)) <|
 .br (fun a0=>
 .gu fun a1=>
 .el fun x74 a2=>
 .rn 0 [145] [(74,iv x74)] [] [] (aj a0 (al (u2 (aj (k2 (aj a1 (Aq (f:=iv) a2))) (u2 (u2 s2)))))) <|
 .br (fun a3=>
  .rt [157] [] [] [] [] [] (aj (aj (u2 (u2 (u2 (aj a3 (aj a3 (aj a3 (aj a3 (aj a3 (ag a3 (u2 (k5 (aj t3 (u2 (ak (k5 (al t3)))))))))))))))) (ak s2)) t2))
 (fun a3=>
  .br (fun a4=>
  .rt [156,171] [] [] [] [] [] (aj (aj (u2 (u2 (u2 (ag a3 (ag a3 (ag a3 (ag a3 (aj (aj a3 t3) (ag a3 (u2 (aj a4 (aj a4 (aj a4 (aj a4 (aj a4 (ag a4 (u2 (ak (k5 (al t3)))))))))))))))))))) (ak s2)) t2))
  (fun a4=>
  .gu fun a5=>
  .el fun x89 a6=>
  .br (fun a7=>
   .rt [156,170,185] [(89,bV x89)] [] [] [] [] (aj (aj (u2 (u2 (u2 (ag a3 (ag a3 (ag a3 (ag a3 (aj (aj a3 t3) (ag a3 (u2 (ag a4 (ag a4 (ag a4 (aj (aj a4 (k2 (aj a5 (Aq (f:=bV) a6)))) (ag a4 (ag a4 (u2 (aj a7 (aj a7 (aj a7 (aj a7 (aj a7 (aj a7 (al (aj a7 t2))))))))))))))))))))))))) (ak s2)) t2))
  (fun a7=>
   .gu fun a8=>
   .gu fun a9=>
   .gu fun a10=>
   have c0:=Ia (List.take (v0.toNat-Int.toNat 0) (List.drop (Int.toNat 0) q.pe)) x74 a10;
   .rn 0 [156,170,184] [(89,bV x89)] [(98,hK c0 [] [])] [] (al (u2 (u2 (u2 (ag a3 (ag a3 (ag a3 (ag a3 (aj (aj a3 t3) (ag a3 (u2 (ag a4 (ag a4 (ag a4 (aj (aj a4 (k2 (aj a5 (Aq (f:=bV) a6)))) (ag a4 (ag a4 (u2 (ag a7 (ag a7 (ag a7 (aj (aj a7 (k2 (aj a8 (aj (show(0:Int)<=(0:Int) from(by first | exact nL rfl | decide)) (aj a1 (aj a9 (show iN (List.map (iv) q.pe).length<=iN (List.map (iv) q.pe).length by omega))))))) (ag a7 (aj (aj a7 (ak (k3 (al (show CT Try.prog 47 [] [AV.lst (List.take (v0.toNat-Int.toNat 0) (List.drop (Int.toNat 0) (List.map (iv) q.pe))),iv x74] [] (bV (Ak (List.take (v0.toNat-Int.toNat 0) (List.drop (Int.toNat 0) q.pe)) x74)) from CT.eqs (c0) (by first | (simp only[boL,Tz,Ud,List.map_take,List.map_drop,List.map_replicate,List.nil_append];done) | (simp only[boL,Tz,Ud,List.map_take,List.map_drop,List.map_replicate,List.nil_append];rfl) | (simp[gL,boL,lI,sA,bA];done) | (simp[gL,boL,lI,sA,bA];rfl) | (simp only[Ad,Tz,Ud,Tg,Th];rfl)) (by first | (simp only[boL,Tz,Ud,List.map_take,List.map_drop,List.map_replicate,List.nil_append];done) | (simp only[boL,Tz,Ud,List.map_take,List.map_drop,List.map_replicate,List.nil_append];rfl) | (simp[gL,boL,lI,sA,bA];done) | (simp[gL,boL,lI,sA,bA];rfl) | (simp only[Ad,Tz,Ud,Tg,Th];rfl))))))) (al (aj a7 t2)))))))))))))))))))))))))) <|
   .br (fun a11=>
   .rt [156,170,184,199] [] [] [] [] [] (aj (aj a11 s2) t2))
   (fun a11=>
   .lp [156,170,184,198] [] [] [] [] [0,1] [2,3,69,70,71] (aj (aj a11 (al (u2 s2))) t8))))))
 (fun a0=>
 .rt [144] [] [] [] [] [] (aj (aj a0 s2) t2))) (by kernel_rfl)
theorem sva_ct(n:Aa)(q:Ac)(r:Ret)(h:Al (svaStep n q) (KL n q) r):CT Try.prog 25 ([]) ([Ad n,sgA q]) r.1 r.2:=
 CT.mach (fn:=Try.f25) (c:=zB Try.f25) (S:=Gp n q) (hd:=JD) Try.func25 (by kernel_rfl) (nL rfl)
  (fun s o ho=>match s,ho with
   | .l0 v0,ho=>svaS0_ok n q v0 o ho
   | .l1 v0,ho=>svaS1_ok n q v0 o ho
  )
  (fun o ho=>svaEn_ok n q o ho) h
def Pz(n:Aa)(q:Ac):Empty->St
 | x=>x.elim
def PR:Empty->Nat
 | x=>x.elim
def L4(n:Aa)(q:Ac):Option (Empty⊕Ret):=
 gu (Rows n.nx) <|
 br (AY n)
 (gu (Ax n) <|
  some (.inr ([],bV (FB n q))))
 (some (.inr ([],bV false)))
def r20vStep(n:Aa)(q:Ac):Empty->Option (Empty⊕Ret)
 | x=>x.elim
theorem Sf(n:Aa)(q:Ac)(o:Empty⊕Ret)(h:L4 n q=some o):Arr Try.prog Try.f75 0 (Pz n q) PR (zB Try.f75) [] {n:=Try.f75.ntmps,fr:=AA 0 ([Ad n,sgA q]),hp:=([])} o:=
 Scr.ok h mix (
 .rn 0 [] [] [] [] (al (u2 (u2 t2))) <|
 .gu fun a0=>
 .br (fun a1=>
 .gu fun a2=>
 have c0:=IT a0;
 have c1:=fo_c q a2;
 .rt [15] [] [(6,hK c0 [] []),(10,hK c1 [] [])] [] [] [] (aj (al (u2 (aj (ak (aj t9 (al (c0)))) (u2 (ag a1 (ag a1 (aj (aj a1 (k2 (aj t9 (aj t4 (al (c1)))))) (ag a1 s2)))))))) t2))
 (fun a1=>
 have c0:=IT a0;
 .rt [14] [] [(6,hK c0 [] [])] [] [] [] (aj (al (u2 (aj (ak (aj t9 (al (c0)))) (u2 (aj a1 (aj a1 (aj a1 (ag a1 s2)))))))) t2))) (by kernel_rfl)
theorem r20v_ct(n:Aa)(q:Ac)(r:Ret)(h:Al (r20vStep n q) (L4 n q) r):CT Try.prog 75 ([]) ([Ad n,sgA q]) r.1 r.2:=
 CT.mach (fn:=Try.f75) (c:=zB Try.f75) (S:=Pz n q) (hd:=PR) Try.func75 (by kernel_rfl) (nL rfl)
  (fun s o ho=>match s,ho with
   | x,_=>x.elim)
  (fun o ho=>Sf n q o ho) h
def clbSt(l:List Bool):Empty->St
 | x=>x.elim
def clbHd:Empty->Nat
 | x=>x.elim
def Lt(l:List Bool):Option (Empty⊕Ret):=
 gu (boL l=[]->False) <|
 gu (∀(e:AV),e∈boL l->e.cells.length=1) <|
 gu (0+(boL l).length<=9223372036854775807) <|
 gu ((0+(boL l).length) * 1<=140737488355328) <|
 some (.inr ([some (bK ([]++boL l) 1)],AV.sl 0 0 (0+(boL l).length)))
def clbStep(l:List Bool):Empty->Option (Empty⊕Ret)
 | x=>x.elim
theorem clbEn_ok(l:List Bool)(o:Empty⊕Ret)(h:Lt l=some o):Arr Try.prog Try.f55 0 (clbSt l) clbHd (zB Try.f55) [] {n:=Try.f55.ntmps,fr:=AA 0 ([.lst (boL l)]),hp:=([])} o:=
 Scr.ok h mix (
 .rn 0 [] [] [] [] s2 <|
 .gu fun a0=>
 .rn 0 [] [] [] [] (al (u2 (al (ak a0)))) <|
 .gu fun a1=>
 .gu fun a2=>
 .gu fun a3=>
 .rt [] [] [] [] [1] [] (aj (ak (al (ak (u2 (aj (k2 (aj (show nat_lit 0=nat_lit 0 from rfl) (aj a1 (aj a2 a3)))) s2))))) t3)) (by kernel_rfl)
theorem clb_ct(l:List Bool)(r:Ret)(h:Al (clbStep l) (Lt l) r):CT Try.prog 55 ([]) ([.lst (boL l)]) r.1 r.2:=
 CT.mach (fn:=Try.f55) (c:=zB Try.f55) (S:=clbSt l) (hd:=clbHd) Try.func55 (by kernel_rfl) (nL rfl)
  (fun s o ho=>match s,ho with
   | x,_=>x.elim)
  (fun o ho=>clbEn_ok l o ho) h
def cliSt(l:List Int):Empty->St
 | x=>x.elim
def cliHd:Empty->Nat
 | x=>x.elim
def Kz(l:List Int):Option (Empty⊕Ret):=
 gu (List.map iV l=[]->False) <|
 gu (∀(e:AV),e∈List.map iV l->e.cells.length=1) <|
 gu (0+(List.map iV l).length<=9223372036854775807) <|
 gu ((0+(List.map iV l).length) * 8<=140737488355328) <|
 some (.inr ([some (bK ([]++List.map iV l) 1)],AV.sl 0 0 (0+(List.map iV l).length)))
def cliStep(l:List Int):Empty->Option (Empty⊕Ret)
 | x=>x.elim
theorem cliEn_ok(l:List Int)(o:Empty⊕Ret)(h:Kz l=some o):Arr Try.prog Try.f97 0 (cliSt l) cliHd (zB Try.f97) [] {n:=Try.f97.ntmps,fr:=AA 0 ([lI l]),hp:=([])} o:=
 Scr.ok h mix (
 .rn 0 [] [] [] [] s2 <|
 .gu fun a0=>
 .rn 0 [] [] [] [] (al (u2 (al (ak a0)))) <|
 .gu fun a1=>
 .gu fun a2=>
 .gu fun a3=>
 .rt [] [] [] [] [1] [] (aj (ak (al (ak (u2 (aj (k2 (aj (show nat_lit 0=nat_lit 0 from rfl) (aj a1 (aj a2 a3)))) s2))))) t3)) (by kernel_rfl)
theorem cli_ct(l:List Int)(r:Ret)(h:Al (cliStep l) (Kz l) r):CT Try.prog 97 ([]) ([lI l]) r.1 r.2:=
 CT.mach (fn:=Try.f97) (c:=zB Try.f97) (S:=cliSt l) (hd:=cliHd) Try.func97 (by kernel_rfl) (nL rfl)
  (fun s o ho=>match s,ho with
   | x,_=>x.elim)
  (fun o ho=>cliEn_ok l o ho) h
inductive Ey where
 | l0 (v0:Int) (v1:List Int)
def Fd(q:Ac)(w:Int):Ey->St
 | .l0 v0 v1=>St.mk 39 [(1,iv w),(2,AV.ptr 0 0 0),(4,AV.ptr 1 0 0),(5,AV.ptr 2 0 0),(6,iv v0)] [some (bK [AV.agg [AV.lst (boL q.cl),AV.lst (List.map (iv) q.bw),AV.lst (List.map (iv) q.pe)]] 3),some (bK [AV.agg [AV.nils,AV.nils,AV.nils]] 3),some (Blk.mk [AV.agg [AV.sl 3 0 (boL q.cl).length,AV.sl 4 0 q.bw.length,AV.sl 5 0 v1.length]] 3 false true none),some (bK (boL q.cl) 1),some (bK (List.map (iv) q.bw) 1),some (bK (List.map (iv) v1) 1)]
def KF:Ey->Nat
 | .l0 _ _=>0
def Ko(q:Ac)(w:Int):Option (Ey⊕Ret):=
 gu (∀(e:AV),e∈boL q.cl->e.cells.length=1) <|
 gu ((boL q.cl).length<=9223372036854775807) <|
 gu ((boL q.cl).length * 1<=140737488355328) <|
 gu (∀(e:AV),e∈List.map iV q.bw->e.cells.length=1) <|
 gu ((List.map iV q.bw).length<=9223372036854775807) <|
 gu ((List.map iV q.bw).length * 8<=140737488355328) <|
 some (.inl (.l0 ((0:Int)) ([])))
def Hg(q:Ac)(w v0:Int)(v1:List Int):Option (Ey⊕Ret):=
 br (decide (v0<iN (List.map iV q.pe).length))
 (gu (0<=v0) <|
  el (q.pe) (v0.toNat) fun(x24:Int)=>
  br (x24 != w)
  (el (q.pe) (v0.toNat) fun(x33:Int)=>
   gu ((List.map iV v1).length+[iV x33].length<=9223372036854775807) <|
   gu (((List.map iV v1).length+[iV x33].length) * 8<=140737488355328) <|
   some (.inl (.l0 (i64.wrap (v0+1)) (v1++[x33]))))
  (some (.inl (.l0 (i64.wrap (v0+1)) v1))))
 (some (.inr ([some (bK (boL q.cl) 1),some (bK (List.map iV q.bw) 1),some (bK (List.map iV v1) 1)],AV.agg [AV.sl 0 0 (boL q.cl).length,AV.sl 1 0 q.bw.length,AV.sl 2 0 v1.length])))
def rcpStep(q:Ac)(w:Int):Ey->Option (Ey⊕Ret)
 | .l0 v0 v1=>Hg q w v0 v1
theorem rcpEn_ok(q:Ac)(w:Int)(o:Ey⊕Ret)(h:Ko q w=some o):Arr Try.prog Try.f106 0 (Fd q w) KF (zB Try.f106) [] {n:=Try.f106.ntmps,fr:=AA 0 ([sgA q,.int .i64 w]),hp:=([])} o:=
 Scr.ok h mix (
 .rn 0 [] [] [] [] (al (u2 t2)) <|
 .gu fun a0=>
 .gu fun a1=>
 .gu fun a2=>
 .gu fun a3=>
 .gu fun a4=>
 .gu fun a5=>
 .lq [] [] [] [] [(3005,1)] [0,1,4,2,3,5] [1,2,4,5,6] (up [] [(2,[AV.agg [AV.sl 3 0 (boL q.cl).length,AV.sl 4 0 (List.map (iv) q.bw).length,AV.sl 5 0 0]])] (Fd q w (.l0 ((0:Int)) ([])))) (aj (aj (u2 (u2 (aj (ak (aj a0 (aj a1 a2))) (u2 (u2 (aj (ak (aj a3 (aj a4 a5))) (aj t3 (ak (al (k2 n11)))))))))) s2) (k2 (k5 (aj (al t4) t4)))) (by simp[up,upF,upV,upH,upB,Fd,gL,boL,lI])) (by kernel_rfl)
theorem rcpS0_ok(q:Ac)(w v0:Int)(v1:List Int)(o:Ey⊕Ret)(h:Hg q w v0 v1=some o):Arr Try.prog Try.f106 0 (Fd q w) KF (Av Try.f106 0) (.rnd (Av Try.f106 0)::AG Try.f106 0) (Fd q w (.l0 v0 v1)) o:=
 Scr.ok h mix (
 .rn 0 [] [] [] [] (al (u2 (u2 (u2 (u2 (al t3)))))) <|
 .br (fun a0=>
 .gu fun a1=>
 .el fun x24 a2=>
 .rn 0 [37] [(24,iv x24)] [] [] (aj a0 (al (u2 (u2 (u2 (aj (k2 (aj a1 (Aq (f:=iv) a2))) (u2 (u2 (al t3))))))))) <|
 .br (fun a3=>
  .el fun x33 a4=>
  .gu fun a5=>
  .gu fun a6=>
  .lq [55] [(33,iv x33)] [] [] [] [0,1,2,3,4,7] [1,2,4,5,6] (up [] [(2,[AV.agg [AV.sl 3 0 (boL q.cl).length,AV.sl 4 0 q.bw.length,AV.sl 5 0 ((List.map (iv) v1).length+[iv x33].length)]]),(5,List.map (iv) v1++[iv x33])] (Fd q w (.l0 (i64.wrap (v0+1)) (v1++[x33])))) (aj (aj a3 (aj (u2 (u2 (u2 (u2 (u2 (aj (k2 (aj a1 (Aq (f:=iv) a4))) (u2 (u2 (aj (k2 (aj (show(List.map (iv) v1).length=v1.length by simp) (aj (aj (show nat_lit 1=nat_lit 1 from rfl) (show 1<=[iv x33].length by simp)) (aj a5 a6)))) (u2 (al t3))))))))))) (al (u2 (u2 s2))))) (k2 (k5 (aj (al t4) t4)))) (by simp[up,upF,upV,upH,upB,Fd,gL,boL,lI]))
 (fun a3=>
  .lp [54] [] [] [] [] [0,1,2,3,4,5] [1,2,4,5,6] (aj (aj a3 (al (u2 (u2 s2)))) (k2 (k5 (aj (al t4) t4))))))
 (fun a0=>
 .rt [36] [] [] [] [3,4,5] [] (aj (aj a0 (al (u2 (al (k2 n11))))) (aj t4 t4)))) (by kernel_rfl)
theorem rcp_ct(q:Ac)(w:Int)(r:Ret)(h:Al (rcpStep q w) (Ko q w) r):CT Try.prog 106 ([]) ([sgA q,.int .i64 w]) r.1 r.2:=
 CT.mach (fn:=Try.f106) (c:=zB Try.f106) (S:=Fd q w) (hd:=KF) Try.func106 (by kernel_rfl) (nL rfl)
  (fun s o ho=>match s,ho with
   | .l0 v0 v1,ho=>rcpS0_ok q w v0 v1 o ho
  )
  (fun o ho=>rcpEn_ok q w o ho) h
inductive EV where
 | l0 (v0:List Int) (v1 v2:Int)
def GQ(l:List Int)(w:Int):EV->St
 | .l0 v0 v1 v2=>St.mk 42 [(0,AV.sl 0 0 v0.length),(1,AV.fn 101 [AV.ptr 1 0 0]),(5,iv v1),(6,iv v2)] [some (bK (List.map (iv) v0) 1),some (bK [iv w] 1)]
def KS:EV->Nat
 | .l0 _ _ _=>0
def Mx(l:List Int)(w:Int):Option (EV⊕Ret):=
 gu (l.length<=1000000) <|
 br (CX l w == -1)
 (some (.inr ([some (bK (List.map iV l) 1),some (bK [iV w] 1)],AV.sl 0 0 l.length)))
 (some (.inl (.l0 l (CX l w) (i64.wrap (CX l w+1)))))
def GL(l:List Int)(w:Int)(v0:List Int)(v1 v2:Int):Option (EV⊕Ret):=
 br (decide (v2<iN v0.length))
 (gu (0<=v2) <|
  gu (v2<iN v0.length) <|
  el v0 (0+v2.toNat) fun(x25:Int)=>
  br (!x25==w)
  (gu (0<=v1) <|
   gu (v1<iN v0.length) <|
   gu ((0+v1.toNat).succ.le (List.map iV v0).length) <|
   some (.inl (.l0 (v0.set (0+v1.toNat) x25) (i64.wrap (v1+1)) (i64.wrap (v2+1)))))
  (some (.inl (.l0 v0 v1 (i64.wrap (v2+1))))))
 (gu (0<=v1) <|
  gu (v1<=iN v0.length) <|
  gu ((0+v1.toNat+(v0.length-v1.toNat)).le (List.map iV v0).length) <|
  some (.inr ([some (bK (List.take (0+v1.toNat) (List.map iV v0)++List.replicate (v0.length-v1.toNat) (iV 0)++List.drop (0+v1.toNat+(v0.length-v1.toNat)) (List.map iV v0)) 1),some (bK [iV w] 1)],AV.sl 0 0 (v1.toNat-Int.toNat 0))))
def P6(l:List Int)(w:Int):EV->Option (EV⊕Ret)
 | .l0 v0 v1 v2=>GL l w v0 v1 v2
theorem dlfEn_ok(l:List Int)(w:Int)(o:EV⊕Ret)(h:Mx l w=some o):Arr Try.prog Try.f100 2 (GQ l w) KS (zB Try.f100) [] {n:=Try.f100.ntmps,fr:=AA 0 ([.sl 0 0 l.length,.fn 101 [.ptr 1 0 0]]),hp:=([some (bK (l.map (AV.int .i64)) 1),some (bK [.int .i64 w] 1)])} o:=
 Scr.ok h mix (
 .rn 0 [] [] [] [] s2 <|
 .gu fun a0=>
 have c0:=ixw_c l w a0;
 .rn 1 [] [] [(10,hK c0 [0,1] [])] [] (aj (u2 (u2 (aj (k3 (u2 (k2 (al (c0))))) s2))) (al (u2 s2))) <|
 .br (fun a1=>
 .rt [25] [] [] [] [0,1] [] (aj (aj a1 (al (u2 s2))) t4))
 (fun a1=>
 .lp [24] [] [] [] [] [0,1] [0,1,5,6] (aj (aj a1 (al (u2 (u2 s2)))) (ak (u2 t5))))) (by kernel_rfl)
theorem dlfS0_ok(l:List Int)(w:Int)(v0:List Int)(v1 v2:Int)(o:EV⊕Ret)(h:GL l w v0 v1 v2=some o):Arr Try.prog Try.f100 2 (GQ l w) KS (Av Try.f100 0) (.rnd (Av Try.f100 0)::AG Try.f100 0) (GQ l w (.l0 v0 v1 v2)) o:=
 Scr.ok h mix (
 .rn 0 [] [] [] [] (al (u2 (u2 (u2 (al t3))))) <|
 .br (fun a0=>
 .gu fun a1=>
 .gu fun a2=>
 .el fun x25 a3=>
 have c0:=wh1_c x25 (w);
 .rn 1 [39] [(25,iv x25)] [(28,hK c0 [1] [])] [] (aj a0 (aj (u2 (u2 (aj (k2 (aj a1 a2)) (aj (ak (Aq (f:=iv) a3)) s2)))) (al (u2 (u2 (aj (k5 (al (c0))) s2)))))) <|
 .br (fun a4=>
  .gu fun a5=>
  .gu fun a6=>
  .gu fun a7=>
  .lq [59] [] [] [] [] [0,1] [0,1,5,6] (up [(0,AV.sl 0 0 v0.length)] [(0,(List.map (iv) v0).set (0+v1.toNat) (iv x25))] (GQ l w (.l0 (v0.set (0+v1.toNat) x25) (i64.wrap (v1+1)) (i64.wrap (v2+1))))) (aj (aj a4 (aj (u2 (u2 (u2 (aj (k2 (aj a5 a6)) (al (k2 a7)))))) (aj (u2 (u2 s2)) (al (u2 (u2 s2)))))) (ak (u2 t5))) (by simp[up,upF,upV,upH,upB,GQ,gL,boL,lI]))
 (fun a4=>
  .lp [58] [] [] [] [] [0,1] [0,1,5,6] (aj (aj a4 (al (u2 (u2 s2)))) (ak (u2 t5)))))
 (fun a0=>
 .gu fun a1=>
 .gu fun a2=>
 .gu fun a3=>
 .rt [38] [] [] [] [0,1] [] (aj (aj a0 (aj (u2 (u2 (aj (k2 (aj a1 (aj a2 (aj (show iN v0.length<=iN v0.length by omega) (show iN v0.length<=iN v0.length by omega))))) (al (ak a3))))) (al (u2 (u2 (aj (k2 (aj (show(0:Int)<=(0:Int) from(by first | exact nL rfl | decide)) (aj a1 (aj a2 (show iN v0.length<=iN v0.length by omega))))) s2)))))) t4))) (by kernel_rfl)
theorem dlf_ct(l:List Int)(w:Int)(r:Ret)(h:Al (P6 l w) (Mx l w) r):CT Try.prog 100 ([some (bK (l.map (AV.int .i64)) 1),some (bK [.int .i64 w] 1)]) ([.sl 0 0 l.length,.fn 101 [.ptr 1 0 0]]) r.1 r.2:=
 CT.mach (fn:=Try.f100) (c:=zB Try.f100) (S:=GQ l w) (hd:=KS) Try.func100 (by kernel_rfl) (nL rfl)
  (fun s o ho=>match s,ho with
   | .l0 v0 v1 v2,ho=>dlfS0_ok l w v0 v1 v2 o ho
  )
  (fun o ho=>dlfEn_ok l w o ho) h
def n14St(n:Aa):Empty->St
 | x=>x.elim
def n14Hd:Empty->Nat
 | x=>x.elim
def LU(n:Aa):Option (Empty⊕Ret):=
 gu (Rows n.nx) <|
 br (FP n != 0)
 (some (.inr ([],AV.tup [AV.agg [AV.nils,AV.nils,AV.nils],iV (FP n)])))
 (gu (0<=BT n) <|
  gu (1 * BT n<=281474976710656) <|
  gu (BT n<=9223372036854775807) <|
  gu (0<=BT n/\BT n<=48) <|
  gu (∀(blk:Blk),blk∈[bK (List.map iV (List.replicate (BT n).toNat (-1))) 1]->DB blk) <|
  some (.inr ([],AV.tup [AV.agg [AV.lst (List.replicate (BT n).toNat (bV false)),AV.lst (List.map iV (List.replicate (BT n).toNat (-1))),AV.nils],iV 0])))
def n14Step(n:Aa):Empty->Option (Empty⊕Ret)
 | x=>x.elim
theorem n14En_ok(n:Aa)(o:Empty⊕Ret)(h:LU n=some o):Arr Try.prog Try.f14 0 (n14St n) n14Hd (zB Try.f14) [] {n:=Try.f14.ntmps,fr:=AA 0 ([Ad n]),hp:=([])} o:=
 Scr.ok h mix (
 .rn 0 [] [] [] [] (al (u2 t3)) <|
 .gu fun a0=>
 have c0:=cnt_c a0;
 .rn 1 [] [] [(8,hK c0 [] [])] [] (aj (u2 (aj (ak (aj t9 (al (c0)))) (u2 (u2 (u2 (u2 s2)))))) (al (u2 s2))) <|
 .br (fun a1=>
 .rt [25] [] [] [] [] [] (aj (aj a1 (al (ak (u2 (aj (k2 n11) s2))))) (al (aj t4 t2))))
 (fun a1=>
 .gu fun a2=>
 .gu fun a3=>
 .gu fun a4=>
 .gu fun a5=>
 .gu fun a6=>
 have c1:=rep_c (BT n) a5;
 .rt [24] [] [(19,hK c1 [] [3])] [] [] [2,4] (aj (aj a1 (al (u2 (aj (k2 (aj a2 (aj (show BT n<=BT n by omega) (aj a3 a4)))) (ak (u2 (aj (k2 (aj (show nat_lit 1=nat_lit 1 from rfl) (ak (aj (c1) a6)))) (aj t3 (aj (k2 n11) t2))))))))) (al (aj (aj (show(BT n).toNat=(List.replicate (BT n).toNat (bV false)).length by simp) (aj (show(BT n).toNat=(List.map (iv) (List.replicate (BT n).toNat (-1))).length by simp) t2)) t2))))) (by kernel_rfl)
theorem n14_ct(n:Aa)(r:Ret)(h:Al (n14Step n) (LU n) r):CT Try.prog 14 ([]) ([Ad n]) r.1 r.2:=
 CT.mach (fn:=Try.f14) (c:=zB Try.f14) (S:=n14St n) (hd:=n14Hd) Try.func14 (by kernel_rfl) (nL rfl)
  (fun s o ho=>match s,ho with
   | x,_=>x.elim)
  (fun o ho=>n14En_ok n o ho) h
inductive Ea where
 | l0 (v0:Int) (v1:List Int)
def EZ(q:Int):Ea->St
 | .l0 v0 v1=>St.mk 28 [(0,iv q),(2,AV.ptr 0 0 0),(4,AV.ptr 1 0 0),(5,iv v0)] [some (bK [AV.agg [AV.nils,AV.nils]] 2),some (Blk.mk [AV.agg [AV.sl 2 0 v1.length,AV.sl 3 0 q.toNat]] 2 false true none),some (bK (List.map (iv) v1) 1),some (bK (List.replicate q.toNat AV.nils) 1)]
def Mc:Ea->Nat
 | .l0 _ _=>0
def KC(q:Int):Option (Ea⊕Ret):=
 br (decide (q<0))
 (some (.inr ([],AV.tup [AV.agg [AV.nils,AV.nils],iV 19])))
 (br (decide (48<q))
  (some (.inr ([],AV.tup [AV.agg [AV.nils,AV.nils],iV 19])))
  (gu (0<=q) <|
   gu (8 * q<=281474976710656) <|
   gu (q<=9223372036854775807) <|
   gu (24 * q<=281474976710656) <|
   some (.inl (.l0 ((0:Int)) (List.replicate q.toNat 0)))))
def G2(q v0:Int)(v1:List Int):Option (Ea⊕Ret):=
 br (decide (v0<q))
 (gu (0<=v0) <|
  gu (v0<iN v1.length) <|
  gu ((0+v0.toNat).succ.le (List.map iV v1).length) <|
  some (.inl (.l0 (i64.wrap (v0+1)) (v1.set (0+v0.toNat) (-1)))))
 (some (.inr ([],AV.tup [AV.agg [AV.lst (List.map iV v1),AV.lst (List.replicate q.toNat AV.nils)],iV 0])))
def n19Step(q:Int):Ea->Option (Ea⊕Ret)
 | .l0 v0 v1=>G2 q v0 v1
theorem n19En_ok(q:Int)(o:Ea⊕Ret)(h:KC q=some o):Arr Try.prog Try.f17 0 (EZ q) Mc (zB Try.f17) [] {n:=Try.f17.ntmps,fr:=AA 0 ([.int .i64 q]),hp:=([])} o:=
 Scr.ok h mix (
 .rn 0 [] [] [] [] (al t3) <|
 .br (fun a0=>
 .rt [17] [] [] [] [] [] (aj (aj (u2 (u2 (u2 (aj a0 (aj a0 (al (aj a0 t2))))))) (ak (al (ak (aj (k2 n11) t2))))) (al (aj t3 t2))))
 (fun a0=>
 .rn 0 [16] [] [] [] (al (u2 (u2 (u2 (ag a0 (ag a0 (al (aj a0 t2)))))))) <|
 .br (fun a1=>
  .rt [16,23] [] [] [] [] [] (aj (aj a1 (al (ak (aj (k2 n11) t2)))) (al (aj t3 t2))))
 (fun a1=>
  .gu fun a2=>
  .gu fun a3=>
  .gu fun a4=>
  .gu fun a5=>
  .lq [16,22] [(16,AV.tup [])] [] [] [] [0,3,1,2] [0,2,4,5] (up [] [(1,[AV.agg [AV.sl 2 0 q.toNat,AV.sl 3 0 q.toNat]]),(2,List.replicate q.toNat (iv 0))] (EZ q (.l0 ((0:Int)) (List.replicate q.toNat 0)))) (aj (aj a1 (aj (u2 (aj (k2 (aj a2 (aj (show q<=q by omega) (aj a3 a4)))) (u2 (aj (k2 (aj a2 (aj (show q<=q by omega) (aj a5 a4)))) (aj t3 (ak (al (k2 n11)))))))) s2)) (k5 (aj (al t3) t3))) (by simp[up,upF,upV,upH,upB,EZ,gL,boL,lI])))) (by kernel_rfl)
theorem n19S0_ok(q v0:Int)(v1:List Int)(o:Ea⊕Ret)(h:G2 q v0 v1=some o):Arr Try.prog Try.f17 0 (EZ q) Mc (Av Try.f17 0) (.rnd (Av Try.f17 0)::AG Try.f17 0) (EZ q (.l0 v0 v1)) o:=
 Scr.ok h mix (
 .rn 0 [] [] [] [] (al (u2 (u2 (al t3)))) <|
 .br (fun a0=>
 .gu fun a1=>
 .gu fun a2=>
 .gu fun a3=>
 .lq [41] [] [] [] [] [0,1,2,3] [0,2,4,5] (up [] [(1,[AV.agg [AV.sl 2 0 v1.length,AV.sl 3 0 q.toNat]]),(2,(List.map (iv) v1).set (0+v0.toNat) (iv (-1)))] (EZ q (.l0 (i64.wrap (v0+1)) (v1.set (0+v0.toNat) (-1))))) (aj (aj a0 (aj (u2 (u2 (u2 (aj (k2 (aj a1 a2)) (al (ak a3)))))) (al (u2 (u2 s2))))) (k5 (aj (al t3) t3))) (by simp[up,upF,upV,upH,upB,EZ,gL,boL,lI]))
 (fun a0=>
 .rt [40] [] [] [] [] [2,3] (aj (aj a0 (al (u2 (aj (k2 n11) t2)))) (al (aj (aj (show v1.length=(List.map (iv) v1).length by simp) (al (show q.toNat=(List.replicate q.toNat AV.nils).length by simp))) t2))))) (by kernel_rfl)
theorem n19_ct(q:Int)(r:Ret)(h:Al (n19Step q) (KC q) r):CT Try.prog 17 ([]) ([.int .i64 q]) r.1 r.2:=
 CT.mach (fn:=Try.f17) (c:=zB Try.f17) (S:=EZ q) (hd:=Mc) Try.func17 (by kernel_rfl) (nL rfl)
  (fun s o ho=>match s,ho with
   | .l0 v0 v1,ho=>n19S0_ok q v0 v1 o ho
  )
  (fun o ho=>n19En_ok q o ho) h
inductive Ep where
 | l0 (v0:Int) (v1:List (List Int))
def Fr(q:Ao):Ep->St
 | .l0 v0 v1=>St.mk 28 [(1,AV.ptr 0 0 0),(2,AV.ptr 1 0 0),(3,AV.ptr 2 0 0),(4,iv v0)] [some (bK [AV.agg [AV.lst (List.map (iv) q.ow),AV.lst (gL q.qu)]] 2),some (bK [AV.agg [AV.nils,AV.nils]] 2),some (Blk.mk [AV.agg [AV.sl 3 0 q.ow.length,AV.sl 4 0 v1.length]] 2 false true none),some (bK (List.map (iv) q.ow) 1),some (bK (List.map lI v1) 1)]
def L7:Ep->Nat
 | .l0 _ _=>0
def Mq(q:Ao):Option (Ep⊕Ret):=
 gu (∀(e:AV),e∈List.map iV q.ow->e.cells.length=1) <|
 gu ((List.map iV q.ow).length<=9223372036854775807) <|
 gu ((List.map iV q.ow).length * 8<=140737488355328) <|
 some (.inl (.l0 ((0:Int)) ([])))
def Gh(q:Ao)(v0:Int)(v1:List (List Int)):Option (Ep⊕Ret):=
 br (decide (v0<iN (gL q.qu).length))
 (gu (0<=v0) <|
  el (q.qu) (v0.toNat) fun(x21:List Int)=>
  gu (∀(e:AV),e∈List.map iV x21->e.cells.length=1) <|
  gu ((List.map iV x21).length<=9223372036854775807) <|
  gu ((List.map iV x21).length * 8<=140737488355328) <|
  gu ((List.map lI v1).length+[AV.lst (List.map iV x21)].length<=9223372036854775807) <|
  gu (((List.map lI v1).length+[AV.lst (List.map iV x21)].length) * 24<=140737488355328) <|
  some (.inl (.l0 (i64.wrap (v0+1)) (v1++[x21]))))
 (some (.inr ([some (bK (List.map iV q.ow) 1),some (bK (List.map lI v1) 1)],AV.agg [AV.sl 0 0 q.ow.length,AV.sl 1 0 v1.length])))
def c19Step(q:Ao):Ep->Option (Ep⊕Ret)
 | .l0 v0 v1=>Gh q v0 v1
theorem c19En_ok(q:Ao)(o:Ep⊕Ret)(h:Mq q=some o):Arr Try.prog Try.f50 0 (Fr q) L7 (zB Try.f50) [] {n:=Try.f50.ntmps,fr:=AA 0 ([lkA q]),hp:=([])} o:=
 Scr.ok h mix (
 .rn 0 [] [] [] [] (al (u2 t2)) <|
 .gu fun a0=>
 .gu fun a1=>
 .gu fun a2=>
 .lq [] [] [] [] [(2003,1)] [0,1,3,2,4] [1,2,3,4] (up [] [(2,[AV.agg [AV.sl 3 0 (List.map (iv) q.ow).length,AV.sl 4 0 0]])] (Fr q (.l0 ((0:Int)) ([])))) (aj (aj (u2 (u2 (aj (ak (aj a0 (aj a1 a2))) (u2 (ak (al (k2 n11))))))) s2) (ak (k5 (aj (al t3) t3)))) (by simp[up,upF,upV,upH,upB,Fr,gL,boL,lI])) (by kernel_rfl)
theorem c19S0_ok(q:Ao)(v0:Int)(v1:List (List Int))(o:Ep⊕Ret)(h:Gh q v0 v1=some o):Arr Try.prog Try.f50 0 (Fr q) L7 (Av Try.f50 0) (.rnd (Av Try.f50 0)::AG Try.f50 0) (Fr q (.l0 v0 v1)) o:=
 Scr.ok h mix (
 .rn 0 [] [] [] [] (al (u2 (u2 (u2 (u2 (al t3)))))) <|
 .br (fun a0=>
 .gu fun a1=>
 .el fun x21 a2=>
 .gu fun a3=>
 .gu fun a4=>
 .gu fun a5=>
 .gu fun a6=>
 .gu fun a7=>
 .lq [27] [(21,lI x21),(23,AV.lst [])] [] [] [] [0,1,2,3,6] [1,2,3,4] (up [] [(2,[AV.agg [AV.sl 3 0 q.ow.length,AV.sl 4 0 ((List.map lI v1).length+[AV.lst (List.map (iv) x21)].length)]]),(4,List.map lI v1++[AV.lst (List.map (iv) x21)])] (Fr q (.l0 (i64.wrap (v0+1)) (v1++[x21])))) (aj (aj a0 (aj (u2 (u2 (u2 (u2 (u2 (aj (k2 (aj a1 (Aq (f:=lI) a2))) (u2 (aj (ak (aj (aj a3 (aj a4 a5)) (show(List.map (iv) x21).length=(List.map (iv) x21).length from rfl))) (u2 (aj (k2 (aj (show(List.map lI v1).length=v1.length by simp) (aj (aj (show nat_lit 1=nat_lit 1 from rfl) (show 1<=[AV.lst (List.map (iv) x21)].length by simp)) (aj a6 a7)))) (u2 (al t3)))))))))))) (al (u2 (u2 s2))))) (ak (k5 (aj (al t3) t3)))) (by simp[up,upF,upV,upH,upB,Fr,gL,boL,lI]))
 (fun a0=>
 .rt [26] [] [] [] [3,4] [] (aj (aj a0 (al (u2 (al (k2 n11))))) (aj t3 t3)))) (by kernel_rfl)
theorem c19_ct(q:Ao)(r:Ret)(h:Al (c19Step q) (Mq q) r):CT Try.prog 50 ([]) ([lkA q]) r.1 r.2:=
 CT.mach (fn:=Try.f50) (c:=zB Try.f50) (S:=Fr q) (hd:=L7) Try.func50 (by kernel_rfl) (nL rfl)
  (fun s o ho=>match s,ho with
   | .l0 v0 v1,ho=>c19S0_ok q v0 v1 o ho
  )
  (fun o ho=>c19En_ok q o ho) h
def wo(l:List Int)(x:Int):List Int:=l.filter (fun y=>y != x)
theorem J5{l:List Int}{x:Int}{i:Nat}(h:i<l.length):wo (l.take (i+1)) x=wo (l.take i) x++(if (l.getD i 0 != x)=true then [l.getD i 0] else []):=by
 unfold wo
 rw[List.take_add_one,Be 0 h,List.filter_append]
 congr 1
 show List.filter _ [l.getD i 0]=_
 rw[List.filter_cons];rfl
theorem PN(l:List Int)(x:Int):(wo l x).length<=l.length:=List.length_filter_le _ _
theorem K5(cl:List Bool)(bw pe:List Int)(w:Int)(h1:cl.length<=1000000)(h2:bw.length<=1000000)(h3:pe.length<=1000000):
  CT Try.prog 106 [] [sgA ⟨cl,bw,pe⟩,.int .i64 w] [some (Blk.mk (boL cl) 1 true true none),some (Blk.mk (bw.map (AV.int .i64)) 1 true true none),some (Blk.mk ((wo pe w).map (AV.int .i64)) 1 true true none)] (.agg [.sl 0 0 (boL cl).length,.sl 1 0 bw.length,.sl 2 0 (wo pe w).length]):=by
 refine rcp_ct ⟨cl,bw,pe⟩ w ([_,_,_],_) ?_
 have hL:=BW cl
 unfold Ko
 rw[Ab (LM _),Ab (by rw[hL];show cl.length<=_;omega),Ab (by rw[hL];show cl.length * 1<=_;omega),Ab (E2 _),Ab (by rw[Tn];show bw.length<=_;omega),Ab (by rw[Tn];show bw.length * 8<=_;omega)]
 refine Cb (fun i=>Ey.l0 (i:Int) (wo (pe.take i) w)) pe.length (fun i hi h=>?_) ?_
 .refine .to (show Hg ⟨cl,bw,pe⟩ w i _=_ from ?_) h
  have hw:=PN (pe.take i) w
  rw[TP] at hw
  unfold Hg
  simp only
  rw[Cn 0 hi,J5 hi]
  cases hx:pe.getD i 0 != w with
  | false=>rw[Af rfl,Tj (by simp),List.append_nil,zW i (by omega)]
  | true=>rw[Ah rfl,elG 0 hi,Ab (by simp only[Tn,T2,T3];omega),Ab (by simp only[Tn,T2,T3];omega),Ti rfl,zW i (by omega)]
 .refine .to (show Hg ⟨cl,bw,pe⟩ w pe.length _=_ from ?_) (.ret _)
  unfold Hg
  simp only
  rw[Cf,List.take_length]
theorem clb_c(l:List Bool)(hl:l.length<=1000000):CT Try.prog 55 [] [.lst (boL l)] [some (Blk.mk (boL l) 1 true true none)] (.sl 0 0 (boL l).length):=by
 have hL:=BW l
 by_cases h:l=[]
 .subst h;exact cl55_e
 refine clb_ct l ([_],_) (.val ?_)
 unfold Lt
 rw[Ab (fun e=>h (by unfold boL at e;exact List.map_eq_nil_iff.1 e)),Ab (LM _),Ab (by omega),Ab (by omega),List.nil_append,TB]
theorem cli_c(l:List Int)(hl:l.length<=1000000):CT Try.prog 97 [] [lI l] [some (Blk.mk (l.map (AV.int .i64)) 1 true true none)] (.sl 0 0 l.length):=by
 by_cases h:l=[]
 .subst h;exact cl97_e
 refine cli_ct l ([_],_) (.val ?_)
 unfold Kz
 rw[Ab (fun e=>h (List.map_eq_nil_iff.1 e)),Ab (E2 _),Ab (by rw[Tn];omega),Ab (by rw[Tn];omega),List.nil_append,TB,Tn]
theorem HQ{n:Aa}(cl:List Bool)(bw pe:List Int)(hrw:Rows n.nx):CT Try.prog 25 [] [Ad n,sgA ⟨cl,bw,pe⟩] [] (.bool (AK n ⟨cl,bw,pe⟩)):=by
 generalize hs:(⟨cl,bw,pe⟩:Ac)=s
 refine sva_ct n s ([],_) ?_
 unfold KL AK FP BT
 rw[Ab hrw]
 cases hv:AY n with
 | false=>exact .ret _
 | true=>
 have hv:=CS.1 hv
 obtain⟨h48,hnb⟩:=BV hv
 unfold FB
 rw[Ti rfl,Ti rfl,Af (by rfl),BW,Tn,Tn,Tn,Bool.true_and]
 by_cases h1:s.cl.length=Ar n
 case neg=>rw[Ah (T9.2 (by simp only[iN];omega)),Au h1];exact .ret _
 rw[Af (by rw[h1];simp),AB h1,Bool.true_and]
 by_cases h2:s.bw.length=Ar n
 case neg=>rw[Ah (T9.2 (by simp only[iN];omega)),Au h2];exact .ret _
 rw[Af (by rw[h2];simp),AB h2,Bool.true_and]
 by_cases h3:n.bs.length<s.pe.length
 .rw[Ah (AB (by simp only[iN];omega))]
  have:(fnd (bdP n.bs.length s) 0 s.pe.length).isNone=false:=by
   cases hf:fnd (bdP n.bs.length s) 0 s.pe.length with
   | some i=>rfl
   | none=>
    have:=K7 (nb:=n.bs.length) (s:=s) (Tx _) fun j hj=>Dc hf j (Ty _) (by omega)
    omega
  rw[this,Bool.and_false];exact .ret _
 rw[Af (Au (by simp only[iN];omega))]
 refine(EJ (fun i=>Df.l0 (i:Int)) s.bw.length (bdW s) (rF:=fun _=>(([],.bool false):Ret)) (r:=([],.bool (fnd (bdP n.bs.length s) 0 s.pe.length).isNone)) (fun i hi _ hp=>?_) (fun i x hi _ hp hx=>?_) (fun _=>?_)).res (by cases fnd (bdW s) 0 s.bw.length<;>rfl)
 .refine .to (show ES n s i=_ from ?_) (.ret _)
  unfold ES
  unfold bdW at hp
  rw[Cn 0 hi]
  cases hd1:decide (s.bw.getD i 0 < -1) with
  | true=>rw[Ah rfl]
  | false=>
   rw[hd1,Te] at hp
   rw[Af rfl]
   cases hd2:decide (8<=s.bw.getD i 0) with
   | true=>rw[Ah rfl]
   | false=>
    rw[hd2,Te,Tu] at hp
    rw[Af rfl,Ah hp.1,elG true (show i<s.cl.length by omega),Ah hp.2]
 .refine .to (show ES n s i=_ from ?_) hx
  unfold ES
  unfold bdW at hp
  simp only[Bool.or_eq_false_iff] at hp
  rw[Cn 0 hi,Af hp.1,Af hp.2.1,zW i (by omega)]
  cases h0:decide (0<=s.bw.getD i 0) with
  | false=>rw[Af rfl]
  | true=>
   have hq:=hp.2.2
   rw[h0,Bool.true_and] at hq
   rw[Ah rfl,elG true (show i<s.cl.length by omega),Af hq]
 .refine .to (show ES n s s.bw.length=_ from ?_) ?_ (y:=some (.inl (.l1 ((0:Nat):Int))))
  .unfold ES;rw[Cf];rfl
  refine(EJ (fun i=>Df.l1 (i:Int)) s.pe.length (bdP n.bs.length s) (rF:=fun _=>(([],.bool false):Ret)) (r:=([],.bool true)) (fun i hi hj hp=>?_) (fun i x hi hj hp hx=>?_) (fun _=>?_)).res (by cases fnd (bdP n.bs.length s) 0 s.pe.length<;>rfl)
  .refine .to (show E1 n s i=_ from ?_) (.ret _)
   unfold E1
   unfold bdP at hp
   rw[Cn 0 hi]
   by_cases hd1:s.pe.getD i 0<0
   .rw[Ah (AB hd1)]
   rw[Au hd1,Te] at hp
   rw[Af (Au hd1)]
   by_cases hd2:(n.bs.length:Int)<=s.pe.getD i 0
   .rw[Ah (AB (by rw[Tn];exact hd2))]
   rw[Au hd2,Te] at hp
   rw[Af (Au (by rw[Tn];exact hd2)),Ab (by omega),A4 (Be true (show(s.pe.getD i 0).toNat<s.cl.length by omega))]
   cases hd3:s.cl.getD (s.pe.getD i 0).toNat true with
   | true=>rw[Ah rfl]
   | false=>
    rw[hd3,Te] at hp
    rw[Af rfl,Ab (E2 _),Ab (by simp only[iN,Tn];omega),Kb,Ab (by rw[TP];omega),Ah hp]
  .refine .to (show E1 n s i=_ from ?_) hx
   unfold E1
   unfold bdP at hp
   simp only[Bool.or_eq_false_iff,decide_eq_false_iff_not] at hp
   rw[Cn 0 hi,Af (Au hp.1),Af (Au (by rw[Tn];exact hp.2.1)),Ab (by omega),A4 (Be true (show(s.pe.getD i 0).toNat<s.cl.length by omega)),Af hp.2.2.1,Ab (E2 _),Ab (by simp only[iN,Tn];omega),Kb,Ab (by rw[TP];omega),Af hp.2.2.2,zW i (by omega)]
  .refine .to (show E1 n s s.pe.length=_ from ?_) (.ret _)
   unfold E1;rw[Cf]
theorem Fq{n:Aa}(cl:List Bool)(bw pe:List Int)(hrw:Rows n.nx):CT Try.prog 75 [] [Ad n,sgA ⟨cl,bw,pe⟩] [] (.bool (AK n ⟨cl,bw,pe⟩)):=by
 refine r20v_ct n ⟨cl,bw,pe⟩ ([],_) (.val ?_)
 unfold L4 AK
 rw[Ab hrw]
 cases hv:AY n with
 | false=>rfl
 | true=>rw[Ah rfl,Ab (CS.1 hv)];rfl
def nsO(n:Aa):Ac:=⟨List.replicate (Ar n) false,List.replicate (Ar n) (-1),[]⟩
def nsE(n:Aa):Int:=if AY n=true then 0 else 20
def nsS(n:Aa):Ac:=if AY n=true then nsO n else ⟨[],[],[]⟩
theorem Pd(k:Nat):List.replicate k (AV.bool false)=boL (List.replicate k false):=by unfold boL;rw[List.map_replicate]
theorem n14_c{n:Aa}(hrw:Rows n.nx):CT Try.prog 14 [] [Ad n] [] (.tup [sgA (nsS n),.int .i64 (nsE n)]):=by
 have h:=n14_ct n
 unfold LU FP BT at h
 unfold nsS nsE
 cases hv:AY n with
 | false=>rw[hv] at h;exact CT.w2 (h ([],_) (.val (by rw[Ab hrw];rfl)))
 | true=>
  have h48:=BV (CS.1 hv)
  rw[hv] at h
  have k:=CT.w2 (h ([],.tup [.agg [.lst (List.replicate (Ar n) (AV.bool false)),.lst (List.map (AV.int .i64) (List.replicate (Ar n) (-1))),.nils],.int .i64 0]) (.val (by
   rw[Ab hrw,Ti rfl,Ti rfl,Af (by rfl),Ab (by omega),Ab (by omega),Ab (by omega),Ab (by omega)]
   rw[Ab (fun blk hb=>by
    rw[Tb.1 hb]
    intro e he c hc
    obtain⟨x,_,rfl⟩:=TT.1 he
    rw[Tb.1 hc];rfl)]
   rfl)))
  rw[Pd] at k
  exact k
theorem Ph{c i:Nat}(h:i<c):(rpV c i).set (0+i) (-1)=rpV c (i+1):=by
 obtain⟨d,hd⟩:∃d,c-i=d+1:=⟨c-i-1,by omega⟩
 have hd2:c-(i+1)=d:=by omega
 unfold rpV
 rw[hd,hd2,TB,List.replicate_succ,List.set_append_right _ _ (by simp)]
 simp only[TG,S4,List.set_cons_zero]
 rw[List.replicate_succ',List.append_assoc];rfl
theorem rpV_0(c:Nat):rpV c 0=List.replicate c 0:=by unfold rpV;simp
theorem rpV_c(c:Nat):rpV c c=List.replicate c (-1):=by unfold rpV;simp
theorem Ob{n:Aa}(hrw:Rows n.nx):CT Try.prog 31 [] [Ad n] [] (.tup [sgA (nsS n),.int .i64 (nsE n)]):=by
 have h:=r20n_ct n
 unfold MJ at h
 unfold nsS nsE
 cases hv:AY n with
 | false=>rw[hv] at h;exact CT.w2 (h ([],_) (.val (by rw[Ab hrw];rfl)))
 | true=>
  have hvn:=CS.1 hv
  have h48:=BV hvn
  rw[hv] at h
  have k:=CT.w2 (h ([],.tup [.agg [.lst (List.replicate (Ar n) (AV.bool false)),.lst (List.map (AV.int .i64) (List.replicate (Ar n) (-1))),.nils],.int .i64 0]) (by
   rw[Ab hrw,Af (by rfl),Ab hvn,Ab (by simp only[iN];omega),Ab (by simp only[iN];omega),Ab (by simp only[iN];omega)]
   rw[show (List.replicate (iN (Ar n)).toNat (0:Int))=rpV (Ar n) 0 from(rpV_0 _).symm]
   refine Cb (fun i=>ED.l0 (i:Int) (rpV (Ar n) i)) (Ar n) (fun i hi hx=>?_) ?_
   .refine .to (show Hl n i (rpV (Ar n) i)=_ from ?_) hx
    unfold Hl
    rw[Ah (AB (by simp only[iN,FN (Nat.le_of_lt hi)];omega)),Ab (by omega),Ab (by simp only[iN,FN (Nat.le_of_lt hi)];omega),Ab (show Nat.le _ _ from(by rw[Tn,FN (Nat.le_of_lt hi)];show 0+(i:Int).toNat+1<=_;omega)),Tv,Ph hi,zW i (by omega)]
   .refine .to (show Hl n (Ar n:Nat) (rpV (Ar n) (Ar n))=_ from ?_) (.ret _)
    unfold Hl
    rw[Af (Au (by simp only[iN,FN (Tx _)];omega)),rpV_c];rfl))
  rw[Pd] at k
  exact k
theorem RT.lwk{A:Nat->Prop}{w:World}{es:List AV}{v:Value}(h:RT A w (.lst es) v):RT A w (.lst (es.map wkq)) v:=by
 cases h with
 | lnil a=>exact .lnil a
 | lst _ r o cap z g hcap hA hz h1 hc hh=>
  have hl:(es.map wkq).length=es.length:=Tn ..
  have hcl:∀e:AV,(wkq e).cells.length=e.cells.length:=fun e=>by cases e<;>rfl
  have key:∀{e c:AV},c∈(wkq e).cells->∃c',c'∈e.cells/\(c=c'\/(c' = .nils/\c = .lst [])):=fun {e c} hc=>by
   cases e with
   | nils=>exact⟨.nils,Tb.2 rfl,.inr ⟨rfl,Tb.1 hc⟩⟩
   | _=>exact⟨c,hc,.inl rfl⟩
  rw[<-hl]
  refine .lst _ r o cap z g (by rw[hl];exact hcap) (fun hn=>hA fun e=>hn (by rw[e];rfl)) (fun e he=>?_) (fun e he c hcm=>?_) (fun i j hi hj=>hc i j (by rw[<-hl];exact hi) hj) fun i j e c he hj=>?_
  .obtain⟨e0,he0,rfl⟩:=TT.1 he
   rw[hcl];exact hz e0 he0
  .obtain⟨e0,he0,rfl⟩:=TT.1 he
   obtain⟨c',hc',h | ⟨_,h⟩⟩:=key hcm
   .rw[h];exact h1 e0 he0 c' hc'
   .rw[h];rfl
  .rw[Tw] at he
   obtain⟨e0,he0,rfl⟩:=Option.map_eq_some_iff.1 he
   by_cases hn:e0 = .nils
   .subst hn
    match j,hj with
    | 0,hj=>
     cases hj
     have:=hh i 0 .nils .nils he0 rfl
     have e:g i 0 = .slice none 0 0:=by {generalize g i 0=x at this;cases this;rfl}
     rw[e];exact .lnil none
   .have e:wkq e0=e0:=by cases e0<;>first | rfl | exact absurd rfl hn
    rw[e] at hj
    exact hh i j e0 c he0 hj
theorem VR.lwk{φ:Phi}{A:Nat->Prop}{w:World}{a b:AV}{es:List AV}{v:Value}(h:VR φ A w (.tup [.agg [a,.lst es],b]) v):VR φ A w (.tup [.agg [a,.lst (es.map wkq)],b]) v:=by
 obtain⟨us,rfl,hl,hh⟩:=h.tup_inv
 refine .tup _ us (by simpa using hl) fun i c u hc hu=>?_
 match i,hc with
 | 0,hc=>
  cases hc
  obtain⟨vs,rfl,hl2,h2⟩:=(hh 0 _ u rfl hu).agg_inv
  refine .agg _ vs (by simpa using hl2) fun j d x hd hx=>?_
  match j,hd with
  | 0,hd=>cases hd;exact h2 0 _ x rfl hx
  | 1,hd=>
   cases hd
   have:=h2 1 _ x rfl hx
   cases this with
   | imm _ _ h=>exact .imm _ _ (RT.lwk h)
  | j+2,hd=>simp at hd
 | 1,hc=>cases hc;exact hh 1 _ u rfl hu
 | i+2,hc=>simp at hc
def nlS(q:Int):Ao:=if 0<=q/\q<=48 then ⟨List.replicate q.toNat (-1),List.replicate q.toNat []⟩ else ⟨[],[]⟩
def nlE(q:Int):Int:=if 0<=q/\q<=48 then 0 else 19
theorem n19_c(q:Int):CT Try.prog 17 [] [.int .i64 q] [] (.tup [lkA (nlS q),.int .i64 (nlE q)]):=by
 have h:=n19_ct q
 unfold KC at h
 unfold nlS nlE
 by_cases h0:q<0
 .rw[Tj (by omega),Tj (by omega)]
  exact CT.w2 (h ([],_) (.val (by rw[Ah (AB h0)])))
 by_cases h1:48<q
 .rw[Tj (by omega),Tj (by omega)]
  exact CT.w2 (h ([],_) (.val (by rw[Af (Au h0),Ah (AB h1)])))
 rw[Ti (by omega),Ti (by omega)]
 obtain⟨c,rfl⟩:∃c:Nat,q=(c:Int):=⟨q.toNat,by omega⟩
 have k:=(h ([],.tup [.agg [.lst (List.map (AV.int .i64) (List.replicate c (-1))),.lst (List.replicate c .nils)],.int .i64 0]) (by
  rw[Af (Au h0),Af (Au h1),Ab (by omega),Ab (by omega),Ab (by omega),Ab (by omega),Tv,<-rpV_0]
  refine Cb (fun i=>Ea.l0 (i:Int) (rpV c i)) c (fun i hi hx=>?_) ?_
  .refine .to (show G2 (c:Int) i (rpV c i)=_ from ?_) hx
   unfold G2
   rw[Ah (AB (by omega)),Ab (by omega),Ab (by simp only[iN,FN (Nat.le_of_lt hi)];omega),Ab (show Nat.le _ _ from(by rw[Tn,FN (Nat.le_of_lt hi)];show 0+(i:Int).toNat+1<=_;omega)),Tv,Ph hi,zW i (by omega)]
  .refine .to (show G2 (c:Int) (c:Nat) (rpV c c)=_ from ?_) (.ret _)
   unfold G2
   rw[Af (Au (by omega)),rpV_c,Tv])).less fun _ _ _ _ h=>VR.lwk h
 have e:List.map wkq (List.replicate c AV.nils)=gL (List.replicate c []):=by unfold gL;rw[List.map_replicate,List.map_replicate];rfl
 rw[e] at k
 exact k
theorem gL_take{g:List (List Int)}{i:Nat}(h:i<g.length):g.take (i+1)=g.take i++[g.getD i []]:=by
 rw[List.take_add_one,Be [] h];rfl
theorem c19_c(ow:List Int)(qu:List (List Int))(h1:ow.length<=1000)(h2:qu.length<=1000)(h3:∀r∈qu,r.length<=1000):
  CT Try.prog 50 [] [lkA ⟨ow,qu⟩] [some (Blk.mk (ow.map (AV.int .i64)) 1 true true none),some (Blk.mk (gL qu) 1 true true none)] (.agg [.sl 0 0 ow.length,.sl 1 0 qu.length]):=by
 refine c19_ct ⟨ow,qu⟩ ([_,_],_) ?_
 unfold Mq
 rw[Ab (E2 _),Ab (by rw[Tn];show ow.length<=_;omega),Ab (by rw[Tn];show ow.length * 8<=_;omega)]
 refine Cb (fun i=>Ep.l0 (i:Int) (qu.take i)) qu.length (fun i hi hx=>?_) ?_
 .refine .to (show Gh ⟨ow,qu⟩ i (qu.take i)=_ from ?_) hx
  have hr:=h3 (qu.getD i []) (by rw[Tl,Tk hi];exact TU _)
  unfold Gh
  simp only
  rw[show (gL qu).length=(List.map lI qu).length from rfl,Cn [] hi,Ab (E2 _),Ab (by rw[Tn];omega),Ab (by rw[Tn];omega),Ab (by simp only[Tn,TP,T2,T3];omega),Ab (by simp only[Tn,TP,T2,T3];omega),gL_take hi,zW i (by omega)]
 .refine .to (show Gh ⟨ow,qu⟩ qu.length (qu.take qu.length)=_ from ?_) (.ret _)
  unfold Gh
  simp only
  rw[show (gL qu).length=(List.map lI qu).length from rfl,Cf,List.take_length];rfl
structure Dl(l:List Int)(w:Int)(v:List Int)(i j:Nat):Prop where
 len:v.length=l.length
 ij:i<=j
 jl:j<=l.length
 kep:v.take i=wo (l.take j) w
 rst:v.drop j=l.drop j
theorem QB{l:List Int}{w:Int}:(CX l w = -1/\w∉l)\/∃i:Nat,CX l w=(i:Int)/\i<l.length/\l.getD i 0=w/\∀j,j<i->l.getD j 0≠w:=by
 unfold CX
 cases hf:fnd (fun i=>l.getD i 0==w) 0 l.length with
 | none=>
  left
  refine⟨rfl,fun hm=>?_⟩
  obtain⟨i,hi,rfl⟩:=TZ.1 hm
  have:=Dc hf i (Ty _) (by omega)
  rw[Tl,Tk hi] at this
  simp at this
 | some i=>
  obtain⟨h1,_,h2⟩:=D6 hf
  exact .inr ⟨i,rfl,by omega,by simpa using h1,fun j hj e=>by
   have:=QC hf j (Ty _) hj
   rw[e] at this;simp at this⟩
theorem LA{l:List Int}{w:Int}(h:w∉l):wo l w=l:=by
 unfold wo
 exact List.filter_eq_self.2 fun x hx=>T9.2 fun e=>h (e ▸ hx)
theorem Lf{v l:List Int}{j:Nat}(h:v.drop j=l.drop j):v.getD j 0=l.getD j 0/\v.drop (j+1)=l.drop (j+1):=by
 constructor
 .have:=congrArg (fun x=>x.getD 0 0) h
  simpa [Tl,S7] using this
 .have:=congrArg (List.drop 1) h
  rwa [S6,S6] at this
theorem Dl.skip{l:List Int}{w:Int}{v:List Int}{i j:Nat}(h:Dl l w v i j)(hj:j<l.length)(he:l.getD j 0=w):Dl l w v i (j+1):=by
 refine⟨h.len,Nat.le_succ_of_le h.ij,hj,?_,(Lf h.rst).2⟩
 rw[J5 hj,Tj (by rw[he];simp),List.append_nil];exact h.kep
theorem Dl.keep{l:List Int}{w:Int}{v:List Int}{i j:Nat}(h:Dl l w v i j)(hj:j<l.length)(he:l.getD j 0≠w):Dl l w (v.set (0+i) (l.getD j 0)) (i+1) (j+1):=by
 have hij:=h.ij
 have hl:=h.len
 refine⟨by rw[TV];exact hl,by omega,hj,?_,?_⟩
 .rw[J5 hj,Ti (T9.2 he),<-h.kep,TB,List.take_add_one,List.take_set_of_le (Tx _),Ue,Ti rfl,Ti (by omega)];rfl
 .rw[TB,List.drop_set,Ti (by omega)];exact(Lf h.rst).2
theorem dlf_c(l:List Int)(w:Int)(hl:l.length<=1000000):
  CT Try.prog 100 [some (Blk.mk (l.map (AV.int .i64)) 1 true true none),some (Blk.mk [.int .i64 w] 1 true true none)] [.sl 0 0 l.length,.fn 101 [.ptr 1 0 0]] [some (Blk.mk ((wo l w++List.replicate (l.length-(wo l w).length) 0).map (AV.int .i64)) 1 true true none),some (Blk.mk [.int .i64 w] 1 true true none)] (.sl 0 0 (wo l w).length):=by
 refine dlf_ct l w ([_,_],_) ?_
 unfold Mx
 rw[Ab hl]
 rcases QB (l:=l) (w:=w) with ⟨h1,h2⟩ | ⟨i0,h1,h2,h3,h4⟩
 .rw[h1,Ah (by rfl),LA h2]
  simp only[S4,List.replicate_zero,List.append_nil]
  exact .ret _
 rw[h1,Af (by simp),zW i0 (by omega)]
 have start:Dl l w l i0 (i0+1):=by
  refine⟨rfl,Nat.le_succ _,h2,?_,rfl⟩
  rw[J5 h2,Tj (by rw[h3];simp),List.append_nil,LA]
  intro hm
  obtain⟨j,hj,e⟩:=TZ.1 hm
  rw[TP] at hj
  rw[List.getElem_take] at e
  exact h4 j (by omega) (by rw[Tl,Tk (show j<l.length by omega)];exact e)
 have key:∀(d j i:Nat) (v:List Int),j+d=l.length->Dl l w v i j->Al (P6 l w) (some (.inl (.l0 v (i:Int) (j:Int)))) (([some (Blk.mk ((wo l w++List.replicate (l.length-(wo l w).length) 0).map (AV.int .i64)) 1 true true none),some (Blk.mk [.int .i64 w] 1 true true none)],.sl 0 0 (wo l w).length):Ret):=by
  intro d
  induction d with
  | zero=>
   intro j i v hd h
   have hlen:=h.len
   have hij:=h.ij
   have hjl:=h.jl
   have hk:=h.kep
   rw[List.take_of_length_le (show l.length<=j by omega)] at hk
   have hi:(wo l w).length=i:=by rw[<-hk,TP];omega
   refine .to (show GL l w v i j=_ from ?_) (.ret _)
   unfold GL
   rw[Af (Au (by simp only[iN];omega)),Ab (by omega),Ab (by simp only[iN];omega),Ab (show Nat.le _ _ from(by rw[Tn,Tv];show 0+i+(v.length-i)<=v.length;omega))]
   have e:List.take (0+(i:Int).toNat) (List.map (AV.int i64) v)++List.replicate (v.length-(i:Int).toNat) (AV.int i64 0)++List.drop (0+(i:Int).toNat+(v.length-(i:Int).toNat)) (List.map (AV.int i64) v)=List.map (AV.int i64) (wo l w++List.replicate (l.length-(wo l w).length) 0):=by
    rw[Tv,TB,List.drop_of_length_le (by rw[Tn];omega),List.append_nil,<-List.map_take,hk,Tz,List.map_replicate,hi,hlen]
   rw[e,Tv,hi];rfl
  | succ d ih=>
   intro j i v hd h
   have hlen:=h.len
   have hij:=h.ij
   have hjl:j<l.length:=by omega
   have hg:=(Lf h.rst).1
   refine .to (y:=if l.getD j 0=w then some (.inl (.l0 v (i:Int) ((j+1:Nat):Int))) else some (.inl (.l0 (v.set (0+i) (l.getD j 0)) ((i+1:Nat):Int) ((j+1:Nat):Int)))) (show GL l w v i j=_ from ?_) ?_
   .unfold GL
    rw[Ah (AB (by simp only[iN];omega)),Ab (by omega),Ab (by simp only[iN];omega),TB,elG 0 (show j<v.length by omega),hg]
    by_cases he:l.getD j 0=w
    .rw[Af (by rw[he];simp),Ti he,zW j (by omega)]
    .rw[Ah (by rw[T7,TX];exact he),Tj he,Ab (by omega),Ab (by simp only[iN];omega),Ab (show Nat.le _ _ from(by rw[Tn];show 0+(i:Int).toNat+1<=_;omega)),zW i (by omega),zW j (by omega),Tv]
   .by_cases he:l.getD j 0=w
    .rw[Ti he];exact ih (j+1) i v (by omega) (h.skip hjl he)
    .rw[Tj he];exact ih (j+1) (i+1) _ (by omega) (h.keep hjl he)
 exact key (l.length-(i0+1)) (i0+1) i0 l (by omega) start
theorem Ch.pre(l r:List Int):Ch (Blk.mk ((l++r).map (AV.int .i64)) 1 true true none) (Blk.mk (l.map (AV.int .i64)) 1 true true none):=by
 refine⟨rfl,fun _=>rfl,rfl,by simp,fun i e' h=>⟨e',?_,rfl,fun j c hc=>⟨c,hc,.refl _⟩⟩,fun _ e he c hc=>?_,fun _=>rfl⟩
 .have hi:=(Tm.1 h).1
  show(List.map (AV.int .i64) (l++r))[i]?=some e'
  rw[Tz,List.getElem?_append_left hi];exact h
 .obtain⟨x,_,rfl⟩:=TT.1 he
  rw[Tb.1 hc];rfl
theorem dlf_k(l:List Int)(w:Int)(k:Nat)(hk:k=l.length)(hl:l.length<=1000000):
  CT Try.prog 100 [some (Blk.mk (l.map (AV.int .i64)) 1 true true none),some (Blk.mk [.int .i64 w] 1 true true none)] [.sl 0 0 k,.fn 101 [.ptr 1 0 0]] [some (Blk.mk ((wo l w).map (AV.int .i64)) 1 true true none),some (Blk.mk [.int .i64 w] 1 true true none)] (.sl 0 0 (wo l w).length):=by
 rw[hk]
 refine CT.lessOut (dlf_c l w hl) rfl fun b blk' hb=>?_
 match b,hb with
 | 0,hb=>cases hb;exact⟨_,rfl,Ch.pre _ _,rfl⟩
 | 1,hb=>cases hb;exact⟨_,rfl,Ch.refl fun _ e he c hc=>by rw[Tb.1 he] at hc;rw[Tb.1 hc];rfl,rfl⟩
 | b+2,hb=>simp[nth] at hb
theorem E7{α:Type}{l:List α}{i j:Nat}{v d:α}:(l.set i v).getD j d=if i=j/\j<l.length then v else l.getD j d:=by
 rw[Tl,Ue,Tl]
 by_cases h:i=j
 .subst h
  by_cases hl:i<l.length
  .rw[Ti rfl,Ti hl,Ti ⟨rfl,hl⟩];rfl
  .rw[Ti rfl,Tj hl,Tj (fun e=>hl e.2),TI (by omega)]
 .rw[Tj h,Tj (fun e=>h e.1)]
theorem NL{α:Type}{l:List α}{i:Nat}{v d:α}(h:i<l.length):(l.set i v).getD i d=v:=by rw[E7,Ti ⟨rfl,h⟩]
theorem getR{α:Type}{n i:Nat}{v d:α}(h:i<n):(List.replicate n v).getD i d=v:=by
 rw[Tl,TM,Ti h];rfl
def Ii(n:Aa):Ac:=⟨List.replicate (Ar n) false,List.replicate (Ar n) (-1),[]⟩
def anS(s:Ac)(x:Int):Ac:=⟨s.cl,s.bw,s.pe++[x]⟩
def clS(s:Ac)(c r:Int):Ac:=⟨s.cl.set c.toNat true,if s.cl.getD c.toNat true=true then s.bw else s.bw.set c.toNat r,wo s.pe c⟩
def opS(s:Ac)(c:Int):Ac:=⟨s.cl.set c.toNat false,s.bw.set c.toNat (-1),wo s.pe c⟩
theorem Oa{l:List Int}{x y:Int}:y∈wo l x↔y∈l/\y≠x:=by unfold wo;rw[List.mem_filter,T9]
theorem Pq(n:Aa):A7 n (Ii n):=by
 refine⟨TG ..,TG ..,fun i hi=>?_,fun b hb=>(by cases hb),List.Pairwise.nil⟩
 have hi:i<Ar n:=by have:(Ii n).bw.length=Ar n:=TG ..;omega
 show -1<=(List.replicate (Ar n) (-1:Int)).getD i 0/\_
 rw[show (Ii n).bw=List.replicate (Ar n) (-1:Int) from rfl,getR hi];omega
theorem Lk{n:Aa}{s:Ac}{x:Int}(h:A7 n s)(hx:0<=x/\x<(n.bs.length:Int))(hc:s.cl.getD x.toNat true=false)(hp:x∉s.pe):A7 n (anS s x):=by
 refine⟨h.lc,h.lb,h.bw,fun b hb=>?_,Qy h.nd hp⟩
 rcases TR.1 hb with hb | hb
 .exact h.pb b hb
 .rw[Tb.1 hb];exact⟨hx.1,hx.2,hc⟩
theorem wo_nd{l:List Int}(x:Int)(h:l.Nodup):(wo l x).Nodup:=h.sublist List.filter_sublist
theorem clS_ok{n:Aa}{s:Ac}{c r:Int}(h:A7 n s)(hc:0<=c/\c<(Ar n:Int))(hr : -1<=r/\r<8):A7 n (clS s c r):=by
 have lc:=h.lc
 have lb:=h.lb
 refine⟨by show(s.cl.set _ _).length=_;rw[TV,lc],by show(if _ then s.bw else s.bw.set _ _).length=_;split<;>simp[lb],fun i hi=>?_,fun b hb=>?_,wo_nd c h.nd⟩
 .show -1<=(if _ then s.bw else s.bw.set _ _).getD i 0/\(if _ then s.bw else s.bw.set _ _).getD i 0<8/\(0<=(if _ then s.bw else s.bw.set _ _).getD i 0->(s.cl.set c.toNat true).getD i true=true)
  have hi:i<s.bw.length:=by have:(clS s c r).bw.length=s.bw.length:=(by show(if _ then s.bw else s.bw.set _ _).length=_;split<;>simp);omega
  have hb:=h.bw i hi
  have e:(s.cl.set c.toNat true).getD i true=if c.toNat=i/\i<s.cl.length then true else s.cl.getD i true:=E7
  rw[e]
  split
  .refine⟨hb.1,hb.2.1,fun h0=>?_⟩
   split
   .rfl
   .exact hb.2.2 h0
  .rw[E7]
   split
   .rename_i h1
    exact⟨hr.1,hr.2,fun _=>by rw[Ti ⟨h1.1,by omega⟩]⟩
   .refine⟨hb.1,hb.2.1,fun h0=>?_⟩
    split
    .rfl
    .exact hb.2.2 h0
 .obtain⟨h1,h2⟩:=Oa.1 hb
  have:=h.pb b h1
  refine⟨this.1,this.2.1,?_⟩
  show(s.cl.set c.toNat true).getD b.toNat true=false
  rw[E7,Tj (by omega)];exact this.2.2
theorem opS_ok{n:Aa}{s:Ac}{c:Int}(h:A7 n s)(hc:0<=c/\c<(Ar n:Int)):A7 n (opS s c):=by
 have lc:=h.lc
 have lb:=h.lb
 refine⟨by show(s.cl.set _ _).length=_;rw[TV,lc],by show(s.bw.set _ _).length=_;rw[TV,lb],fun i hi=>?_,fun b hb=>?_,wo_nd c h.nd⟩
 .show -1<=(s.bw.set _ _).getD i 0/\(s.bw.set _ _).getD i 0<8/\(0<=(s.bw.set _ _).getD i 0->(s.cl.set c.toNat false).getD i true=true)
  have hi:i<s.bw.length:=by have:(opS s c).bw.length=s.bw.length:=TV ..;omega
  have hb:=h.bw i hi
  rw[E7,E7]
  split
  .exact⟨by omega,by omega,fun h=>by omega⟩
  .rename_i h1
   refine⟨hb.1,hb.2.1,fun h0=>?_⟩
   rw[Tj (by omega)];exact hb.2.2 h0
 .obtain⟨h1,h2⟩:=Oa.1 hb
  have:=h.pb b h1
  refine⟨this.1,this.2.1,?_⟩
  show(s.cl.set c.toNat false).getD b.toNat true=false
  rw[E7,Tj (by omega)];exact this.2.2
def clnSt(l:List Bool)(q w:List Int):Empty->St
 | x=>x.elim
def clnHd:Empty->Nat
 | x=>x.elim
def Li(l:List Bool)(q w:List Int):Option (Empty⊕Ret):=
 gu (l.length<=1000000) <|
 gu (q.length<=1000000) <|
 gu (w.length<=1000000) <|
 some (.inr ([some (bK (boL l) 1),some (bK (List.map iV q) 1),some (bK (List.map iV w) 1)],AV.agg [AV.sl 0 0 (boL l).length,AV.sl 1 0 q.length,AV.sl 2 0 w.length]))
def clnStep(l:List Bool)(q w:List Int):Empty->Option (Empty⊕Ret)
 | x=>x.elim
theorem clnEn_ok(l:List Bool)(q w:List Int)(o:Empty⊕Ret)(h:Li l q w=some o):Arr Try.prog Try.f48 0 (clnSt l q w) clnHd (zB Try.f48) [] {n:=Try.f48.ntmps,fr:=AA 0 ([sgA ⟨l,q,w⟩]),hp:=([])} o:=
 Scr.ok h mix (
 .rn 0 [] [] [] [] (al (u2 t2)) <|
 .gu fun a0=>
 .gu fun a1=>
 .gu fun a2=>
 have c0:=clb_c l a0;
 have c1:=cli_c q a1;
 have c2:=cli_c w a2;
 .rt [] [] [(5,hK c0 [] []),(8,hK c1 [] []),(11,hK c2 [] [])] [] [2,3,4] [] (aj (al (u2 (u2 (aj (k2 (al (c0))) (u2 (u2 (aj (k2 (al (c1))) (u2 (u2 (aj (k2 (al (c2))) (aj t4 (al (k2 n11))))))))))))) (aj t4 t4))) (by kernel_rfl)
theorem cln_ct(l:List Bool)(q w:List Int)(r:Ret)(h:Al (clnStep l q w) (Li l q w) r):CT Try.prog 48 ([]) ([sgA ⟨l,q,w⟩]) r.1 r.2:=
 CT.mach (fn:=Try.f48) (c:=zB Try.f48) (S:=clnSt l q w) (hd:=clnHd) Try.func48 (by kernel_rfl) (nL rfl)
  (fun s o ho=>match s,ho with
   | x,_=>x.elim)
  (fun o ho=>clnEn_ok l q w o ho) h
def schSt(n:Aa)(q:Ac)(c:Int):Empty->St
 | x=>x.elim
def schHd:Empty->Nat
 | x=>x.elim
def Lo(n:Aa)(q:Ac)(c:Int):Option (Empty⊕Ret):=
 gu (Rows n.nx) <|
 br (!AK n q)
 (some (.inr ([],iV 20)))
 (br (decide (c<0))
  (some (.inr ([],iV 19)))
  (br (decide (iN (boL q.cl).length<=c))
   (some (.inr ([],iV 19)))
   (some (.inr ([],iV 0)))))
def schStep(n:Aa)(q:Ac)(c:Int):Empty->Option (Empty⊕Ret)
 | x=>x.elim
theorem schEn_ok(n:Aa)(q:Ac)(c:Int)(o:Empty⊕Ret)(h:Lo n q c=some o):Arr Try.prog Try.f46 0 (schSt n q c) schHd (zB Try.f46) [] {n:=Try.f46.ntmps,fr:=AA 0 ([Ad n,sgA q,.int .i64 c]),hp:=([])} o:=
 Scr.ok h mix (
 .rn 0 [] [] [] [] (al (u2 (u2 t2))) <|
 .gu fun a0=>
 have c0:=HQ (q.cl) (q.bw) (q.pe) a0;
 .rn 0 [] [] [(10,hK c0 [] [])] [] (al (u2 (u2 (aj (k2 (aj t9 (aj t4 (al (c0))))) (u2 s2))))) <|
 .br (fun a1=>
 .rt [15] [] [] [] [] [] (aj (aj a1 s2) t2))
 (fun a1=>
 .br (fun a2=>
  .rt [14,31] [] [] [] [] [] (aj (aj a1 (aj (u2 (u2 (u2 (aj a2 (aj a2 (aj a2 (aj a2 (aj a2 (ag a2 s2))))))))) (ak s2))) t2))
 (fun a2=>
  .rn 0 [14,30] [] [] [] (aj a1 (al (u2 (u2 (u2 (ag a2 (ag a2 (ag a2 (ag a2 (aj (aj a2 t3) (ag a2 s2))))))))))) <|
  .br (fun a3=>
  .rt [30,25] [] [] [] [] [] (aj (aj a3 s2) t2))
  (fun a3=>
  .rt [30,24] [] [] [] [] [] (aj (aj a3 s2) t2))))) (by kernel_rfl)
theorem sch_ct(n:Aa)(q:Ac)(c:Int)(r:Ret)(h:Al (schStep n q c) (Lo n q c) r):CT Try.prog 46 ([]) ([Ad n,sgA q,.int .i64 c]) r.1 r.2:=
 CT.mach (fn:=Try.f46) (c:=zB Try.f46) (S:=schSt n q c) (hd:=schHd) Try.func46 (by kernel_rfl) (nL rfl)
  (fun s o ho=>match s,ho with
   | x,_=>x.elim)
  (fun o ho=>schEn_ok n q c o ho) h
inductive Ef where
 | l0 (v0:Int) (v1:List Bool)
def GP(n:Aa)(q:Ac):Ef->St
 | .l0 v0 v1=>St.mk 28 [(6,AV.sl 0 0 (boL q.cl).length),(17,AV.lst (List.map (iv) q.pe)),(18,iv (iN (List.map (iv) q.pe).length)),(19,iv v0)] [some (bK (List.map bV v1) 1)]
def KM:Ef->Nat
 | .l0 _ _=>0
def MY(n:Aa)(q:Ac):Option (Ef⊕Ret):=
 gu (Rows n.nx) <|
 br (!AK n q)
 (some (.inr ([],AV.tup [AV.nils,iV 20])))
 (gu (q.cl.length<=1000000) <|
  some (.inl (.l0 ((0:Int)) (q.cl))))
def Gu(n:Aa)(q:Ac)(v0:Int)(v1:List Bool):Option (Ef⊕Ret):=
 br (decide (v0<iN (List.map iV q.pe).length))
 (gu (0<=v0) <|
  el (q.pe) (v0.toNat) fun(x21:Int)=>
  gu (0<=x21) <|
  gu (x21<iN (boL q.cl).length) <|
  gu ((0+x21.toNat).succ.le (List.map bV v1).length) <|
  some (.inl (.l0 (i64.wrap (v0+1)) (v1.set (0+x21.toNat) true))))
 (gu ((boL q.cl).length=(List.map bV v1).length) <|
  some (.inr ([],AV.tup [AV.lst (List.map bV v1),iV 0])))
def sshStep(n:Aa)(q:Ac):Ef->Option (Ef⊕Ret)
 | .l0 v0 v1=>Gu n q v0 v1
theorem sshEn_ok(n:Aa)(q:Ac)(o:Ef⊕Ret)(h:MY n q=some o):Arr Try.prog Try.f24 0 (GP n q) KM (zB Try.f24) [] {n:=Try.f24.ntmps,fr:=AA 0 ([Ad n,sgA q]),hp:=([])} o:=
 Scr.ok h mix (
 .rn 0 [] [] [] [] (al (u2 (u2 t3))) <|
 .gu fun a0=>
 have c0:=HQ (q.cl) (q.bw) (q.pe) a0;
 .rn 0 [] [] [(11,hK c0 [] [])] [] (al (u2 (u2 (aj (k2 (aj t9 (aj t4 (al (c0))))) s2)))) <|
 .br (fun a1=>
 .rt [25] [] [] [] [] [] (aj (aj a1 (al t3)) (al t3)))
 (fun a1=>
 .gu fun a2=>
 have c1:=clb_c (q.cl) a2;
 .lp [24] [] [(15,hK c1 [] [])] [] [] [2] [6,17,18,19] (aj (aj a1 (aj (u2 (u2 (aj (k2 (al (c1))) s2))) (al (u2 (u2 (u2 t2)))))) t6))) (by kernel_rfl)
theorem sshS0_ok(n:Aa)(q:Ac)(v0:Int)(v1:List Bool)(o:Ef⊕Ret)(h:Gu n q v0 v1=some o):Arr Try.prog Try.f24 0 (GP n q) KM (Av Try.f24 0) (.rnd (Av Try.f24 0)::AG Try.f24 0) (GP n q (.l0 v0 v1)) o:=
 Scr.ok h mix (
 .rn 0 [] [] [] [] (al (al t3)) <|
 .br (fun a0=>
 .gu fun a1=>
 .el fun x21 a2=>
 .rn 0 [41] [(21,iv x21)] [] [] (aj a0 (al (aj (k2 (aj a1 (Aq (f:=iv) a2))) (u2 s2)))) <|
 .gu fun a3=>
 .gu fun a4=>
 .gu fun a5=>
 .lq [] [] [] [] [] [0] [6,17,18,19] (up [] [(0,(List.map bV v1).set (0+x21.toNat) (bV true))] (GP n q (.l0 (i64.wrap (v0+1)) (v1.set (0+x21.toNat) true)))) (aj (aj (u2 (u2 (aj (k2 (aj a3 a4)) (al (ak a5))))) (al (u2 s2))) t6) (by simp[up,upF,upV,upH,upB,GP,gL,boL,lI,sA,bA]))
 (fun a0=>
 .rn 0 [40] [] [] [] (aj a0 (al (u2 (u2 t2)))) <|
 .gu fun a1=>
 .rt [] [] [] [] [] [0] (ak (al (aj a1 t2))))) (by kernel_rfl)
theorem ssh_ct(n:Aa)(q:Ac)(r:Ret)(h:Al (sshStep n q) (MY n q) r):CT Try.prog 24 ([]) ([Ad n,sgA q]) r.1 r.2:=
 CT.mach (fn:=Try.f24) (c:=zB Try.f24) (S:=GP n q) (hd:=KM) Try.func24 (by kernel_rfl) (nL rfl)
  (fun s o ho=>match s,ho with
   | .l0 v0 v1,ho=>sshS0_ok n q v0 v1 o ho
  )
  (fun o ho=>sshEn_ok n q o ho) h
def Qa(n:Aa)(q:Ac):Empty->St
 | x=>x.elim
def Oi:Empty->Nat
 | x=>x.elim
def KT(n:Aa)(q:Ac):Option (Empty⊕Ret):=
 gu (Rows n.nx) <|
 br (!AK n q)
 (some (.inr ([],AV.tup [AV.nils,iV 20])))
 (gu (q.cl.length<=1000000) <|
  gu (q.pe.length<=1000000) <|
  gu (∀(b:Int),b∈q.pe->0<=b/\b<iN q.cl.length) <|
  some (.inr ([],AV.tup [AV.lst (boL (A5 q)),iV 0])))
def r20hStep(n:Aa)(q:Ac):Empty->Option (Empty⊕Ret)
 | x=>x.elim
theorem SI(n:Aa)(q:Ac)(o:Empty⊕Ret)(h:KT n q=some o):Arr Try.prog Try.f72 0 (Qa n q) Oi (zB Try.f72) [] {n:=Try.f72.ntmps,fr:=AA 0 ([Ad n,sgA q]),hp:=([])} o:=
 Scr.ok h mix (
 .rn 0 [] [] [] [] (al (u2 (u2 t3))) <|
 .gu fun a0=>
 have c0:=Fq (q.cl) (q.bw) (q.pe) a0;
 .rn 0 [] [] [(8,hK c0 [] [])] [] (al (u2 (u2 (aj (k2 (aj t9 (aj t4 (al (c0))))) s2)))) <|
 .br (fun a1=>
 .rt [19] [] [] [] [] [] (aj (aj a1 (al t3)) (al t3)))
 (fun a1=>
 .gu fun a2=>
 .gu fun a3=>
 .gu fun a4=>
 have c1:=Km q a2 a3 a4;
 .rt [18] [] [(11,hK c1 [] [])] [] [] [] (aj (aj a1 (al (u2 (aj (ak (aj t4 (al (c1)))) (u2 t2))))) (al t3)))) (by kernel_rfl)
theorem r20h_ct(n:Aa)(q:Ac)(r:Ret)(h:Al (r20hStep n q) (KT n q) r):CT Try.prog 72 ([]) ([Ad n,sgA q]) r.1 r.2:=
 CT.mach (fn:=Try.f72) (c:=zB Try.f72) (S:=Qa n q) (hd:=Oi) Try.func72 (by kernel_rfl) (nL rfl)
  (fun s o ho=>match s,ho with
   | x,_=>x.elim)
  (fun o ho=>SI n q o ho) h
def O5(n:Aa)(q:Ac)(c:Int):Empty->St
 | x=>x.elim
def OS:Empty->Nat
 | x=>x.elim
def KA(n:Aa)(q:Ac)(c:Int):Option (Empty⊕Ret):=
 gu (Rows n.nx) <|
 br (!AK n q)
 (some (.inr ([],AV.tup [AV.agg [AV.nils,AV.nils,AV.nils],iV 20])))
 (br (decide (c<0))
  (some (.inr ([],AV.tup [AV.agg [AV.nils,AV.nils,AV.nils],iV 19])))
  (br (decide (iN (List.map bA n.bs).length<=c))
   (some (.inr ([],AV.tup [AV.agg [AV.nils,AV.nils,AV.nils],iV 19])))
   (gu (q.cl.length<=1000000) <|
    gu (q.pe.length<=1000000) <|
    gu (∀(b:Int),b∈q.pe->0<=b/\b<iN q.cl.length) <|
    gu (0<=c) <|
    el (A5 q) (c.toNat) fun(x26:Bool)=>
    br x26
    (some (.inr ([],AV.tup [AV.agg [AV.nils,AV.nils,AV.nils],iV 24])))
    (gu (q.bw.length<=1000000) <|
     gu ((List.map iV (wo q.pe (-1))).length+[iV c].length<=9223372036854775807) <|
     gu (((List.map iV (wo q.pe (-1))).length+[iV c].length) * 8<=140737488355328) <|
     some (.inr ([],AV.tup [AV.agg [AV.lst (boL q.cl),AV.lst (List.map iV q.bw),AV.lst (List.map iV (wo q.pe (-1))++[iV c])],iV 0]))))))
def rannStep(n:Aa)(q:Ac)(c:Int):Empty->Option (Empty⊕Ret)
 | x=>x.elim
theorem Sl(n:Aa)(q:Ac)(c:Int)(o:Empty⊕Ret)(h:KA n q c=some o):Arr Try.prog Try.f59 0 (O5 n q c) OS (zB Try.f59) [] {n:=Try.f59.ntmps,fr:=AA 0 ([Ad n,sgA q,.int .i64 c]),hp:=([])} o:=
 Scr.ok h mix (
 .rn 0 [] [] [] [] (al (u2 (u2 t3))) <|
 .gu fun a0=>
 have c0:=Fq (q.cl) (q.bw) (q.pe) a0;
 .rn 0 [] [] [(10,hK c0 [] [])] [] (al (u2 (u2 (aj (k2 (aj t9 (aj t4 (al (c0))))) s2)))) <|
 .br (fun a1=>
 .rt [23] [] [] [] [] [] (aj (aj a1 (al (ak (aj (k2 n11) t2)))) (al (aj t4 t2))))
 (fun a1=>
 .br (fun a2=>
  .rt [22,31] [] [] [] [] [] (aj (aj a1 (aj (u2 (u2 (u2 (aj a2 (aj a2 (aj a2 (aj a2 (aj a2 (al (aj a2 t2)))))))))) (ak (al (ak (aj (k2 n11) t2)))))) (al (aj t4 t2))))
 (fun a2=>
  .rn 0 [22,30] [] [] [] (aj a1 (al (u2 (u2 (u2 (ag a2 (ag a2 (ag a2 (ag a2 (aj (aj a2 t3) (al (aj a2 t2)))))))))))) <|
  .br (fun a3=>
  .rt [30,43] [] [] [] [] [] (aj (aj a3 (al (ak (aj (k2 n11) t2)))) (al (aj t4 t2))))
  (fun a3=>
  .gu fun a4=>
  .gu fun a5=>
  .gu fun a6=>
  .gu fun a7=>
  .el fun x26 a8=>
  have c1:=Km q a4 a5 a6;
  .rn 0 [30,42] [(26,bV x26)] [(24,hK c1 [] [])] [] (aj a3 (al (u2 (aj (ak (aj t4 (al (c1)))) (u2 (aj (k2 (aj a7 (Aq (f:=bV) a8))) s2)))))) <|
  .br (fun a9=>
   .rt [30,55] [] [] [] [] [] (aj (aj a9 (al (ak (aj (k2 n11) t2)))) (al (aj t4 t2))))
  (fun a9=>
   .gu fun a10=>
   have c2:=K5 (q.cl) (q.bw) (q.pe) (-1) a4 a10 a5;
   .rn 0 [30,54] [] [(30,hK c2 [] [])] [] (aj a9 (al (u2 (aj (ak (aj t4 (ak (al (c2))))) (al (k2 (show Nat.le 1 [AV.agg [AV.lst (boL q.cl),AV.lst (List.map (iv) q.bw),AV.lst (List.map (iv) q.pe)]].length from(nL rfl)))))))) <|
   .gu fun a11=>
   .gu fun a12=>
   .rt [30] [] [] [] [] [3,4,7] (aj (aj (u2 (u2 (u2 (u2 (aj (k2 (aj (show(List.map (iv) (wo q.pe (-1))).length=(wo q.pe (-1)).length by simp) (aj (aj (show nat_lit 1=nat_lit 1 from rfl) (show 1<=[iv c].length by simp)) (aj a11 a12)))) (u2 (al t3))))))) (al (u2 (aj (k2 n11) t2)))) (al (aj (aj (show(boL q.cl).length=(boL q.cl).length from rfl) (aj (show q.bw.length=(List.map (iv) q.bw).length by simp) (al (show(List.map (iv) (wo q.pe (-1))).length+[iv c].length=(List.map (iv) (wo q.pe (-1))++[iv c]).length by simp)))) t2)))))))) (by kernel_rfl)
theorem rann_ct(n:Aa)(q:Ac)(c:Int)(r:Ret)(h:Al (rannStep n q c) (KA n q c) r):CT Try.prog 59 ([]) ([Ad n,sgA q,.int .i64 c]) r.1 r.2:=
 CT.mach (fn:=Try.f59) (c:=zB Try.f59) (S:=O5 n q c) (hd:=OS) Try.func59 (by kernel_rfl) (nL rfl)
  (fun s o ho=>match s,ho with
   | x,_=>x.elim)
  (fun o ho=>Sl n q c o ho) h
def OT(q:Ac)(c d:Int):Empty->St
 | x=>x.elim
def OX:Empty->Nat
 | x=>x.elim
def L1(q:Ac)(c d:Int):Option (Empty⊕Ret):=
 gu (q.cl.length<=1000000) <|
 gu (q.bw.length<=1000000) <|
 gu (q.pe.length<=1000000) <|
 gu (0<=c) <|
 gu (c<iN (boL q.cl).length) <|
 el (q.cl) (0+c.toNat) fun(x14:Bool)=>
 br (!x14)
 (gu ((0+c.toNat).succ.le (boL q.cl).length) <|
  gu (c<iN q.bw.length) <|
  gu ((0+c.toNat).succ.le (List.map iV q.bw).length) <|
  some (.inr ([],AV.agg [AV.lst ((boL q.cl).set (0+c.toNat) (bV true)),AV.lst ((List.map iV q.bw).set (0+c.toNat) (iV d)),AV.lst (List.map iV (wo q.pe c))])))
 (some (.inr ([],AV.agg [AV.lst (boL q.cl),AV.lst (List.map iV q.bw),AV.lst (List.map iV (wo q.pe c))])))
def rshsStep(q:Ac)(c d:Int):Empty->Option (Empty⊕Ret)
 | x=>x.elim
theorem Sy(q:Ac)(c d:Int)(o:Empty⊕Ret)(h:L1 q c d=some o):Arr Try.prog Try.f60 0 (OT q c d) OX (zB Try.f60) [] {n:=Try.f60.ntmps,fr:=AA 0 ([sgA q,.int .i64 c,.int .i64 d]),hp:=([])} o:=
 Scr.ok h mix (
 .rn 0 [] [] [] [] (al (u2 t2)) <|
 .gu fun a0=>
 .gu fun a1=>
 .gu fun a2=>
 have c0:=K5 (q.cl) (q.bw) (q.pe) c a0 a1 a2;
 .rn 0 [] [] [(9,hK c0 [] [])] [] (al (u2 (u2 (aj (k2 (aj t4 (ak (al (c0))))) (al (k2 (show Nat.le 1 [AV.agg [AV.lst (boL q.cl),AV.lst (List.map (iv) q.bw),AV.lst (List.map (iv) q.pe)]].length from(nL rfl)))))))) <|
 .gu fun a3=>
 .gu fun a4=>
 .el fun x14 a5=>
 .rn 0 [] [(14,bV x14)] [] [] (al (u2 (u2 (u2 (aj (k2 (aj a3 a4)) (aj (ak (Aq (f:=bV) a5)) s2)))))) <|
 .br (fun a6=>
 .gu fun a7=>
 .gu fun a8=>
 .gu fun a9=>
 .rt [31] [] [] [] [] [2,3,4] (aj (aj a6 (aj (u2 (u2 (u2 (u2 (u2 (u2 (u2 (aj (k2 (aj a3 a4)) (aj (ak a7) (aj (k2 (aj a3 a8)) (al (k2 a9)))))))))))) (al (u2 (al (k2 n11)))))) (al (aj (show(boL q.cl).length=((boL q.cl).set (0+c.toNat) (bV true)).length by simp) (aj (show q.bw.length=((List.map (iv) q.bw).set (0+c.toNat) (iv d)).length by simp) (al (show(wo q.pe c).length=(List.map (iv) (wo q.pe c)).length by simp)))))))
 (fun a6=>
 .rt [30] [] [] [] [] [2,3,4] (aj (aj a6 (al (u2 (al (k2 n11))))) (al (aj (show(boL q.cl).length=(boL q.cl).length from rfl) (aj (show q.bw.length=(List.map (iv) q.bw).length by simp) (al (show(wo q.pe c).length=(List.map (iv) (wo q.pe c)).length by simp)))))))) (by kernel_rfl)
theorem rshs_ct(q:Ac)(c d:Int)(r:Ret)(h:Al (rshsStep q c d) (L1 q c d) r):CT Try.prog 60 ([]) ([sgA q,.int .i64 c,.int .i64 d]) r.1 r.2:=
 CT.mach (fn:=Try.f60) (c:=zB Try.f60) (S:=OT q c d) (hd:=OX) Try.func60 (by kernel_rfl) (nL rfl)
  (fun s o ho=>match s,ho with
   | x,_=>x.elim)
  (fun o ho=>Sy q c d o ho) h
def NF(q:Ac)(c:Int):Empty->St
 | x=>x.elim
def N8:Empty->Nat
 | x=>x.elim
def MO(q:Ac)(c:Int):Option (Empty⊕Ret):=
 gu (q.cl.length<=1000000) <|
 gu (q.bw.length<=1000000) <|
 gu (q.pe.length<=1000000) <|
 gu (0<=c) <|
 gu (c<iN (boL q.cl).length) <|
 gu ((0+c.toNat).succ.le (boL q.cl).length) <|
 gu (c<iN q.bw.length) <|
 gu ((0+c.toNat).succ.le (List.map iV q.bw).length) <|
 some (.inr ([],AV.agg [AV.lst ((boL q.cl).set (0+c.toNat) (bV false)),AV.lst ((List.map iV q.bw).set (0+c.toNat) (iV (-1))),AV.lst (List.map iV (wo q.pe c))]))
def ropsStep(q:Ac)(c:Int):Empty->Option (Empty⊕Ret)
 | x=>x.elim
theorem Rn(q:Ac)(c:Int)(o:Empty⊕Ret)(h:MO q c=some o):Arr Try.prog Try.f80 0 (NF q c) N8 (zB Try.f80) [] {n:=Try.f80.ntmps,fr:=AA 0 ([sgA q,.int .i64 c]),hp:=([])} o:=
 Scr.ok h mix (
 .rn 0 [] [] [] [] (al (u2 t2)) <|
 .gu fun a0=>
 .gu fun a1=>
 .gu fun a2=>
 have c0:=K5 (q.cl) (q.bw) (q.pe) c a0 a1 a2;
 .rn 0 [] [] [(7,hK c0 [] [])] [] (al (u2 (u2 (aj (k2 (aj t4 (ak (al (c0))))) (al (k2 (show Nat.le 1 [AV.agg [AV.lst (boL q.cl),AV.lst (List.map (iv) q.bw),AV.lst (List.map (iv) q.pe)]].length from(nL rfl)))))))) <|
 .gu fun a3=>
 .gu fun a4=>
 .gu fun a5=>
 .gu fun a6=>
 .gu fun a7=>
 .rt [] [] [] [] [] [2,3,4] (aj (aj (u2 (u2 (u2 (u2 (u2 (u2 (aj (k2 (aj a3 a4)) (aj (ak a5) (aj (k2 (aj a3 a6)) (al (ak a7))))))))))) (al (u2 (al (k2 n11))))) (al (aj (show(boL q.cl).length=((boL q.cl).set (0+c.toNat) (bV false)).length by simp) (aj (show q.bw.length=((List.map (iv) q.bw).set (0+c.toNat) (iv (-1))).length by simp) (al (show(wo q.pe c).length=(List.map (iv) (wo q.pe c)).length by simp))))))) (by kernel_rfl)
theorem rops_ct(q:Ac)(c:Int)(r:Ret)(h:Al (ropsStep q c) (MO q c) r):CT Try.prog 80 ([]) ([sgA q,.int .i64 c]) r.1 r.2:=
 CT.mach (fn:=Try.f80) (c:=zB Try.f80) (S:=NF q c) (hd:=N8) Try.func80 (by kernel_rfl) (nL rfl)
  (fun s o ho=>match s,ho with
   | x,_=>x.elim)
  (fun o ho=>Rn q c o ho) h
def k19St(q:Ao)(c d:Int):Empty->St
 | x=>x.elim
def k19Hd:Empty->Nat
 | x=>x.elim
def Lp(q:Ao)(c d:Int):Option (Empty⊕Ret):=
 br (!Bv q)
 (some (.inr ([],iV 20)))
 (br (decide (c<0))
  (some (.inr ([],iV 19)))
  (br (decide (8<=c))
   (some (.inr ([],iV 19)))
   (br (decide (d<0))
    (some (.inr ([],iV 19)))
    (br (decide (iN (List.map iV q.ow).length<=d))
     (some (.inr ([],iV 19)))
     (some (.inr ([],iV 0)))))))
def k19Step(q:Ao)(c d:Int):Empty->Option (Empty⊕Ret)
 | x=>x.elim
theorem k19En_ok(q:Ao)(c d:Int)(o:Empty⊕Ret)(h:Lp q c d=some o):Arr Try.prog Try.f49 0 (k19St q c d) k19Hd (zB Try.f49) [] {n:=Try.f49.ntmps,fr:=AA 0 ([lkA q,.int .i64 c,.int .i64 d]),hp:=([])} o:=
 Scr.ok h mix (
 have c0:=rlv_c (q);
 .rn 1 [] [] [(8,hK c0 [] [])] [] (ag t2 (al (u2 (aj (ak (aj t3 (al (c0)))) s2)))) <|
 .br (fun a0=>
 .rt [19] [] [] [] [] [] (aj (aj a0 s2) t2))
 (fun a0=>
 .br (fun a1=>
  .rt [18,25] [] [] [] [] [] (aj (aj a0 (aj (u2 (u2 (u2 (aj a1 (aj a1 (ag a1 (u2 (k2 (aj t3 (u2 (k5 (al t3)))))))))))) (ak s2))) t2))
 (fun a1=>
  .br (fun a2=>
  .rt [18,24,33] [] [] [] [] [] (aj (aj a0 (aj (u2 (u2 (u2 (ag a1 (ag a1 (ag a1 (u2 (aj a2 (aj a2 (ag a2 (u2 (k5 (al t3))))))))))))) (ak s2))) t2))
  (fun a2=>
  .br (fun a3=>
   .rt [18,24,32,41] [] [] [] [] [] (aj (aj a0 (aj (u2 (u2 (u2 (ag a1 (ag a1 (ag a1 (u2 (ag a2 (ag a2 (ag a2 (u2 (aj a3 (aj a3 (aj a3 (aj a3 (aj a3 (al (aj a3 t2)))))))))))))))))) (ak s2))) t2))
  (fun a3=>
   .rn 0 [18,24,32,40] [] [] [] (aj a0 (al (u2 (u2 (u2 (ag a1 (ag a1 (ag a1 (u2 (ag a2 (ag a2 (ag a2 (u2 (ag a3 (ag a3 (ag a3 (ag a3 (aj (aj a3 t3) (al (aj a3 t2)))))))))))))))))))) <|
   .br (fun a4=>
   .rt [24,32,40,53] [] [] [] [] [] (aj (aj a4 s2) t2))
   (fun a4=>
   .rt [24,32,40,52] [] [] [] [] [] (aj (aj a4 s2) t2))))))) (by kernel_rfl)
theorem k19_ct(q:Ao)(c d:Int)(r:Ret)(h:Al (k19Step q c d) (Lp q c d) r):CT Try.prog 49 ([]) ([lkA q,.int .i64 c,.int .i64 d]) r.1 r.2:=
 CT.mach (fn:=Try.f49) (c:=zB Try.f49) (S:=k19St q c d) (hd:=k19Hd) Try.func49 (by kernel_rfl) (nL rfl)
  (fun s o ho=>match s,ho with
   | x,_=>x.elim)
  (fun o ho=>k19En_ok q c d o ho) h
def lk1St(n:Aa)(c d:Int):Empty->St
 | x=>x.elim
def lk1Hd:Empty->Nat
 | x=>x.elim
def Mw(n:Aa)(c d:Int):Option (Empty⊕Ret):=
 gu (0<=c) <|
 el (n.nx) (c.toNat) fun(x9:List Int)=>
 gu (x9.length<=9223372036854775807) <|
 some (.inr ([some (bK [AV.agg [AV.lst (List.map bA n.bs),AV.lst (gL n.nx),AV.lst (List.map sA n.ss),AV.lst (List.map iV n.rs),iV n.q,iV n.a,iV n.d,iV n.p]] 8)],bV (Ak x9 d)))
def lk1Step(n:Aa)(c d:Int):Empty->Option (Empty⊕Ret)
 | x=>x.elim
theorem lk1En_ok(n:Aa)(c d:Int)(o:Empty⊕Ret)(h:Mw n c d=some o):Arr Try.prog Try.f82 1 (lk1St n c d) lk1Hd (zB Try.f82) [] {n:=Try.f82.ntmps,fr:=AA 0 ([.int .i64 c,.int .i64 d,.ptr 0 0 0]),hp:=([some (bK [Ad n] 8)])} o:=
 Scr.ok h mix (
 .rn 0 [] [] [] [] s2 <|
 .gu fun a0=>
 .el fun x9 a1=>
 .gu fun a2=>
 have c0:=Ia x9 d a2;
 .rt [] [(9,lI x9)] [(12,hK c0 [] [])] [] [0] [] (aj (al (u2 (u2 (u2 (aj (k2 (aj a0 (Aq (f:=lI) a1))) (u2 (u2 (aj (ak (k3 (al (c0)))) s2)))))))) t3)) (by kernel_rfl)
theorem lk1_ct(n:Aa)(c d:Int)(r:Ret)(h:Al (lk1Step n c d) (Mw n c d) r):CT Try.prog 82 ([some (bK [Ad n] 8)]) ([.int .i64 c,.int .i64 d,.ptr 0 0 0]) r.1 r.2:=
 CT.mach (fn:=Try.f82) (c:=zB Try.f82) (S:=lk1St n c d) (hd:=lk1Hd) Try.func82 (by kernel_rfl) (nL rfl)
  (fun s o ho=>match s,ho with
   | x,_=>x.elim)
  (fun o ho=>lk1En_ok n c d o ho) h
def lk2St(n:Aa)(c d:Int):Empty->St
 | x=>x.elim
def lk2Hd:Empty->Nat
 | x=>x.elim
def Nb(n:Aa)(c d:Int):Option (Empty⊕Ret):=
 gu (0<=d) <|
 el (n.nx) (d.toNat) fun(x9:List Int)=>
 gu (x9.length<=9223372036854775807) <|
 some (.inr ([some (bK [AV.agg [AV.lst (List.map bA n.bs),AV.lst (gL n.nx),AV.lst (List.map sA n.ss),AV.lst (List.map iV n.rs),iV n.q,iV n.a,iV n.d,iV n.p]] 8)],bV (Ak x9 c)))
def lk2Step(n:Aa)(c d:Int):Empty->Option (Empty⊕Ret)
 | x=>x.elim
theorem lk2En_ok(n:Aa)(c d:Int)(o:Empty⊕Ret)(h:Nb n c d=some o):Arr Try.prog Try.f83 1 (lk2St n c d) lk2Hd (zB Try.f83) [] {n:=Try.f83.ntmps,fr:=AA 0 ([.int .i64 c,.int .i64 d,.ptr 0 0 0]),hp:=([some (bK [Ad n] 8)])} o:=
 Scr.ok h mix (
 .rn 0 [] [] [] [] s2 <|
 .gu fun a0=>
 .el fun x9 a1=>
 .gu fun a2=>
 have c0:=Ia x9 c a2;
 .rt [] [(9,lI x9)] [(12,hK c0 [] [])] [] [0] [] (aj (al (u2 (u2 (u2 (aj (k2 (aj a0 (Aq (f:=lI) a1))) (u2 (u2 (aj (ak (k3 (al (c0)))) s2)))))))) t3)) (by kernel_rfl)
theorem lk2_ct(n:Aa)(c d:Int)(r:Ret)(h:Al (lk2Step n c d) (Nb n c d) r):CT Try.prog 83 ([some (bK [Ad n] 8)]) ([.int .i64 c,.int .i64 d,.ptr 0 0 0]) r.1 r.2:=
 CT.mach (fn:=Try.f83) (c:=zB Try.f83) (S:=lk2St n c d) (hd:=lk2Hd) Try.func83 (by kernel_rfl) (nL rfl)
  (fun s o ho=>match s,ho with
   | x,_=>x.elim)
  (fun o ho=>lk2En_ok n c d o ho) h
def shE(n:Aa)(s:Ac):Int:=if AK n s=true then 0 else 20
def shO(n:Aa)(s:Ac):List Bool:=if AK n s=true then A5 s else []
theorem B0{n:Aa}{s:Ac}(h:AK n s=true):Ax n/\A7 n s/\s.cl.length<=48/\s.bw.length<=48/\s.pe.length<=48/\n.bs.length<=s.cl.length/\∀b∈s.pe,0<=b/\b<(s.cl.length:Int):=by
 obtain⟨hv,h⟩:=OC.1 h
 have hc:=BV hv
 have lc:=h.lc
 have lb:=h.lb
 have pl:=h.pl
 exact⟨hv,h,by omega,by omega,by omega,by omega,fun b hb=>by have:=h.pb b hb;omega⟩
theorem Mv(cl:List Bool)(bw pe:List Int)(h1:cl.length<=1000000)(h2:bw.length<=1000000)(h3:pe.length<=1000000):
  CT Try.prog 48 [] [sgA ⟨cl,bw,pe⟩] [some (Blk.mk (boL cl) 1 true true none),some (Blk.mk (bw.map (AV.int .i64)) 1 true true none),some (Blk.mk (pe.map (AV.int .i64)) 1 true true none)] (.agg [.sl 0 0 (boL cl).length,.sl 1 0 bw.length,.sl 2 0 pe.length]):=by
 refine cln_ct cl bw pe ([_,_,_],_) (.val ?_)
 unfold Li
 rw[Ab h1,Ab h2,Ab h3]
def scE(n:Aa)(s:Ac)(c:Int):Int:=if AK n s=true then (if c<0\/(s.cl.length:Int)<=c then 19 else 0) else 20
theorem MI{n:Aa}(cl:List Bool)(bw pe:List Int)(c:Int)(hrw:Rows n.nx):CT Try.prog 46 [] [Ad n,sgA ⟨cl,bw,pe⟩,.int .i64 c] [] (.int .i64 (scE n ⟨cl,bw,pe⟩ c)):=by
 refine sch_ct n ⟨cl,bw,pe⟩ c ([],_) (.val ?_)
 unfold Lo scE
 simp only
 rw[Ab hrw]
 cases h:AK n ⟨cl,bw,pe⟩ with
 | false=>rfl
 | true=>
  rw[Af (by rfl),Ti rfl]
  by_cases h0:c<0
  .rw[Ah (AB h0),Ti (.inl h0)]
  by_cases h1:(cl.length:Int)<=c
  .rw[Af (Au h0),Ah (AB (by rw[BW];exact h1)),Ti (.inr h1)]
  .rw[Af (Au h0),Af (Au (by rw[BW];exact h1)),Tj (by omega)]
theorem ssh_c{n:Aa}(cl:List Bool)(bw pe:List Int)(hrw:Rows n.nx):CT Try.prog 24 [] [Ad n,sgA ⟨cl,bw,pe⟩] [] (.tup [.lst (boL (shO n ⟨cl,bw,pe⟩)),.int .i64 (shE n ⟨cl,bw,pe⟩)]):=by
 generalize hs:(⟨cl,bw,pe⟩:Ac)=s
 have k:=ssh_ct n s
 unfold MY at k
 unfold shO shE
 cases h:AK n s with
 | false=>rw[h] at k;exact CT.w2 (k ([],_) (.val (by rw[Ab hrw];rfl)))
 | true=>
  obtain⟨hv,hS,l1,l2,l3,l4,l5⟩:=B0 h
  rw[h] at k
  refine k ([],_) ?_
  rw[Ab hrw,Af (by rfl),Ab (by omega)]
  refine OE (L:=fun i b=>Ef.l0 (i:Int) b) (f:=fun c b=>c.set b.toNat true) (l:=s.pe) s.cl (fun i x hx h=>?_) ?_
  .have hlen:=MZ (s.pe.take i) s.cl
   have h2:=l5 x (Tp hx)
   have hi:=(Tm.1 hx).1
   have hL:=BW s.cl
   generalize (s.pe.take i).foldl (fun c b=>c.set b.toNat true) s.cl=c at *
   refine .to (show Gu n s i c=_ from ?_) h
   unfold Gu
   rw[Gj hx,Ab h2.1,Ab (by simp only[iN];omega),Ab (show Nat.le _ _ from(by simp only[Tn];show 0+x.toNat+1<=_;omega)),zW i (by omega),TB]
  .refine .to (show Gu n s s.pe.length (A5 s)=_ from ?_) (.ret _)
   unfold Gu
   rw[Cf,Ab (by rw[BW,Tn,Gv])];rfl
theorem r20h_c{n:Aa}(cl:List Bool)(bw pe:List Int)(hrw:Rows n.nx):CT Try.prog 72 [] [Ad n,sgA ⟨cl,bw,pe⟩] [] (.tup [.lst (boL (shO n ⟨cl,bw,pe⟩)),.int .i64 (shE n ⟨cl,bw,pe⟩)]):=by
 generalize hs:(⟨cl,bw,pe⟩:Ac)=s
 have k:=r20h_ct n s
 unfold KT at k
 unfold shO shE
 cases h:AK n s with
 | false=>rw[h] at k;exact CT.w2 (k ([],_) (.val (by rw[Ab hrw];rfl)))
 | true=>
  obtain⟨hv,hS,l1,l2,l3,l4,l5⟩:=B0 h
  rw[h] at k
  refine k ([],_) (.val ?_)
  rw[Ab hrw,Af (by rfl),Ab (by omega),Ab (by omega),Ab l5];rfl
def anE(n:Aa)(s:Ac)(x:Int):Int:=if AK n s=true then (if 0<=x/\x<(n.bs.length:Int) then (if (A5 s).getD x.toNat true=true then 24 else 0) else 19) else 20
def anO(n:Aa)(s:Ac)(x:Int):Ac:=if anE n s x=0 then anS s x else ⟨[],[],[]⟩
theorem O2{n:Aa}{s:Ac}{x:Int}(h:anE n s x=0):AK n s=true/\(0<=x/\x<(n.bs.length:Int))/\(A5 s).getD x.toNat true=false:=by
 unfold anE at h
 split at h
 .rename_i h1
  split at h
  .rename_i h2
   split at h
   .cases h
   .rename_i h3;exact⟨h1,h2,by simpa using h3⟩
  .cases h
 .cases h
theorem wo_neg{n:Aa}{s:Ac}(h:A7 n s):wo s.pe (-1)=s.pe:=LA fun hm=>by have:=h.pb _ hm;omega
theorem Mm{n:Aa}(cl:List Bool)(bw pe:List Int)(x:Int)(hrw:Rows n.nx):CT Try.prog 59 [] [Ad n,sgA ⟨cl,bw,pe⟩,.int .i64 x] [] (.tup [sgA (anO n ⟨cl,bw,pe⟩ x),.int .i64 (anE n ⟨cl,bw,pe⟩ x)]):=by
 generalize hs:(⟨cl,bw,pe⟩:Ac)=s
 have k:=rann_ct n s x
 unfold KA at k
 unfold anO
 have hbad:anE n s x≠0->(.tup [sgA (if anE n s x=0 then anS s x else ⟨[],[],[]⟩),.int .i64 (anE n s x)]:AV)=wk2 (.tup [.agg [.nils,.nils,.nils],.int .i64 (anE n s x)]):=fun h=>by rw[Tj h];rfl
 unfold anE at hbad ⊢
 cases h:AK n s with
 | false=>
  rw[h] at k hbad
  rw[hbad (by simp)]
  exact CT.w2 (k ([],_) (.val (by rw[Ab hrw];rfl)))
 | true=>
 obtain⟨hv,hS,l1,l2,l3,l4,l5⟩:=B0 h
 rw[h] at k hbad
 simp only[Ti] at hbad ⊢
 by_cases h0:0<=x/\x<(n.bs.length:Int)
 case neg=>
  rw[Tj h0] at hbad ⊢
  rw[hbad (by decide)]
  refine CT.w2 (k ([],_) (.val ?_))
  rw[Ab hrw,Af (by rfl)]
  by_cases h1:x<0
  .rw[Ah (AB h1)]
  .rw[Af (Au h1),Ah (AB (by rw[Tn];simp only[iN];omega))]
 rw[Ti h0] at hbad ⊢
 have hsl:=Gv s
 have hgx:=Be true (show x.toNat<(A5 s).length by omega)
 cases hx:(A5 s).getD x.toNat true with
 | true=>
  rw[hx,Ti rfl] at hbad
  simp only[Ti]
  rw[hbad (by decide)]
  refine CT.w2 (k ([],_) (.val ?_))
  rw[Ab hrw,Af (by rfl),Af (Au (by omega)),Af (Au (by rw[Tn];simp only[iN];omega)),Ab (by omega),Ab (by omega),Ab l5,Ab h0.1,A4 hgx,hx,Ah rfl]
 | false=>
  have e:(.tup [sgA (anS s x),.int .i64 0]:AV) = .tup [.agg [.lst (boL s.cl),.lst (List.map (AV.int .i64) s.bw),.lst (List.map (AV.int .i64) (wo s.pe (-1))++[.int .i64 x])],.int .i64 0]:=by
   rw[wo_neg hS]
   unfold anS sgA lI
   rw[Tz];rfl
  have e2:(if (if false=true then (24:Int) else 0)=0 then anS s x else ⟨[],[],[]⟩)=anS s x:=rfl
  have e3:(if false=true then (24:Int) else 0)=0:=rfl
  rw[e2,e3,e]
  refine k ([],_) (.val ?_)
  have hw:=PN s.pe (-1)
  rw[Ab hrw,Af (by rfl),Af (Au (by omega)),Af (Au (by rw[Tn];simp only[iN];omega)),Ab (by omega),Ab (by omega),Ab l5,Ab h0.1,A4 hgx,hx,Af rfl,Ab (by omega),Ab (by simp only[Tn,T2,T3];omega),Ab (by simp only[Tn,T2,T3];omega)]
theorem set_same{l:List Bool}{i:Nat}{v:Bool}(h:l.getD i true=v)(hi:i<l.length):l.set i v=l:=by
 apply List.ext_getElem?
 intro j
 rw[Ue]
 split
 .rename_i e;subst e
  rw[Tk hi]
  rw[Tl,Tk hi] at h
  exact congrArg some h.symm
 .rfl
theorem Ns(cl:List Bool)(bw pe:List Int)(c d:Int)(h1:cl.length<=1000000)(h2:bw.length<=1000000)(h3:pe.length<=1000000)(hc:0<=c)(hc1:c<(cl.length:Int))(hc2:c<(bw.length:Int)):
  CT Try.prog 60 [] [sgA ⟨cl,bw,pe⟩,.int .i64 c,.int .i64 d] [] (sgA (clS ⟨cl,bw,pe⟩ c d)):=by
 refine rshs_ct ⟨cl,bw,pe⟩ c d ([],_) (.val ?_)
 have hL:=BW cl
 unfold L1
 simp only
 rw[Ab h1,Ab h2,Ab h3,Ab hc,Ab (by simp only[iN];omega),TB,A4 (Be true (show c.toNat<cl.length by omega))]
 unfold clS
 simp only
 cases h:cl.getD c.toNat true with
 | false=>
  rw[Ah (by rfl),Ab (show Nat.le _ _ from(show c.toNat+1<=_ by omega)),Ab hc2,Ab (show Nat.le _ _ from(by rw[Tn];show c.toNat+1<=_;omega)),Tj (by simp)]
  unfold lI boL
  rw[Ud,Ud]
 | true=>
  rw[Af (by rfl),Ti rfl,set_same h (by omega)];rfl
theorem PV(cl:List Bool)(bw pe:List Int)(c:Int)(h1:cl.length<=1000000)(h2:bw.length<=1000000)(h3:pe.length<=1000000)(hc:0<=c)(hc1:c<(cl.length:Int))(hc2:c<(bw.length:Int)):
  CT Try.prog 80 [] [sgA ⟨cl,bw,pe⟩,.int .i64 c] [] (sgA (opS ⟨cl,bw,pe⟩ c)):=by
 refine rops_ct ⟨cl,bw,pe⟩ c ([],_) (.val ?_)
 have hL:=BW cl
 unfold MO
 simp only
 rw[Ab h1,Ab h2,Ab h3,Ab hc,Ab (by simp only[iN];omega),TB,Ab (show Nat.le _ _ from(show c.toNat+1<=_ by omega)),Ab hc2,Ab (show Nat.le _ _ from(by rw[Tn];show c.toNat+1<=_;omega))]
 unfold opS lI boL
 simp only
 rw[Ud,Ud]
theorem Nr(l:List Int)(x:Int):Ak l x=l.contains x:=by
 rw[Bool.eq_iff_iff,Dy,List.contains_iff_mem]
theorem lk1_c(n:Aa)(c d:Int)(hv:Ax n)(hrw:Rows n.nx)(hc:0<=c/\c<(n.bs.length:Int)):CT Try.prog 82 [some (Blk.mk [Ad n] 8 true true none)] [.int .i64 c,.int .i64 d,.ptr 0 0 0] [some (Blk.mk [Ad n] 8 true true none)] (.bool (Ak (n.nx.getD c.toNat []) d)):=by
 refine lk1_ct n c d ([_],_) (.val ?_)
 have hl:=hv.nx
 have hr:=(hv.lanes hrw (show c.toNat<n.bs.length by omega)).2
 unfold Mw
 rw[Ab hc.1,A4 (Be [] (show c.toNat<n.nx.length by omega)),Ab (by omega)];rfl
theorem lk2_c(n:Aa)(c d:Int)(hv:Ax n)(hrw:Rows n.nx)(hc:0<=d/\d<(n.bs.length:Int)):CT Try.prog 83 [some (Blk.mk [Ad n] 8 true true none)] [.int .i64 c,.int .i64 d,.ptr 0 0 0] [some (Blk.mk [Ad n] 8 true true none)] (.bool (Ak (n.nx.getD d.toNat []) c)):=by
 refine lk2_ct n c d ([_],_) (.val ?_)
 have hl:=hv.nx
 have hr:=(hv.lanes hrw (show d.toNat<n.bs.length by omega)).2
 unfold Nb
 rw[Ab hc.1,A4 (Be [] (show d.toNat<n.nx.length by omega)),Ab (by omega)];rfl
def k9E(l:Ao)(c d:Int):Int:=if Bv l=true then (if 0<=c/\c<8/\0<=d/\d<(l.ow.length:Int) then 0 else 19) else 20
theorem k19_c(ow:List Int)(qu:List (List Int))(c d:Int):CT Try.prog 49 [] [lkA ⟨ow,qu⟩,.int .i64 c,.int .i64 d] [] (.int .i64 (k9E ⟨ow,qu⟩ c d)):=by
 refine k19_ct ⟨ow,qu⟩ c d ([],_) (.val ?_)
 unfold Lp k9E
 simp only
 cases h:Bv ⟨ow,qu⟩ with
 | false=>rfl
 | true=>
  rw[Af (by rfl),Ti rfl,Tn]
  by_cases h0:c<0
  .rw[Ah (AB h0),Tj (by omega)]
  by_cases h1:8<=c
  .rw[Af (Au h0),Ah (AB h1),Tj (by omega)]
  by_cases h2:d<0
  .rw[Af (Au h0),Af (Au h1),Ah (AB h2),Tj (by omega)]
  by_cases h3:(ow.length:Int)<=d
  .rw[Af (Au h0),Af (Au h1),Af (Au h2),Ah (AB h3),Tj (by omega)]
  .rw[Af (Au h0),Af (Au h1),Af (Au h2),Af (Au h3),Ti (by omega)]
def wolSt(l:List Int)(w:Int)(z:Nat):Empty->St
 | x=>x.elim
def wolHd:Empty->Nat
 | x=>x.elim
def Mo(l:List Int)(w:Int)(z:Nat):Option (Empty⊕Ret):=
 gu (8 * iN z<=281474976710656) <|
 gu (iN z<=9223372036854775807) <|
 gu (0+z<=(List.map iV l).length) <|
 gu (z=(List.take (min (List.take z (List.drop 0 (List.map iV l))).length z) (List.take z (List.drop 0 l))++List.drop (0+min (List.take z (List.drop 0 (List.map iV l))).length z) (List.replicate z 0)).length) <|
 gu ((List.take (min (List.take z (List.drop 0 (List.map iV l))).length z) (List.take z (List.drop 0 l))++List.drop (0+min (List.take z (List.drop 0 (List.map iV l))).length z) (List.replicate z 0)).length<=1000000) <|
 some (.inr ([some (bK (List.map iV l) 1),some (bK (List.map iV (wo (List.take (min (List.take z (List.drop 0 (List.map iV l))).length z) (List.take z (List.drop 0 l))++List.drop (0+min (List.take z (List.drop 0 (List.map iV l))).length z) (List.replicate z 0)) w)) 1)],AV.sl 1 0 (wo (List.take (min (List.take z (List.drop 0 (List.map iV l))).length z) (List.take z (List.drop 0 l))++List.drop (0+min (List.take z (List.drop 0 (List.map iV l))).length z) (List.replicate z 0)) w).length))
def wolStep(l:List Int)(w:Int)(z:Nat):Empty->Option (Empty⊕Ret)
 | x=>x.elim
theorem wolEn_ok(l:List Int)(w:Int)(z:Nat)(o:Empty⊕Ret)(h:Mo l w z=some o):Arr Try.prog Try.f54 1 (wolSt l w z) wolHd (zB Try.f54) [] {n:=Try.f54.ntmps,fr:=AA 0 ([.sl 0 0 z,.int .i64 w]),hp:=([some (bK (l.map (AV.int .i64)) 1)])} o:=
 Scr.ok h mix (
 .rn 0 [] [] [] [] (al (u2 t2)) <|
 .gu fun a0=>
 .gu fun a1=>
 .rn 0 [] [] [] [] (al (u2 (u2 (aj (k2 (aj (show 0<=iN z from(Int.natCast_nonneg _)) (aj (show iN z<=iN z by omega) (aj a0 a1)))) s2)))) <|
 .gu fun a2=>
 .rn 0 [] [] [] [] (al (u2 (u2 (al (k2 (aj (show 0+z<=(List.replicate z (iv 0)).length by simp) (aj (show nat_lit 1=nat_lit 1 from rfl) a2))))))) <|
 .gu fun a3=>
 .gu fun a4=>
 have c0:=dlf_k (List.take (min (List.take z (List.drop 0 (List.map (iv) l))).length z) (List.take z (List.drop 0 l))++List.drop (0+min (List.take z (List.drop 0 (List.map (iv) l))).length z) (List.replicate z 0)) w z a3 a4;
 .rt [] [] [(14,hK c0 [2,1] [])] [] [0,2] [] (aj (al (u2 (u2 (aj (k3 (u2 (k2 (al (show CT Try.prog 100 [some (bK ([]++List.take (min (List.take z (List.drop 0 (List.map (iv) l))).length z) (List.take z (List.drop 0 (List.map (iv) l)))++List.drop (0+min (List.take z (List.drop 0 (List.map (iv) l))).length z) (List.replicate z (iv 0))) 1),some (bK [iv w] 1)] [AV.sl 0 0 z,AV.fn 101 [AV.ptr 1 0 0]] [some (bK (List.map (iv) (wo (List.take (min (List.take z (List.drop 0 (List.map (iv) l))).length z) (List.take z (List.drop 0 l))++List.drop (0+min (List.take z (List.drop 0 (List.map (iv) l))).length z) (List.replicate z 0)) w)) 1),some (bK [iv w] 1)] (AV.sl 0 0 (wo (List.take (min (List.take z (List.drop 0 (List.map (iv) l))).length z) (List.take z (List.drop 0 l))++List.drop (0+min (List.take z (List.drop 0 (List.map (iv) l))).length z) (List.replicate z 0)) w).length) from CT.eqs (c0) (by first | (simp only[boL,Tz,Ud,List.map_take,List.map_drop,List.map_replicate,List.nil_append];done) | (simp only[boL,Tz,Ud,List.map_take,List.map_drop,List.map_replicate,List.nil_append];rfl) | (simp[gL,boL,lI];done) | (simp[gL,boL,lI];rfl) | (simp only[Ad,Tz,Ud,Tg,Th];rfl)) (by first | (simp only[boL,Tz,Ud,List.map_take,List.map_drop,List.map_replicate,List.nil_append];done) | (simp only[boL,Tz,Ud,List.map_take,List.map_drop,List.map_replicate,List.nil_append];rfl) | (simp[gL,boL,lI];done) | (simp[gL,boL,lI];rfl) | (simp only[Ad,Tz,Ud,Tg,Th];rfl))))))) s2)))) t4)) (by kernel_rfl)
theorem wol_ct(l:List Int)(w:Int)(z:Nat)(r:Ret)(h:Al (wolStep l w z) (Mo l w z) r):CT Try.prog 54 ([some (bK (l.map (AV.int .i64)) 1)]) ([.sl 0 0 z,.int .i64 w]) r.1 r.2:=
 CT.mach (fn:=Try.f54) (c:=zB Try.f54) (S:=wolSt l w z) (hd:=wolHd) Try.func54 (by kernel_rfl) (nL rfl)
  (fun s o ho=>match s,ho with
   | x,_=>x.elim)
  (fun o ho=>wolEn_ok l w z o ho) h
theorem wol_c(l:List Int)(w:Int)(z:Nat)(hz:z=l.length)(hl:l.length<=1000000):CT Try.prog 54 [some (Blk.mk (l.map (AV.int .i64)) 1 true true none)] [.sl 0 0 z,.int .i64 w] [some (Blk.mk (l.map (AV.int .i64)) 1 true true none),some (Blk.mk ((wo l w).map (AV.int .i64)) 1 true true none)] (.sl 1 0 (wo l w).length):=by
 subst hz
 refine wol_ct l w l.length ([_,_],_) (.val ?_)
 unfold Mo
 have e:List.take (min (List.take l.length (List.drop 0 (List.map (AV.int i64) l))).length l.length) (List.take l.length (List.drop 0 l))++List.drop (0+min (List.take l.length (List.drop 0 (List.map (AV.int i64) l))).length l.length) (List.replicate l.length 0)=l:=by
  have h:(List.take l.length (List.drop 0 (List.map (AV.int i64) l))).length=l.length:=by rw[List.drop_zero,TP,Tn,Nat.min_self]
  rw[h,Nat.min_self,List.drop_zero,List.take_length,List.take_length,TB,List.drop_of_length_le (by simp),List.append_nil]
 rw[e,Ab (by simp only[iN];omega),Ab (by simp only[iN];omega),Ab (by rw[Tn];omega),Ab rfl,Ab hl]
end Go.Proofs.Ytedjkebooffjpaa

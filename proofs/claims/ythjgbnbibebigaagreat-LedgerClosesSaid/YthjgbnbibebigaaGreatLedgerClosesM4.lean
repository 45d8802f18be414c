/- Parts of the proof:Nw1m,NwA,NwB,Nw2m,NwC,Ny1m,NyA,Ny2m,NyB,Ny3m,NyC,Ny4m,NyD,Nx1m,NxA,Ny5m,NyE,Ny6m,NyF,NyG,Ny7m,NyH,Ny8m,NyI,NyJ,NyK,NyL. -/
import Derived.Test.YthjgbnbibebigaaGreatProg
import Derived.KernelRfl
import Derived.Test.YthjgbnbibebigaaGreatLedgerClosesM3
noncomputable section
set_option linter.unusedVariables false
set_option linter.unusedSimpArgs false
open Go Go.AX Go.Proofs
set_option maxRecDepth 100000
set_option maxHeartbeats 4000000
set_option linter.unusedVariables false
set_option linter.unusedSimpArgs false
open Go.IntKind (i64 u64)
open List renaming map->TY,replicate->TZ,drop->T0,take->T1
open Int renaming toNat->T3
open Go.AX.AV renaming lst->T4
open Go.Proofs.Tryz renaming prog->T5
namespace Go.Proofs.YthjgbnbibebigaaGreat
inductive FO where | l0 (v0 v1:Int)
def rccSt(n:Aa):FO->St | .l0 v0 v1=>St.mk 24 [(1,AV.ptr 0 0 0),(3,iv v0),(4,iv v1)] [some (bK [Aj n] 8)]
def MY(n:Aa):Option (FO⊕Ret):=some (.inl (.l0 (iN (TY bA n.bs).length) ((0:Int))))
def Ht(n:Aa)(v0 v1:Int):Option (FO⊕Ret):=br (decide (v1<iN (TY sA n.ss).length)) (gu (0<=v1) <|el (n.ss) (v1.toNat) fun(x19:Av)=>some (.inl (.l0 (i64.wrap (v0+x19.k)) (i64.wrap (v1+1))))) (some (.inr ([],iV v0)))
def rccStep(n:Aa):FO->Option (FO⊕Ret) | .l0 v0 v1=>Ht n v0 v1
theorem rcc_ct(n:Aa)(r:Ret)(h:Ac (rccStep n) (MY n) r):CT T5 69 ([]) ([Aj n]) r.1 r.2:=
 CT.mach (fn:=Tryz.f69) (c:=zB Tryz.f69) (S:=(rccSt n)) (hd:=FO.ctorIdx) Tryz.func69 (by kernel_rfl) (nL rfl)
  (fun s o ho=>match s,ho with
 | .l0 v0 v1,ho=>Scr.ok (X:=Ht n v0 v1) ho mix (
 .rn 0 [] [] [] [] (al (u2 (u2 (u2 (u2 (al t3)))))) <|
 .br (fun a0=>
 .gu fun a1=>
 .el fun x19 a2=>
 .lp [25] [(19,sA x19)] [] [] [] [0] [1,3,4] (aj (aj a0 (aj (u2 (u2 (u2 (u2 (aj (k2 (aj a1 (Af (f:=sA) a2))) (u2 (u2 (aj t3 s2)))))))) (al (u2 (u2 s2))))) t5))
 (fun a0=>
 .rt [24] [] [] [] [] [] (aj (aj a0 (al (u2 s2))) t2))) (by kernel_rfl)
  )
  (fun o ho=>Scr.ok (X:=MY n) ho mix (
 .lp [] [] [] [] [] [0] [1,3,4] (aj (ag t2 (aj (u2 (u2 (u2 s2))) s2)) t5)) (by kernel_rfl)) h
inductive EZ where | l0 (v0 v1:Int)
def ccoSt(n:Aa):EZ->St | .l0 v0 v1=>St.mk 22 [(3,iv v0),(10,T4 (TY sA n.ss)),(11,iv (iN (TY sA n.ss).length)),(12,iv v1)] []
def NS(n:Aa):Option (EZ⊕Ret):=some (.inl (.l0 (iN (TY bA n.bs).length) ((0:Int))))
def GQ(n:Aa)(v0 v1:Int):Option (EZ⊕Ret):=br (decide (v1<iN (TY sA n.ss).length)) (gu (0<=v1) <|el (n.ss) (v1.toNat) fun(x14:Av)=>some (.inl (.l0 (i64.wrap (v0+x14.k)) (i64.wrap (v1+1))))) (some (.inr ([],iV v0)))
def ccoStep(n:Aa):EZ->Option (EZ⊕Ret) | .l0 v0 v1=>GQ n v0 v1
theorem cco_ct(n:Aa)(r:Ret)(h:Ac (ccoStep n) (NS n) r):CT T5 129 ([]) ([Aj n]) r.1 r.2:=
 CT.mach (fn:=Tryz.f129) (c:=zB Tryz.f129) (S:=(ccoSt n)) (hd:=EZ.ctorIdx) Tryz.func129 (by kernel_rfl) (nL rfl)
  (fun s o ho=>match s,ho with
 | .l0 v0 v1,ho=>Scr.ok (X:=GQ n v0 v1) ho mix (
 .rn 0 [] [] [] [] (al (al t3)) <|
 .br (fun a0=>
 .gu fun a1=>
 .el fun x14 a2=>
 .lp [27] [(14,sA x14)] [] [] [] [] [3,10,11,12] (aj (aj a0 (aj (aj (k2 (aj a1 (Af (f:=sA) a2))) (u2 (ak (al (k2 n11))))) (aj (u2 (u2 (u2 (aj t3 s2)))) (al (u2 s2))))) t5))
 (fun a0=>
 .rt [26] [] [] [] [] [] (aj (aj a0 (al (u2 s2))) t2))) (by kernel_rfl)
  )
  (fun o ho=>Scr.ok (X:=NS n) ho mix (
 .lp [] [] [] [] [] [] [3,10,11,12] (aj (ag t2 (aj (u2 (u2 (u2 s2))) (al (u2 (u2 (u2 t2)))))) t5)) (by kernel_rfl)) h
inductive DE where | l0 (v0:Int) | l1 (v0 v1:Int)
def rblSt(n:Aa):DE->St | .l0 v0=>St.mk 114 [(1,AV.ptr 0 0 0),(3,iv v0)] [some (bK [Aj n] 8)] | .l1 v0 v1=>St.mk 114 [(1,AV.ptr 0 0 0),(3,iv v0),(5,iv v1)] [some (bK [Aj n] 8)]
def Nn(n:Aa):Option (DE⊕Ret):=br (decide (iN (TY bA n.bs).length<1)) (none) (br (decide (24<iN (TY bA n.bs).length)) (none) (br (iN (gL n.nx).length != iN (TY bA n.bs).length) (none) (some (.inl (.l0 ((0:Int)))))))
def G0(n:Aa)(v0:Int):Option (DE⊕Ret):=br (decide (v0<iN (TY bA n.bs).length)) (gu (0<=v0) <|el (n.bs) (v0.toNat) fun(x36:Az)=>br (decide (x36.x < -9999)) (none) (br (decide (9999<x36.x)) (none) (br (decide (x36.y < -9999)) (none) (br (decide (9999<x36.y)) (none) (el (n.nx) (v0.toNat) fun(x60:List Int)=>br (decide (4<iN (TY iV x60).length)) (none) (some (.inl (.l1 v0 ((0:Int)))))))))) (some (.inr ([],bV true)))
def Gg(n:Aa)(v0 v1:Int):Option (DE⊕Ret):=gu (0<=v0) <|el (n.nx) (v0.toNat) fun(x69:List Int)=>br (decide (v1<iN (TY iV x69).length)) (el (n.nx) (v0.toNat) fun(x78:List Int)=>gu (0<=v1) <|el x78 (v1.toNat) fun(x81:Int)=>br (decide (x81<0)) (none) (br (decide (iN (TY bA n.bs).length<=x81)) (none) (br (x81==v0) (none) (br (decide (0<v1)) (el (n.nx) (v0.toNat) fun(x105:List Int)=>gu (0<=i64.wrap (v1-1)) <|el x105 ((i64.wrap (v1-1)).toNat) fun(x109:Int)=>br (decide (x81<=x109)) (none) (some (.inl (.l1 v0 (i64.wrap (v1+1)))))) (some (.inl (.l1 v0 (i64.wrap (v1+1))))))))) (some (.inl (.l0 (i64.wrap (v0+1)))))
def rblStep(n:Aa):DE->Option (DE⊕Ret) | .l0 v0=>G0 n v0 | .l1 v0 v1=>Gg n v0 v1
theorem rbl_ct(n:Aa)(r:Ret)(h:Ac (rblStep n) (Nn n) r):CT T5 142 ([]) ([Aj n]) r.1 r.2:=
 CT.mach (fn:=Tryz.f142) (c:=zB Tryz.f142) (S:=(rblSt n)) (hd:=DE.ctorIdx) Tryz.func142 (by kernel_rfl) (nL rfl)
  (fun s o ho=>match s,ho with
 | .l0 v0,ho=>Scr.ok (X:=G0 n v0) ho mix (
 .rn 0 [] [] [] [] (al (u2 (u2 (u2 (u2 (al t3)))))) <|
 .br (fun a0=>
 .gu fun a1=>
 .el fun x36 a2=>
 .rn 0 [61] [(36,bA x36)] [] [] (aj a0 (al (u2 (u2 (u2 (aj (k2 (aj a1 (Af (f:=bA) a2))) (u2 (ak (al (k2 n11)))))))))) <|
 .br (fun a3=>
  .no)
 (fun a3=>
  .br (fun a4=>
  .no)
  (fun a4=>
  .br (fun a5=>
   .no)
  (fun a5=>
   .br (fun a6=>
   .no)
   (fun a6=>
   .el fun x60 a7=>
   .rn 0 [82,92,102,112] [(60,lI x60)] [] [] (al (u2 (u2 (u2 (u2 (ag a3 (ag a3 (ag a3 (ag a3 (u2 (ag a4 (ag a4 (ag a4 (ag a4 (u2 (ag a5 (ag a5 (ag a5 (ag a5 (u2 (ag a6 (ag a6 (ag a6 (aj (aj a6 (k2 (aj a1 (Af (f:=lI) a7)))) (ag a6 (ag a6 (ag a6 (al (aj a6 t2))))))))))))))))))))))))))))) <|
   .br (fun a8=>
    .no)
   (fun a8=>
    .lp [82,92,102,112,128] [] [] [] [] [0] [1,3,5] (aj (aj a8 s2) t5)))))))
 (fun a0=>
 .rt [60] [] [] [] [] [] (aj (aj a0 s2) t2))) (by kernel_rfl)
 | .l1 v0 v1,ho=>Scr.ok (X:=Gg n v0 v1) ho mix (
 .gu fun a0=>
 .el fun x69 a1=>
 .rn 0 [] [(69,lI x69)] [] [] (al (u2 (u2 (u2 (u2 (aj (k2 (aj a0 (Af (f:=lI) a1))) (u2 (u2 (al t3))))))))) <|
 .br (fun a2=>
 .el fun x78 a3=>
 .gu fun a4=>
 .el fun x81 a5=>
 .rn 0 [145] [(78,lI x78),(81,iv x81)] [] [] (aj a2 (al (u2 (u2 (u2 (aj (k2 (aj a0 (Af (f:=lI) a3))) (u2 (u2 (aj (k2 (aj a4 (Af (f:=iv) a5))) (u2 s2)))))))))) <|
 .br (fun a6=>
  .no)
 (fun a6=>
  .br (fun a7=>
  .no)
  (fun a7=>
  .br (fun a8=>
   .no)
  (fun a8=>
   .br (fun a9=>
   .el fun x105 a10=>
   .gu fun a11=>
   .el fun x109 a12=>
   .rn 0 [170,184,194,201] [(105,lI x105),(109,iv x109)] [] [] (al (u2 (u2 (u2 (ag a6 (ag a6 (ag a6 (ag a6 (aj (aj a6 t3) (ag a6 (u2 (ag a7 (ag a7 (aj (aj a7 t3) (ag a7 (u2 (ag a8 (ag a8 (ag a8 (ag a9 (ag a9 (ag a9 (ag a9 (aj (aj a9 (k2 (aj a0 (Af (f:=lI) a10)))) (ag a9 (ag a9 (ag a9 (aj (aj a9 (k2 (aj a11 (Af (f:=iv) a12)))) (ag a9 (aj (aj a9 t3) (aj (aj a8 (aj a9 t2)) (al (aj a8 t2))))))))))))))))))))))))))))))))) <|
   .br (fun a13=>
    .no)
   (fun a13=>
    .lp [170,184,194,201,226] [] [] [] [] [0] [1,3,5] (aj (aj a13 (al (u2 (u2 s2)))) t5)))
   (fun a9=>
   .lp [170,184,194,200] [] [] [] [] [0] [1,3,5] (aj (aj (u2 (u2 (u2 (ag a6 (ag a6 (ag a6 (ag a6 (aj (aj a6 t3) (ag a6 (u2 (ag a7 (ag a7 (aj (aj a7 t3) (ag a7 (u2 (ag a8 (ag a8 (ag a8 (aj a9 (aj a9 (aj a9 (aj a9 (aj a9 (aj a9 (aj a9 (aj a9 (aj a9 (aj a9 (aj a9 (aj (aj a8 (aj a9 t2)) (al (aj a8 t2)))))))))))))))))))))))))))))))) (ak (al (u2 (u2 s2))))) t5))))))
 (fun a2=>
 .lp [144] [] [] [] [] [0] [1,3] (aj (aj a2 (al (u2 (u2 s2)))) t4))) (by kernel_rfl)
  )
  (fun o ho=>Scr.ok (X:=Nn n) ho mix (
 .rn 0 [] [] [] [] (al (u2 t2)) <|
 .br (fun a0=>
 .no)
 (fun a0=>
 .br (fun a1=>
  .no)
 (fun a1=>
  .rn 0 [22,34] [] [] [] (al (u2 (u2 (u2 (u2 (u2 (ag a0 (ag a0 (ag a0 (ag a0 (ag a0 (u2 (ag a1 (ag a1 (ag a1 (ag a1 (ag a1 (ag a1 (aj (aj a1 t3) (al (aj a1 t2))))))))))))))))))))) <|
  .br (fun a2=>
  .no)
  (fun a2=>
  .lp [22,34,50] [] [] [] [] [0] [1,3] (aj (aj a2 s2) t4))))) (by kernel_rfl)) h
inductive Cq where | l0 (v0:List ByteArray) (v1:Int) | l1 (v0:List ByteArray) (v1:Int) | l2 (v0:List ByteArray) (v1:Int) | l3 (v0:List ByteArray) (v1 v2:Int)
def Ig(n:Aa):Cq->St | .l0 v0 v1=>St.mk 66 [(1,AV.ptr 0 0 0),(3,AV.sl 1 0 v0.length),(4,iv v1)] [some (bK [Aj n] 8),some (bK (TY AV.str v0) 1)] | .l1 v0 v1=>St.mk 66 [(1,AV.ptr 0 0 0),(3,AV.sl 1 0 v0.length),(5,iv v1)] [some (bK [Aj n] 8),some (bK (TY AV.str v0) 1)] | .l2 v0 v1=>St.mk 66 [(3,AV.sl 0 0 v0.length),(6,iv v1)] [some (bK (TY AV.str v0) 1)] | .l3 v0 v1 v2=>St.mk 66 [(3,AV.sl 0 0 v0.length),(6,iv v1),(7,iv v2)] [some (bK (TY AV.str v0) 1)]
def rnmEn(n:Aa):Option (Cq⊕Ret):=some (.inl (.l0 ([]) ((0:Int))))
def GB(n:Aa)(v0:List ByteArray)(v1:Int):Option (Cq⊕Ret):=br (decide (v1<iN (TY bA n.bs).length)) (gu (0<=v1) <|el (n.bs) (v1.toNat) fun(x19:Az)=>gu ((TY AV.str v0).length+[AV.str x19.nm].length<=9223372036854775807) <|gu (((TY AV.str v0).length+[AV.str x19.nm].length) * 16<=140737488355328) <|some (.inl (.l0 (v0++[x19.nm]) (i64.wrap (v1+1))))) (some (.inl (.l1 v0 ((0:Int)))))
def GO(n:Aa)(v0:List ByteArray)(v1:Int):Option (Cq⊕Ret):=br (decide (v1<iN (TY sA n.ss).length)) (gu (0<=v1) <|el (n.ss) (v1.toNat) fun(x35:Av)=>gu ((TY AV.str v0).length+[AV.str x35.nm].length<=9223372036854775807) <|gu (((TY AV.str v0).length+[AV.str x35.nm].length) * 16<=140737488355328) <|some (.inl (.l1 (v0++[x35.nm]) (i64.wrap (v1+1))))) (some (.inl (.l2 v0 ((0:Int)))))
def G2(n:Aa)(v0:List ByteArray)(v1:Int):Option (Cq⊕Ret):=br (decide (v1<iN v0.length)) (gu (0<=v1) <|gu (v1<iN v0.length) <|el v0 (0+v1.toNat) fun(x49:ByteArray)=>br (nmB x49) (some (.inl (.l3 v0 v1 ((0:Int))))) (none)) (some (.inr ([],bV true)))
def Hq(n:Aa)(v0:List ByteArray)(v1 v2:Int):Option (Cq⊕Ret):=br (decide (v2<v1)) (gu (0<=v1) <|gu (v1<iN v0.length) <|el v0 (0+v1.toNat) fun(x60:ByteArray)=>gu (0<=v2) <|gu (v2<iN v0.length) <|el v0 (0+v2.toNat) fun(x64:ByteArray)=>br (x60.toList==x64.toList) (none) (some (.inl (.l3 v0 v1 (i64.wrap (v2+1)))))) (some (.inl (.l2 v0 (i64.wrap (v1+1)))))
def rnmStep(n:Aa):Cq->Option (Cq⊕Ret) | .l0 v0 v1=>GB n v0 v1 | .l1 v0 v1=>GO n v0 v1 | .l2 v0 v1=>G2 n v0 v1 | .l3 v0 v1 v2=>Hq n v0 v1 v2
theorem rnm_ct(n:Aa)(r:Ret)(h:Ac (rnmStep n) (rnmEn n) r):CT T5 143 ([]) ([Aj n]) r.1 r.2:=
 CT.mach (fn:=Tryz.f143) (c:=zB Tryz.f143) (S:=(Ig n)) (hd:=Cq.ctorIdx) Tryz.func143 (by kernel_rfl) (nL rfl)
  (fun s o ho=>match s,ho with
 | .l0 v0 v1,ho=>Scr.ok (X:=GB n v0 v1) ho mix (
 .rn 0 [] [] [] [] (al (u2 (u2 (u2 (u2 (al t3)))))) <|
 .br (fun a0=>
 .gu fun a1=>
 .el fun x19 a2=>
 .gu fun a3=>
 .gu fun a4=>
 .lq [25] [(19,bA x19)] [] [] [] [0,3] [1,3,4] (up [(3,AV.sl 1 0 ((TY AV.str v0).length+[AV.str x19.nm].length))] [(1,TY AV.str v0++[AV.str x19.nm])] (Ig n (.l0 (v0++[x19.nm]) (i64.wrap (v1+1))))) (aj (aj a0 (aj (u2 (u2 (u2 (u2 (aj (k2 (aj a1 (Af (f:=bA) a2))) (u2 (u2 (u2 (aj (k2 (aj (show(TY AV.str v0).length=v0.length by simp) (aj (aj (show nat_lit 1=nat_lit 1 from rfl) (show 1<=[AV.str x19.nm].length by simp)) (aj a3 a4)))) s2))))))))) (al (u2 (u2 s2))))) t6) (by simp[up,upF,upV,upH,upB,Ig,gL,boL,lI,sA,bA,vsA]))
 (fun a0=>
 .lp [24] [] [] [] [] [0,1] [1,3,5] (aj (aj a0 s2) t6))) (by kernel_rfl)
 | .l1 v0 v1,ho=>Scr.ok (X:=GO n v0 v1) ho mix (
 .rn 0 [] [] [] [] (al (u2 (u2 (u2 (u2 (al t3)))))) <|
 .br (fun a0=>
 .gu fun a1=>
 .el fun x35 a2=>
 .gu fun a3=>
 .gu fun a4=>
 .lq [57] [(35,sA x35)] [] [] [] [0,3] [1,3,5] (up [(3,AV.sl 1 0 ((TY AV.str v0).length+[AV.str x35.nm].length))] [(1,TY AV.str v0++[AV.str x35.nm])] (Ig n (.l1 (v0++[x35.nm]) (i64.wrap (v1+1))))) (aj (aj a0 (aj (u2 (u2 (u2 (u2 (aj (k2 (aj a1 (Af (f:=sA) a2))) (u2 (u2 (u2 (aj (k2 (aj (show(TY AV.str v0).length=v0.length by simp) (aj (aj (show nat_lit 1=nat_lit 1 from rfl) (show 1<=[AV.str x35.nm].length by simp)) (aj a3 a4)))) s2))))))))) (al (u2 (u2 s2))))) t6) (by simp[up,upF,upV,upH,upB,Ig,gL,boL,lI,sA,bA,vsA]))
 (fun a0=>
 .lp [56] [] [] [] [] [1] [3,6] (aj (aj a0 s2) t4))) (by kernel_rfl)
 | .l2 v0 v1,ho=>Scr.ok (X:=G2 n v0 v1) ho mix (
 .rn 0 [] [] [] [] (al (u2 (u2 (u2 (al t3))))) <|
 .br (fun a0=>
 .gu fun a1=>
 .gu fun a2=>
 .el fun x49 a3=>
 .br (fun a4=>
  have c0:=rnm_v x49 a4;
  .lp [87] [(49,AV.str x49)] [(50,hK c0 [] [])] [] [] [0] [3,6,7] (aj (aj a0 (aj (u2 (u2 (aj (k2 (aj a1 a2)) (aj (ak (Af (f:=AV.str) a3)) (aj (k2 (al (c0))) s2))))) (ak s2))) t5))
 (fun a4=>
  .no))
 (fun a0=>
 .rt [86] [] [] [] [] [] (aj (aj a0 s2) t2))) (by kernel_rfl)
 | .l3 v0 v1 v2,ho=>Scr.ok (X:=Hq n v0 v1 v2) ho mix (
 .rn 0 [] [] [] [] (al (u2 (u2 (al t3)))) <|
 .br (fun a0=>
 .gu fun a1=>
 .gu fun a2=>
 .el fun x60 a3=>
 .gu fun a4=>
 .gu fun a5=>
 .el fun x64 a6=>
 .rn 0 [109] [(60,AV.str x60),(64,AV.str x64)] [] [] (aj a0 (al (u2 (u2 (aj (k2 (aj a1 a2)) (aj (ak (Af (f:=AV.str) a3)) (u2 (u2 (aj (k2 (aj a4 a5)) (aj (ak (Af (f:=AV.str) a6)) (al t3))))))))))) <|
 .br (fun a7=>
  .no)
 (fun a7=>
  .lp [130] [] [] [] [] [0] [3,6,7] (aj (aj a7 (al (u2 (u2 s2)))) t5)))
 (fun a0=>
 .lp [108] [] [] [] [] [0] [3,6] (aj (aj a0 (al (u2 (u2 s2)))) t4))) (by kernel_rfl)
  )
  (fun o ho=>Scr.ok (X:=rnmEn n) ho mix (
 .lp [] [] [] [] [(3,1)] [0,1] [1,3,4] (aj (ag t2 (u2 s2)) t6)) (by kernel_rfl)) h
inductive Gp where | l0 (v0:Int)
def hsZSt(l:List Int)(q:Int):Gp->St | .l0 v0=>St.mk 18 [(0,T4 (TY iv l)),(1,iv q),(5,iv v0)] []
def Mx(l:List Int)(q:Int):Option (Gp⊕Ret):=some (.inl (.l0 ((0:Int))))
def Hd(l:List Int)(q v0:Int):Option (Gp⊕Ret):=br (decide (v0<iN (TY iV l).length)) (gu (0<=v0) <|el l (v0.toNat) fun(x14:Int)=>br (x14==q) (some (.inr ([],bV true))) (some (.inl (.l0 (i64.wrap (v0+1)))))) (some (.inr ([],bV false)))
def PU(l:List Int)(q:Int):Gp->Option (Gp⊕Ret) | .l0 v0=>Hd l q v0
theorem hsZ_ct(l:List Int)(q:Int)(r:Ret)(h:Ac (PU l q) (Mx l q) r):CT T5 16 ([]) ([lI l,.int .i64 q]) r.1 r.2:=
 CT.mach (fn:=Tryz.f16) (c:=zB Tryz.f16) (S:=(hsZSt l q)) (hd:=Gp.ctorIdx) Tryz.func16 (by kernel_rfl) (nL rfl)
  (fun s o ho=>match s,ho with
 | .l0 v0,ho=>Scr.ok (X:=Hd l q v0) ho mix (
 .rn 0 [] [] [] [] (al (u2 (u2 (u2 (al t3))))) <|
 .br (fun a0=>
 .gu fun a1=>
 .el fun x14 a2=>
 .rn 0 [19] [(14,iv x14)] [] [] (aj a0 (al (u2 (u2 (aj (k2 (aj a1 (Af (f:=iv) a2))) (u2 (u2 (al t3)))))))) <|
 .br (fun a3=>
  .rt [35] [] [] [] [] [] (aj (aj a3 s2) t2))
 (fun a3=>
  .lp [34] [] [] [] [] [] [0,1,5] (aj (aj a3 (al (u2 (u2 s2)))) t4)))
 (fun a0=>
 .rt [18] [] [] [] [] [] (aj (aj a0 s2) t2))) (by kernel_rfl)
  )
  (fun o ho=>Scr.ok (X:=Mx l q) ho mix (
 .lp [] [] [] [] [] [] [0,1,5] (aj (u2 s2) t4)) (by kernel_rfl)) h
end Go.Proofs.YthjgbnbibebigaaGreat
namespace Go.Proofs.YthjgbnbibebigaaGreat
def Am(n:Aa):Nat:=(AO n n.ss.length).toNat
theorem Ao.cel{n:Aa}(hv:Ao n):AO n n.ss.length=(Am n:Int)/\n.bs.length<=Am n/\Am n<=48:=by have h1:=hv.bd n.ss.length;have h2:=hv.ns;have h3:=hv.nb24;unfold Am;omega
theorem JG{n:Aa}(hv:Ao n){i:Nat}:∀{j:Nat},i<=j->j<=n.ss.length->AO n i<=AO n j:=by
 intro j;induction j with
 | zero=>intro h _;have:i=0:=by omega
         subst this;omega
 | succ j ih=>
  intro h hj;by_cases e:i=j+1
  .subst e;omega
  .have h1:=ih (by omega) (by omega);obtain⟨s,hs⟩:∃s,n.ss[j]?=some s:=⟨_,S2 (by omega)⟩;rw[CF hs];have:=Bi.1 (hv.spu j s hs).hk;omega
theorem QF{σ:Type}{step:σ->Option (σ⊕Ret)}{n:Aa}(hv:Ao n){L:Int->Int->σ}
  (hs:∀(i:Nat) s,n.ss[i]?=some s->step (L (AO n i) i)=some (.inl (L (i64.wrap (AO n i+s.k)) (i64.wrap ((i:Int)+1)))))
  (he:step (L (Am n) (n.ss.length:Nat))=some (.inr ([],.int .i64 (Am n)))):Ac step (some (.inl (L n.bs.length 0))) (([],.int .i64 (Am n)):Ret):=by
 have hns:=hv.ns;have hn:=hv.nb24;rw[show (n.bs.length:Int)=AO n 0 by simp[AO]];refine Bq (fun i=>L (AO n i) (i:Int)) n.ss.length (fun i hi h=>.to (hs i _ (S2 hi)) ?_) (.to (by rw[hv.cel.1];exact he) (.ret _));have hb:=hv.bd (i+1);rw[CF (S2 hi)] at hb h;rw[AZ _ (by omega) (by omega),zW i (by omega)];exact h
theorem FB{n:Aa}(hv:Ao n):CT T5 69 [] [Aj n] [] (.int .i64 (iN (Am n))):=by
 refine rcc_ct n ([],_) ?_;unfold MY;rw[show iN (TY bA n.bs).length=(n.bs.length:Int) by simp[iN]];refine QF hv (L:=fun v i=>FO.l0 v i) (fun i s hs=>?_) ?_
 .show Ht n (AO n i) i=_;unfold Ht;rw[AU hs]
 .show Ht n (Am n) n.ss.length=_;unfold Ht;rw[AQ]
theorem M9{n:Aa}(hv:Ao n):CT T5 129 [] [Aj n] [] (.int .i64 (iN (Am n))):=by
 refine cco_ct n ([],_) ?_;unfold NS;rw[show iN (TY bA n.bs).length=(n.bs.length:Int) by simp[iN]];refine QF hv (L:=fun v i=>EZ.l0 v i) (fun i s hs=>?_) ?_
 .show GQ n (AO n i) i=_;unfold GQ;rw[AU hs]
 .show GQ n (Am n) n.ss.length=_;unfold GQ;rw[AQ]
theorem Dd(l:List Int)(x:Int)(hl:l.length<=9223372036854775807):CT T5 16 [] [lI l,.int .i64 x] [] (.bool (AN l x)):=by
 refine hsZ_ct l x ([],_) ?_;unfold Mx AN;have key:∀(d i:Nat),i+d=l.length->Ac (PU l x) (some (.inl (.l0 (i:Nat)))) (([],.bool (fnd (fun i=>l.getD i 0==x) i d).isSome):Ret):=by
  intro d;induction d with
  | zero=>
   intro i hi;obtain rfl:i=l.length:=by omega
   refine .to (show Hd l x l.length=_ from rfl) ?_;unfold Hd;rw[AQ];exact .ret _
  | succ d ih=>
   intro i hi;have hg:=AA 0 (show i<l.length by omega);refine .to (show Hd l x i=_ from rfl) ?_;unfold Hd fnd;rw[AU hg];cases l.getD i 0==x with
   | true=>exact .ret _
   | false=>rw[Ad rfl,zW i (by omega)];exact ih (i+1) (by omega)
 exact key l.length 0 (by omega)
theorem rbl_v{n:Aa}(hrw:Rows n.nx)(hv:Ao n):CT T5 142 [] [Aj n] [] (.bool true):=by
 have hn:=hv.nb24;have hnx:=hv.nx;have hgl:=Cm n.nx;have hbl:iN (TY bA n.bs).length=(n.bs.length:Int):=by simp[iN]
 refine rbl_ct n ([],_) ?_;unfold Nn;rw[Ad (S7 (by omega)),Ad (S7 (by omega)),Ad (by simp[iN,hgl,hnx])];refine Bq (fun i=>DE.l0 (i:Int)) n.bs.length (fun i hi h=>.to (show G0 n i=some (.inl (.l1 i 0)) from ?_) ?_) (.to (show G0 n n.bs.length=_ from ?_) (.ret _))
 .have hx:n.bs[i]?=some n.bs[i]:=S2 hi;have g:=hv.blk i _ hx;have gx:=Bi.1 g.x;have gy:=Bi.1 g.y;have hr:=AA [] (show i<n.nx.length by omega);unfold G0;rw[AU hx,Ad (S7 (by omega)),Ad (S7 (by omega)),Ad (S7 (by omega)),Ad (S7 (by omega)),Tb,An hr,Ad (S7 (by have:=(DC g.nx).1;simp only[iN,S5];omega))]
 .have hx:n.bs[i]?=some n.bs[i]:=S2 hi;have hr:=AA [] (show i<n.nx.length by omega);obtain⟨h4,hk⟩:=DC (hv.blk i _ hx).nx;generalize n.nx.getD i []=r at *;refine Bq (fun k=>DE.l1 (i:Int) (k:Int)) r.length (fun k hkl hh=>.to (show Gg n i k=_ from ?_) hh) (.to (show Gg n i r.length=_ from ?_) h)
  .obtain⟨a1,a2,a3⟩:=hk k hkl;have hg:=AA 0 hkl;have hp:∀j:Nat,j<=k->-1<=BL r j:=fun j hj=>by
    unfold BL;split
    .omega
    .have:∀j:Nat,j<r.length->0<=r.getD j 0:=fun j=>by
      induction j with
      | zero=>intro h0;have:=(hk 0 h0).1;unfold BL at this;rw[S0 rfl] at this;omega
      | succ j ihj=>intro h0;have:=(hk (j+1) h0).1;unfold BL at this;rw[S1 (by omega),show j+1-1=j by omega] at this;have:=ihj (by omega);omega
     have:=this (j-1) (by omega);omega
   have hp0:=hp k (Td _);unfold Gg;rw[Ab (by omega),Tb,An hr,Ag (S8 (by simp only[iN,S5];omega)),An hr,Ab (by omega),Tb,An hg,Ad (S7 (by omega)),Ad (S7 (by omega)),Ad (by simpa using a3),zW k (by omega)];by_cases h0:k=0
   .rw[Ad (S7 (by omega))]
   .rw[Ag (S8 (by omega)),An hr,Og k (by omega) (by omega),Ab (by omega),Tb,An (AA 0 (show k-1<r.length by omega))];unfold BL at a1;rw[S1 h0] at a1;rw[Ad (S7 (by omega))]
  .unfold Gg;rw[Ab (by omega),Tb,An hr,Ad (S7 (by simp only[iN,S5];omega)),zW i (by omega)]
 .unfold G0;rw[AQ]
theorem rnm_ok{n:Aa}(hv:Ao n):CT T5 143 [] [Aj n] [] (.bool true):=by
 have hn:=hv.nb24;have hns:=hv.ns;have hnl:(Bc n).length=n.bs.length+n.ss.length:=by simp[Bc]
 have nm:∀i,i<(Bc n).length->∃x,(Bc n)[i]?=some x/\nmB x=true:=fun i hi=>by
  refine⟨_,S2 hi,?_⟩;have hm:=Ty hi;generalize (Bc n)[i]=x at hm;unfold Bc at hm;rcases Tw.1 hm with h | h
  .obtain⟨b,hb,rfl⟩:=Tx.1 h;obtain⟨j,hj⟩:=List.getElem?_of_mem hb;exact(hv.blk j b hj).nm
  .obtain⟨b,hb,rfl⟩:=Tx.1 h;obtain⟨j,hj⟩:=List.getElem?_of_mem hb;exact(hv.spu j b hj).nm
 refine rnm_ct n ([],_) ?_;refine Bq (fun i=>Cq.l0 ((n.bs.take i).map (·.nm)) (i:Int)) n.bs.length (fun i hi h=>.to (show GB n _ i=_ from ?_) h) (.to (show GB n _ n.bs.length=some (.inl (.l1 (n.bs.map (·.nm)) 0)) from ?_) ?_)
 .have hx:n.bs[i]?=some n.bs[i]:=S2 hi;unfold GB;rw[AU hx,Ab (by simp only[S5,Tu,TF];omega),Ab (by simp only[S5,Tu,TF];omega),zW i (by omega),List.take_add_one,hx];simp only[Tf,Option.toList_some,SY,SZ,List.append_assoc]
 .unfold GB;rw[AQ,List.take_length]
 refine Bq (fun i=>Cq.l1 (n.bs.map (·.nm)++(n.ss.take i).map (·.nm)) (i:Int)) n.ss.length (fun i hi h=>.to (show GO n _ i=_ from ?_) h) (.to (show GO n _ n.ss.length=some (.inl (.l2 (Bc n) 0)) from ?_) ?_) |> fun h=>by simpa using h
 .have hx:n.ss[i]?=some n.ss[i]:=S2 hi;unfold GO;rw[AU hx,Ab (by simp only[S5,Tl,Tu,TF];omega),Ab (by simp only[S5,Tl,Tu,TF];omega),zW i (by omega),List.take_add_one,hx];simp only[Tf,Option.toList_some,SY,SZ,List.append_assoc]
 .unfold GO;rw[AQ,List.take_length];rfl
 refine Bq (fun i=>Cq.l2 (Bc n) (i:Int)) (Bc n).length (fun i hi h=>?_) (.to (show G2 n (Bc n) (Bc n).length=_ from ?_) (.ret _))
 .obtain⟨x,hx,hb⟩:=nm i hi;refine .to (show G2 n (Bc n) i=some (.inl (.l3 (Bc n) i 0)) from ?_) ?_
  .unfold G2;rw[Ag (S8 (by simp only[iN];omega)),Ab (by omega),Ab (by simp only[iN];omega),Th,Tb,An hx,Ag hb]
  refine Bq (fun k=>Cq.l3 (Bc n) (i:Int) (k:Int)) i (fun k hk hh=>.to (show Hq n (Bc n) i k=_ from ?_) hh) (.to (show Hq n (Bc n) i i=_ from ?_) h)
  .obtain⟨y,hy,_⟩:=nm k (by omega);have hne:(x.toList==y.toList)=false:=by rw[TC];intro e;have e:=nm_eq e;have a1:=S4.1 hx;have a2:=S4.1 hy;exact List.pairwise_iff_getElem.1 hv.nod k i a2.1 a1.1 hk (a2.2.trans (e.symm.trans a1.2.symm))
   unfold Hq;rw[Ag (S8 (by omega)),Ab (by omega),Ab (by simp only[iN];omega),Th,Tb,An hx,Ab (by omega),Ab (by simp only[iN];omega),Th,Tb,An hy,hne,Ad rfl,zW k (by omega)]
  .unfold Hq;rw[Ad (S7 (by omega)),zW i (by omega)]
 .unfold G2;rw[Ad (S7 (by simp only[iN];omega))]
inductive CX where | l0 (v0 v1 v2:Int) | l1 (v0 v1:Int) | l2 (v0 v1:Int) (v2:Bool) (v3:Int)
def rvnSt(n:Aa):CX->St | .l0 v0 v1 v2=>St.mk 163 [(1,AV.ptr 0 0 0),(3,iv v0),(4,iv v1),(5,iv v2)] [some (bK [Aj n] 8)] | .l1 v0 v1=>St.mk 163 [(1,AV.ptr 0 0 0),(4,iv v0),(7,iv v1)] [some (bK [Aj n] 8)] | .l2 v0 v1 v2 v3=>St.mk 163 [(1,AV.ptr 0 0 0),(4,iv v0),(7,iv v1),(8,bV v2),(9,iv v3)] [some (bK [Aj n] 8)]
def Md(n:Aa):Option (CX⊕Ret):=gu (Rows n.nx) <|gu (Ao n) <|br (decide (6<iN (TY sA n.ss).length)) (none) (br (decide (8<iN (TY iV n.rs).length)) (none) (br (CC (Aa.mk [] [] [] [] n.q n.a n.d n.p)) (some (.inl (.l0 (iN (TY bA n.bs).length) ((0:Int)) ((0:Int))))) (none)))
def F2(n:Aa)(v0 v1 v2:Int):Option (CX⊕Ret):=br (decide (v2<iN (TY sA n.ss).length)) (gu (0<=v2) <|el (n.ss) (v2.toNat) fun(x50:Av)=>br (decide (x50.i<0)) (none) (br (decide (iN (TY bA n.bs).length<=x50.i)) (none) (br (decide (x50.o<0)) (none) (br (decide (iN (TY bA n.bs).length<=x50.o)) (none) (br (decide (x50.k<1)) (none) (br (decide (4<x50.k)) (none) (br (x50.b != v0) (none) (br (x50.dep) (some (.inl (.l0 (i64.wrap (v0+x50.k)) (i64.wrap (v1+1)) (i64.wrap (v2+1))))) (some (.inl (.l0 (i64.wrap (v0+x50.k)) v1 (i64.wrap (v2+1))))))))))))) (some (.inl (.l1 v1 ((0:Int)))))
def GY(n:Aa)(v0 v1:Int):Option (CX⊕Ret):=br (decide (v1<iN (TY iV n.rs).length)) (some (.inl (.l2 v0 v1 (false) ((0:Int))))) (some (.inr ([],bV (decide (0<v0)))))
def H6(n:Aa)(v0 v1:Int)(v2:Bool)(v3:Int):Option (CX⊕Ret):=br (decide (v3<iN (TY sA n.ss).length)) (gu (0<=v3) <|el (n.ss) (v3.toNat) fun(x117:Av)=>br v2 (some (.inl (.l2 v0 v1 (true) (i64.wrap (v3+1))))) (br (x117.dep) (gu (0<=v1) <|el (n.rs) (v1.toNat) fun(x127:Int)=>br (decide (x117.b<=x127)) (el (n.rs) (v1.toNat) fun(x137:Int)=>some (.inl (.l2 v0 v1 (decide (x137<i64.wrap (x117.b+x117.k))) (i64.wrap (v3+1))))) (some (.inl (.l2 v0 v1 (false) (i64.wrap (v3+1)))))) (some (.inl (.l2 v0 v1 (false) (i64.wrap (v3+1))))))) (br (!v2) (none) (gu (∀(e:AV),e∈TY iV n.rs->e.cells.length=1) <|gu (0<=v1) <|gu (v1<=iN (TY iV n.rs).length) <|el (n.rs) (v1.toNat) fun(x157:Int)=>gu ((T1 (v1.toNat-T3 0) (T0 (T3 0) n.rs)).length<=9223372036854775807) <|br (AN (T1 (v1.toNat-T3 0) (T0 (T3 0) n.rs)) x157) (none) (some (.inl (.l1 v0 (i64.wrap (v1+1)))))))
def rvnStep(n:Aa):CX->Option (CX⊕Ret) | .l0 v0 v1 v2=>F2 n v0 v1 v2 | .l1 v0 v1=>GY n v0 v1 | .l2 v0 v1 v2 v3=>H6 n v0 v1 v2 v3
theorem rvn_ct(n:Aa)(r:Ret)(h:Ac (rvnStep n) (Md n) r):CT T5 103 ([]) ([Aj n]) r.1 r.2:=
 CT.mach (fn:=Tryz.f103) (c:=zB Tryz.f103) (S:=(rvnSt n)) (hd:=CX.ctorIdx) Tryz.func103 (by kernel_rfl) (nL rfl)
  (fun s o ho=>match s,ho with
 | .l0 v0 v1 v2,ho=>Scr.ok (X:=F2 n v0 v1 v2) ho mix (
 .rn 0 [] [] [] [] (al (u2 (u2 (u2 (u2 (al t3)))))) <|
 .br (fun a0=>
 .gu fun a1=>
 .el fun x50 a2=>
 .rn 0 [89] [(50,sA x50)] [] [] (aj a0 (al (u2 (u2 (u2 (aj (k2 (aj a1 (Af (f:=sA) a2))) (u2 (ak (al (k2 n11)))))))))) <|
 .br (fun a3=>
  .no)
 (fun a3=>
  .br (fun a4=>
  .no)
  (fun a4=>
  .br (fun a5=>
   .no)
  (fun a5=>
   .br (fun a6=>
   .no)
   (fun a6=>
   .br (fun a7=>
    .no)
   (fun a7=>
    .br (fun a8=>
    .no)
    (fun a8=>
    .rn 0 [110,126,136,152,162,172] [] [] [] (al (u2 (u2 (u2 (u2 (ag a3 (ag a3 (ag a3 (ag a3 (ag a3 (aj (aj a3 t3) (ag a3 (u2 (ag a4 (ag a4 (ag a4 (ag a4 (u2 (ag a5 (ag a5 (ag a5 (ag a5 (ag a5 (aj (aj a5 t3) (ag a5 (u2 (ag a6 (ag a6 (ag a6 (ag a6 (u2 (ag a7 (ag a7 (ag a7 (ag a7 (u2 (ag a8 (ag a8 (ag a8 (aj (aj a8 t3) (al (aj a8 t2)))))))))))))))))))))))))))))))))))))))))) <|
    .br (fun a9=>
     .no)
    (fun a9=>
     .rn 1 [110,126,136,152,162,172,182] [] [] [] (aj a9 (aj (u2 (u2 (u2 (aj t3 s2)))) (al (u2 s2)))) <|
     .br (fun a10=>
     .lp [110,126,136,152,162,172,195] [] [] [] [] [0] [1,3,4,5] (aj (aj a10 (aj (u2 (u2 s2)) (al (u2 (u2 s2))))) t6))
     (fun a10=>
     .lp [110,126,136,152,162,172,194] [] [] [] [] [0] [1,3,4,5] (aj (aj a10 (al (u2 (u2 s2)))) t6))))))))))
 (fun a0=>
 .lp [88] [] [] [] [] [0] [1,4,7] (aj (aj a0 s2) t5))) (by kernel_rfl)
 | .l1 v0 v1,ho=>Scr.ok (X:=GY n v0 v1) ho mix (
 .rn 0 [] [] [] [] (al (u2 (u2 (u2 (u2 (al t3)))))) <|
 .br (fun a0=>
 .lp [209] [] [] [] [] [0] [1,4,7,8,9] (aj (aj a0 (u2 s2)) t7))
 (fun a0=>
 .rt [208] [] [] [] [] [] (aj (aj a0 (al (u2 (u2 s2)))) t2))) (by kernel_rfl)
 | .l2 v0 v1 v2 v3,ho=>Scr.ok (X:=H6 n v0 v1 v2 v3) ho mix (
 .rn 0 [] [] [] [] (al (u2 (u2 (u2 (u2 (al t3)))))) <|
 .br (fun a0=>
 .gu fun a1=>
 .el fun x117 a2=>
 .rn 0 [223] [(117,sA x117)] [] [] (aj a0 (al (u2 (u2 (u2 (aj (k2 (aj a1 (Af (f:=sA) a2))) (u2 (ak (al (k2 n11)))))))))) <|
 .br (fun a3=>
  .lp [241] [] [] [] [] [0] [1,4,7,8,9] (aj (aj (u2 (u2 (aj a3 (aj a3 (aj a3 (k3 (k5 (aj a3 (aj a3 (ak (k5 (k5 (aj a3 (ag a3 s2)))))))))))))) (al (u2 (u2 s2)))) t7))
 (fun a3=>
  .br (fun a4=>
  .gu fun a5=>
  .el fun x127 a6=>
  .br (fun a7=>
   .el fun x137 a8=>
   .lp [240,247,267] [(127,iv x127),(137,iv x137)] [] [] [] [0] [1,4,7,8,9] (aj (aj (u2 (u2 (ag a3 (ag a3 (ag a3 (ag a4 (ag a4 (ag a4 (aj (aj a4 (k2 (aj a5 (Af (f:=iv) a6)))) (ag a4 (ag a4 (ag a4 (aj (aj a4 t3) (aj (aj a3 (aj a4 t2)) (ag a3 (ag a7 (ag a7 (ag a7 (aj (aj a7 (k2 (aj a5 (Af (f:=iv) a8)))) (ag a7 (ag a7 (ag a7 (ag a7 (ag a7 (aj (aj a7 t3) (aj (aj a7 t3) (aj (aj a3 (aj a7 t2)) (ag a3 s2)))))))))))))))))))))))))))) (al (u2 (u2 s2)))) t7))
  (fun a7=>
   .lp [240,247,266] [(127,iv x127)] [] [] [] [0] [1,4,7,8,9] (aj (aj (u2 (u2 (ag a3 (ag a3 (ag a3 (ag a4 (ag a4 (ag a4 (aj (aj a4 (k2 (aj a5 (Af (f:=iv) a6)))) (ag a4 (ag a4 (ag a4 (aj (aj a4 t3) (aj (aj a3 (aj a4 t2)) (ag a3 (aj a7 (aj a7 (aj a7 (aj a7 (aj a7 (aj a7 (aj a7 (aj a7 (aj a7 (aj a7 (aj a7 (aj (aj a3 (aj a7 t2)) (ag a3 s2)))))))))))))))))))))))))))) (al (u2 (u2 s2)))) t7)))
  (fun a4=>
  .lp [240,246] [] [] [] [] [0] [1,4,7,8,9] (aj (aj (u2 (u2 (ag a3 (ag a3 (ag a3 (aj a4 (aj a4 (aj a4 (aj a4 (aj a4 (aj a4 (aj a4 (aj a4 (aj (aj a3 (aj a4 t2)) (ag a3 (ak (k5 (k5 (aj (aj a3 t3) (ag a3 s2)))))))))))))))))))) (al (u2 (u2 s2)))) t7))))
 (fun a0=>
 .br (fun a1=>
  .no)
 (fun a1=>
  .gu fun a2=>
  .gu fun a3=>
  .gu fun a4=>
  .el fun x157 a5=>
  .gu fun a6=>
  have c0:=Dd (T1 (v1.toNat-T3 0) (T0 (T3 0) n.rs)) x157 a6;
  .rn 0 [222,298] [(157,iv x157)] [(159,hK c0 [] [])] [] (aj a0 (al (u2 (u2 (u2 (ag a1 (ag a1 (ag a1 (aj (aj a1 (k2 (aj a2 (aj (Int.le_refl 0) (aj a3 (aj a4 (show iN (TY iv n.rs).length<=iN (TY iv n.rs).length by omega))))))) (ag a1 (ag a1 (ag a1 (aj (aj a1 (k2 (aj a3 (Af (f:=iv) a5)))) (ag a1 (aj (aj a1 (ak (k3 (al (show CT T5 16 [] [T4 (T1 (v1.toNat-T3 0) (T0 (T3 0) (TY iv n.rs))),iv x157] [] (bV (AN (T1 (v1.toNat-T3 0) (T0 (T3 0) n.rs)) x157)) from CT.eqs (c0) (by first | (simp only[boL,Tf,TU,List.map_take,List.map_drop,List.map_replicate,List.nil_append]<;>rfl) | (simp[gL,boL,lI,sA,bA]<;>rfl)) (by first | (simp only[boL,Tf,TU,List.map_take,List.map_drop,List.map_replicate,List.nil_append]<;>rfl) | (simp[gL,boL,lI,sA,bA]<;>rfl))))))) (al (aj a1 t2))))))))))))))))) <|
  .br (fun a7=>
  .no)
  (fun a7=>
  .lp [298,320] [] [] [] [] [0] [1,4,7] (aj (aj a7 (al (u2 (u2 s2)))) t5))))) (by kernel_rfl)
  )
  (fun o ho=>Scr.ok (X:=Md n) ho mix (
 .rn 0 [] [] [] [] (al (u2 t2)) <|
 .gu fun a0=>
 .gu fun a1=>
 .br (fun a2=>
 .no)
 (fun a2=>
 .br (fun a3=>
  .no)
 (fun a3=>
  .br (fun a4=>
  have c0:=rbl_v a0 a1;
  have c1:=rnm_ok a1;
  have c2:=cfg_w (n.q) (n.a) (n.d) (n.p) a4;
  .lp [40,62] [] [(12,hK c0 [] []),(22,hK c1 [] []),(34,hK c2 [] [])] [] [] [0] [1,3,4,5] (aj (aj (u2 (aj (ak (aj t9 (al (c0)))) (u2 (u2 (aj t3 (aj t3 (aj t3 (aj t3 (aj t3 (u2 (ag a2 (aj (aj a2 (ak (aj t9 (al (c1))))) (ag a2 (ag a2 (u2 (aj t3 (aj t3 (aj t3 (aj t3 (aj t3 (u2 (ag a3 (ag a3 (aj (aj a3 (ak (aj t5 (al (c2))))) (ag a3 (al (aj a3 t2))))))))))))))))))))))))))) (ak (aj (u2 (u2 (u2 (u2 t2)))) s2))) t6))
  (fun a4=>
  .no)))) (by kernel_rfl)) h
def dpN(n:Aa)(i:Nat):Int:=((n.ss.take i).filter (·.dep)).length
def okS(c:Int)(s:Av):Bool:=s.dep&&(decide (s.b<=c)&&decide (c<s.b+s.k))
theorem P6{n:Aa}(hrw:Rows n.nx)(hv:Ao n):CT T5 103 [] [Aj n] [] (.bool true):=by
 have hn:=hv.nb24;have hns:=hv.ns;have hnr:=hv.nr;have hbl:iN (TY bA n.bs).length=(n.bs.length:Int):=by simp[iN]
 have hdb:∀i,0<=dpN n i/\dpN n i<=6:=fun i=>by unfold dpN;have:=List.length_filter_le (fun s:Av=>s.dep) (n.ss.take i);rw[Tu] at this;omega
 have hds:∀{i:Nat} {s:Av},n.ss[i]?=some s->dpN n (i+1)=dpN n i+if s.dep=true then 1 else 0:=fun {i s} hs=>by unfold dpN;rw[List.take_add_one,hs,Option.toList_some,List.filter_append,Tl];cases hd:s.dep<;>simp[List.filter,hd]
 refine rvn_ct n ([],_) ?_;unfold Md;rw[Ab hrw,Ab hv,Ad (S7 (by simp only[iN,S5];omega)),Ad (S7 (by simp only[iN,S5];omega)),Ag (by have:=hv.cfg;unfold CC at this ⊢;exact this),hbl,show(n.bs.length:Int)=AO n 0 by simp[AO]];refine Bq (fun i=>CX.l0 (AO n i) (dpN n i) (i:Int)) n.ss.length (fun i hi h=>.to (show F2 n _ _ i=_ from ?_) h) (.to (show F2 n _ _ n.ss.length=some (.inl (.l1 (dpN n n.ss.length) 0)) from ?_) ?_)
 .have hx:n.ss[i]?=some n.ss[i]:=S2 hi;have g:=hv.spu i _ hx;have g1:=Bi.1 g.hi;have g2:=Bi.1 g.ho;have g3:=Bi.1 g.hk;have hb:=hv.bd (i+1);have hd:=hdb i;have hd1:=hds hx;rw[CF hx] at hb ⊢
  unfold F2;rw[AU hx,hbl,Ad (S7 (by omega)),Ad (S7 (by omega)),Ad (S7 (by omega)),Ad (S7 (by omega)),Ad (S7 (by omega)),Ad (S7 (by omega)),Ad (by simpa using g.hb),AZ _ (by omega) (by omega),zW i (by omega),AZ _ (by omega) (by omega),hd1];cases n.ss[i].dep<;>simp[br]
 .unfold F2;rw[AQ]
 have hp:decide (0<dpN n n.ss.length)=true:=by obtain⟨x,s,hs,hd,_⟩:=hv.dep;unfold dpN;have:=List.length_pos_of_mem (List.mem_filter.2 ⟨hs,hd⟩);exact S8 (Int.natCast_pos.2 this)
 refine Bq (fun i=>CX.l1 (dpN n n.ss.length) (i:Int)) n.rs.length (fun i hi h=>.to (show GY n _ i=some (.inl (.l2 (dpN n n.ss.length) i false 0)) from ?_) ?_) (.to (show GY n _ n.rs.length=_ from ?_) (.ret _))
 .unfold GY;rw[Ag (S8 (by simp only[iN,S5];omega))]
 .have hx:n.rs[i]?=some n.rs[i]:=S2 hi;obtain⟨⟨t,ht,hd1,hd2,hd3⟩,hr2⟩:=hv.rob i _ hx;generalize n.rs[i]=c at *;refine Bq (fun k=>CX.l2 (dpN n n.ss.length) (i:Int) ((n.ss.take k).any (okS c)) (k:Int)) n.ss.length (fun k hk hh=>.to (show H6 n _ i _ k=_ from ?_) hh) (.to (show H6 n _ i _ n.ss.length=_ from ?_) h)
  .have hs:n.ss[k]?=some n.ss[k]:=S2 hk;have g:=hv.spu k _ hs;have g3:=Bi.1 g.hk;have hb:=hv.bd k;have hb2:=g.hb;have e:(n.ss.take (k+1)).any (okS c)=((n.ss.take k).any (okS c)||okS c n.ss[k]):=by rw[List.take_add_one,hs,Option.toList_some,List.any_append];simp
   unfold H6;rw[AU hs,e,zW k (by omega)];cases (n.ss.take k).any (okS c) with
   | true=>rw[Ag rfl];rfl
   | false=>
    unfold okS;rw[Ad rfl,Ab (by omega),Tb,An hx,An hx,AZ _ (by omega) (by omega)];cases n.ss[k].dep with
    | false=>rfl
    | true=>cases decide (n.ss[k].b<=c)<;>rfl
  .have hT:(n.ss.take n.ss.length).any (okS c)=true:=List.any_eq_true.2 ⟨t,ht,by unfold okS;rw[hd1,S8 hd2,S8 hd3];rfl⟩;have hz:AN (T1 ((i:Int).toNat-T3 0) (T0 (T3 0) n.rs)) c=false:=by
    cases hq:AN (T1 ((i:Int).toNat-T3 0) (T0 (T3 0) n.rs)) c with
    | false=>rfl
    | true=>exact absurd (Eo.1 hq) (by simpa using hr2)
   unfold H6;rw[AQ,hT,Ad (by rfl),Ab (fun e he=>by obtain⟨x,_,rfl⟩:=Tx.1 he;rfl),Ab (by omega),Ab (by simp only[iN,S5];omega),Tb,An hx];rw[Tb] at hz;rw[Ab (by simp only[Tu,SR];omega),hz,Ad rfl,zW i (by omega)]
 .unfold GY;rw[Ad (S7 (by simp only[iN,S5];omega)),hp]
inductive DN where | l0 (v0:List Int) (v1:Int) | l1 (v0:List Int) (v1:Int) | l2 (v0:List Int) (v1 v2:Int) | l3 (v0:List Int) (v1 v2 v3:Int)
def DS(g:List (List Int))(sh:List Bool)(q:Int):DN->St | .l0 v0 v1=>St.mk 82 [(0,T4 (gL g)),(1,T4 (boL sh)),(2,iv q),(7,AV.sl 0 0 v0.length),(8,iv v1)] [some (bK (TY iv v0) 1)] | .l1 v0 v1=>St.mk 82 [(0,T4 (gL g)),(1,T4 (boL sh)),(7,AV.sl 0 0 v0.length),(9,iv v1)] [some (bK (TY iv v0) 1)] | .l2 v0 v1 v2=>St.mk 82 [(0,T4 (gL g)),(1,T4 (boL sh)),(7,AV.sl 0 0 v0.length),(9,iv v1),(10,iv v2)] [some (bK (TY iv v0) 1)] | .l3 v0 v1 v2 v3=>St.mk 82 [(0,T4 (gL g)),(1,T4 (boL sh)),(7,AV.sl 0 0 v0.length),(9,iv v1),(10,iv v2),(11,iv v3)] [some (bK (TY iv v0) 1)]
def JR(g:List (List Int))(sh:List Bool)(q:Int):Option (DN⊕Ret):=gu (8 * iN (gL g).length<=281474976710656) <|gu (iN (gL g).length<=9223372036854775807) <|some (.inl (.l0 (TZ (gL g).length 0) ((0:Int))))
def Gf(g:List (List Int))(sh:List Bool)(q:Int)(v0:List Int)(v1:Int):Option (DN⊕Ret):=br (decide (v1<iN (gL g).length)) (gu (0<=v1) <|gu (v1<iN v0.length) <|gu ((0+v1.toNat).succ.le (TY iV v0).length) <|some (.inl (.l0 (v0.set (0+v1.toNat) (-1)) (i64.wrap (v1+1))))) (gu (0<=q) <|el (sh) (q.toNat) fun(x26:Bool)=>br x26 (some (.inr ([],T4 (TY iV v0)))) (gu (q<iN v0.length) <|gu ((0+q.toNat).succ.le (TY iV v0).length) <|some (.inl (.l1 (v0.set (0+q.toNat) 0) ((1:Int))))))
def G8(g:List (List Int))(sh:List Bool)(q:Int)(v0:List Int)(v1:Int):Option (DN⊕Ret):=br (decide (v1<iN (gL g).length)) (some (.inl (.l2 v0 v1 ((0:Int))))) (some (.inr ([],T4 (TY iV v0))))
def HZ(g:List (List Int))(sh:List Bool)(q:Int)(v0:List Int)(v1 v2:Int):Option (DN⊕Ret):=br (decide (v2<iN (gL g).length)) (gu (0<=v2) <|el (sh) (v2.toNat) fun(x46:Bool)=>br x46 (some (.inl (.l2 v0 v1 (i64.wrap (v2+1))))) (gu (v2<iN v0.length) <|el v0 (0+v2.toNat) fun(x52:Int)=>br (decide (0<=x52)) (some (.inl (.l2 v0 v1 (i64.wrap (v2+1))))) (some (.inl (.l3 v0 v1 v2 ((0:Int))))))) (some (.inl (.l1 v0 (i64.wrap (v1+1)))))
def Gm(g:List (List Int))(sh:List Bool)(q:Int)(v0:List Int)(v1 v2 v3:Int):Option (DN⊕Ret):=gu (0<=v2) <|el g (v2.toNat) fun(x58:List Int)=>br (decide (v3<iN (TY iV x58).length)) (el g (v2.toNat) fun(x67:List Int)=>gu (0<=v3) <|el x67 (v3.toNat) fun(x70:Int)=>gu (0<=x70) <|gu (x70<iN v0.length) <|el v0 (0+x70.toNat) fun(x73:Int)=>br (x73==i64.wrap (v1-1)) (gu (v2<iN v0.length) <|gu ((0+v2.toNat).succ.le (TY iV v0).length) <|some (.inl (.l3 (v0.set (0+v2.toNat) v1) v1 v2 (i64.wrap (v3+1))))) (some (.inl (.l3 v0 v1 v2 (i64.wrap (v3+1)))))) (some (.inl (.l2 v0 v1 (i64.wrap (v2+1)))))
def B9(g:List (List Int))(sh:List Bool)(q:Int):DN->Option (DN⊕Ret) | .l0 v0 v1=>Gf g sh q v0 v1 | .l1 v0 v1=>G8 g sh q v0 v1 | .l2 v0 v1 v2=>HZ g sh q v0 v1 v2 | .l3 v0 v1 v2 v3=>Gm g sh q v0 v1 v2 v3
theorem dst_ct(g:List (List Int))(sh:List Bool)(q:Int)(r:Ret)(h:Ac (B9 g sh q) (JR g sh q) r):CT T5 159 ([]) ([.lst (gL g),.lst (boL sh),.int .i64 q]) r.1 r.2:=
 CT.mach (fn:=Tryz.f159) (c:=zB Tryz.f159) (S:=(DS g sh q)) (hd:=DN.ctorIdx) Tryz.func159 (by kernel_rfl) (nL rfl)
  (fun s o ho=>match s,ho with
 | .l0 v0 v1,ho=>Scr.ok (X:=Gf g sh q v0 v1) ho mix (
 .rn 0 [] [] [] [] (al (u2 (u2 (u2 (al t3))))) <|
 .br (fun a0=>
 .gu fun a1=>
 .gu fun a2=>
 .gu fun a3=>
 .lq [37] [] [] [] [] [0] [0,1,2,7,8] (up [(7,AV.sl 0 0 v0.length)] [(0,(TY iv v0).set (0+v1.toNat) (iv (-1)))] (DS g sh q (.l0 (v0.set (0+v1.toNat) (-1)) (i64.wrap (v1+1))))) (aj (aj a0 (aj (u2 (u2 (aj (k2 (aj a1 a2)) (al (ak a3))))) (al (u2 (u2 s2))))) t7) (by simp[up,upF,upV,upH,upB,DS,gL,boL,lI]))
 (fun a0=>
 .gu fun a1=>
 .el fun x26 a2=>
 .rn 0 [36] [(26,bV x26)] [] [] (aj a0 (al (u2 (u2 (aj (k2 (aj a1 (Af (f:=bV) a2))) s2))))) <|
 .br (fun a3=>
  .rt [55] [] [] [] [] [0] (aj (aj a3 (al (u2 s2))) (al (show v0.length=(TY iv v0).length by simp))))
 (fun a3=>
  .gu fun a4=>
  .gu fun a5=>
  .lq [54] [] [] [] [] [0] [0,1,7,9] (up [(7,AV.sl 0 0 v0.length)] [(0,(TY iv v0).set (0+q.toNat) (iv 0))] (DS g sh q (.l1 (v0.set (0+q.toNat) 0) ((1:Int))))) (aj (aj a3 (aj (u2 (u2 (aj (k2 (aj a1 a4)) (al (ak a5))))) s2)) t6) (by simp[up,upF,upV,upH,upB,DS,gL,boL,lI])))) (by kernel_rfl)
 | .l1 v0 v1,ho=>Scr.ok (X:=G8 g sh q v0 v1) ho mix (
 .rn 0 [] [] [] [] (al (u2 (u2 (u2 (al t3))))) <|
 .br (fun a0=>
 .lp [71] [] [] [] [] [0] [0,1,7,9,10] (aj (aj a0 s2) t7))
 (fun a0=>
 .rt [70] [] [] [] [] [0] (aj (aj a0 (al (u2 s2))) (al (show v0.length=(TY iv v0).length by simp))))) (by kernel_rfl)
 | .l2 v0 v1 v2,ho=>Scr.ok (X:=HZ g sh q v0 v1 v2) ho mix (
 .rn 0 [] [] [] [] (al (u2 (u2 (u2 (al t3))))) <|
 .br (fun a0=>
 .gu fun a1=>
 .el fun x46 a2=>
 .br (fun a3=>
  .lp [83,97] [(46,bV x46)] [] [] [] [0] [0,1,7,9,10] (aj (aj a0 (aj (u2 (u2 (aj (k2 (aj a1 (Af (f:=bV) a2))) (u2 (u2 (aj a3 (aj a3 (aj a3 (aj a3 (aj a3 (al (aj a3 t2)))))))))))) (ak (al (u2 (u2 s2)))))) t7))
 (fun a3=>
  .gu fun a4=>
  .el fun x52 a5=>
  .rn 0 [83,96] [(46,bV x46),(52,iv x52)] [] [] (aj a0 (al (u2 (u2 (aj (k2 (aj a1 (Af (f:=bV) a2))) (u2 (u2 (ag a3 (ag a3 (aj (aj a3 (k2 (aj a1 a4))) (aj (aj a3 (ak (Af (f:=iv) a5))) (ag a3 (al (aj a3 t2)))))))))))))) <|
  .br (fun a6=>
  .lp [96,109] [] [] [] [] [0] [0,1,7,9,10] (aj (aj a6 (al (u2 (u2 s2)))) t7))
  (fun a6=>
  .lp [96,108] [] [] [] [] [0] [0,1,7,9,10,11] (aj (aj a6 s2) t8))))
 (fun a0=>
 .lp [82] [] [] [] [] [0] [0,1,7,9] (aj (aj a0 (al (u2 (u2 s2)))) t6))) (by kernel_rfl)
 | .l3 v0 v1 v2 v3,ho=>Scr.ok (X:=Gm g sh q v0 v1 v2 v3) ho mix (
 .gu fun a0=>
 .el fun x58 a1=>
 .rn 0 [] [(58,lI x58)] [] [] (al (u2 (u2 (u2 (aj (k2 (aj a0 (Af (f:=lI) a1))) (u2 (u2 (al t3)))))))) <|
 .br (fun a2=>
 .el fun x67 a3=>
 .gu fun a4=>
 .el fun x70 a5=>
 .gu fun a6=>
 .gu fun a7=>
 .el fun x73 a8=>
 .rn 0 [123] [(67,lI x67),(70,iv x70),(73,iv x73)] [] [] (aj a2 (al (u2 (u2 (u2 (aj (k2 (aj a0 (Af (f:=lI) a3))) (u2 (u2 (aj (k2 (aj a4 (Af (f:=iv) a5))) (u2 (aj (k2 (aj a6 a7)) (aj (ak (Af (f:=iv) a8)) (u2 (u2 (al t3))))))))))))))) <|
 .br (fun a9=>
  .gu fun a10=>
  .gu fun a11=>
  .lq [153] [] [] [] [] [0] [0,1,7,9,10,11] (up [(7,AV.sl 0 0 v0.length)] [(0,(TY iv v0).set (0+v2.toNat) (iv v1))] (DS g sh q (.l3 (v0.set (0+v2.toNat) v1) v1 v2 (i64.wrap (v3+1))))) (aj (aj a9 (aj (u2 (u2 (u2 (aj (k2 (aj a0 a10)) (al (k2 a11)))))) (al (u2 (u2 s2))))) t8) (by simp[up,upF,upV,upH,upB,DS,gL,boL,lI]))
 (fun a9=>
  .lp [152] [] [] [] [] [0] [0,1,7,9,10,11] (aj (aj a9 (al (u2 (u2 s2)))) t8)))
 (fun a2=>
 .lp [122] [] [] [] [] [0] [0,1,7,9,10] (aj (aj a2 (al (u2 (u2 s2)))) t7))) (by kernel_rfl)
  )
  (fun o ho=>Scr.ok (X:=JR g sh q) ho mix (
 .rn 0 [] [] [] [] s2 <|
 .gu fun a0=>
 .gu fun a1=>
 .lq [] [] [] [] [] [0] [0,1,2,7,8] (up [(7,AV.sl 0 0 (gL g).length)] [(0,TZ (gL g).length (iv 0))] (DS g sh q (.l0 (TZ (gL g).length 0) ((0:Int))))) (aj (aj (u2 (u2 (aj (k2 (aj (show 0<=iN (gL g).length from(Int.natCast_nonneg _)) (aj (show iN (gL g).length<=iN (gL g).length by omega) (aj a0 a1)))) s2))) s2) t7) (by simp[up,upF,upV,upH,upB,DS,gL,boL,lI])) (by kernel_rfl)) h
structure DsP(g:List (List Int))(q:Nat)(d:List Int):Prop where
 len:d.length=g.length
 rng:∀v,v<g.length->-1<=d.getD v 0/\d.getD v 0<=g.length
 stp:∀v,v<g.length->0<d.getD v 0->∃w:Nat,(w:Int)∈g.getD v []/\w<g.length/\d.getD w 0=d.getD v 0-1
 zer:∀v,v<g.length->d.getD v 0=0->v=q
theorem H7{l:List Int}{i j:Nat}{x:Int}(hi:i<l.length):(l.set i x).getD j 0=if i=j then x else l.getD j 0:=by
 rw[S3,TV];by_cases h:i=j
 .subst h;rw[S0 rfl,S0 hi,S0 rfl];rfl
 .rw[S1 h,S1 h,S3]
theorem DsP.set{g:List (List Int)}{q:Nat}{d:List Int}(h:DsP g q d){v w:Nat}{x:Int}(hv:v<g.length)(hw:w<g.length)(hm:(w:Int)∈g.getD v [])(hne:w≠v)(hx:1<=x/\x<=g.length)(hd:d.getD w 0=x-1)(h0:d.getD v 0 = -1\/d.getD v 0=x):DsP g q (d.set v x):=by
 have hl:=h.len;have e:∀j,(d.set v x).getD j 0=if v=j then x else d.getD j 0:=fun j=>H7 (by omega)
 refine⟨by rw[TA];exact hl,fun u hu=>?_,fun u hu hp=>?_,fun u hu hp=>?_⟩
 .rw[e];split
  .omega
  .exact h.rng u hu
 .rw[e] at hp ⊢
  split at hp
  .rename_i e1;rw[S0 e1];subst e1;exact⟨w,hm,hw,by rw[e,S1 (fun e=>hne e.symm)];exact hd⟩
  .rename_i e1;rw[S1 e1];obtain⟨t,t1,t2,t3⟩:=h.stp u hu hp;refine⟨t,t1,t2,?_⟩;rw[e];split
   .rename_i e2;subst e2;rcases h0 with h0 | h0<;>omega
   .exact t3
 .rw[e] at hp;split at hp
  .omega
  .exact h.zer u hu hp
theorem dst_ex{g:List (List Int)}{sh:List Bool}(hg:OkG g sh){q:Nat}(hq:q<g.length):∃d:{d:List Int // DsP g q d},Ac (B9 g sh q) (JR g sh q) (([],lI d.1):Ret):=by
 have hgl:=Cm g;have hl:=hg.len;have hsh:=hg.sh
 have e3:∀(x v:Nat),v<g.length->1<=x->x<=g.length->(∀d,DsP g q d->∃d':{d:List Int // DsP g q d},Ac (B9 g sh q) (some (.inl (.l2 d (x:Int) ((v+1:Nat):Int)))) (([],lI d'.1):Ret))->
   ∀(m k:Nat) (d:List Int),k+m=(g.getD v []).length->DsP g q d->(d.getD v 0 = -1\/d.getD v 0=x)->∃d':{d:List Int // DsP g q d},Ac (B9 g sh q) (some (.inl (.l3 d (x:Int) (v:Int) (k:Int)))) (([],lI d'.1):Ret):=by
  intro x v hv hx hxg nx m;have hrow:=hg.row v hv;have hr:=AA [] hv;induction m with
  | zero=>intro k d hk hd _;refine AD (show B9 g sh q (.l3 d x v k)=Gm g sh q d x v k from rfl) ?_;unfold Gm;rw[Ab (by omega),Tb,An hr,Ad (S7 (by simp only[iN,S5];omega)),zW v (by omega)];exact nx d hd
  | succ m ih=>
   intro k d hk hd h0;have hdl:=hd.len;obtain⟨w,hw1,hw2,hw3⟩:=Np hg hv (i:=k) (by omega);have hwk:=AA 0 (show k<(g.getD v []).length by omega);rw[hw1] at hwk;have hwm:=S6 hwk;have hdw:=AA 0 (show w<d.length by omega);refine AD (show B9 g sh q (.l3 d x v k)=Gm g sh q d x v k from rfl) ?_;unfold Gm;rw[Ab (by omega),Tb,An hr,Ag (S8 (by simp only[iN,S5];omega)),An hr,Ab (by omega),Tb,An hwk,Ab (by omega),Ab (by simp only[iN];omega),Th,Tb,An hdw,Og x (by omega) (by omega),zW k (by omega)];cases hb:d.getD w 0==((x-1:Nat):Int) with
   | false=>rw[Ad rfl];exact ih (k+1) d (by omega) hd h0
   | true=>have hb:=beq_iff_eq.1 hb;rw[Ag rfl,Ab (by simp only[iN];omega),Ab (show Nat.le _ _ from by show 0+v+1<=_;simp only[S5];omega),Th];exact ih (k+1) _ (by omega) (hd.set hv hw2 hwm hw3 ⟨by omega,by omega⟩ (by omega) h0) (.inr (by rw[H7 (by omega),S0 rfl]))
 have e2:∀(x:Nat),1<=x->x<=g.length->(∀d,DsP g q d->∃d':{d:List Int // DsP g q d},Ac (B9 g sh q) (some (.inl (.l1 d ((x+1:Nat):Int)))) (([],lI d'.1):Ret))->
   ∀(m v:Nat) (d:List Int),v+m=g.length->DsP g q d->∃d':{d:List Int // DsP g q d},Ac (B9 g sh q) (some (.inl (.l2 d (x:Int) (v:Int)))) (([],lI d'.1):Ret):=by
  intro x hx hxg nx m;induction m with
  | zero=>intro v d hv hd;refine AD (show B9 g sh q (.l2 d x v)=HZ g sh q d x v from rfl) ?_;unfold HZ;rw[Ad (S7 (by simp only[iN];omega)),zW x (by omega)];exact nx d hd
  | succ m ih=>
   intro v d hv hd;have hdl:=hd.len;have hsv:=AA false (show v<sh.length by omega);have hdv:=AA 0 (show v<d.length by omega);have hr:=hd.rng v (by omega);refine AD (show B9 g sh q (.l2 d x v)=HZ g sh q d x v from rfl) ?_;unfold HZ;rw[Ag (S8 (by simp only[iN];omega)),Ab (by omega),Tb,An hsv,zW v (by omega)];refine Aq (fun _=>ih (v+1) d (by omega) hd) fun _=>?_
   rw[Ab (by simp only[iN];omega),Th,An hdv];refine CI (fun _=>ih (v+1) d (by omega) hd) fun h=>?_
   exact e3 x v (by omega) hx hxg (fun d hd=>ih (v+1) d (by omega) hd) (g.getD v []).length 0 d (Th _) hd (.inl (by omega))
 have e1:∀(m x:Nat) (d:List Int),1<=x->x+m=g.length+1->DsP g q d->∃d':{d:List Int // DsP g q d},Ac (B9 g sh q) (some (.inl (.l1 d (x:Int)))) (([],lI d'.1):Ret):=by
  intro m;induction m with
  | zero=>intro x d hx hm hd;refine AD (show B9 g sh q (.l1 d x)=G8 g sh q d x from rfl) ?_;unfold G8;rw[Ad (S7 (by simp only[iN];omega))];exact⟨⟨d,hd⟩,.ret _⟩
  | succ m ih=>
   intro x d hx hm hd;refine AD (show B9 g sh q (.l1 d x)=G8 g sh q d x from rfl) ?_;unfold G8;refine CI (fun h=>?_) fun _=>⟨⟨d,hd⟩,.ret _⟩
   exact e2 x hx (by simp only[iN] at h;omega) (fun d hd=>ih (x+1) d (by omega) (by omega) hd) g.length 0 d (Th _) hd
 have hlow:∀(d:List Int),d.length=g.length->(∀v,v<g.length->d.getD v 0 = -1\/v=q/\d.getD v 0=0)->DsP g q d:=fun d hd h=>by refine⟨hd,fun v hv=>?_,fun v hv hp=>?_,fun v hv hp=>?_⟩<;>rcases h v hv with h1 | ⟨h1,h2⟩<;>first | omega | exact h1
 have e0:∀(m i:Nat) (d:List Int),i+m=g.length->d.length=g.length->(∀v,v<i->d.getD v 0 = -1)->∃d':{d:List Int // DsP g q d},Ac (B9 g sh q) (some (.inl (.l0 d (i:Int)))) (([],lI d'.1):Ret):=by
  intro m;induction m with
  | zero=>
   intro i d hi hd hf;refine AD (show B9 g sh q (.l0 d i)=Gf g sh q d i from rfl) ?_;unfold Gf;rw[Ad (S7 (by simp only[iN];omega)),Ab (by omega),Tb,An (AA false (show q<sh.length by omega))];refine Aq (fun _=>⟨⟨d,hlow d hd fun v hv=>.inl (hf v (by omega))⟩,.ret _⟩) fun _=>?_
   rw[Ab (by simp only[iN];omega),Ab (show Nat.le _ _ from by show 0+q+1<=_;simp only[S5];omega),Th];refine e1 g.length 1 _ (Td _) (by omega) (hlow _ (by rw[TA];exact hd) fun v hv=>?_);rw[H7 (by omega)];split
   .rename_i e;exact .inr ⟨e.symm,rfl⟩
   .exact .inl (hf v (by omega))
  | succ m ih=>
   intro i d hi hd hf;refine AD (show B9 g sh q (.l0 d i)=Gf g sh q d i from rfl) ?_;unfold Gf;rw[Ag (S8 (by simp only[iN];omega)),Ab (by omega),Ab (by simp only[iN];omega),Ab (show Nat.le _ _ from by show 0+(i:Int).toNat+1<=_;simp only[S5];omega),zW i (by omega),Th,Tb];refine ih (i+1) _ (by omega) (by rw[TA];exact hd) fun v hv=>?_
   rw[H7 (by omega)];split
   .rfl
   .exact hf v (by omega)
 unfold JR;exact Ah (by simp only[iN];omega) (Ah (by simp only[iN];omega) (e0 g.length 0 _ (Th _) (by rw[Tm,hgl]) fun v hv=>by omega))
theorem Lx(g:List (List Int))(sh:List Bool)(q:Int):∃d:List Int,OkG g sh->0<=q->q<(g.length:Int)->DsP g q.toNat d/\CT T5 159 [] [.lst (gL g),.lst (boL sh),.int .i64 q] [] (lI d):=by
 by_cases h:OkG g sh/\0<=q/\q<(g.length:Int)
 .obtain⟨d,hd⟩:=dst_ex h.1 (q:=q.toNat) (by omega);rw[Tt h.2.1] at hd;exact⟨d.1,fun _ _ _=>⟨d.2,dst_ct g sh q _ hd⟩⟩
 .exact⟨[],fun a b c=>absurd ⟨a,b,c⟩ h⟩
@[irreducible] def dsL(g:List (List Int))(sh:List Bool)(q:Int):List Int:=Classical.choose (Lx g sh q)
theorem ds_p{g:List (List Int)}{sh:List Bool}{q:Int}(hg:OkG g sh)(h0:0<=q)(h1:q<(g.length:Int)):DsP g q.toNat (dsL g sh q):=by unfold dsL;exact(TE (Lx g sh q) hg h0 h1).1
theorem ds_c(g:List (List Int))(sh:List Bool)(q:Int)(hg:OkG g sh)(h0:0<=q)(h1:q<(g.length:Int)):CT T5 159 [] [.lst (gL g),.lst (boL sh),.int .i64 q] [] (lI (dsL g sh q)):=by unfold dsL;exact(TE (Lx g sh q) hg h0 h1).2
inductive Fe where | l0 (v0:List Int) (v1:Int) | l1 (v0:List Int) (v1 v2:Int)
def Fl(g:List (List Int))(sh:List Bool)(q:Int):Fe->St | .l0 v0 v1=>St.mk 67 [(0,T4 (gL g)),(7,T4 (TY iv (dsL g sh q))),(8,AV.sl 0 0 v0.length),(9,iv v1)] [some (bK (TY iv v0) 1)] | .l1 v0 v1 v2=>St.mk 67 [(0,T4 (gL g)),(7,T4 (TY iv (dsL g sh q))),(8,AV.sl 0 0 v0.length),(9,iv v1),(10,iv v2)] [some (bK (TY iv v0) 1)]
def KN(g:List (List Int))(sh:List Bool)(q:Int):Option (Fe⊕Ret):=gu (OkG g sh) <|gu (0<=q) <|gu (q<iN g.length) <|gu (8 * iN (gL g).length<=281474976710656) <|gu (iN (gL g).length<=9223372036854775807) <|some (.inl (.l0 (TZ (gL g).length 0) ((0:Int))))
def GG(g:List (List Int))(sh:List Bool)(q:Int)(v0:List Int)(v1:Int):Option (Fe⊕Ret):=br (decide (v1<iN (gL g).length)) (gu (0<=v1) <|gu (v1<iN v0.length) <|gu ((0+v1.toNat).succ.le (TY iV v0).length) <|el g (v1.toNat) fun(x30:List Int)=>some (.inl (.l1 (v0.set (0+v1.toNat) (-1)) v1 (i64.wrap (iN (TY iV x30).length-1))))) (some (.inr ([],T4 (TY iV v0))))
def F5(g:List (List Int))(sh:List Bool)(q:Int)(v0:List Int)(v1 v2:Int):Option (Fe⊕Ret):=br (decide (0<=v2)) (gu (0<=v1) <|el (dsL g sh q) (v1.toNat) fun(x39:Int)=>br (decide (0<x39)) (el g (v1.toNat) fun(x47:List Int)=>gu (0<=v2) <|el x47 (v2.toNat) fun(x50:Int)=>gu (0<=x50) <|el (dsL g sh q) (x50.toNat) fun(x54:Int)=>el (dsL g sh q) (v1.toNat) fun(x58:Int)=>br (x54==i64.wrap (x58-1)) (gu (v1<iN v0.length) <|gu ((0+v1.toNat).succ.le (TY iV v0).length) <|some (.inl (.l1 (v0.set (0+v1.toNat) x50) v1 (i64.wrap (v2-1))))) (some (.inl (.l1 v0 v1 (i64.wrap (v2-1)))))) (some (.inl (.l0 v0 (i64.wrap (v1+1)))))) (some (.inl (.l0 v0 (i64.wrap (v1+1)))))
def Ds(g:List (List Int))(sh:List Bool)(q:Int):Fe->Option (Fe⊕Ret) | .l0 v0 v1=>GG g sh q v0 v1 | .l1 v0 v1 v2=>F5 g sh q v0 v1 v2
theorem hop_ct(g:List (List Int))(sh:List Bool)(q:Int)(r:Ret)(h:Ac (Ds g sh q) (KN g sh q) r):CT T5 164 ([]) ([.lst (gL g),.lst (boL sh),.int .i64 q]) r.1 r.2:=
 CT.mach (fn:=Tryz.f164) (c:=zB Tryz.f164) (S:=(Fl g sh q)) (hd:=Fe.ctorIdx) Tryz.func164 (by kernel_rfl) (nL rfl)
  (fun s o ho=>match s,ho with
 | .l0 v0 v1,ho=>Scr.ok (X:=GG g sh q v0 v1) ho mix (
 .rn 0 [] [] [] [] (al (u2 (u2 (u2 (al t3))))) <|
 .br (fun a0=>
 .gu fun a1=>
 .gu fun a2=>
 .gu fun a3=>
 .rn 0 [45] [] [] [] (aj a0 (al (u2 (u2 (aj (k2 (aj a1 a2)) (al (ak a3))))))) <|
 .el fun x30 a4=>
 .lq [] [(30,lI x30)] [] [] [] [0] [0,7,8,9,10] (up [(8,AV.sl 0 0 v0.length)] [(0,(TY iv v0).set (0+v1.toNat) (iv (-1)))] (Fl g sh q (.l1 (v0.set (0+v1.toNat) (-1)) v1 (i64.wrap (iN (TY iv x30).length-1))))) (aj (al (u2 (u2 (aj (k2 (aj a1 (Af (f:=lI) a4))) (u2 (u2 (u2 s2))))))) t7) (by simp[up,upF,upV,upH,upB,Fl,gL,boL,lI]))
 (fun a0=>
 .rt [44] [] [] [] [] [0] (aj (aj a0 (al (u2 s2))) (al (show v0.length=(TY iv v0).length by simp))))) (by kernel_rfl)
 | .l1 v0 v1 v2,ho=>Scr.ok (X:=F5 g sh q v0 v1 v2) ho mix (
 .br (fun a0=>
 .gu fun a1=>
 .el fun x39 a2=>
 .rn 0 [73] [(39,iv x39)] [] [] (al (u2 (u2 (u2 (ag a0 (ag a0 (aj (aj a0 (k2 (aj a1 (Af (f:=iv) a2)))) (ag a0 (ag a0 (al (aj a0 t2))))))))))) <|
 .br (fun a3=>
  .el fun x47 a4=>
  .gu fun a5=>
  .el fun x50 a6=>
  .rn 0 [73,85] [(47,lI x47),(50,iv x50)] [] [] (aj a3 (al (u2 (u2 (aj (k2 (aj a1 (Af (f:=lI) a4))) (u2 (u2 (aj (k2 (aj a5 (Af (f:=iv) a6))) (u2 s2))))))))) <|
  .gu fun a7=>
  .el fun x54 a8=>
  .el fun x58 a9=>
  .rn 0 [73] [(54,iv x54),(58,iv x58)] [] [] (al (u2 (u2 (aj (k2 (aj a7 (Af (f:=iv) a8))) (u2 (u2 (u2 (aj (k2 (aj a1 (Af (f:=iv) a9))) (u2 (u2 (al t3))))))))))) <|
  .br (fun a10=>
  .gu fun a11=>
  .gu fun a12=>
  .lq [73,123] [] [] [] [] [0] [0,7,8,9,10] (up [(8,AV.sl 0 0 v0.length)] [(0,(TY iv v0).set (0+v1.toNat) (iv x50))] (Fl g sh q (.l1 (v0.set (0+v1.toNat) x50) v1 (i64.wrap (v2-1))))) (aj (aj a10 (aj (u2 (u2 (u2 (aj (k2 (aj a1 a11)) (al (k2 a12)))))) (al (u2 (u2 s2))))) t7) (by simp[up,upF,upV,upH,upB,Fl,gL,boL,lI]))
  (fun a10=>
  .lp [73,122] [] [] [] [] [0] [0,7,8,9,10] (aj (aj a10 (al (u2 (u2 s2)))) t7)))
 (fun a3=>
  .lp [73,84] [] [] [] [] [0] [0,7,8,9] (aj (aj a3 (al (u2 (u2 s2)))) t6)))
 (fun a0=>
 .lp [72] [] [] [] [] [0] [0,7,8,9] (aj (aj (u2 (u2 (u2 (aj a0 (aj a0 (aj a0 (aj a0 (aj a0 (al (aj a0 t2)))))))))) (ak (al (u2 (u2 s2))))) t6))) (by kernel_rfl)
  )
  (fun o ho=>Scr.ok (X:=KN g sh q) ho mix (
 .rn 0 [] [] [] [] s2 <|
 .gu fun a0=>
 .gu fun a1=>
 .gu fun a2=>
 have c0:=ds_c g (sh) q a0 a1 a2;
 .rn 0 [] [] [(15,hK c0 [] [])] [] (al (u2 (u2 (u2 (aj (ak (k5 (al (c0)))) s2))))) <|
 .gu fun a3=>
 .gu fun a4=>
 .lq [] [] [] [] [] [0] [0,7,8,9] (up [(8,AV.sl 0 0 (gL g).length)] [(0,TZ (gL g).length (iv 0))] (Fl g sh q (.l0 (TZ (gL g).length 0) ((0:Int))))) (aj (aj (u2 (u2 (aj (k2 (aj (show 0<=iN (gL g).length from(Int.natCast_nonneg _)) (aj (show iN (gL g).length<=iN (gL g).length by omega) (aj a3 a4)))) s2))) s2) t6) (by simp[up,upF,upV,upH,upB,Fl,gL,boL,lI])) (by kernel_rfl)) h
inductive DP where | l0 (v0:Int) | l1 (v0 v1:Int)
def vldSt(g:List (List Int)):DP->St | .l0 v0=>St.mk 60 [(0,T4 (gL g)),(3,iv v0)] [] | .l1 v0 v1=>St.mk 60 [(0,T4 (gL g)),(3,iv v0),(4,iv v1)] []
def N5(g:List (List Int)):Option (DP⊕Ret):=br (decide (24<iN (gL g).length)) (none) (some (.inl (.l0 ((0:Int)))))
def GA(g:List (List Int))(v0:Int):Option (DP⊕Ret):=br (decide (v0<iN (gL g).length)) (some (.inl (.l1 v0 ((0:Int))))) (some (.inr ([],bV true)))
def GR(g:List (List Int))(v0 v1:Int):Option (DP⊕Ret):=gu (0<=v0) <|el g (v0.toNat) fun(x18:List Int)=>br (decide (v1<iN (TY iV x18).length)) (el g (v0.toNat) fun(x26:List Int)=>gu (0<=v1) <|el x26 (v1.toNat) fun(x29:Int)=>br (decide (x29<0)) (none) (br (decide (iN (gL g).length<=x29)) (none) (br (x29==v0) (none) (br (decide (0<v1)) (el g (v0.toNat) fun(x51:List Int)=>gu (0<=i64.wrap (v1-1)) <|el x51 ((i64.wrap (v1-1)).toNat) fun(x55:Int)=>br (decide (x29<=x55)) (none) (some (.inl (.l1 v0 (i64.wrap (v1+1)))))) (some (.inl (.l1 v0 (i64.wrap (v1+1))))))))) (some (.inl (.l0 (i64.wrap (v0+1)))))
def vldStep(g:List (List Int)):DP->Option (DP⊕Ret) | .l0 v0=>GA g v0 | .l1 v0 v1=>GR g v0 v1
theorem vld_ct(g:List (List Int))(r:Ret)(h:Ac (vldStep g) (N5 g) r):CT T5 158 ([]) ([.lst (gL g)]) r.1 r.2:=
 CT.mach (fn:=Tryz.f158) (c:=zB Tryz.f158) (S:=(vldSt g)) (hd:=DP.ctorIdx) Tryz.func158 (by kernel_rfl) (nL rfl)
  (fun s o ho=>match s,ho with
 | .l0 v0,ho=>Scr.ok (X:=GA g v0) ho mix (
 .rn 0 [] [] [] [] (al (u2 (u2 (u2 (al t3))))) <|
 .br (fun a0=>
 .lp [25] [] [] [] [] [] [0,3,4] (aj (aj a0 s2) t4))
 (fun a0=>
 .rt [24] [] [] [] [] [] (aj (aj a0 s2) t2))) (by kernel_rfl)
 | .l1 v0 v1,ho=>Scr.ok (X:=GR g v0 v1) ho mix (
 .gu fun a0=>
 .el fun x18 a1=>
 .rn 0 [] [(18,lI x18)] [] [] (al (u2 (u2 (u2 (aj (k2 (aj a0 (Af (f:=lI) a1))) (u2 (u2 (al t3)))))))) <|
 .br (fun a2=>
 .el fun x26 a3=>
 .gu fun a4=>
 .el fun x29 a5=>
 .rn 0 [43] [(26,lI x26),(29,iv x29)] [] [] (aj a2 (al (u2 (u2 (aj (k2 (aj a0 (Af (f:=lI) a3))) (u2 (u2 (aj (k2 (aj a4 (Af (f:=iv) a5))) (u2 s2))))))))) <|
 .br (fun a6=>
  .no)
 (fun a6=>
  .br (fun a7=>
  .no)
  (fun a7=>
  .br (fun a8=>
   .no)
  (fun a8=>
   .br (fun a9=>
   .el fun x51 a10=>
   .gu fun a11=>
   .el fun x55 a12=>
   .rn 0 [66,78,88,95] [(51,lI x51),(55,iv x55)] [] [] (al (u2 (u2 (u2 (ag a6 (ag a6 (ag a6 (aj (aj a6 t3) (ag a6 (u2 (ag a7 (ag a7 (aj (aj a7 t3) (ag a7 (u2 (ag a8 (ag a8 (ag a8 (ag a9 (ag a9 (ag a9 (aj (aj a9 (k2 (aj a0 (Af (f:=lI) a10)))) (ag a9 (ag a9 (ag a9 (aj (aj a9 (k2 (aj a11 (Af (f:=iv) a12)))) (ag a9 (aj (aj a9 t3) (aj (aj a8 (aj a9 t2)) (al (aj a8 t2))))))))))))))))))))))))))))))) <|
   .br (fun a13=>
    .no)
   (fun a13=>
    .lp [66,78,88,95,118] [] [] [] [] [] [0,3,4] (aj (aj a13 (al (u2 (u2 s2)))) t4)))
   (fun a9=>
   .lp [66,78,88,94] [] [] [] [] [] [0,3,4] (aj (aj (u2 (u2 (u2 (ag a6 (ag a6 (ag a6 (aj (aj a6 t3) (ag a6 (u2 (ag a7 (ag a7 (aj (aj a7 t3) (ag a7 (u2 (ag a8 (ag a8 (ag a8 (aj a9 (aj a9 (aj a9 (aj a9 (aj a9 (aj a9 (aj a9 (aj a9 (aj a9 (aj a9 (aj (aj a8 (aj a9 t2)) (al (aj a8 t2)))))))))))))))))))))))))))))) (ak (al (u2 (u2 s2))))) t4))))))
 (fun a2=>
 .lp [42] [] [] [] [] [] [0,3] (aj (aj a2 (al (u2 (u2 s2)))) t3))) (by kernel_rfl)
  )
  (fun o ho=>Scr.ok (X:=N5 g) ho mix (
 .rn 1 [] [] [] [] (u2 (al (u2 (u2 s2)))) <|
 .br (fun a0=>
 .no)
 (fun a0=>
 .lp [16] [] [] [] [] [] [0,3] (aj (aj a0 s2) t3))) (by kernel_rfl)) h
structure VG(g:List (List Int)):Prop where
 len:g.length<=24
 row:∀v:Nat,v<g.length->nxB (g.getD v []) v g.length=true
theorem MJ{r:List Int}{i m:Int}(h:nxB r i m=true):∀k,k<r.length->0<=r.getD k 0 | 0,hk=>by have:=((DC h).2 0 hk).1;unfold BL at this;rw[S0 rfl] at this;omega | k+1,hk=>by have:=((DC h).2 (k+1) hk).1;have ih:=MJ h k (by omega);unfold BL at this;rw[S1 (by omega),Nat.add_sub_cancel] at this;omega
theorem F3{l:List Int}{k:Nat}(h:k<l.length):l.getD k 0=l[k]:=by rw[S3,S2 h];rfl
theorem VG.ok{g:List (List Int)}(h:VG g){sh:List Bool}(hs:sh.length=g.length):OkG g sh:=⟨h.len,fun v hv=>by
 have hr:=DC (h.row v hv);refine⟨by have:=hr.1;omega,fun w hw=>?_⟩;obtain⟨k,hk,rfl⟩:=TD.1 hw;have e:(g.getD v [])[k]=(g.getD v []).getD k 0:=by exact(F3 hk).symm
 have h1:=hr.2 k hk;have h2:=MJ (h.row v hv) k hk;rw[e];omega,hs⟩
theorem vld_v{g:List (List Int)}(h:VG g):CT T5 158 [] [.lst (gL g)] [] (.bool true):=by
 have hgl:=Cm g;have hl:=h.len;refine vld_ct g ([],_) ?_;unfold N5;rw[Ad (S7 (by simp only[iN];omega))];refine Bq (fun i=>DP.l0 (i:Int)) g.length (fun i hi hx=>.to (show GA g i=some (.inl (.l1 i 0)) from ?_) ?_) (.to (show GA g g.length=_ from ?_) (.ret _))
 .unfold GA;rw[Ag (S8 (by simp only[iN];omega))]
 .have hr:=DC (h.row i hi);have er:=AA [] hi;refine Bq (fun k=>DP.l1 (i:Int) (k:Int)) (g.getD i []).length (fun k hk hh=>.to (show GR g i k=_ from ?_) hh) (.to (show GR g i (g.getD i []).length=_ from ?_) hx)
  .have ek:=AA 0 hk;have h1:=hr.2 k hk;have h0:=MJ (h.row i hi) k hk;unfold GR;rw[Ab (by omega),Tb,An er,Ag (S8 (by simp only[iN,S5];omega)),An er,Ab (by omega),Tb,An ek,Ad (S7 (by omega)),Ad (S7 (by simp only[iN];omega)),Ad (TC.2 h1.2.2),zW k (by omega)];by_cases hz:k=0
   .rw[Ad (S7 (by omega))]
   .rw[Ag (S8 (by omega)),An er,Og k (by omega) (by omega),Ab (by omega),Tb,An (AA 0 (show k-1<_ by omega)),Ad (S7 (by have:=h1.1;unfold BL at this;rw[S1 hz] at this;omega))]
  .unfold GR;rw[Ab (by omega),Tb,An er,Ad (S7 (by simp only[iN,S5];omega)),zW i (by omega)]
 .unfold GA;rw[Ad (S7 (by simp only[iN];omega))]
def hpG(m:Nat)(d h:List Int)(v:Nat):Prop:=0<d.getD v 0->0<=h.getD v 0/\h.getD v 0<m/\d.getD (h.getD v 0).toNat 0=d.getD v 0-1
def HpP(m:Nat)(d h:List Int):Prop:=h.length=m/\∀v,v<m->hpG m d h v
theorem hop_ex{g:List (List Int)}{sh:List Bool}(hg:OkG g sh){q:Int}(h0:0<=q)(h1:q<(g.length:Int)):∃p:{h:List Int // HpP g.length (dsL g sh q) h},Ac (Ds g sh q) (KN g sh q) (([],lI p.1):Ret):=by
 have hgl:=Cm g;have hl:=hg.len;have hd:=ds_p hg h0 h1;have hdl:=hd.len;unfold KN;generalize he:dsL g sh q=d at hd hdl;have keep:∀{h:List Int} {v u:Nat} {x:Int},h.length=g.length->v<g.length->u≠v->hpG g.length d h u->hpG g.length d (h.set v x) u:=fun {h v u x} hh hv hn hp=>by
  unfold hpG at hp ⊢
  rw[H7 (by omega),S1 (fun e=>hn e.symm)];exact hp
 have e1:∀(v:Nat),v<g.length->(∀h,h.length=g.length->(∀u,u<v+1->hpG g.length d h u)->∃p:{h:List Int // HpP g.length d h},Ac (Ds g sh q) (some (.inl (.l0 h ((v+1:Nat):Int)))) (([],lI p.1):Ret))->
   ∀(j:Nat) (h:List Int),j<=(g.getD v []).length->h.length=g.length->(∀u,u<v->hpG g.length d h u)->(hpG g.length d h v\/∃k,k<j/\d.getD ((g.getD v []).getD k 0).toNat 0=d.getD v 0-1)->∃p:{h:List Int // HpP g.length d h},Ac (Ds g sh q) (some (.inl (.l1 h (v:Int) ((j:Int)-1)))) (([],lI p.1):Ret):=by
  intro v hv nx j;have hrow:=(hg.row v hv).1;have er:=AA [] hv;have edv:=AA 0 (show v<d.length by omega);have hrv:=hd.rng v hv;induction j with
  | zero=>
   intro h _ hh hu hx;refine AD (show Ds g sh q (.l1 h v _)=F5 g sh q h v _ from rfl) ?_;unfold F5;rw[Ad (S7 (by omega)),zW v (by omega)];refine nx h hh fun u hu1=>?_
   by_cases e:u=v
   .subst e;rcases hx with hx | ⟨k,hk,_⟩
    .exact hx
    .omega
   .exact hu u (by omega)
  | succ j ih=>
   intro h hj hh hu hx;rw[show ((j+1:Nat):Int)-1=(j:Int) by omega];obtain⟨w,hw1,hw2,_⟩:=Np hg hv (i:=j) (by omega);have ew:=AA 0 (show j<(g.getD v []).length by omega);rw[hw1] at ew;refine AD (show Ds g sh q (.l1 h v j)=F5 g sh q h v j from rfl) ?_;unfold F5;rw[Ag (S8 (by omega)),Ab (by omega),Tb,he,An edv];refine CI (fun hp=>?_) fun hp=>?_
   .rw[An er,Ab (by omega),Tb,An ew,Ab (by omega),Tb,An (AA 0 (show w<d.length by omega)),An edv,AZ (d.getD v 0-1) (by omega) (by omega)];have wj:i64.wrap ((j:Int)-1)=(j:Int)-1:=EV (by omega) (by omega);refine Aq (fun hb=>?_) fun hb=>?_
    .rw[Ab (by simp only[iN];omega),Ab (show Nat.le _ _ from by show 0+v+1<=_;simp only[S5];omega),Th,wj];refine ih _ (by omega) (by rw[TA];exact hh) (fun u hu1=>keep hh hv (by omega) (hu u hu1)) (.inl fun _=>?_);rw[H7 (by omega),S0 rfl,Tb];exact⟨by omega,by omega,beq_iff_eq.1 hb⟩
    .rw[wj];refine ih h (by omega) hh hu (hx.imp id fun⟨k,hk1,hk2⟩=>⟨k,?_,hk2⟩);by_cases e:k=j
     .subst e;rw[hw1,Tb] at hk2;exact absurd hk2 (TC.1 hb)
     .omega
   .rw[zW v (by omega)];refine nx h hh fun u hu1=>?_
    by_cases e:u=v
    .subst e;exact fun h=>absurd h hp
    .exact hu u (by omega)
 have e0:∀(m i:Nat) (h:List Int),i+m=g.length->h.length=g.length->(∀u,u<i->hpG g.length d h u)->∃p:{h:List Int // HpP g.length d h},Ac (Ds g sh q) (some (.inl (.l0 h (i:Int)))) (([],lI p.1):Ret):=by
  intro m;induction m with
  | zero=>intro i h hi hh hu;refine AD (show Ds g sh q (.l0 h i)=GG g sh q h i from rfl) ?_;unfold GG;rw[Ad (S7 (by simp only[iN];omega))];exact⟨⟨h,hh,fun u hu1=>hu u (by omega)⟩,.ret _⟩
  | succ m ih=>
   intro i h hi hh hu;have hrow:=(hg.row i (by omega)).1;refine AD (show Ds g sh q (.l0 h i)=GG g sh q h i from rfl) ?_;unfold GG;rw[Ag (S8 (by simp only[iN];omega)),Ab (by omega),Ab (by simp only[iN];omega),Ab (show Nat.le _ _ from by show 0+(i:Int).toNat+1<=_;simp only[S5];omega),Tb,An (AA [] (show i<g.length by omega)),Th,S5,EV (x:=iN (g.getD i []).length-1) (by simp only[iN];omega) (by simp only[iN];omega)];refine e1 i (by omega) (fun h hh hu=>ih (i+1) h (by omega) hh hu) (g.getD i []).length _ (Td _) (by rw[TA];exact hh) (fun u hu1=>keep hh (by omega) (by omega) (hu u hu1)) ?_;by_cases hp:0<d.getD i 0
   .obtain⟨w,hw1,hw2,hw3⟩:=hd.stp i (by omega) hp;obtain⟨k,hk,hkw⟩:=TD.1 hw1;refine .inr ⟨k,hk,?_⟩;rw[show (g.getD i []).getD k 0=(g.getD i [])[k] from F3 hk,hkw,Tb,hw3]
   .exact .inl fun h=>absurd h hp
 exact Ah hg (Ah h0 (Ah h1 (Ah (by simp only[iN];omega) (Ah (by simp only[iN];omega) (e0 g.length 0 _ (Th _) (by rw[Tm,hgl]) fun v hv=>by omega)))))
theorem NW(g:List (List Int))(sh:List Bool)(q:Int):∃h:List Int,OkG g sh->0<=q->q<(g.length:Int)->HpP g.length (dsL g sh q) h/\CT T5 164 [] [.lst (gL g),.lst (boL sh),.int .i64 q] [] (lI h):=by
 by_cases h:OkG g sh/\0<=q/\q<(g.length:Int)
 .obtain⟨d,hd⟩:=hop_ex h.1 h.2.1 h.2.2;exact⟨d.1,fun _ _ _=>⟨d.2,hop_ct g sh q _ hd⟩⟩
 .exact⟨[],fun a b c=>absurd ⟨a,b,c⟩ h⟩
@[irreducible] def hpL(g:List (List Int))(sh:List Bool)(q:Int):List Int:=Classical.choose (NW g sh q)
theorem hp_p{g:List (List Int)}{sh:List Bool}{q:Int}(hg:OkG g sh)(h0:0<=q)(h1:q<(g.length:Int)):HpP g.length (dsL g sh q) (hpL g sh q):=by unfold hpL;exact(TE (NW g sh q) hg h0 h1).1
theorem hp_c(g:List (List Int))(sh:List Bool)(q:Int)(hg:OkG g sh)(h0:0<=q)(h1:q<(g.length:Int)):CT T5 164 [] [.lst (gL g),.lst (boL sh),.int .i64 q] [] (lI (hpL g sh q)):=by unfold hpL;exact(TE (NW g sh q) hg h0 h1).2
inductive H4 where | l0 (v0:Int) (v1:List Int)
def LC(g:List (List Int))(sh:List Bool)(p q:Int):H4->St | .l0 v0 v1=>St.mk 37 [(2,iv v0),(3,iv q),(9,T4 (TY iv (hpL g sh q))),(10,AV.sl 0 0 v1.length)] [some (bK (TY iv v1) 1)]
def Kz(g:List (List Int))(sh:List Bool)(p q:Int):Option (H4⊕Ret):=gu (OkG g sh) <|gu (0<=q) <|gu (q<iN g.length) <|gu (0<=p) <|el (dsL g sh q) (p.toNat) fun(x16:Int)=>br (decide (x16<0)) (none) (some (.inl (.l0 p ([p]))))
def Gj(g:List (List Int))(sh:List Bool)(p q:Int)(v0:Int)(v1:List Int):Option (H4⊕Ret):=br (v0 != q) (gu (0<=v0) <|el (hpL g sh q) (v0.toNat) fun(x30:Int)=>gu ((TY iV v1).length+[iV x30].length<=9223372036854775807) <|gu (((TY iV v1).length+[iV x30].length) * 8<=140737488355328) <|some (.inl (.l0 x30 (v1++[x30])))) (some (.inr ([],T4 (TY iV v1))))
def I4(g:List (List Int))(sh:List Bool)(p q:Int):H4->Option (H4⊕Ret) | .l0 v0 v1=>Gj g sh p q v0 v1
theorem frt_ct(g:List (List Int))(sh:List Bool)(p q:Int)(r:Ret)(h:Ac (I4 g sh p q) (Kz g sh p q) r):CT T5 160 ([]) ([.lst (gL g),.lst (boL sh),.int .i64 p,.int .i64 q]) r.1 r.2:=
 CT.mach (fn:=Tryz.f160) (c:=zB Tryz.f160) (S:=(LC g sh p q)) (hd:=H4.ctorIdx) Tryz.func160 (by kernel_rfl) (nL rfl)
  (fun s o ho=>match s,ho with
 | .l0 v0 v1,ho=>Scr.ok (X:=Gj g sh p q v0 v1) ho mix (
 .rn 0 [] [] [] [] (al (u2 (u2 (al t3)))) <|
 .br (fun a0=>
 .gu fun a1=>
 .el fun x30 a2=>
 .rn 0 [55] [(30,iv x30)] [] [] (aj a0 (al (u2 (u2 (aj (k2 (aj a1 (Af (f:=iv) a2))) (u2 s2)))))) <|
 .gu fun a3=>
 .gu fun a4=>
 .lq [] [] [] [] [] [2] [2,3,9,10] (up [(10,AV.sl 0 0 ((TY iv v1).length+[iv x30].length))] [(0,TY iv v1++[iv x30])] (LC g sh p q (.l0 x30 (v1++[x30])))) (aj (al (u2 (u2 (u2 (aj (k2 (aj (show(TY iv v1).length=v1.length by simp) (aj (aj (show nat_lit 1=nat_lit 1 from rfl) (show 1<=[iv x30].length by simp)) (aj a3 a4)))) s2))))) t6) (by simp[up,upF,upV,upH,upB,LC,gL,boL,lI]))
 (fun a0=>
 .rt [54] [] [] [] [] [0] (aj (aj a0 (al (u2 s2))) (al (show v1.length=(TY iv v1).length by simp))))) (by kernel_rfl)
  )
  (fun o ho=>Scr.ok (X:=Kz g sh p q) ho mix (
 .rn 0 [] [] [] [] s2 <|
 .gu fun a0=>
 .gu fun a1=>
 .gu fun a2=>
 .gu fun a3=>
 .el fun x16 a4=>
 have c0:=ds_c g (sh) q a0 a1 a2;
 .rn 0 [] [(16,iv x16)] [(14,hK c0 [] [])] [] (al (u2 (u2 (u2 (aj (ak (k5 (al (c0)))) (u2 (aj (k2 (aj a3 (Af (f:=iv) a4))) (u2 s2)))))))) <|
 .br (fun a5=>
 .no)
 (fun a5=>
 have c1:=hp_c g (sh) q a0 a1 a2;
 .lp [36] [] [(22,hK c1 [] [])] [] [] [0] [2,3,9,10] (aj (aj a5 (aj (u2 (u2 (u2 (aj (ak (k5 (al (c1)))) s2)))) (al (u2 (u2 s2))))) t6))) (by kernel_rfl)) h
def Nb(g:List (List Int))(sh:List Bool):Option (Empty⊕Ret):=gu (VG g) <|br (iN (boL sh).length != iN (gL g).length) (none) (some (.inr ([],iV 0)))
theorem chq_ct(g:List (List Int))(sh:List Bool)(r:Ret)(h:Ac emT (Nb g sh) r):CT T5 145 ([]) ([.lst (gL g),.lst (boL sh)]) r.1 r.2:=
 CT.mach (fn:=Tryz.f145) (c:=zB Tryz.f145) (S:=emS) (hd:=emH) Tryz.func145 (by kernel_rfl) (nL rfl)
  (fun s o ho=>match s,ho with
   | x,_=>x.elim)
  (fun o ho=>Scr.ok (X:=Nb g sh) ho mix (
 .rn 0 [] [] [] [] s2 <|
 .gu fun a0=>
 have c0:=vld_v a0;
 .rn 1 [] [] [(6,hK c0 [] [])] [] (aj (u2 (aj (k2 (al (c0))) s2)) (ak (al (u2 (u2 (u2 (u2 (al t3)))))))) <|
 .br (fun a1=>
 .no)
 (fun a1=>
 .rt [24] [] [] [] [] [] (aj (aj a1 s2) t2))) (by kernel_rfl)) h
theorem frt_ex{g:List (List Int)}{sh:List Bool}(hg:OkG g sh){q:Int}(h0:0<=q)(h1:q<(g.length:Int)){v:Nat}(hv:v<g.length)(hp:0<=(dsL g sh q).getD v 0):∃p:{l:List Int // 0<l.length/\l.length<=50},Ac (I4 g sh v q) (Kz g sh v q) (([],lI p.1):Ret):=by
 have hl:=hg.len;have hd:=ds_p hg h0 h1;have hh:=hp_p hg h0 h1;have hdl:=hd.len;have hhl:=hh.1;have e0:∀(m u:Nat) (l:List Int),u<g.length->(dsL g sh q).getD u 0=m->0<l.length->l.length+m<=50->∃p:{l:List Int // 0<l.length/\l.length<=50},Ac (I4 g sh v q) (some (.inl (.l0 (u:Int) l))) (([],lI p.1):Ret):=by
  intro m;induction m with
  | zero=>intro u l hu hm hp1 hp2;refine AD (show I4 g sh v q (.l0 u l)=Gj g sh v q u l from rfl) ?_;have e:=hd.zer u hu hm;unfold Gj;rw[Ad (by simp;omega)];exact⟨⟨l,hp1,hp2⟩,.ret _⟩
  | succ m ih=>
   intro u l hu hm hp1 hp2;refine AD (show I4 g sh v q (.l0 u l)=Gj g sh v q u l from rfl) ?_;have e:=hh.2 u hu (by omega);unfold Gj;refine Aq (fun _=>?_) fun _=>⟨⟨l,hp1,by omega⟩,.ret _⟩
   rw[Ab (by omega),Tb,An (AA 0 (show u<(hpL g sh q).length by omega)),Ab (by simp only[S5,TF];omega),Ab (by simp only[S5,TF];omega)];obtain⟨w,hw⟩:∃w:Nat,(hpL g sh q).getD u 0=(w:Int):=⟨((hpL g sh q).getD u 0).toNat,by omega⟩;rw[hw] at e ⊢
   rw[Tb] at e;exact ih w _ (by omega) (by omega) (by simp) (by simp only[Tl,TF];omega)
 have hr:=hd.rng v hv;unfold Kz;refine Ah hg (Ah h0 (Ah h1 (Ah (by omega) ?_)));rw[Tb,An (AA 0 (show v<(dsL g sh q).length by omega)),Ad (S7 (by omega))];exact e0 ((dsL g sh q).getD v 0).toNat v [(v:Int)] hv (by omega) (by simp) (by simp only[TF];omega)
theorem Nt(g:List (List Int))(sh:List Bool)(p q:Int):∃l:List Int,OkG g sh->0<=q->q<(g.length:Int)->0<=p->p<(g.length:Int)->0<=(dsL g sh q).getD p.toNat 0->(0<l.length/\l.length<=50)/\CT T5 160 [] [.lst (gL g),.lst (boL sh),.int .i64 p,.int .i64 q] [] (lI l):=by
 by_cases h:OkG g sh/\0<=q/\q<(g.length:Int)/\0<=p/\p<(g.length:Int)/\0<=(dsL g sh q).getD p.toNat 0
 .obtain⟨a,b,c,d,e,f⟩:=h;obtain⟨l,hd⟩:=frt_ex a b c (v:=p.toNat) (by omega) f;rw[Tt d] at hd;exact⟨l.1,fun _ _ _ _ _ _=>⟨l.2,frt_ct g sh p q _ hd⟩⟩
 .exact⟨[],fun a b c d e f=>absurd ⟨a,b,c,d,e,f⟩ h⟩
@[irreducible] def frL(g:List (List Int))(sh:List Bool)(p q:Int):List Int:=Classical.choose (Nt g sh p q)
theorem fr_p{g:List (List Int)}{sh:List Bool}{p q:Int}(hg:OkG g sh)(h0:0<=q)(h1:q<(g.length:Int))(h2:0<=p)(h3:p<(g.length:Int))(h4:0<=(dsL g sh q).getD p.toNat 0):0<(frL g sh p q).length/\(frL g sh p q).length<=50:=by unfold frL;exact(TE (Nt g sh p q) hg h0 h1 h2 h3 h4).1
theorem fr_c(g:List (List Int))(sh:List Bool)(p q:Int)(hg:OkG g sh)(h0:0<=q)(h1:q<(g.length:Int))(h2:0<=p)(h3:p<(g.length:Int))(h4:0<=(dsL g sh q).getD p.toNat 0):CT T5 160 [] [.lst (gL g),.lst (boL sh),.int .i64 p,.int .i64 q] [] (lI (frL g sh p q)):=by unfold frL;exact(TE (Nt g sh p q) hg h0 h1 h2 h3 h4).2
theorem chq_v{g:List (List Int)}(h:VG g){sh:List Bool}(hs:sh.length=g.length):CT T5 145 [] [.lst (gL g),.lst (boL sh)] [] (.int .i64 0):=by refine chq_ct g sh ([],_) (.val ?_);unfold Nb;rw[Ab h,Ad (by simp only[iN,A8,Cm,hs];simp)]
inductive HG where | l0 (v0 v1:Int)
def thrSt(g:List (List Int))(sh:List Bool)(q:Int):HG->St | .l0 v0 v1=>St.mk 72 [(0,T4 (gL g)),(1,T4 (boL sh)),(2,iv q),(7,T4 (TY iv (dsL g sh q))),(8,iv v0),(9,iv v1)] []
def KD(g:List (List Int))(sh:List Bool)(q:Int):Option (HG⊕Ret):=gu (0<=q) <|el (sh) (q.toNat) fun(x14:Bool)=>br x14 (some (.inr ([],AV.nils))) (gu (OkG g sh) <|gu (q<iN g.length) <|some (.inl (.l0 ((-1:Int)) ((0:Int)))))
def Hf(g:List (List Int))(sh:List Bool)(q v0 v1:Int):Option (HG⊕Ret):=gu (0<=q) <|el g (q.toNat) fun(x23:List Int)=>br (decide (v1<iN (TY iV x23).length)) (el g (q.toNat) fun(x31:List Int)=>gu (0<=v1) <|el x31 (v1.toNat) fun(x34:Int)=>gu (0<=x34) <|el (dsL g sh q) (x34.toNat) fun(x38:Int)=>br (decide (0<=x38)) (br (decide (v0<0)) (some (.inl (.l0 x34 (i64.wrap (v1+1))))) (el (dsL g sh q) (x34.toNat) fun(x47:Int)=>gu (0<=v0) <|el (dsL g sh q) (v0.toNat) fun(x51:Int)=>br (decide (x47<x51)) (some (.inl (.l0 x34 (i64.wrap (v1+1))))) (some (.inl (.l0 v0 (i64.wrap (v1+1))))))) (some (.inl (.l0 v0 (i64.wrap (v1+1)))))) (br (decide (v0<0)) (some (.inr ([],AV.nils))) (gu (OkG g sh) <|gu (q<iN g.length) <|gu (0<=v0) <|gu (v0<iN g.length) <|gu (0<=(dsL g sh q).getD v0.toNat 0) <|gu (∀(e:AV),e∈TY iV (frL g sh v0 q)->e.cells.length=1) <|gu (0<=i64.wrap (iN (TY iV (frL g sh v0 q)).length-1)) <|gu (i64.wrap (iN (TY iV (frL g sh v0 q)).length-1)<=iN (TY iV (frL g sh v0 q)).length) <|gu (∀(e:AV),e∈T1 ((i64.wrap (iN (TY iV (frL g sh v0 q)).length-1)).toNat-T3 0) (T0 (T3 0) (TY iV (frL g sh v0 q)))->e.cells.length=1) <|gu ([iV q].length+(T1 ((i64.wrap (iN (TY iV (frL g sh v0 q)).length-1)).toNat-T3 0) (T0 (T3 0) (TY iV (frL g sh v0 q)))).length<=9223372036854775807) <|gu (([iV q].length+(T1 ((i64.wrap (iN (TY iV (frL g sh v0 q)).length-1)).toNat-T3 0) (T0 (T3 0) (TY iV (frL g sh v0 q)))).length) * 8<=140737488355328) <|gu ([iV q].length+(T1 ((i64.wrap (iN (TY iV (frL g sh v0 q)).length-1)).toNat-T3 0) (T0 (T3 0) (TY iV (frL g sh v0 q)))).length=(iV q::List.append._f [] PUnit.unit (T1 ((i64.wrap (iN (TY iV (frL g sh v0 q)).length-1)).toNat-T3 0) (T0 (T3 0) (TY iV (frL g sh v0 q))))).length) <|some (.inr ([],T4 (iV q::List.append._f [] PUnit.unit (T1 ((i64.wrap (iN (TY iV (frL g sh v0 q)).length-1)).toNat-T3 0) (T0 (T3 0) (TY iV (frL g sh v0 q)))))))))
def Ii(g:List (List Int))(sh:List Bool)(q:Int):HG->Option (HG⊕Ret) | .l0 v0 v1=>Hf g sh q v0 v1
theorem OV(g:List (List Int))(sh:List Bool)(q:Int)(r:Ret)(h:Ac (Ii g sh q) (KD g sh q) r):CT T5 146 ([]) ([.lst (gL g),.lst (boL sh),.int .i64 q]) r.1 r.2:=
 CT.mach (fn:=Tryz.f146) (c:=zB Tryz.f146) (S:=(thrSt g sh q)) (hd:=HG.ctorIdx) Tryz.func146 (by kernel_rfl) (nL rfl)
  (fun s o ho=>match s,ho with
 | .l0 v0 v1,ho=>Scr.ok (X:=Hf g sh q v0 v1) ho mix (
 .gu fun a0=>
 .el fun x23 a1=>
 .rn 0 [] [(23,lI x23)] [] [] (al (u2 (u2 (u2 (aj (k2 (aj a0 (Af (f:=lI) a1))) (u2 (u2 (al t3)))))))) <|
 .br (fun a2=>
 .el fun x31 a3=>
 .gu fun a4=>
 .el fun x34 a5=>
 .rn 0 [53] [(31,lI x31),(34,iv x34)] [] [] (aj a2 (al (u2 (u2 (aj (k2 (aj a0 (Af (f:=lI) a3))) (u2 (u2 (aj (k2 (aj a4 (Af (f:=iv) a5))) (u2 s2))))))))) <|
 .gu fun a6=>
 .el fun x38 a7=>
 .br (fun a8=>
  .br (fun a9=>
  .lp [83,89] [(38,iv x38)] [] [] [] [] [0,1,2,7,8,9] (aj (aj (u2 (u2 (aj (k2 (aj a6 (Af (f:=iv) a7))) (u2 (u2 (u2 (ag a8 (ag a8 (ag a8 (aj a9 (aj a9 (aj a9 (aj a9 (aj a9 (aj a9 (aj a9 (aj a9 (aj a9 (aj (aj a8 (aj a9 t2)) (al (aj a8 t2))))))))))))))))))))) (ak (aj (u2 s2) (al (u2 (u2 s2)))))) t7))
  (fun a9=>
  .el fun x47 a10=>
  .gu fun a11=>
  .el fun x51 a12=>
  .rn 0 [83,88] [(38,iv x38),(47,iv x47),(51,iv x51)] [] [] (al (u2 (u2 (aj (k2 (aj a6 (Af (f:=iv) a7))) (u2 (u2 (u2 (ag a8 (ag a8 (ag a8 (ag a9 (ag a9 (aj (aj a9 (k2 (aj a6 (Af (f:=iv) a10)))) (ag a9 (ag a9 (ag a9 (aj (aj a9 (k2 (aj a11 (Af (f:=iv) a12)))) (ag a9 (aj (aj a9 t3) (aj (aj a8 (aj a9 t2)) (al (aj a8 t2)))))))))))))))))))))) <|
  .br (fun a13=>
   .lp [83,88,111] [] [] [] [] [] [0,1,2,7,8,9] (aj (aj a13 (aj (u2 s2) (al (u2 (u2 s2))))) t7))
  (fun a13=>
   .lp [83,88,110] [] [] [] [] [] [0,1,2,7,8,9] (aj (aj a13 (al (u2 (u2 s2)))) t7))))
 (fun a8=>
  .lp [82] [(38,iv x38)] [] [] [] [] [0,1,2,7,8,9] (aj (aj (u2 (u2 (aj (k2 (aj a6 (Af (f:=iv) a7))) (u2 (u2 (u2 (aj a8 (aj a8 (aj a8 (ak (k3 (k5 (aj a8 (al (aj a8 t2))))))))))))))) (ak (al (u2 (u2 s2))))) t7)))
 (fun a2=>
 .rn 0 [52] [] [] [] (aj a2 (al (u2 s2))) <|
 .br (fun a3=>
  .rt [117] [] [] [] [] [] (aj (aj a3 s2) t2))
 (fun a3=>
  .gu fun a4=>
  .gu fun a5=>
  .gu fun a6=>
  .gu fun a7=>
  .gu fun a8=>
  have c0:=fr_c g (sh) v0 q a4 a0 a5 a6 a7 a8;
  .rn 0 [116] [] [(63,hK c0 [] [])] [] (aj a3 (al (u2 (u2 (u2 (u2 (aj (k3 (k5 (al (c0)))) s2))))))) <|
  .gu fun a9=>
  .gu fun a10=>
  .gu fun a11=>
  .gu fun a12=>
  .gu fun a13=>
  .gu fun a14=>
  .rn 0 [] [] [] [] (al (u2 (u2 (u2 (u2 (u2 (u2 (aj (k2 (aj a9 (aj (Int.le_refl 0) (aj a10 (aj a11 (show iN (TY iv (frL g sh v0 q)).length<=iN (TY iv (frL g sh v0 q)).length by omega)))))) (aj (k2 (aj (show [iv q].length=1 by simp) (aj a12 (aj a13 a14)))) s2))))))))) <|
  .gu fun a15=>
  .rt [] [] [] [] [] [1] (ak (al a15))))) (by kernel_rfl)
  )
  (fun o ho=>Scr.ok (X:=KD g sh q) ho mix (
 .rn 0 [] [] [] [] s2 <|
 .gu fun a0=>
 .el fun x14 a1=>
 .rn 0 [] [(14,bV x14)] [] [] (al (u2 (u2 (aj (k2 (aj a0 (Af (f:=bV) a1))) s2)))) <|
 .br (fun a2=>
 .rt [31] [] [] [] [] [] (aj (aj a2 s2) t2))
 (fun a2=>
 .gu fun a3=>
 .gu fun a4=>
 have c0:=ds_c g (sh) q a3 a0 a4;
 .lp [30] [] [(19,hK c0 [] [])] [] [] [] [0,1,2,7,8,9] (aj (aj a2 (aj (u2 (u2 (u2 (aj (ak (k5 (al (c0)))) s2)))) (u2 s2))) t7))) (by kernel_rfl)) h
abbrev OL:={o:Option (List Int) // ∀l,o=some l->l.length<=60}
def olR(o:OL):Ret:=([],match o.1 with | none=>.nils | some l=>lI l)
theorem ol_no{σ:Type}{step:σ->Option (σ⊕Ret)}:∃o:OL,Ac step (some (.inr ([],.nils))) (olR o):=⟨⟨none,fun _ h=>by cases h⟩,.ret _⟩
theorem thr_ex{g:List (List Int)}{sh:List Bool}(hg:OkG g sh){v:Nat}(hv:v<g.length):∃o:OL,Ac (Ii g sh v) (KD g sh v) (olR o):=by
 have hl:=hg.len;have hsh:=hg.sh;have h1:(v:Int)<(g.length:Int):=by omega
 have hd:=ds_p hg (Int.natCast_nonneg v) h1;have hdl:=hd.len;have er:=AA [] hv;have hrow:=(hg.row v hv).1;have e0:∀(m k:Nat) (b:Int),k+m=(g.getD v []).length->(b<0\/b<g.length/\0<=(dsL g sh v).getD b.toNat 0)->∃o:OL,Ac (Ii g sh v) (some (.inl (.l0 b (k:Int)))) (olR o):=by
  intro m;induction m with
  | zero=>
   intro k b hk hb;refine AD (show Ii g sh v (.l0 b k)=Hf g sh v b k from rfl) ?_;unfold Hf;rw[Ab (by omega),Tb,An er,Ad (S7 (by simp only[iN,S5];omega))];refine CI (fun _=>ol_no) fun hb0=>?_
   have hb:b<g.length/\0<=(dsL g sh v).getD b.toNat 0:=hb.resolve_left hb0;have hf:=fr_p hg (Int.natCast_nonneg v) h1 (show 0<=b by omega) hb.1 hb.2;have one:∀e∈TY (AV.int .i64) (frL g sh b v),e.cells.length=1:=fun e he=>by obtain⟨x,_,rfl⟩:=Tx.1 he;rfl
   have hw:i64.wrap (iN (TY (AV.int .i64) (frL g sh b v)).length-1)=((frL g sh b v).length:Int)-1:=by rw[S5];exact EV (by simp only[iN];omega) (by simp only[iN];omega)
   rw[hw];refine Ah hg (Ah h1 (Ah (by omega) (Ah hb.1 (Ah hb.2 (Ah one (Ah (by omega) (Ah (by simp only[iN,S5];omega) (Ah (fun e he=>one e (List.drop_subset _ _ (List.take_subset _ _ he))) ?_))))))));have hX:T1 ((((frL g sh b v).length:Int)-1).toNat-T3 0) (T0 (T3 0) (TY (AV.int .i64) (frL g sh b v)))=TY (AV.int .i64) ((frL g sh b v).take (((frL g sh b v).length:Int)-1).toNat):=by rw[show T3 0=0 from rfl,List.drop_zero,Nat.sub_zero,List.map_take]
   rw[hX];have hL:((frL g sh b v).take (((frL g sh b v).length:Int)-1).toNat).length<=50:=by rw[Tu];omega
   generalize (frL g sh b v).take (((frL g sh b v).length:Int)-1).toNat=X at hL;refine Ah (by rw[S5,TF];omega) (Ah (by rw[S5,TF];omega) (Ah (show 1+(TY (AV.int .i64) X).length=(TY (AV.int .i64) X).length+1 by omega) ⟨⟨some (v::X),fun l h=>by cases h;simp only[TG];omega⟩,.ret _⟩))
  | succ m ih=>
   intro k b hk hb;obtain⟨w,hw1,hw2,_⟩:=Np hg hv (i:=k) (by omega);have ew:=AA 0 (show k<(g.getD v []).length by omega);rw[hw1] at ew;have edw:=AA 0 (show w<(dsL g sh v).length by omega);refine AD (show Ii g sh v (.l0 b k)=Hf g sh v b k from rfl) ?_;unfold Hf;rw[Ab (by omega),Tb,An er,Ag (S8 (by simp only[iN,S5];omega)),An er,Ab (by omega),Tb,An ew,Ab (by omega),Tb,An edw,zW k (by omega)];refine CI (fun h=>CI (fun _=>ih (k+1) _ (by omega) (.inr ⟨by omega,by rw[Tb];exact h⟩)) fun hb0=>?_) fun _=>ih (k+1) b (by omega) hb
   have hb1:=hb.resolve_left hb0;rw[An edw,Ab (by omega),An (AA 0 (show b.toNat<(dsL g sh v).length by omega))];exact Aq (fun _=>ih (k+1) _ (by omega) (.inr ⟨by omega,by rw[Tb];exact h⟩)) fun _=>ih (k+1) b (by omega) hb
 unfold KD;refine Ah (by omega) ?_;rw[Tb,An (AA false (show v<sh.length by omega))];exact Aq (fun _=>ol_no) fun _=>Ah hg (Ah h1 (e0 (g.getD v []).length 0 (-1) (Th _) (.inl (by omega))))
theorem MQ(g:List (List Int))(sh:List Bool)(q:Int):∃l:List Int,OkG g sh->0<=q->q<(g.length:Int)->l.length<=60/\CT T5 146 [] [.lst (gL g),.lst (boL sh),.int .i64 q] [] (lI l):=by
 by_cases h:OkG g sh/\0<=q/\q<(g.length:Int)
 .obtain⟨a,b,c⟩:=h;obtain⟨⟨o,ho⟩,hd⟩:=thr_ex a (v:=q.toNat) (by omega);rw[Tt b] at hd;cases o with
  | none=>exact⟨[],fun _ _ _=>⟨Te _,(OV g sh q ([],.nils) hd).to rfl rfl⟩⟩
  | some l=>exact⟨l,fun _ _ _=>⟨ho l rfl,OV g sh q _ hd⟩⟩
 .exact⟨[],fun a b c=>absurd ⟨a,b,c⟩ h⟩
@[irreducible] def thL(g:List (List Int))(sh:List Bool)(q:Int):List Int:=Classical.choose (MQ g sh q)
theorem th_p{g:List (List Int)}{sh:List Bool}{q:Int}(hg:OkG g sh)(h0:0<=q)(h1:q<(g.length:Int)):(thL g sh q).length<=60:=by unfold thL;exact(TE (MQ g sh q) hg h0 h1).1
theorem th_c(g:List (List Int))(sh:List Bool)(q:Int)(hg:OkG g sh)(h0:0<=q)(h1:q<(g.length:Int)):CT T5 146 [] [.lst (gL g),.lst (boL sh),.int .i64 q] [] (lI (thL g sh q)):=by unfold thL;exact(TE (MQ g sh q) hg h0 h1).2
inductive Hy where | l0 (v0:Int) (v1:Av)
def ropSt(n:Aa)(sh:List Bool)(q:Int):Hy->St | .l0 v0 v1=>St.mk 41 [(1,T4 (boL sh)),(7,AV.ptr 0 0 0),(8,iv v0)] [some (bK [sA v1] 6)]
def Ms(n:Aa)(sh:List Bool)(q:Int):Option (Hy⊕Ret):=gu (0<=q) <|el (n.ss) (q.toNat) fun(x12:Av)=>gu (0<=x12.i) <|el (sh) (x12.i.toNat) fun(x17:Bool)=>br x17 (some (.inr ([],bV false))) (gu (0<=x12.o) <|el (sh) (x12.o.toNat) fun(x23:Bool)=>br x23 (some (.inr ([],bV false))) (some (.inl (.l0 (x12.b) x12))))
def HI(n:Aa)(sh:List Bool)(q v0:Int)(v1:Av):Option (Hy⊕Ret):=br (decide (v0<i64.wrap (v1.b+v1.k))) (gu (0<=v0) <|el (sh) (v0.toNat) fun(x39:Bool)=>br x39 (some (.inr ([],bV false))) (some (.inl (.l0 (i64.wrap (v0+1)) v1)))) (some (.inr ([],bV true)))
def Pe(n:Aa)(sh:List Bool)(q:Int):Hy->Option (Hy⊕Ret) | .l0 v0 v1=>HI n sh q v0 v1
theorem rop_ct(n:Aa)(sh:List Bool)(q:Int)(r:Ret)(h:Ac (Pe n sh q) (Ms n sh q) r):CT T5 109 ([]) ([Aj n,.lst (boL sh),.int .i64 q]) r.1 r.2:=
 CT.mach (fn:=Tryz.f109) (c:=zB Tryz.f109) (S:=(ropSt n sh q)) (hd:=Hy.ctorIdx) Tryz.func109 (by kernel_rfl) (nL rfl)
  (fun s o ho=>match s,ho with
 | .l0 v0 v1,ho=>Scr.ok (X:=HI n sh q v0 v1) ho mix (
 .rn 0 [] [] [] [] (al (u2 (u2 (u2 (u2 (u2 (aj t3 (al t3)))))))) <|
 .br (fun a0=>
 .gu fun a1=>
 .el fun x39 a2=>
 .rn 0 [69] [(39,bV x39)] [] [] (aj a0 (al (u2 (u2 (aj (k2 (aj a1 (Af (f:=bV) a2))) s2))))) <|
 .br (fun a3=>
  .rt [81] [] [] [] [] [] (aj (aj a3 s2) t2))
 (fun a3=>
  .lp [80] [] [] [] [] [0] [1,7,8] (aj (aj a3 (al (u2 (u2 s2)))) t5)))
 (fun a0=>
 .rt [68] [] [] [] [] [] (aj (aj a0 s2) t2))) (by kernel_rfl)
  )
  (fun o ho=>Scr.ok (X:=Ms n sh q) ho mix (
 .rn 0 [] [] [] [] (al (u2 t2)) <|
 .gu fun a0=>
 .el fun x12 a1=>
 .rn 0 [] [(12,sA x12)] [] [] (al (u2 (u2 (u2 (aj (k2 (aj a0 (Af (f:=sA) a1))) (u2 (ak (al (k2 n11))))))))) <|
 .gu fun a2=>
 .el fun x17 a3=>
 .br (fun a4=>
 .rt [39] [(17,bV x17)] [] [] [] [] (aj (aj (u2 (u2 (u2 (aj (k2 (aj a2 (Af (f:=bV) a3))) (u2 (u2 (aj a4 (aj a4 (aj a4 (aj a4 (aj a4 (al (aj a4 t2))))))))))))) (ak s2)) t2))
 (fun a4=>
 .gu fun a5=>
 .el fun x23 a6=>
 .rn 0 [38] [(17,bV x17),(23,bV x23)] [] [] (al (u2 (u2 (u2 (aj (k2 (aj a2 (Af (f:=bV) a3))) (u2 (u2 (ag a4 (ag a4 (ag a4 (aj (aj a4 (k2 (aj a5 (Af (f:=bV) a6)))) (ag a4 (al (aj a4 t2)))))))))))))) <|
 .br (fun a7=>
  .rt [38,51] [] [] [] [] [] (aj (aj a7 s2) t2))
 (fun a7=>
  .lp [38,50] [] [] [] [] [1] [1,7,8] (aj (aj a7 (al (u2 (u2 s2)))) t5)))) (by kernel_rfl)) h
inductive Fy where | l0 (v0:Int) (v1:ByteArray)
def dgtSt(q:Int):Fy->St | .l0 v0 v1=>St.mk 23 [(0,iv v0),(3,AV.str v1)] []
def Nd(q:Int):Option (Fy⊕Ret):=br (decide (q<0)) (none) (some (.inl (.l0 q (ByteArray.mk #[]))))
def Kr(q v0:Int)(v1:ByteArray):Option (Fy⊕Ret):=
 br ([AV.int IntKind.u8 (IntKind.u8.wrap (i64.wrap (48+v0.tmod 10)))].all fun x=>
 match x with
 | AV.int IntKind.u8 n=>decide (0<=n)&&decide (n<256)
 | x=>false)
 (gu (((Dj [AV.int IntKind.u8 (IntKind.u8.wrap (i64.wrap (48+v0.tmod 10)))]).size+v1.size).le 9223372036854775807) <|
  br (i64.wrap (v0.tdiv 10)==0)
  (some (.inr ([],AV.str (Dj (bK [AV.int IntKind.u8 (IntKind.u8.wrap (i64.wrap (48+v0.tmod 10)))] 1).es++v1))))
  (some (.inl (.l0 (i64.wrap (v0.tdiv 10)) (Dj (bK [AV.int IntKind.u8 (IntKind.u8.wrap (i64.wrap (48+v0.tmod 10)))] 1).es++v1)))))
 (none)
def P1(q:Int):Fy->Option (Fy⊕Ret) | .l0 v0 v1=>Kr q v0 v1
theorem dgt_ct(q:Int)(r:Ret)(h:Ac (P1 q) (Nd q) r):CT T5 41 ([]) ([.int .i64 q]) r.1 r.2:=
 CT.mach (fn:=Tryz.f41) (c:=zB Tryz.f41) (S:=(dgtSt q)) (hd:=Fy.ctorIdx) Tryz.func41 (by kernel_rfl) (nL rfl)
  (fun s o ho=>match s,ho with
 | .l0 v0 v1,ho=>Scr.ok (X:=Kr q v0 v1) ho mix (
 .br (fun a0=>
 .gu fun a1=>
 .rn 2 [] [] [] [] (aj (u2 (aj (ak (show(10:Int)=(0:Int)->False from(by first | decide | exact SI _))) (u2 (u2 (u2 (aj (ak (aj (show [AV.int IntKind.u8 (IntKind.u8.wrap (i64.wrap (48+v0.tmod 10)))].length=1 by simp) (aj (show nat_lit 1≠nat_lit 0 from(by first | decide | exact SI _)) a0))) (u2 (aj (k2 a1) s2)))))))) (aj (u2 (aj (ak (show(10:Int)=(0:Int)->False from(by first | decide | exact SI _))) s2)) (al (u2 s2)))) <|
 .br (fun a2=>
  .rt [43] [] [] [] [] [] (aj (aj a2 (al (u2 s2))) t2))
 (fun a2=>
  .lp [42] [] [] [] [] [] [0,3] (aj (al a2) t3)))
 (fun a0=>
 .no)) (by kernel_rfl)
  )
  (fun o ho=>Scr.ok (X:=Nd q) ho mix (
 .rn 1 [] [] [] [] (u2 (al (u2 s2))) <|
 .br (fun a0=>
 .no)
 (fun a0=>
 .lp [10] [] [] [] [] [] [0,3] (aj (aj a0 s2) t3))) (by kernel_rfl)) h
def IR(sh:List Bool)(s:Av):Bool:= !(sh.getD s.i.toNat false)&&!(sh.getD s.o.toNat false)&&!(fnd (fun j=>sh.getD (s.b+(j:Int)).toNat false) 0 s.k.toNat).isSome
def opB(n:Aa)(sh:List Bool)(sp:Int):Bool:=match n.ss[sp.toNat]? with | some s=>IR sh s | none=>false
theorem IU(n:Aa)(sh:List Bool)(sp:Int)(hv:Ao n)(hsh:sh.length=Am n)(hi:0<=sp/\sp<n.ss.length):CT T5 109 [] [Aj n,.lst (boL sh),.int .i64 sp] [] (.bool (opB n sh sp)):=by
 have hil:sp.toNat<n.ss.length:=by omega
 have hs:n.ss[sp.toNat]?=some n.ss[sp.toNat]:=S2 hil;refine rop_ct n sh sp ([],_) ?_;unfold Ms opB;simp only[hs];generalize n.ss[sp.toNat]=s at hs;have g:=hv.spu _ s hs;have g1:=Bi.1 g.hi;have g2:=Bi.1 g.ho;have g3:=Bi.1 g.hk;have hc:=hv.cel;have hbd:=hv.bd sp.toNat;have hm:=JG hv (i:=sp.toNat+1) (j:=n.ss.length) (by omega) (Td _);rw[CF hs,<-g.hb] at hm;rw[<-g.hb] at hbd;have hnb:=hv.nb24;rw[Ab hi.1,An hs,Ab (by omega),An (AA false (show s.i.toNat<sh.length by omega))];unfold IR;cases h1:sh.getD s.i.toNat false with
 | true=>rw[Ag rfl];exact .ret _
 | false=>
  rw[Ad rfl,Ab (by omega),An (AA false (show s.o.toNat<sh.length by omega))];cases h2:sh.getD s.o.toNat false with
  | true=>rw[Ag rfl];exact .ret _
  | false=>
   rw[Ad rfl];have e0:∀(m k:Nat),k+m=s.k.toNat->Ac (Pe n sh sp) (some (.inl (.l0 (s.b+(k:Int)) s))) (([],.bool (!(fnd (fun j=>sh.getD (s.b+(j:Int)).toNat false) k m).isSome)):Ret):=by
    intro m;induction m with
    | zero=>intro k hk;refine .to (show HI n sh sp (s.b+(k:Int)) s=_ from ?_) (.ret _);unfold HI;rw[AZ _ (by omega) (by omega),Ad (S7 (by omega))];rfl
    | succ m ih=>
     intro k hk;refine .to (show HI n sh sp (s.b+(k:Int)) s=_ from rfl) ?_;unfold HI;rw[AZ (s.b+s.k) (by omega) (by omega),Ag (S8 (by omega)),Ab (by omega),An (AA false (show(s.b+(k:Int)).toNat<sh.length by omega)),fnd];cases sh.getD (s.b+(k:Int)).toNat false with
     | true=>rw[Ag rfl];exact .ret _
     | false=>rw[Ad rfl,AZ _ (by omega) (by omega),show s.b+(k:Int)+1=s.b+((k+1:Nat):Int) by omega];exact ih (k+1) (by omega)
   have:=e0 s.k.toNat 0 (Th _);rw[show s.b+((0:Nat):Int)=s.b by omega] at this;simpa using this
def AL(n:Nat):ByteArray:=if n<10 then ⟨#[UInt8.ofNat (48+n)]⟩ else ⟨#[UInt8.ofNat (48+n / 10),UInt8.ofNat (48+n % 10)]⟩
theorem dig_w(c:Nat)(h:c<100):IntKind.u8.wrap (i64.wrap (48+(c:Int).tmod 10))=((48+c % 10:Nat):Int):=by
 have:∀c:Nat,c<100->IntKind.u8.wrap (i64.wrap (48+(c:Int).tmod 10))=((48+c % 10:Nat):Int):=by decide +kernel
 exact this c h
theorem dig_q(c:Nat)(h:c<100):i64.wrap ((c:Int).tdiv 10)=((c / 10:Nat):Int):=by
 have:∀c:Nat,c<100->i64.wrap ((c:Int).tdiv 10)=((c / 10:Nat):Int):=by decide +kernel
 exact this c h
theorem dig1{n:Int}(c:Nat)(h:c<100)(u:ByteArray)(hu:u.size<=2):P1 n (.l0 (c:Int) u)=(if c / 10=0 then some (.inr ([],.str (⟨#[UInt8.ofNat (48+c % 10)]⟩++u))) else some (.inl (.l0 ((c / 10:Nat):Int) (⟨#[UInt8.ofNat (48+c % 10)]⟩++u)))):=by
 have e:Dj [AV.int .u8 ((48+c % 10:Nat):Int)]=⟨#[UInt8.ofNat (48+c % 10)]⟩:=by unfold Dj;rfl
 show Kr n (c:Int) u=_;unfold Kr;rw[dig_w c h,dig_q c h,Ag (by simp;omega),Ab (by rw[e];exact TM (show 1+u.size<=3 by omega) (by decide))];by_cases hq:c / 10=0
 .rw[S0 hq,Ag (by rw[hq];rfl)];exact congrArg (fun x=>some (Sum.inr ([],AV.str (x++u)))) e
 .rw[S1 hq,Ad (TC.2 (by omega))];exact congrArg (fun x=>some (Sum.inl (Fy.l0 _ (x++u)))) e
theorem I0(n:Nat)(h:n<100):CT T5 41 [] [.int .i64 (iN n)] [] (.str (AL n)):=by
 refine dgt_ct (n:Int) ([],_) ?_;unfold Nd AL;rw[Ad (S7 (by omega))];refine .to (dig1 n h _ (Te _)) ?_;by_cases h10:n<10
 .rw[S0 (by omega),S0 h10,SV h10];exact .ret _
 .rw[S1 (by omega),S1 h10];refine .to (dig1 (n / 10) (by omega) _ (Nat.le_succ 1)) ?_;rw[S0 (by omega),SV (show n / 10<10 by omega)];exact .ret _
def Jo(i:Nat):ByteArray:=⟨#[98]⟩++AL i
def IT(i:Nat):ByteArray:=⟨#[115]⟩++AL i
theorem nmBk_ok:∀i,i<24->nmB (Jo i)=true:=by decide +kernel
theorem nmSp_ok:∀i,i<6->nmB (IT i)=true:=by decide +kernel
theorem nmBk_inj:∀i,i<24->∀j,j<24->Jo i=Jo j->i=j:=by decide +kernel
theorem nmSp_inj:∀i,i<6->∀j,j<6->IT i=IT j->i=j:=by decide +kernel
theorem nm_dis:∀i,i<24->∀j,j<6->Jo i≠IT j:=by decide +kernel
inductive GE where | l0 (v0:List Int) (v1:Int)
def girSt(g:List (List Int))(sh:List Bool):GE->St | .l0 v0 v1=>St.mk 46 [(0,T4 (gL g)),(1,T4 (boL sh)),(8,T4 (TY iv v0)),(9,iv v1)] []
def Jw(g:List (List Int))(sh:List Bool):Option (GE⊕Ret):=gu (VG g) <|gu (sh.length=g.length) <|some (.inl (.l0 ([]) ((0:Int))))
def Hl(g:List (List Int))(sh:List Bool)(v0:List Int)(v1:Int):Option (GE⊕Ret):=br (decide (v1<iN (gL g).length)) (gu (OkG g sh) <|gu (0<=v1) <|gu (v1<iN g.length) <|br (decide (0<iN (TY iV (thL g sh v1)).length)) (br (iN (TY iV v0).length==0) (some (.inl (.l0 (thL g sh v1) (i64.wrap (v1+1))))) (br (decide (iN (TY iV (thL g sh v1)).length<iN (TY iV v0).length)) (some (.inl (.l0 (thL g sh v1) (i64.wrap (v1+1))))) (some (.inl (.l0 v0 (i64.wrap (v1+1))))))) (some (.inl (.l0 v0 (i64.wrap (v1+1)))))) (some (.inr ([],AV.tup [iV (iN (TY iV v0).length),T4 (TY iV v0),iV 0])))
def Jf(g:List (List Int))(sh:List Bool):GE->Option (GE⊕Ret) | .l0 v0 v1=>Hl g sh v0 v1
theorem gir_ct(g:List (List Int))(sh:List Bool)(r:Ret)(h:Ac (Jf g sh) (Jw g sh) r):CT T5 104 ([]) ([.lst (gL g),.lst (boL sh)]) r.1 r.2:=
 CT.mach (fn:=Tryz.f104) (c:=zB Tryz.f104) (S:=(girSt g sh)) (hd:=GE.ctorIdx) Tryz.func104 (by kernel_rfl) (nL rfl)
  (fun s o ho=>match s,ho with
 | .l0 v0 v1,ho=>Scr.ok (X:=Hl g sh v0 v1) ho mix (
 .rn 0 [] [] [] [] (al (u2 (u2 (u2 (al t3))))) <|
 .br (fun a0=>
 .gu fun a1=>
 .gu fun a2=>
 .gu fun a3=>
 have c0:=th_c g (sh) v1 a1 a2 a3;
 .rn 0 [41] [] [(26,hK c0 [] [])] [] (aj a0 (al (u2 (u2 (u2 (aj (ak (k5 (al (c0)))) s2)))))) <|
 .br (fun a4=>
  .br (fun a5=>
  .lp [61,69] [] [] [] [] [] [0,1,8,9] (aj (aj (u2 (u2 (u2 (u2 (ag a4 (ag a4 (ag a4 (ag a4 (aj a5 (aj a5 (aj a5 (aj a5 (aj a5 (aj (aj a4 (aj a5 t2)) (al (aj a4 t2)))))))))))))))) (ak (aj (u2 s2) (al (u2 (u2 s2)))))) t5))
  (fun a5=>
  .rn 0 [61,68] [] [] [] (al (u2 (u2 (u2 (u2 (ag a4 (ag a4 (ag a4 (ag a4 (ag a5 (ag a5 (ag a5 (ag a5 (aj (aj a5 t3) (aj (aj a4 (aj a5 t2)) (al (aj a4 t2))))))))))))))))) <|
  .br (fun a6=>
   .lp [61,68,83] [] [] [] [] [] [0,1,8,9] (aj (aj a6 (aj (u2 s2) (al (u2 (u2 s2))))) t5))
  (fun a6=>
   .lp [61,68,82] [] [] [] [] [] [0,1,8,9] (aj (aj a6 (al (u2 (u2 s2)))) t5))))
 (fun a4=>
  .lp [60] [] [] [] [] [] [0,1,8,9] (aj (aj (u2 (u2 (u2 (u2 (aj a4 (aj a4 (aj a4 (aj a4 (k5 (aj a4 (al (aj a4 t2)))))))))))) (ak (al (u2 (u2 s2))))) t5)))
 (fun a0=>
 .rt [40] [] [] [] [] [] (aj (aj a0 (al (u2 (u2 (u2 (u2 (u2 t2))))))) (al t4)))) (by kernel_rfl)
  )
  (fun o ho=>Scr.ok (X:=Jw g sh) ho mix (
 .rn 0 [] [] [] [] (al t4) <|
 .gu fun a0=>
 .gu fun a1=>
 have c0:=chq_v a0 a1;
 .lp [] [] [(13,hK c0 [] [])] [] [(8,1000)] [] [0,1,8,9] (aj (aj (u2 (u2 (aj (ak (k3 (al (c0)))) s2))) (aj (u2 s2) (ak (u2 s2)))) t5)) (by kernel_rfl)) h
inductive D9 where | l0 (v0 v1:Int)
def rslSt(n:Aa)(sh:List Bool):D9->St | .l0 v0 v1=>St.mk 35 [(1,T4 (boL sh)),(2,AV.ptr 0 0 0),(5,iv v0),(6,iv v1)] [some (bK [Aj n] 8)]
def Lf(n:Aa)(sh:List Bool):Option (D9⊕Ret):=some (.inl (.l0 ((0:Int)) ((0:Int))))
def Gr(n:Aa)(sh:List Bool)(v0 v1:Int):Option (D9⊕Ret):=br (decide (v1<iN (TY sA n.ss).length)) (gu (0<=v1) <|el (n.ss) (v1.toNat) fun(x17:Av)=>br (x17.dep) (gu (Ao n) <|gu (sh.length=Am n) <|gu (0<=v1/\v1<iN n.ss.length) <|br (opB n sh v1) (el (n.ss) (v1.toNat) fun(x30:Av)=>some (.inl (.l0 (i64.wrap (v0+x30.k)) (i64.wrap (v1+1))))) (some (.inl (.l0 v0 (i64.wrap (v1+1)))))) (some (.inl (.l0 v0 (i64.wrap (v1+1)))))) (some (.inr ([],iV v0)))
def rslStep(n:Aa)(sh:List Bool):D9->Option (D9⊕Ret) | .l0 v0 v1=>Gr n sh v0 v1
theorem rsl_ct(n:Aa)(sh:List Bool)(r:Ret)(h:Ac (rslStep n sh) (Lf n sh) r):CT T5 105 ([]) ([Aj n,.lst (boL sh)]) r.1 r.2:=
 CT.mach (fn:=Tryz.f105) (c:=zB Tryz.f105) (S:=(rslSt n sh)) (hd:=D9.ctorIdx) Tryz.func105 (by kernel_rfl) (nL rfl)
  (fun s o ho=>match s,ho with
 | .l0 v0 v1,ho=>Scr.ok (X:=Gr n sh v0 v1) ho mix (
 .rn 0 [] [] [] [] (al (u2 (u2 (u2 (u2 (al t3)))))) <|
 .br (fun a0=>
 .gu fun a1=>
 .el fun x17 a2=>
 .br (fun a3=>
  .gu fun a4=>
  .gu fun a5=>
  .gu fun a6=>
  have c0:=IU n (sh) v1 a4 a5 a6;
  .rn 0 [23,41] [(17,sA x17)] [(24,hK c0 [] [])] [] (aj a0 (al (u2 (u2 (u2 (aj (k2 (aj a1 (Af (f:=sA) a2))) (u2 (u2 (u2 (ag a3 (ag a3 (ag a3 (aj (aj a3 (k3 (aj t9 (k2 (al (c0)))))) (al (aj a3 t2))))))))))))))) <|
  .br (fun a7=>
  .el fun x30 a8=>
  .lp [41,51] [(30,sA x30)] [] [] [] [0] [1,2,5,6] (aj (aj a7 (aj (u2 (u2 (u2 (u2 (aj (k2 (aj a1 (Af (f:=sA) a8))) (u2 (u2 (aj t3 s2)))))))) (al (u2 (u2 s2))))) t6))
  (fun a7=>
  .lp [41,50] [] [] [] [] [0] [1,2,5,6] (aj (aj a7 (al (u2 (u2 s2)))) t6)))
 (fun a3=>
  .lp [23,40] [(17,sA x17)] [] [] [] [0] [1,2,5,6] (aj (aj a0 (aj (u2 (u2 (u2 (aj (k2 (aj a1 (Af (f:=sA) a2))) (u2 (u2 (u2 (aj a3 (aj a3 (aj a3 (aj a3 (al (aj a3 t2))))))))))))) (ak (al (u2 (u2 s2)))))) t6)))
 (fun a0=>
 .rt [22] [] [] [] [] [] (aj (aj a0 (al (u2 s2))) t2))) (by kernel_rfl)
  )
  (fun o ho=>Scr.ok (X:=Lf n sh) ho mix (
 .lp [] [] [] [] [] [0] [1,2,5,6] (aj (ag t2 (u2 s2)) t6)) (by kernel_rfl)) h
theorem gir_ex{g:List (List Int)}(hg:VG g){sh:List Bool}(hs:sh.length=g.length):∃p:{l:List Int // l.length<=60},Ac (Jf g sh) (Jw g sh) (([],.tup [.int .i64 (iN p.1.length),lI p.1,.int .i64 0]):Ret):=by
 have hl:=hg.len;have hgl:=Cm g;have e0:∀(m i:Nat) (l:List Int),i+m=g.length->l.length<=60->∃p:{l:List Int // l.length<=60},Ac (Jf g sh) (some (.inl (.l0 l (i:Int)))) (([],.tup [.int .i64 (iN p.1.length),lI p.1,.int .i64 0]):Ret):=by
  intro m;induction m with
  | zero=>intro i l hi hll;refine AD (show Jf g sh (.l0 l i)=Hl g sh l i from rfl) ?_;unfold Hl;rw[Ad (S7 (by simp only[iN];omega)),S5];exact⟨⟨l,hll⟩,.ret _⟩
  | succ m ih=>intro i l hi hll;refine AD (show Jf g sh (.l0 l i)=Hl g sh l i from rfl) ?_;have ht:=th_p (hg.ok hs) (Int.natCast_nonneg i) (by omega);unfold Hl;rw[Ag (S8 (by simp only[iN];omega)),Ab (hg.ok hs),Ab (by omega),Ab (by simp only[iN];omega),zW i (by omega)];exact Aq (fun _=>Aq (fun _=>ih (i+1) _ (by omega) ht) fun _=>Aq (fun _=>ih (i+1) _ (by omega) ht) fun _=>ih (i+1) _ (by omega) hll) fun _=>ih (i+1) _ (by omega) hll
 unfold Jw;exact Ah hg (Ah hs (e0 g.length 0 [] (Th _) (Te _)))
theorem PV(g:List (List Int))(sh:List Bool):∃l:List Int,VG g->sh.length=g.length->l.length<=60/\CT T5 104 [] [.lst (gL g),.lst (boL sh)] [] (.tup [.int .i64 (iN l.length),lI l,.int .i64 0]):=by
 by_cases h:VG g/\sh.length=g.length
 .obtain⟨l,hd⟩:=gir_ex h.1 h.2;exact⟨l.1,fun _ _=>⟨l.2,gir_ct g sh _ hd⟩⟩
 .exact⟨[],fun a b=>absurd ⟨a,b⟩ h⟩
@[irreducible] def giL(g:List (List Int))(sh:List Bool):List Int:=Classical.choose (PV g sh)
theorem CT.any1{f:FuncId}{hin hout:List (Option Blk)}{args L:List AV}{a c:AV}(h:CT T5 f hin args hout (.tup [a,.lst L,c])):CT T5 f hin args hout (.tup [a,.any,c]):=h.less fun φ A w v hv=>by
 cases hv with
 | imm _ _ h=>cases h
 | tup cs vs hl hh=>
  refine .tup _ vs (by simpa using hl) fun i c u hc hu=>?_
  match i,hc with
  | 0,hc=>exact hh 0 c u hc hu
  | 1,hc=>simp at hc;subst hc;exact(show BX (.lst L) .any from .any rfl).2 _ _ _ _ (hh 1 _ u rfl hu)
  | 2,hc=>exact hh 2 c u hc hu
  | i+3,hc=>simp at hc
theorem gi_c{g:List (List Int)}(h:VG g){sh:List Bool}(hs:sh.length=g.length):CT T5 104 [] [.lst (gL g),.lst (boL sh)] [] (.tup [.int .i64 (iN (giL g sh).length),.any,.int .i64 0]):=by unfold giL;exact CT.any1 (TE (PV g sh) h hs).2
def slT(n:Aa)(sh:List Bool)(i:Nat):Int:=if (n.ss.getD i s0).dep=true/\opB n sh (i:Int)=true then (n.ss.getD i s0).k else 0
def slI(n:Aa)(sh:List Bool):Nat->Int | 0=>0 | i+1=>slI n sh i+slT n sh i
def slS(n:Aa)(sh:List Bool):Int:=slI n sh n.ss.length
theorem Nm{n:Aa}(hv:Ao n)(sh:List Bool){i:Nat}(hi:i<n.ss.length):0<=slT n sh i/\slT n sh i<=1000:=by have hk:=Bi.1 (hv.spu i _ (AA s0 hi)).hk;unfold slT;split<;>omega
theorem QD{n:Aa}(hv:Ao n)(sh:List Bool):∀i,i<=n.ss.length->0<=slI n sh i/\slI n sh i<=1000 * i:=by
 intro i;induction i with
 | zero=>intro _;exact⟨Int.le_refl _,Int.le_refl _⟩
 | succ i ih=>intro hi;have h1:=ih (by omega);have h2:=Nm hv sh (i:=i) (by omega);show 0<=slI n sh i+slT n sh i/\slI n sh i+slT n sh i<=_;omega
theorem rsl_c{n:Aa}(hv:Ao n){sh:List Bool}(hl:sh.length=Am n):CT T5 105 [] [Aj n,.lst (boL sh)] [] (.int .i64 (slS n sh)):=by
 refine rsl_ct n sh ([],_) ?_;have hn:(TY sA n.ss).length=n.ss.length:=S5 _;have hss:n.ss.length<=100000:=by have:=hv.ns;omega
 unfold Lf;refine Bq (fun j=>D9.l0 (slI n sh j) (j:Int)) n.ss.length (fun j hj hr=>.to ?_ hr) (.to ?_ (.ret _))
 .show Gr n sh (slI n sh j) j=_;have hs:=AA s0 hj;have hb:=QD hv sh j (by omega);have ht:=Nm hv sh hj;unfold Gr;rw[Ag (S8 (by rw[hn];simp only[iN];omega)),Ab (by omega),Tb,An hs,zW j (by omega)];show _=some (Sum.inl (D9.l0 (slI n sh j+slT n sh j) ((j+1:Nat):Int)));unfold slT at ht ⊢
  cases hd:(n.ss.getD j s0).dep with
  | false=>rw[Ad rfl,S1 (fun h=>by cases h.1),Int.add_zero]
  | true=>
   rw[Ag rfl,Ab hv,Ab hl,Ab ⟨by omega,by simp only[iN];omega⟩];cases ho:opB n sh (j:Int) with
   | false=>rw[Ad rfl,S1 (fun h=>by cases h.2),Int.add_zero]
   | true=>rw[hd,ho,S0 ⟨rfl,rfl⟩] at ht;rw[Ag rfl,An hs,S0 ⟨rfl,rfl⟩,EV (by omega) (by omega)]
 .show Gr n sh (slI n sh n.ss.length) n.ss.length=_;unfold Gr;rw[Ad (S7 (by rw[hn];simp only[iN];omega))];rfl
def bsB(bs:List Az):Blk:={es:=bs.map bA,z:=3}
def gB(g:List (List Int)):Blk:={es:=gL g,z:=1}
def nJ(bs:List Az)(g:List (List Int)):Blk:={es:=[.agg [.sl 2 0 bs.length,.sl 3 0 g.length,.nils,.nils,.int .i64 0,.int .i64 0,.int .i64 0,.int .i64 0]],z:=8,flat:=false}
def J5(n:Aa):Option (Empty⊕Ret):=gu (Rows n.nx) <|gu (Ao n) <|gu (1 * iN (TY bA n.bs).length<=281474976710656) <|gu (iN (TY bA n.bs).length<=9223372036854775807) <|gu (VG n.nx) <|gu ((TZ (TY bA n.bs).length false).length=n.nx.length) <|gu (1 * iN (Am n)<=281474976710656) <|gu (iN (Am n)<=9223372036854775807) <|br (decide (0<iN (giL n.nx (TZ (TY bA n.bs).length false)).length)) (some (.inr ([],AV.tup [AV.agg [iV (iN (giL n.nx (TZ (TY bA n.bs).length false)).length),AV.any,iV (slS n (TZ (iN (Am n)).toNat false)),iV (if slS n (TZ (iN (Am n)).toNat false)<i64.wrap (iN (giL n.nx (TZ (TY bA n.bs).length false)).length-1) then slS n (TZ (iN (Am n)).toNat false) else i64.wrap (iN (giL n.nx (TZ (TY bA n.bs).length false)).length-1))],iV 0]))) (some (.inr ([],AV.tup [AV.agg [iV (iN (giL n.nx (TZ (TY bA n.bs).length false)).length),AV.any,iV (slS n (TZ (iN (Am n)).toNat false)),iV (slS n (TZ (iN (Am n)).toNat false))],iV 0])))
theorem flt_ct(n:Aa)(r:Ret)(h:Ac emT (J5 n) r):CT T5 52 ([]) ([Aj n]) r.1 r.2:=
 CT.mach (fn:=Tryz.f52) (c:=zB Tryz.f52) (S:=emS) (hd:=emH) Tryz.func52 (by kernel_rfl) (nL rfl)
  (fun s o ho=>match s,ho with
   | x,_=>x.elim)
  (fun o ho=>Scr.ok (X:=J5 n) ho mix (
 .rn 0 [] [] [] [] (al (u2 t3)) <|
 .gu fun a0=>
 .gu fun a1=>
 have c0:=P6 a0 a1;
 .rn 0 [] [] [(9,hK c0 [] [])] [] (al (u2 (aj (ak (aj t9 (al (c0)))) s2))) <|
 .gu fun a2=>
 .gu fun a3=>
 .gu fun a4=>
 .gu fun a5=>
 have c1:=gi_c a4 a5;
 .rn 0 [] [] [(19,hK c1 [] [2])] [] (ak (al (u2 (u2 (u2 (u2 (u2 (aj (k2 (aj (show 0<=iN (TY bA n.bs).length from(Int.natCast_nonneg _)) (aj (show iN (TY bA n.bs).length<=iN (TY bA n.bs).length by omega) (aj a2 a3)))) (aj (k3 (aj (show(TY bA n.bs).length=(TZ (TY bA n.bs).length (bV false)).length by simp) (aj (show CT T5 104 [] [T4 (gL n.nx),T4 (TZ (TY bA n.bs).length (bV false))] [] (AV.tup [iv (iN (giL n.nx (TZ (TY bA n.bs).length false)).length),AV.any,iv 0]) from CT.eqs (c1) (by first | (simp only[boL,Tf,TU,List.map_take,List.map_drop,List.map_replicate,List.nil_append]<;>rfl) | (simp[gL,boL,lI,sA,bA]<;>rfl)) (by first | (simp only[boL,Tf,TU,List.map_take,List.map_drop,List.map_replicate,List.nil_append]<;>rfl) | (simp[gL,boL,lI,sA,bA]<;>rfl))) (show ∀(blk:Blk),blk∈[]->A4 blk from(by intro _ h;cases h))))) (u2 (u2 (u2 (u2 (u2 (u2 s2))))))))))))))) <|
 .gu fun a6=>
 .gu fun a7=>
 have c2:=FB a1;
 have c3:=rsl_c a1 (show(TZ (iN (Am n)).toNat false).length=Am n by simp);
 .rn 2 [] [] [(27,hK c2 [] []),(29,hK c3 [] [3])] [] (aj (u2 (u2 (u2 (u2 (aj (ak (aj t9 (al (c2)))) (aj (k2 (aj (show 0<=iN (Am n) by simp) (aj (show iN (Am n)<=iN (Am n) by omega) (aj a6 a7)))) (aj (k2 (aj t9 (aj (show(iN (Am n)).toNat=(TZ (iN (Am n)).toNat (bV false)).length by simp) (aj (show CT T5 105 [] [AV.agg [T4 (TY bA n.bs),T4 (gL n.nx),T4 (TY sA n.ss),T4 (TY iv n.rs),iv n.q,iv n.a,iv n.d,iv n.p],T4 (TZ (iN (Am n)).toNat (bV false))] [] (iv (slS n (TZ (iN (Am n)).toNat false))) from CT.eqs (c3) (by first | (simp only[boL,Tf,TU,List.map_take,List.map_drop,List.map_replicate,List.nil_append]<;>rfl) | (simp[gL,boL,lI,sA,bA]<;>rfl)) (by first | (simp only[boL,Tf,TU,List.map_take,List.map_drop,List.map_replicate,List.nil_append]<;>rfl) | (simp[gL,boL,lI,sA,bA]<;>rfl))) (show ∀(blk:Blk),blk∈[]->A4 blk from(by intro _ h;cases h)))))) (aj t4 (ak (al (k2 n11))))))))))) (aj (u2 (u2 (u2 (al t3)))) (al (u2 s2)))) <|
 .br (fun a8=>
 .rt [71] [] [] [] [] [] (aj (aj a8 (aj (u2 (u2 (u2 (u2 (aj t3 (u2 (al t3))))))) (al (u2 (aj (k2 n11) t2))))) (al (aj t5 t2))))
 (fun a8=>
 .rt [70] [] [] [] [] [] (aj (aj a8 (al (u2 (aj (k2 n11) t2)))) (al (aj t5 t2))))) (by kernel_rfl)) h
inductive HB where | l0 (v0:List Int) (v1:Bool) (v2:Int)
def Fa(l:List Int)(x:Int):HB->St | .l0 v0 v1 v2=>St.mk 42 [(0,T4 (TY iv l)),(1,iv x),(5,AV.sl 0 0 v0.length),(6,bV v1),(7,iv v2)] [some (bK (TY iv v0) 1)]
def LV(l:List Int)(x:Int):Option (HB⊕Ret):=some (.inl (.l0 ([]) (false) ((0:Int))))
def GF(l:List Int)(x:Int)(v0:List Int)(v1:Bool)(v2:Int):Option (HB⊕Ret):=br (decide (v2<iN (TY iV l).length)) (br (!v1) (gu (0<=v2) <|el l (v2.toNat) fun(x19:Int)=>br (decide (x<x19)) (gu ((TY iV v0).length+[iV x].length<=9223372036854775807) <|gu (((TY iV v0).length+[iV x].length) * 8<=140737488355328) <|el l (v2.toNat) fun(x31:Int)=>gu ((TY iV v0++[iV x]).length+[iV x31].length<=9223372036854775807) <|gu (((TY iV v0++[iV x]).length+[iV x31].length) * 8<=140737488355328) <|some (.inl (.l0 (v0++[x]++[x31]) (true) (i64.wrap (v2+1))))) (el l (v2.toNat) fun(x31:Int)=>gu ((TY iV v0).length+[iV x31].length<=9223372036854775807) <|gu (((TY iV v0).length+[iV x31].length) * 8<=140737488355328) <|some (.inl (.l0 (v0++[x31]) v1 (i64.wrap (v2+1)))))) (gu (0<=v2) <|el l (v2.toNat) fun(x31:Int)=>gu ((TY iV v0).length+[iV x31].length<=9223372036854775807) <|gu (((TY iV v0).length+[iV x31].length) * 8<=140737488355328) <|some (.inl (.l0 (v0++[x31]) v1 (i64.wrap (v2+1)))))) (br (!v1) (gu ((TY iV v0).length+[iV x].length<=9223372036854775807) <|gu (((TY iV v0).length+[iV x].length) * 8<=140737488355328) <|some (.inr ([],T4 (TY iV v0++[iV x])))) (some (.inr ([],T4 (TY iV v0)))))
def PL(l:List Int)(x:Int):HB->Option (HB⊕Ret) | .l0 v0 v1 v2=>GF l x v0 v1 v2
theorem ins_ct(l:List Int)(x:Int)(r:Ret)(h:Ac (PL l x) (LV l x) r):CT T5 102 ([]) ([lI l,.int .i64 x]) r.1 r.2:=
 CT.mach (fn:=Tryz.f102) (c:=zB Tryz.f102) (S:=(Fa l x)) (hd:=HB.ctorIdx) Tryz.func102 (by kernel_rfl) (nL rfl)
  (fun s o ho=>match s,ho with
 | .l0 v0 v1 v2,ho=>Scr.ok (X:=GF l x v0 v1 v2) ho mix (
 .rn 0 [] [] [] [] (al (u2 (u2 (u2 (al t3))))) <|
 .br (fun a0=>
 .br (fun a1=>
  .gu fun a2=>
  .el fun x19 a3=>
  .rn 0 [23,33] [(19,iv x19)] [] [] (aj a0 (al (u2 (u2 (u2 (ag a1 (ag a1 (aj (aj a1 (k2 (aj a2 (Af (f:=iv) a3)))) (ag a1 (ag a1 (aj (aj a1 t3) (al (aj a1 t2))))))))))))) <|
  .br (fun a4=>
  .gu fun a5=>
  .gu fun a6=>
  .rn 0 [33,47] [] [] [] (aj a4 (al (u2 (u2 (u2 (aj (k2 (aj (show(TY iv v0).length=v0.length by simp) (aj (aj (show nat_lit 1=nat_lit 1 from rfl) (show 1<=[iv x].length by simp)) (aj a5 a6)))) (u2 t2))))))) <|
  .el fun x31 a7=>
  .gu fun a8=>
  .gu fun a9=>
  .lq [33] [(31,iv x31)] [] [] [] [4] [0,1,5,6,7] (up [(5,AV.sl 0 0 ((TY iv v0++[iv x]).length+[iv x31].length))] [(0,TY iv v0++[iv x]++[iv x31])] (Fa l x (.l0 (v0++[x]++[x31]) (true) (i64.wrap (v2+1))))) (aj (aj (u2 (u2 (u2 (aj (k2 (aj a2 (Af (f:=iv) a7))) (u2 (u2 (aj (k2 (aj (show(TY iv v0++[iv x]).length=(TY iv v0).length+[iv x].length by simp) (aj (aj (show nat_lit 1=nat_lit 1 from rfl) (show 1<=[iv x31].length by simp)) (aj a8 a9)))) s2))))))) (al (u2 (u2 s2)))) t7) (by simp[up,upF,upV,upH,upB,Fa,gL,boL,lI]))
  (fun a4=>
  .el fun x31 a5=>
  .gu fun a6=>
  .gu fun a7=>
  .lq [33,46] [(31,iv x31)] [] [] [] [2] [0,1,5,6,7] (up [(5,AV.sl 0 0 ((TY iv v0).length+[iv x31].length))] [(0,TY iv v0++[iv x31])] (Fa l x (.l0 (v0++[x31]) v1 (i64.wrap (v2+1))))) (aj (aj a4 (aj (u2 (u2 (u2 (aj (k2 (aj a2 (Af (f:=iv) a5))) (u2 (u2 (aj (k2 (aj (show(TY iv v0).length=v0.length by simp) (aj (aj (show nat_lit 1=nat_lit 1 from rfl) (show 1<=[iv x31].length by simp)) (aj a6 a7)))) s2))))))) (al (u2 (u2 s2))))) t7) (by simp[up,upF,upV,upH,upB,Fa,gL,boL,lI])))
 (fun a1=>
  .rn 0 [23,32] [] [] [] (aj a0 (al (u2 (u2 (u2 (aj a1 (aj a1 (aj a1 (aj a1 (aj a1 (aj a1 (al (aj a1 t2))))))))))))) <|
  .gu fun a2=>
  .el fun x31 a3=>
  .gu fun a4=>
  .gu fun a5=>
  .lq [32] [(31,iv x31)] [] [] [] [2] [0,1,5,6,7] (up [(5,AV.sl 0 0 ((TY iv v0).length+[iv x31].length))] [(0,TY iv v0++[iv x31])] (Fa l x (.l0 (v0++[x31]) v1 (i64.wrap (v2+1))))) (aj (ak (aj (u2 (u2 (u2 (aj (k2 (aj a2 (Af (f:=iv) a3))) (u2 (u2 (aj (k2 (aj (show(TY iv v0).length=v0.length by simp) (aj (aj (show nat_lit 1=nat_lit 1 from rfl) (show 1<=[iv x31].length by simp)) (aj a4 a5)))) s2))))))) (al (u2 (u2 s2))))) t7) (by simp[up,upF,upV,upH,upB,Fa,gL,boL,lI])))
 (fun a0=>
 .rn 0 [22] [] [] [] (aj a0 (al (u2 s2))) <|
 .br (fun a1=>
  .gu fun a2=>
  .gu fun a3=>
  .rt [73] [] [] [] [] [2] (aj (aj a1 (aj (u2 (u2 (u2 (aj (k2 (aj (show(TY iv v0).length=v0.length by simp) (aj (aj (show nat_lit 1=nat_lit 1 from rfl) (show 1<=[iv x].length by simp)) (aj a2 a3)))) s2)))) (al (u2 s2)))) (al (show(TY iv v0).length+[iv x].length=(TY iv v0++[iv x]).length by simp))))
 (fun a1=>
  .rt [72] [] [] [] [] [0] (aj (aj a1 (al (u2 s2))) (al (show v0.length=(TY iv v0).length by simp)))))) (by kernel_rfl)
  )
  (fun o ho=>Scr.ok (X:=LV l x) ho mix (
 .lp [] [] [] [] [(5,1)] [0] [0,1,5,6,7] (aj (u2 (u2 (u2 s2))) t7)) (by kernel_rfl)) h
def flN(bs:List Az)(g:List (List Int))(ss:List Av)(q a d p:Int):Aa:=⟨bs,g,ss,[],q,a,d,p⟩
theorem Ao.vg{n:Aa}(hv:Ao n):VG n.nx:=by have h1:=hv.nb24;have h2:=hv.nx;refine⟨by omega,fun v hlt=>?_⟩;rw[h2];exact(hv.blk v _ (S2 (show v<n.bs.length by omega))).nx
theorem Hw(n:Aa):∃t:Int×Int×Int,Ao n->Rows n.nx->t.2.2<=slS n (TZ (Am n) false)/\CT T5 52 [] [Aj n] [] (.tup [.agg [.int .i64 t.1,.any,.int .i64 t.2.1,.int .i64 t.2.2],.int .i64 0]):=by
 by_cases hh:Ao n/\Rows n.nx
 .obtain⟨hv,hr⟩:=hh;have h1:=hv.nb24;have hc:=hv.cel;have hs:(TZ (TY bA n.bs).length false).length=n.nx.length:=by rw[Tm,S5,hv.nx]
  have key:∃t:{t:Int×Int×Int // t.2.2<=slS n (TZ (Am n) false)},Ac emT (J5 n) (([],.tup [.agg [.int .i64 t.1.1,.any,.int .i64 t.1.2.1,.int .i64 t.1.2.2],.int .i64 0]):Ret):=by
   unfold J5;rw[show (iN (Am n)).toNat=Am n from rfl];refine Ah hr (Ah hv (Ah (by simp only[iN,S5];omega) (Ah (by simp only[iN,S5];omega) (Ah hv.vg (Ah hs (Ah (by simp only[iN];omega) (Ah (by simp only[iN];omega) (Aq (fun _=>?_) fun _=>⟨⟨(_,_,_),Int.le_refl _⟩,.ret _⟩))))))));have mn:∀a b:Int,(if a<b then a else b)<=a:=fun a b=>by split<;>omega
   exact⟨⟨(_,_,_),mn _ _⟩,.ret _⟩
  obtain⟨t,ht⟩:=key;exact⟨t.1,fun _ _=>⟨t.2,flt_ct n _ ht⟩⟩
 .exact⟨(0,0,0),fun a b=>absurd ⟨a,b⟩ hh⟩
@[irreducible] def flE(n:Aa):Int:=(Classical.choose (Hw n)).1
@[irreducible] def flS(n:Aa):Int:=(Classical.choose (Hw n)).2.1
@[irreducible] def flC(n:Aa):Int:=(Classical.choose (Hw n)).2.2
theorem fl_p{n:Aa}(hv:Ao n)(hr:Rows n.nx):flC n<=slS n (TZ (Am n) false):=by unfold flC;exact(TE (Hw n) hv hr).1
theorem fl_c(bs:List Az)(g:List (List Int))(ss:List Av)(q a d p:Int)(hv:Ao (flN bs g ss q a d p))(hr:Rows g):CT T5 52 [] [.agg [.lst (bs.map bA),.lst (gL g),.lst (ss.map sA),.nils,.int .i64 q,.int .i64 a,.int .i64 d,.int .i64 p]] [] (.tup [.agg [.int .i64 (flE (flN bs g ss q a d p)),.any,.int .i64 (flS (flN bs g ss q a d p)),.int .i64 (flC (flN bs g ss q a d p))],.int .i64 0]):=by
 have h:=(TE (Hw (flN bs g ss q a d p)) hv hr).2;unfold flE flS flC;refine CT.lessArgs h rfl fun i a' ha=>?_
 match i,ha with
 | 0,ha=>
  simp at ha;subst ha;refine⟨_,rfl,BX.agg rfl fun j c' hj=>?_⟩;match j,hj with
  | 0,hj=>simp at hj;subst hj;exact⟨_,rfl,.refl _⟩
  | 1,hj=>simp at hj;subst hj;exact⟨_,rfl,.refl _⟩
  | 2,hj=>simp at hj;subst hj;exact⟨_,rfl,.refl _⟩
  | 3,hj=>simp at hj;subst hj;exact⟨.nils,rfl,.nilL⟩
  | 4,hj=>simp at hj;subst hj;exact⟨_,rfl,.refl _⟩
  | 5,hj=>simp at hj;subst hj;exact⟨_,rfl,.refl _⟩
  | 6,hj=>simp at hj;subst hj;exact⟨_,rfl,.refl _⟩
  | 7,hj=>simp at hj;subst hj;exact⟨_,rfl,.refl _⟩
  | j+8,hj=>simp at hj
 | i+1,ha=>simp at ha
def Bl(x:Int):List Int->List Int | []=>[x] | y::t=>if x<y then x::y::t else y::Bl x t
theorem PC(x:Int):∀l,(Bl x l).length=l.length+1 | []=>rfl | y::t=>by unfold Bl;split<;>simp[PC x t]
theorem N7(x:Int){w:Int}:∀{l},w∈Bl x l->w=x\/w∈l
 | [],h=>.inl (by simpa [Bl] using h)
 | y::t,h=>by
  unfold Bl at h;split at h
  .simpa using h
  .rcases Tv.1 h with h | h
   .exact .inr (by simp[h])
   .exact(N7 x h).imp id fun h=>Tj _ h
theorem OJ(x:Int):∀{l},l.Pairwise (· < ·)->x∉l->(Bl x l).Pairwise (· < ·)
 | [],_,_=>by simp[Bl]
 | y::t,h,hx=>by
  have h1:=List.pairwise_cons.1 h;unfold Bl;split
  .rename_i hlt;exact List.pairwise_cons.2 ⟨fun z hz=>(Tv.1 hz).elim (fun e=>e ▸ hlt) fun e=>Int.lt_trans hlt (h1.1 z e),h⟩
  .refine List.pairwise_cons.2 ⟨fun z hz=>?_,OJ x h1.2 fun hm=>hx (Tj _ hm)⟩;rcases N7 x hz with e | e
   .subst e;have:z≠y:=fun e=>hx (by simp[e])
    omega
   .exact h1.1 z e
theorem ins_c(l:List Int)(x:Int)(hl:l.length<=1000):CT T5 102 [] [lI l,.int .i64 x] [] (lI (Bl x l)):=by
 refine ins_ct l x ([],_) ?_;have key:∀(m i:Nat) (o:List Int) (b:Bool),i+m=l.length->o.length<=i+b.toNat->(if b=true then o++l.drop i else o++Bl x (l.drop i))=Bl x l->Ac (PL l x) (some (.inl (.l0 o b (i:Int)))) (([],lI (Bl x l)):Ret):=by
  intro m;induction m with
  | zero=>
   intro i o b hi ho he;rw[List.drop_of_length_le (by omega)] at he;refine .to (show GF l x o b i=some (.inr ([],lI (Bl x l))) from ?_) (.ret _);unfold GF;rw[Ad (S7 (by simp only[iN,S5];omega)),<-he];cases b with
   | true=>rw[Ad (show(!true)=false from rfl),S0 rfl,List.append_nil];rfl
   | false=>rw[show false.toNat=0 from rfl] at ho;rw[Ag (show(!false)=true from rfl),S1 (by decide),Ab (by simp only[S5,TF];omega),Ab (by simp only[S5,TF];omega)];simp[lI,Bl]
  | succ m ih=>
   intro i o b hi ho he;have e:=AA 0 (show i<l.length by omega);have hd:l.drop i=l.getD i 0::l.drop (i+1):=by rw[F3 (show i<l.length by omega)];exact TQ (by omega)
   rw[hd] at he;refine .to (show GF l x o b i=_ from rfl) ?_;unfold GF;rw[Ag (S8 (by simp only[iN,S5];omega))];cases b with
   | true=>
    rw[show true.toNat=1 from rfl] at ho;rw[Ad (show(!true)=false from rfl),Ab (by omega),Tb,An e,Ab (by simp only[S5,TF];omega),Ab (by simp only[S5,TF];omega),zW i (by omega)];refine ih (i+1) _ true (by omega) (by simp;omega) ?_;rw[S0 rfl] at he ⊢
    rw[<-he];simp
   | false=>
    rw[S1 (by decide)] at he;rw[show false.toNat=0 from rfl] at ho;rw[Ag (show(!false)=true from rfl),Ab (by omega),Tb,An e,zW i (by omega)];rw[show Bl x (l.getD i 0::l.drop (i+1))=if x<l.getD i 0 then x::l.getD i 0::l.drop (i+1) else l.getD i 0::Bl x (l.drop (i+1)) from rfl] at he;by_cases hlt:x<l.getD i 0
    .rw[Ag (S8 hlt),Ab (by simp only[S5,TF];omega),Ab (by simp only[S5,TF];omega),An e,Ab (by simp only[Tl,S5,TF];omega),Ab (by simp only[Tl,S5,TF];omega)];refine ih (i+1) _ true (by omega) (by simp;omega) ?_;rw[S0 hlt] at he;rw[S0 rfl,<-he];simp
    .rw[Ad (S7 hlt),An e,Ab (by simp only[S5,TF];omega),Ab (by simp only[S5,TF];omega)];refine ih (i+1) _ false (by omega) (by simp;omega) ?_;rw[S1 hlt] at he;rw[S1 (by decide),<-he];simp
 unfold LV;exact key l.length 0 [] false (Th _) (Te _) (by simp)
inductive E2 where | l0 (v0:Int) (v1:List (List Int)) | l1 (v0:Int) (v1:Nat) (v2:List (List Int))
def Fg(L:List Int)(kk:Nat)(bs:List Az)(g:List (List Int)):E2->St | .l0 v0 v1=>St.mk 98 [(0,AV.ptr 0 0 0),(1,AV.ptr 1 0 0),(4,iv (iN bs.length)),(5,iv v0)] [some (AE L kk),some (Blk.mk [AV.agg [AV.sl 2 0 bs.length,AV.sl 3 0 v1.length,AV.nils,AV.nils,iv 0,iv 0,iv 0,iv 0]] 8 false true none),some (bK (TY bA bs) 3),some (bK (TY lI v1) 1)] | .l1 v0 v1 v2=>St.mk 98 [(0,AV.ptr 0 0 0),(1,AV.ptr 1 0 0),(4,iv (iN bs.length)),(6,iv v0)] [some (AE L v1),some (Blk.mk [AV.agg [AV.sl 2 0 bs.length,AV.sl 3 0 v2.length,AV.nils,AV.nils,iv 0,iv 0,iv 0,iv 0]] 8 false true none),some (bK (TY bA bs) 3),some (bK (TY lI v2) 1)]
def LU(L:List Int)(kk:Nat)(bs:List Az)(g:List (List Int)):Option (E2⊕Ret):=some (.inl (.l0 ((0:Int)) g))
def Hn(L:List Int)(kk:Nat)(bs:List Az)(g:List (List Int))(v0:Int)(v1:List (List Int)):Option (E2⊕Ret):=br (decide (v0<iN bs.length)) (br (decide (1<iN bs.length)) (gu (iN bs.length=0->False) <|gu (0<=v0) <|gu (v0<iN v1.length) <|gu ((0+v0.toNat).succ.le (TY lI v1).length) <|some (.inl (.l0 (i64.wrap (v0+1)) (v1.set (0+v0.toNat) [(i64.wrap (v0+1)).tmod (iN bs.length)])))) (gu (kk<9223372036854775807) <|some (.inl (.l1 (Ae L kk 4) (kk+1) v1)))) (gu (kk<9223372036854775807) <|some (.inl (.l1 (Ae L kk 4) (kk+1) v1)))
def HV(L:List Int)(kk:Nat)(bs:List Az)(g:List (List Int))(v0:Int)(v1:Nat)(v2:List (List Int)):Option (E2⊕Ret):=br (decide (0<v0)) (br (decide (2<iN bs.length)) (gu (v1<9223372036854775807) <|gu (v1+1<9223372036854775807) <|gu (v1+1+1<9223372036854775807) <|br (decide (0<Ae L (v1+1+1) 3)) (gu (iN bs.length=0->False) <|br (Ae L v1 (iN bs.length) != (i64.wrap (Ae L v1 (iN bs.length)+2)).tmod (iN bs.length)) (gu (0<=Ae L v1 (iN bs.length)) <|gu (Ae L v1 (iN bs.length)<iN v2.length) <|el v2 (0+(Ae L v1 (iN bs.length)).toNat) fun(x67:List Int)=>gu (x67.length<=9223372036854775807) <|br (!AN x67 ((i64.wrap (Ae L v1 (iN bs.length)+2)).tmod (iN bs.length))) (el v2 (0+(Ae L v1 (iN bs.length)).toNat) fun(x79:List Int)=>br (decide (iN (TY iV x79).length<4)) (el v2 (0+(Ae L v1 (iN bs.length)).toNat) fun(x94:List Int)=>gu (x94.length<=1000) <|gu ((0+(Ae L v1 (iN bs.length)).toNat).succ.le (TY lI v2).length) <|some (.inl (.l1 (i64.wrap (v0-1)) (v1+1+1+1) (v2.set (0+(Ae L v1 (iN bs.length)).toNat) (Bl ((i64.wrap (Ae L v1 (iN bs.length)+2)).tmod (iN bs.length)) x94))))) (some (.inl (.l1 (i64.wrap (v0-1)) (v1+1+1+1) v2)))) (some (.inl (.l1 (i64.wrap (v0-1)) (v1+1+1+1) v2)))) (some (.inl (.l1 (i64.wrap (v0-1)) (v1+1+1+1) v2)))) (br (Ae L v1 (iN bs.length) != Ae L (v1+1) (iN bs.length)) (gu (0<=Ae L v1 (iN bs.length)) <|gu (Ae L v1 (iN bs.length)<iN v2.length) <|el v2 (0+(Ae L v1 (iN bs.length)).toNat) fun(x67:List Int)=>gu (x67.length<=9223372036854775807) <|br (!AN x67 (Ae L (v1+1) (iN bs.length))) (el v2 (0+(Ae L v1 (iN bs.length)).toNat) fun(x79:List Int)=>br (decide (iN (TY iV x79).length<4)) (el v2 (0+(Ae L v1 (iN bs.length)).toNat) fun(x94:List Int)=>gu (x94.length<=1000) <|gu ((0+(Ae L v1 (iN bs.length)).toNat).succ.le (TY lI v2).length) <|some (.inl (.l1 (i64.wrap (v0-1)) (v1+1+1+1) (v2.set (0+(Ae L v1 (iN bs.length)).toNat) (Bl (Ae L (v1+1) (iN bs.length)) x94))))) (some (.inl (.l1 (i64.wrap (v0-1)) (v1+1+1+1) v2)))) (some (.inl (.l1 (i64.wrap (v0-1)) (v1+1+1+1) v2)))) (some (.inl (.l1 (i64.wrap (v0-1)) (v1+1+1+1) v2))))) (some (.inr ([some (bK [AV.agg [T4 (TY iV L),iV (iN v1)]] 2),some (Blk.mk [AV.agg [AV.sl 2 0 bs.length,AV.sl 3 0 v2.length,AV.nils,AV.nils,iV 0,iV 0,iV 0,iV 0]] 8 false true none),some (bK (TY bA bs) 3),some (bK (TY lI v2) 1)],AV.tup [])))) (some (.inr ([some (bK [AV.agg [T4 (TY iV L),iV (iN v1)]] 2),some (Blk.mk [AV.agg [AV.sl 2 0 bs.length,AV.sl 3 0 v2.length,AV.nils,AV.nils,iV 0,iV 0,iV 0,iV 0]] 8 false true none),some (bK (TY bA bs) 3),some (bK (TY lI v2) 1)],AV.tup [])))
def CA(L:List Int)(kk:Nat)(bs:List Az)(g:List (List Int)):E2->Option (E2⊕Ret) | .l0 v0 v1=>Hn L kk bs g v0 v1 | .l1 v0 v1 v2=>HV L kk bs g v0 v1 v2
theorem rin_ct(L:List Int)(kk:Nat)(bs:List Az)(g:List (List Int))(r:Ret)(h:Ac (CA L kk bs g) (LU L kk bs g) r):CT T5 51 ([some (AE L kk),some (nJ bs g),some (bsB bs),some (gB g)]) ([.ptr 0 0 0,.ptr 1 0 0]) r.1 r.2:=
 CT.mach (fn:=Tryz.f51) (c:=zB Tryz.f51) (S:=(Fg L kk bs g)) (hd:=E2.ctorIdx) Tryz.func51 (by kernel_rfl) (nL rfl)
  (fun s o ho=>match s,ho with
 | .l0 v0 v1,ho=>Scr.ok (X:=Hn L kk bs g v0 v1) ho mix (
 .br (fun a0=>
 .rn 0 [35] [] [] [] (al (u2 (u2 (aj t3 (u2 (ag a0 (ag a0 (al (aj a0 t2))))))))) <|
 .br (fun a1=>
  .gu fun a2=>
  .gu fun a3=>
  .gu fun a4=>
  .gu fun a5=>
  .lq [35,41] [(32,T4 [])] [] [] [] [0,1,2,3] [0,1,4,5] (up [] [(1,[AV.agg [AV.sl 2 0 bs.length,AV.sl 3 0 v1.length,AV.nils,AV.nils,iv 0,iv 0,iv 0,iv 0]]),(3,(TY lI v1).set (0+v0.toNat) (T4 [iv ((i64.wrap (v0+1)).tmod (iN bs.length))]))] (Fg L kk bs g (.l0 (i64.wrap (v0+1)) (v1.set (0+v0.toNat) [(i64.wrap (v0+1)).tmod (iN bs.length)])))) (aj (aj a1 (aj (u2 (u2 (u2 (u2 (u2 (u2 (u2 (u2 (aj (k2 a2) (u2 (aj (k2 (aj a3 a4)) (al (k2 a5))))))))))))) (al (u2 (u2 s2))))) (k5 (aj (al t9) t3))) (by simp[up,upF,upV,upH,upB,Fg,gL,boL,lI,bA]))
 (fun a1=>
  .gu fun a2=>
  have c0:=AG (L) (kk) (4) a2;
  .lp [35,40] [] [(35,hK c0 [0] [])] [] [] [0,1,2,3] [0,1,4,6] (aj (aj a1 (al (u2 (aj (ak (k3 (al (c0)))) s2)))) (k5 (aj (al t9) t3)))))
 (fun a0=>
 .rn 0 [34] [] [] [] (al (u2 (u2 (aj t3 (u2 (aj a0 (aj a0 (al (aj a0 t2))))))))) <|
 .gu fun a1=>
 have c0:=AG (L) (kk) (4) a1;
 .lp [34] [] [(35,hK c0 [0] [])] [] [] [0,1,2,3] [0,1,4,6] (aj (ak (al (u2 (aj (ak (k3 (al (c0)))) s2)))) (k5 (aj (al t9) t3))))) (by kernel_rfl)
 | .l1 v0 v1 v2,ho=>Scr.ok (X:=HV L kk bs g v0 v1 v2) ho mix (
 .br (fun a0=>
 .rn 0 [77] [] [] [] (al (u2 (u2 (u2 (ag a0 (ag a0 (al (aj a0 t2)))))))) <|
 .br (fun a1=>
  .gu fun a2=>
  .gu fun a3=>
  have c0:=AG (L) v1 (iN bs.length) a2;
  have c1:=AG (L) (v1+1) (iN bs.length) a3;
  .rn 0 [77,83] [] [(46,hK c0 [0] []),(49,hK c1 [0] [])] [] (aj a1 (al (u2 (u2 (aj (k5 (al (c0))) (u2 (u2 (aj (k5 (al (c1))) (u2 s2))))))))) <|
  .gu fun a4=>
  have c2:=AG (L) (v1+1+1) (3) a4;
  .rn 0 [77] [] [(51,hK c2 [0] [])] [] (al (u2 (aj (ak (k3 (al (c2)))) s2))) <|
  .br (fun a5=>
  .gu fun a6=>
  .rn 0 [77,105] [] [] [] (aj a5 (al (u2 (u2 (u2 (aj (k2 a6) s2)))))) <|
  .br (fun a7=>
   .gu fun a8=>
   .gu fun a9=>
   .el fun x67 a10=>
   .gu fun a11=>
   .br (fun a12=>
   .el fun x79 a13=>
   have c3:=Dd x67 ((i64.wrap (Ae L v1 (iN bs.length)+2)).tmod (iN bs.length)) a11;
   .rn 0 [77,121,145] [(67,lI x67),(79,lI x79)] [(69,hK c3 [] [])] [] (al (u2 (u2 (aj t3 (u2 (ag a7 (ag a7 (ag a7 (ag a7 (ag a7 (aj (aj a7 (k2 (aj a8 a9))) (aj (aj a7 (ak (Af (f:=lI) a10))) (ag a7 (aj (aj a7 (ak (k3 (al (c3))))) (ag a7 (ag a7 (u2 (ag a12 (ag a12 (ag a12 (ag a12 (ag a12 (aj (aj a12 (k2 (aj a8 a9))) (aj (aj a12 (ak (Af (f:=lI) a13))) (ag a12 (ag a12 (al (aj a12 t2)))))))))))))))))))))))))))) <|
   .br (fun a14=>
    .el fun x94 a15=>
    .gu fun a16=>
    .gu fun a17=>
    have c4:=ins_c x94 ((i64.wrap (Ae L v1 (iN bs.length)+2)).tmod (iN bs.length)) a16;
    .lq [77,121,145,165] [(94,lI x94)] [(96,hK c4 [] [])] [] [] [0,1,2,3] [0,1,4,6] (up [] [(1,[AV.agg [AV.sl 2 0 bs.length,AV.sl 3 0 v2.length,AV.nils,AV.nils,iv 0,iv 0,iv 0,iv 0]]),(3,(TY lI v2).set (0+(Ae L v1 (iN bs.length)).toNat) (T4 (TY iv (Bl ((i64.wrap (Ae L v1 (iN bs.length)+2)).tmod (iN bs.length)) x94))))] (Fg L kk bs g (.l1 (i64.wrap (v0-1)) (v1+1+1+1) (v2.set (0+(Ae L v1 (iN bs.length)).toNat) (Bl ((i64.wrap (Ae L v1 (iN bs.length)+2)).tmod (iN bs.length)) x94))))) (aj (aj a14 (aj (u2 (u2 (u2 (u2 (u2 (u2 (u2 (u2 (u2 (u2 (aj (k2 (aj a8 a9)) (aj (ak (Af (f:=lI) a15)) (u2 (aj (ak (k3 (al (c4)))) (aj (k2 (aj a8 a9)) (al (k2 a17))))))))))))))))) (al (u2 (u2 s2))))) (k5 (aj (al t9) t3))) (by simp[up,upF,upV,upH,upB,Fg,gL,boL,lI,bA]))
   (fun a14=>
    .lp [77,121,145,164] [] [] [] [] [0,1,2,3] [0,1,4,6] (aj (aj a14 (al (u2 (u2 s2)))) (k5 (aj (al t9) t3)))))
   (fun a12=>
   have c3:=Dd x67 ((i64.wrap (Ae L v1 (iN bs.length)+2)).tmod (iN bs.length)) a11;
   .lp [77,121,144] [(67,lI x67)] [(69,hK c3 [] [])] [] [] [0,1,2,3] [0,1,4,6] (aj (aj (u2 (u2 (aj t3 (u2 (ag a7 (ag a7 (ag a7 (ag a7 (ag a7 (aj (aj a7 (k2 (aj a8 a9))) (aj (aj a7 (ak (Af (f:=lI) a10))) (ag a7 (aj (aj a7 (ak (k3 (al (c3))))) (ag a7 (ag a7 (u2 (aj a12 (aj a12 (aj a12 (aj a12 (aj a12 (aj a12 (aj a12 (aj a12 (aj a12 (al (aj a12 t2))))))))))))))))))))))))))) (ak (al (u2 (u2 s2))))) (k5 (aj (al t9) t3)))))
  (fun a7=>
   .lp [77,120] [] [] [] [] [0,1,2,3] [0,1,4,6] (aj (aj (u2 (u2 (aj t3 (u2 (aj a7 (aj a7 (aj a7 (aj a7 (aj a7 (aj a7 (aj a7 (aj a7 (aj a7 (aj a7 (ag a7 (u2 (ak (k3 (k5 (al t3)))))))))))))))))))) (ak (al (u2 (u2 s2))))) (k5 (aj (al t9) t3)))))
  (fun a5=>
  .br (fun a6=>
   .gu fun a7=>
   .gu fun a8=>
   .el fun x67 a9=>
   .gu fun a10=>
   .br (fun a11=>
   .el fun x79 a12=>
   have c3:=Dd x67 (Ae L (v1+1) (iN bs.length)) a10;
   .rn 0 [77,104,121,145] [(67,lI x67),(79,lI x79)] [(69,hK c3 [] [])] [] (aj a5 (al (u2 (u2 (aj t3 (u2 (ag a6 (ag a6 (ag a6 (ag a6 (ag a6 (aj (aj a6 (k2 (aj a7 a8))) (aj (aj a6 (ak (Af (f:=lI) a9))) (ag a6 (aj (aj a6 (ak (k3 (al (c3))))) (ag a6 (ag a6 (u2 (ag a11 (ag a11 (ag a11 (ag a11 (ag a11 (aj (aj a11 (k2 (aj a7 a8))) (aj (aj a11 (ak (Af (f:=lI) a12))) (ag a11 (ag a11 (al (aj a11 t2))))))))))))))))))))))))))))) <|
   .br (fun a13=>
    .el fun x94 a14=>
    .gu fun a15=>
    .gu fun a16=>
    have c4:=ins_c x94 (Ae L (v1+1) (iN bs.length)) a15;
    .lq [77,121,145,165] [(94,lI x94)] [(96,hK c4 [] [])] [] [] [0,1,2,3] [0,1,4,6] (up [] [(1,[AV.agg [AV.sl 2 0 bs.length,AV.sl 3 0 v2.length,AV.nils,AV.nils,iv 0,iv 0,iv 0,iv 0]]),(3,(TY lI v2).set (0+(Ae L v1 (iN bs.length)).toNat) (T4 (TY iv (Bl (Ae L (v1+1) (iN bs.length)) x94))))] (Fg L kk bs g (.l1 (i64.wrap (v0-1)) (v1+1+1+1) (v2.set (0+(Ae L v1 (iN bs.length)).toNat) (Bl (Ae L (v1+1) (iN bs.length)) x94))))) (aj (aj a13 (aj (u2 (u2 (u2 (u2 (u2 (u2 (u2 (u2 (u2 (u2 (aj (k2 (aj a7 a8)) (aj (ak (Af (f:=lI) a14)) (u2 (aj (ak (k3 (al (c4)))) (aj (k2 (aj a7 a8)) (al (k2 a16))))))))))))))))) (al (u2 (u2 s2))))) (k5 (aj (al t9) t3))) (by simp[up,upF,upV,upH,upB,Fg,gL,boL,lI,bA]))
   (fun a13=>
    .lp [77,121,145,164] [] [] [] [] [0,1,2,3] [0,1,4,6] (aj (aj a13 (al (u2 (u2 s2)))) (k5 (aj (al t9) t3)))))
   (fun a11=>
   have c3:=Dd x67 (Ae L (v1+1) (iN bs.length)) a10;
   .lp [77,104,121,144] [(67,lI x67)] [(69,hK c3 [] [])] [] [] [0,1,2,3] [0,1,4,6] (aj (aj a5 (aj (u2 (u2 (aj t3 (u2 (ag a6 (ag a6 (ag a6 (ag a6 (ag a6 (aj (aj a6 (k2 (aj a7 a8))) (aj (aj a6 (ak (Af (f:=lI) a9))) (ag a6 (aj (aj a6 (ak (k3 (al (c3))))) (ag a6 (ag a6 (u2 (aj a11 (aj a11 (aj a11 (aj a11 (aj a11 (aj a11 (aj a11 (aj a11 (aj a11 (al (aj a11 t2))))))))))))))))))))))))))) (ak (al (u2 (u2 s2)))))) (k5 (aj (al t9) t3)))))
  (fun a6=>
   .lp [77,104,120] [] [] [] [] [0,1,2,3] [0,1,4,6] (aj (aj a5 (aj (u2 (u2 (aj t3 (u2 (aj a6 (aj a6 (aj a6 (aj a6 (aj a6 (aj a6 (aj a6 (aj a6 (aj a6 (aj a6 (ag a6 (u2 (ak (k3 (k5 (al t3)))))))))))))))))))) (ak (al (u2 (u2 s2)))))) (k5 (aj (al t9) t3))))))
 (fun a1=>
  .rt [77,82] [] [] [] [0,1,2,3] [] (aj (al a1) (k2 (aj (al t9) t3)))))
 (fun a0=>
 .rt [76] [] [] [] [0,1,2,3] [] (ag (u2 (u2 (u2 (aj a0 (aj a0 (al (aj a0 t2))))))) (k2 (aj (al t9) t3))))) (by kernel_rfl)
  )
  (fun o ho=>Scr.ok (X:=LU L kk bs g) ho mix (
 .lp [] [] [] [] [] [0,1,2,3] [0,1,4,5] (aj (aj (u2 (u2 (u2 (u2 (u2 s2))))) s2) (k5 (aj (al t9) t3)))) (by kernel_rfl)) h
theorem BA(L:List Int)(k:Nat)(n:Int)(h1:1<=n)(h2:n<=100000):0<=Ae L k n/\Ae L k n<n:=by
 unfold Ae A7;split
 .omega
 .have ha:=Int.tmod_lt_of_pos (J2 L k) (show 0<n by omega);have hb:=Int.lt_tmod_of_pos (J2 L k) (show 0<n by omega);split
  .rw[AZ _ (by omega) (by omega)];omega
  .omega
structure Ge(b v:Nat)(l:List Int):Prop where
 el:∀w∈l,0<=w/\w<(b:Int)/\w≠(v:Int)
 asc:l.Pairwise (· < ·)
 len:l.length<=4
structure GK(b:Nat)(g:List (List Int)):Prop where
 len:g.length=b
 row:∀v,v<b->Ge b v (g.getD v [])
theorem Sr{l:List (List Int)}{i j:Nat}{x:List Int}(hi:i<l.length):(l.set i x).getD j []=if i=j then x else l.getD j []:=by
 rw[S3,TV];by_cases h:i=j
 .subst h;rw[S0 rfl,S0 hi,S0 rfl];rfl
 .rw[S1 h,S1 h,S3]
theorem GK.set{b:Nat}{g:List (List Int)}(h:GK b g){i:Nat}{l:List Int}(hi:i<b)(hl:Ge b i l):GK b (g.set i l):=by
 have hg:=h.len;refine⟨by rw[TA];exact hg,fun v hv=>?_⟩;rw[Sr (by omega)];split
 .rename_i e;exact e ▸ hl
 .exact h.row v hv
theorem Ge.ins{b v:Nat}{l:List Int}{x:Int}(h:Ge b v l)(hx:0<=x/\x<(b:Int)/\x≠(v:Int))(hn:x∉l)(hl:l.length<4):Ge b v (Bl x l):=⟨fun w hw=>(N7 x hw).elim (fun e=>e ▸ hx) (h.el w),OJ x h.asc hn,by rw[PC];omega⟩
theorem PM{x b:Int}(h:0<=x)(hb:1<=b):0<=x.tmod b/\x.tmod b<b:=⟨Int.tmod_nonneg _ h,Int.tmod_lt_of_pos _ (by omega)⟩
abbrev Ee(b kk:Nat):={p:Nat×List (List Int) // GK b p.2/\kk<=p.1/\p.1<=kk+20}
def Eu(L:List Int)(bs:List Az){b kk:Nat}(p:Ee b kk):Ret:=([some (AE L p.1.1),some (nJ bs p.1.2),some (bsB bs),some (gB p.1.2)],.tup [])
theorem rin_ex(L:List Int){kk:Nat}(bs:List Az){g:List (List Int)}(hb:1<=bs.length/\bs.length<=24)(hk:kk<=90000)(hg:GK bs.length g):∃p:Ee bs.length kk,Ac (CA L kk bs g) (LU L kk bs g) (Eu L bs p):=by
 have e1:∀(m k:Nat) (h:List (List Int)),m<=4->GK bs.length h->kk<=k->k+3 * m<=kk+13->∃p:Ee bs.length kk,Ac (CA L kk bs g) (some (.inl (.l1 (m:Int) k h))) (Eu L bs p):=by
  intro m;have done:∀{k:Nat} {h:List (List Int)},GK bs.length h->kk<=k->k<=kk+13->∃p:Ee bs.length kk,Ac (CA L kk bs g) (some (.inr (Eu L bs p))) (Eu L bs p):=fun {k h} h1 h2 h3=>⟨⟨(k,h),h1,h2,by omega⟩,.ret _⟩
  induction m with
  | zero=>intro k h _ hh hk1 hk2;refine AD (show CA L kk bs g (.l1 (0:Nat) k h)=HV L kk bs g (0:Nat) k h from rfl) ?_;unfold HV;rw[Ad (S7 (by omega))];exact⟨⟨(k,h),hh,hk1,by omega⟩,.ret _⟩
  | succ m ih=>
   intro k h hm hh hk1 hk2;refine AD (show CA L kk bs g (.l1 ((m+1:Nat):Int) k h)=HV L kk bs g ((m+1:Nat):Int) k h from rfl) ?_;have r1:=BA L k bs.length (by omega) (by omega);have r2:=BA L (k+1) bs.length (by omega) (by omega);have hl:=hh.len;unfold HV;rw[Ag (S8 (by omega)),AZ (((m+1:Nat):Int)-1) (by omega) (by omega),show((m+1:Nat):Int)-1=(m:Int) by omega];have nx:∀h',GK bs.length h'->∃p:Ee bs.length kk,Ac (CA L kk bs g) (some (.inl (.l1 (m:Int) (k+1+1+1) h'))) (Eu L bs p):=fun h' hg'=>ih (k+1+1+1) h' (by omega) hg' (by omega) (by omega)
   have step:∀x:Int,0<=x->x<bs.length->∃p:Ee bs.length kk,Ac (CA L kk bs g)
     (br (Ae L k (iN bs.length) != x)
      (gu (0<=Ae L k (iN bs.length)) <| gu (Ae L k (iN bs.length)<iN h.length) <| el h (0+(Ae L k (iN bs.length)).toNat) fun x67=>gu (x67.length<=9223372036854775807) <|
       br (!AN x67 x) (el h (0+(Ae L k (iN bs.length)).toNat) fun x79=>br (decide (iN (TY (AV.int .i64) x79).length<4))
        (el h (0+(Ae L k (iN bs.length)).toNat) fun x94=>gu (x94.length<=1000) <| gu ((0+(Ae L k (iN bs.length)).toNat).succ.le (TY lI h).length) <| some (.inl (.l1 (m:Int) (k+1+1+1) (h.set (0+(Ae L k (iN bs.length)).toNat) (Bl x x94)))))
        (some (.inl (.l1 (m:Int) (k+1+1+1) h)))) (some (.inl (.l1 (m:Int) (k+1+1+1) h))))
      (some (.inl (.l1 (m:Int) (k+1+1+1) h)))) (Eu L bs p):=by
    intro x hx0 hx1;generalize hp:Ae L k (iN bs.length)=p;have r1:0<=p/\p<bs.length:=by rw[<-hp];exact r1
    have hi:p.toNat<bs.length:=by omega
    have er:=AA [] (show p.toNat<h.length by omega);have ho:=hh.row p.toNat hi;have hol:=ho.len;refine Aq (fun hne=>?_) fun _=>nx h hh
    rw[Ab r1.1,Ab (by simp only[iN];omega),Th,An er,Ab (by omega)];refine Aq (fun hnz=>?_) fun _=>nx h hh
    rw[An er];refine CI (fun h4=>?_) fun _=>nx h hh
    rw[An er,Ab (by omega),Ab (show Nat.le _ _ from by show p.toNat+1<=_;simp only[S5];omega)];refine nx _ (hh.set hi (ho.ins ⟨hx0,hx1,?_⟩ (KP (by simpa using hnz)) (by simp only[iN,S5] at h4;omega)));have:=TT.1 hne;omega
   refine CI (fun h2=>?_) fun _=>⟨⟨(k,h),hh,hk1,by omega⟩,.ret _⟩
   rw[Ab (by omega),Ab (by omega),Ab (by omega)];refine Aq (fun _=>?_) fun _=>step _ r2.1 r2.2
   rw[Ab (by simp only[iN];omega),AZ _ (by simp only[iN];omega) (by simp only[iN];omega)];have:=PM (x:=Ae L k (iN bs.length)+2) (b:=(bs.length:Int)) (by simp only[iN];omega) (by omega);exact step _ this.1 this.2
 have r4:=BA L kk 4 (by omega) (by omega);have e1':∀h,GK bs.length h->∃p:Ee bs.length kk,Ac (CA L kk bs g) (some (.inl (.l1 (Ae L kk 4) (kk+1) h))) (Eu L bs p):=fun h hh=>by
  have:=e1 (Ae L kk 4).toNat (kk+1) h (by omega) hh (by omega) (by omega)
  rwa [Tt r4.1] at this
 have e0:∀(m i:Nat) (h:List (List Int)),i+m=bs.length->GK bs.length h->∃p:Ee bs.length kk,Ac (CA L kk bs g) (some (.inl (.l0 (i:Int) h))) (Eu L bs p):=by
  intro m;induction m with
  | zero=>intro i h hi hh;refine AD (show CA L kk bs g (.l0 (i:Int) h)=Hn L kk bs g i h from rfl) ?_;unfold Hn;rw[Ad (S7 (by simp only[iN];omega)),Ab (by omega)];exact e1' h hh
  | succ m ih=>
   intro i h hi hh;have hl:=hh.len;refine AD (show CA L kk bs g (.l0 (i:Int) h)=Hn L kk bs g i h from rfl) ?_;unfold Hn;rw[Ag (S8 (by simp only[iN];omega))];refine CI (fun hb1=>?_) fun _=>Ah (by omega) (e1' h hh)
   rw[Ab (by simp only[iN];omega),Ab (by omega),Ab (by simp only[iN];omega),Ab (show Nat.le _ _ from by show 0+(i:Int).toNat+1<=_;simp only[S5];omega),zW i (by omega),Th,Tb];have ht:=PM (x:=((i+1:Nat):Int)) (b:=(bs.length:Int)) (by omega) (by omega);refine ih (i+1) _ (by omega) (hh.set (by omega) ⟨fun w hw=>?_,List.pairwise_singleton _ _,by simp⟩);rw[SU.1 hw];refine⟨ht.1,ht.2,fun e=>?_⟩;have hb1:1<bs.length:=by simp only[iN] at hb1;omega
   have e:((i+1:Nat):Int).tmod (bs.length:Int)=(i:Int):=e;by_cases hq:i+1=bs.length
   .rw[hq,Int.tmod_self] at e;omega
   .rw[Int.tmod_eq_of_lt (by omega) (by omega)] at e;omega
 exact e0 bs.length 0 g (Th _) hg
theorem Jy(L:List Int)(kk:Nat)(bs:List Az)(g:List (List Int)):∃p:Nat×List (List Int),1<=bs.length/\bs.length<=24->kk<=90000->GK bs.length g->(GK bs.length p.2/\kk<=p.1/\p.1<=kk+20)/\CT T5 51 [some (AE L kk),some (nJ bs g),some (bsB bs),some (gB g)] [.ptr 0 0 0,.ptr 1 0 0] [some (AE L p.1),some (nJ bs p.2),some (bsB bs),some (gB p.2)] (.tup []):=by
 by_cases h:(1<=bs.length/\bs.length<=24)/\kk<=90000/\GK bs.length g
 .obtain⟨p,hp⟩:=rin_ex L bs h.1 h.2.1 h.2.2;exact⟨p.1,fun _ _ _=>⟨p.2,rin_ct L kk bs g _ hp⟩⟩
 .exact⟨(0,[]),fun a b c=>absurd ⟨a,b,c⟩ h⟩
@[irreducible] def rgK(L:List Int)(kk:Nat)(bs:List Az)(g:List (List Int)):Nat:=(Classical.choose (Jy L kk bs g)).1
@[irreducible] def rgG(L:List Int)(kk:Nat)(bs:List Az)(g:List (List Int)):List (List Int):=(Classical.choose (Jy L kk bs g)).2
theorem rg_p{L:List Int}{kk:Nat}{bs:List Az}{g:List (List Int)}(a:1<=bs.length/\bs.length<=24)(b:kk<=90000)(c:GK bs.length g):GK bs.length (rgG L kk bs g)/\kk<=rgK L kk bs g/\rgK L kk bs g<=kk+20:=by unfold rgG rgK;exact(TE (Jy L kk bs g) a b c).1
theorem rg_c(L:List Int)(kk:Nat)(bs:List Az)(g:List (List Int))(a:1<=bs.length/\bs.length<=24)(b:kk<=90000)(c:GK bs.length g):CT T5 51 [some (AE L kk),some (nJ bs g),some (bsB bs),some (gB g)] [.ptr 0 0 0,.ptr 1 0 0] [some (AE L (rgK L kk bs g)),some (nJ bs (rgG L kk bs g)),some (bsB bs),some (gB (rgG L kk bs g))] (.tup []):=by unfold rgG rgK;exact(TE (Jy L kk bs g) a b c).2
inductive C6 where | l0 (v0:Int) (v1:Nat) (v2:List Az) (v3:List (List Int)) | l1 (v0 v1:Int) (v2:Nat) (v3:List Az) (v4:List (List Int)) (v5:List Av) | l2 (v0:Int) (v1:Nat) (v2:List Az) (v3:List (List Int)) (v4:List Av) (v5:List Int) (v6 v7 v8 v9 v10 v11 v12:Int) | l3 (v0:Int) (v1:List Int) (v2:Int) (v3:Nat) (v4:List Az) (v5:List (List Int)) (v6:List Av) (v7:List Int) (v8 v9 v10 v11 v12 v13 v14:Int) | l4 (v0:Int) (v1:List Int) (v2 v3:Int) (v4:Nat) (v5:List Az) (v6:List (List Int)) (v7:List Av) (v8:List Int) (v9 v10 v11 v12 v13 v14 v15:Int)
def Cr(L:List Int)(kk:Nat)(most:Int):C6->St | .l0 v0 v1 v2 v3=>St.mk 191 [(0,AV.ptr 0 0 0),(4,AV.ptr 1 0 0),(5,AV.ptr 2 0 0),(6,iv v0)] [some (AE L v1),some (bK [AV.agg [AV.nils,AV.nils,AV.nils,AV.nils,iv 0,iv 0,iv 0,iv 0]] 8),some (Blk.mk [AV.agg [AV.sl 3 0 v2.length,AV.sl 4 0 v3.length,AV.nils,AV.nils,iv 0,iv 0,iv 0,iv 0]] 8 false true none),some (bK (TY bA v2) 3),some (bK (TY lI v3) 1)] | .l1 v0 v1 v2 v3 v4 v5=>St.mk 191 [(0,AV.ptr 0 0 0),(4,AV.ptr 1 0 0),(5,AV.ptr 2 0 0),(8,iv v0),(9,iv v1)] [some (AE L v2),some (bK [AV.agg [AV.nils,AV.nils,AV.nils,AV.nils,iv 0,iv 0,iv 0,iv 0]] 8),some (Blk.mk [AV.agg [AV.sl 3 0 v3.length,AV.sl 4 0 v4.length,AV.sl 5 0 v5.length,AV.nils,iv 0,iv 0,iv 0,iv 0]] 8 false true none),some (bK (TY bA v3) 3),some (bK (TY lI v4) 1),some (bK (TY sA v5) 6)] | .l2 v0 v1 v2 v3 v4 v5 v6 v7 v8 v9 v10 v11 v12=>St.mk 191 [(0,AV.ptr 0 0 0),(4,AV.ptr 1 0 0),(5,AV.ptr 2 0 0),(12,AV.ptr 3 0 0),(14,iv v0)] [some (AE L v1),some (bK [AV.agg [AV.nils,AV.nils,AV.nils,AV.nils,iv 0,iv 0,iv 0,iv 0]] 8),some (Blk.mk [AV.agg [AV.sl 4 0 v2.length,AV.sl 5 0 v3.length,AV.sl 6 0 v4.length,AV.sl 7 0 v5.length,iv v6,iv v7,iv v8,iv v9]] 8 false true none),some (bK [AV.agg [iv v10,AV.any,iv v11,iv v12]] 4),some (bK (TY bA v2) 3),some (bK (TY lI v3) 1),some (bK (TY sA v4) 6),some (bK (TY iv v5) 1)] | .l3 v0 v1 v2 v3 v4 v5 v6 v7 v8 v9 v10 v11 v12 v13 v14=>St.mk 191 [(0,AV.ptr 0 0 0),(4,AV.ptr 1 0 0),(5,AV.ptr 2 0 0),(12,AV.ptr 3 0 0),(14,iv v0),(15,AV.sl 4 0 v1.length),(16,iv v2)] [some (AE L v3),some (bK [AV.agg [AV.nils,AV.nils,AV.nils,AV.nils,iv 0,iv 0,iv 0,iv 0]] 8),some (Blk.mk [AV.agg [AV.sl 5 0 v4.length,AV.sl 6 0 v5.length,AV.sl 7 0 v6.length,AV.sl 8 0 v7.length,iv v8,iv v9,iv v10,iv v11]] 8 false true none),some (bK [AV.agg [iv v12,AV.any,iv v13,iv v14]] 4),some (bK (TY iv v1) 1),some (bK (TY bA v4) 3),some (bK (TY lI v5) 1),some (bK (TY sA v6) 6),some (bK (TY iv v7) 1)] | .l4 v0 v1 v2 v3 v4 v5 v6 v7 v8 v9 v10 v11 v12 v13 v14 v15=>St.mk 191 [(0,AV.ptr 0 0 0),(4,AV.ptr 1 0 0),(5,AV.ptr 2 0 0),(12,AV.ptr 3 0 0),(14,iv v0),(15,AV.sl 4 0 v1.length),(16,iv v2),(17,iv v3)] [some (AE L v4),some (bK [AV.agg [AV.nils,AV.nils,AV.nils,AV.nils,iv 0,iv 0,iv 0,iv 0]] 8),some (Blk.mk [AV.agg [AV.sl 5 0 v5.length,AV.sl 6 0 v6.length,AV.sl 7 0 v7.length,AV.sl 8 0 v8.length,iv v9,iv v10,iv v11,iv v12]] 8 false true none),some (bK [AV.agg [iv v13,AV.any,iv v14,iv v15]] 4),some (bK (TY iv v1) 1),some (bK (TY bA v5) 3),some (bK (TY lI v6) 1),some (bK (TY sA v7) 6),some (bK (TY iv v8) 1)]
def JD(L:List Int)(kk:Nat)(most:Int):Option (C6⊕Ret):=gu (kk<9223372036854775807) <|some (.inl (.l0 (i64.wrap (1+Ae L kk most)) (kk+1) ([]) ([])))
def H5(L:List Int)(kk:Nat)(most v0:Int)(v1:Nat)(v2:List Az)(v3:List (List Int)):Option (C6⊕Ret):=br (decide (0<v0)) (gu (v2.length<100) <|gu ((1+(AL v2.length).size).le 9223372036854775807) <|gu (v1<9223372036854775807) <|gu (v1+1<9223372036854775807) <|gu ((TY bA v2).length+[AV.agg [AV.str (ByteArray.mk #[98]++AL v2.length),iV (i64.wrap (Ae L v1 9-4)),iV (i64.wrap (Ae L (v1+1) 9-4))]].length<=9223372036854775807) <|gu (((TY bA v2).length+[AV.agg [AV.str (ByteArray.mk #[98]++AL v2.length),iV (i64.wrap (Ae L v1 9-4)),iV (i64.wrap (Ae L (v1+1) 9-4))]].length) * 32<=140737488355328) <|gu ((TY lI v3).length+1<=9223372036854775807) <|gu (((TY lI v3).length+1) * 24<=140737488355328) <|some (.inl (.l0 (i64.wrap (v0-1)) (v1+1+1) (v2++[Az.mk (ByteArray.mk #[98]++AL v2.length) (i64.wrap (Ae L v1 9-4)) (i64.wrap (Ae L (v1+1) 9-4))]) (v3++[[]])))) (gu (1<=v2.length/\v2.length<=24) <|gu (v1<=90000) <|gu (GK v2.length v3) <|gu (rgK L v1 v2 v3<9223372036854775807) <|some (.inl (.l1 (iN v2.length) (i64.wrap (3+Ae L (rgK L v1 v2 v3) 3)) (rgK L v1 v2 v3+1) v2 (rgG L v1 v2 v3) ([]))))
def H8(L:List Int)(kk:Nat)(most v0 v1:Int)(v2:Nat)(v3:List Az)(v4:List (List Int))(v5:List Av):Option (C6⊕Ret):=br (decide (0<v1)) (gu (v5.length<100) <|gu ((1+(AL v5.length).size).le 9223372036854775807) <|br (iN v5.length==0) (gu (v2<9223372036854775807) <|gu (v2+1<9223372036854775807) <|gu (v2+1+1<9223372036854775807) <|gu ((TY sA v5).length+[AV.agg [AV.str (ByteArray.mk #[115]++AL v5.length),bV true,iV (Ae L v2 (iN v3.length)),iV (Ae L (v2+1) (iN v3.length)),iV (i64.wrap (1+Ae L (v2+1+1) 3)),iV v0]].length<=9223372036854775807) <|gu (((TY sA v5).length+[AV.agg [AV.str (ByteArray.mk #[115]++AL v5.length),bV true,iV (Ae L v2 (iN v3.length)),iV (Ae L (v2+1) (iN v3.length)),iV (i64.wrap (1+Ae L (v2+1+1) 3)),iV v0]].length) * 56<=140737488355328) <|some (.inl (.l1 (i64.wrap (v0+i64.wrap (1+Ae L (v2+1+1) 3))) (i64.wrap (v1-1)) (v2+1+1+1) v3 v4 (v5++[Av.mk (ByteArray.mk #[115]++AL v5.length) true (Ae L v2 (iN v3.length)) (Ae L (v2+1) (iN v3.length)) (i64.wrap (1+Ae L (v2+1+1) 3)) v0])))) (br (decide (2<iN v5.length)) (gu (v2<9223372036854775807) <|gu (v2+1<9223372036854775807) <|gu (v2+1+1<9223372036854775807) <|gu (v2+1+1+1<9223372036854775807) <|gu ((TY sA v5).length+[AV.agg [AV.str (ByteArray.mk #[115]++AL v5.length),bV (Ae L v2 2==0),iV (Ae L (v2+1) (iN v3.length)),iV (Ae L (v2+1+1) (iN v3.length)),iV (i64.wrap (1+Ae L (v2+1+1+1) 3)),iV v0]].length<=9223372036854775807) <|gu (((TY sA v5).length+[AV.agg [AV.str (ByteArray.mk #[115]++AL v5.length),bV (Ae L v2 2==0),iV (Ae L (v2+1) (iN v3.length)),iV (Ae L (v2+1+1) (iN v3.length)),iV (i64.wrap (1+Ae L (v2+1+1+1) 3)),iV v0]].length) * 56<=140737488355328) <|some (.inl (.l1 (i64.wrap (v0+i64.wrap (1+Ae L (v2+1+1+1) 3))) (i64.wrap (v1-1)) (v2+1+1+1+1) v3 v4 (v5++[Av.mk (ByteArray.mk #[115]++AL v5.length) (Ae L v2 2==0) (Ae L (v2+1) (iN v3.length)) (Ae L (v2+1+1) (iN v3.length)) (i64.wrap (1+Ae L (v2+1+1+1) 3)) v0])))) (gu (v2<9223372036854775807) <|gu (v2+1<9223372036854775807) <|gu (v2+1+1<9223372036854775807) <|gu ((TY sA v5).length+[AV.agg [AV.str (ByteArray.mk #[115]++AL v5.length),bV false,iV (Ae L v2 (iN v3.length)),iV (Ae L (v2+1) (iN v3.length)),iV (i64.wrap (1+Ae L (v2+1+1) 3)),iV v0]].length<=9223372036854775807) <|gu (((TY sA v5).length+[AV.agg [AV.str (ByteArray.mk #[115]++AL v5.length),bV false,iV (Ae L v2 (iN v3.length)),iV (Ae L (v2+1) (iN v3.length)),iV (i64.wrap (1+Ae L (v2+1+1) 3)),iV v0]].length) * 56<=140737488355328) <|some (.inl (.l1 (i64.wrap (v0+i64.wrap (1+Ae L (v2+1+1) 3))) (i64.wrap (v1-1)) (v2+1+1+1) v3 v4 (v5++[Av.mk (ByteArray.mk #[115]++AL v5.length) false (Ae L v2 (iN v3.length)) (Ae L (v2+1) (iN v3.length)) (i64.wrap (1+Ae L (v2+1+1) 3)) v0])))))) (gu (v2<9223372036854775807) <|gu (v2+1<9223372036854775807) <|gu (v2+1+1<9223372036854775807) <|gu (v2+1+1+1<9223372036854775807) <|gu (Ao (flN v3 v4 v5 (i64.wrap (1+Ae L v2 4)) (Ae L (v2+1) 3) (Ae L (v2+1+1) 3) (i64.wrap (1+Ae L (v2+1+1+1) 8)))) <|gu (Rows v4) <|gu (v2+1+1+1+1<9223372036854775807) <|some (.inl (.l2 (i64.wrap (1+Ae L (v2+1+1+1+1) 3)) (v2+1+1+1+1+1) v3 v4 v5 ([]) (i64.wrap (1+Ae L v2 4)) (Ae L (v2+1) 3) (Ae L (v2+1+1) 3) (i64.wrap (1+Ae L (v2+1+1+1) 8)) (flE (flN v3 v4 v5 (i64.wrap (1+Ae L v2 4)) (Ae L (v2+1) 3) (Ae L (v2+1+1) 3) (i64.wrap (1+Ae L (v2+1+1+1) 8)))) (flS (flN v3 v4 v5 (i64.wrap (1+Ae L v2 4)) (Ae L (v2+1) 3) (Ae L (v2+1+1) 3) (i64.wrap (1+Ae L (v2+1+1+1) 8)))) (flC (flN v3 v4 v5 (i64.wrap (1+Ae L v2 4)) (Ae L (v2+1) 3) (Ae L (v2+1+1) 3) (i64.wrap (1+Ae L (v2+1+1+1) 8)))))))
def Gh(L:List Int)(kk:Nat)(most v0:Int)(v1:Nat)(v2:List Az)(v3:List (List Int))(v4:List Av)(v5:List Int)(v6 v7 v8 v9 v10 v11 v12:Int):Option (C6⊕Ret):=br (decide (0<v0)) (br (decide (iN v5.length<v12)) (some (.inl (.l3 v0 ([]) ((0:Int)) v1 v2 v3 v4 v5 v6 v7 v8 v9 v10 v11 v12))) (some (.inr ([some (bK [AV.agg [T4 (TY iV L),iV (iN v1)]] 2)],AV.agg [T4 (TY bA v2),T4 (TY lI v3),T4 (TY sA v4),T4 (TY iV v5),iV v6,iV v7,iV v8,iV v9])))) (some (.inr ([some (bK [AV.agg [T4 (TY iV L),iV (iN v1)]] 2)],AV.agg [T4 (TY bA v2),T4 (TY lI v3),T4 (TY sA v4),T4 (TY iV v5),iV v6,iV v7,iV v8,iV v9])))
def Gt(L:List Int)(kk:Nat)(most v0:Int)(v1:List Int)(v2:Int)(v3:Nat)(v4:List Az)(v5:List (List Int))(v6:List Av)(v7:List Int)(v8 v9 v10 v11 v12 v13 v14:Int):Option (C6⊕Ret):=br (decide (v2<iN v6.length)) (some (.inl (.l4 v0 v1 v2 ((0:Int)) v3 v4 v5 v6 v7 v8 v9 v10 v11 v12 v13 v14))) (gu (v3<9223372036854775807) <|gu (0<=Ae L v3 (iN v1.length)) <|gu (Ae L v3 (iN v1.length)<iN v1.length) <|el v1 (0+(Ae L v3 (iN v1.length)).toNat) fun(x186:Int)=>gu ((TY iV v7).length+[iV x186].length<=9223372036854775807) <|gu (((TY iV v7).length+[iV x186].length) * 8<=140737488355328) <|some (.inl (.l2 (i64.wrap (v0-1)) (v3+1) v4 v5 v6 (v7++[x186]) v8 v9 v10 v11 v12 v13 v14)))
def Gq(L:List Int)(kk:Nat)(most v0:Int)(v1:List Int)(v2 v3:Int)(v4:Nat)(v5:List Az)(v6:List (List Int))(v7:List Av)(v8:List Int)(v9 v10 v11 v12 v13 v14 v15:Int):Option (C6⊕Ret):=gu (0<=v2) <|gu (v2<iN v7.length) <|el v7 (0+v2.toNat) fun(x149:Av)=>br (decide (v3<x149.k)) (el v7 (0+v2.toNat) fun(x157:Av)=>br (x157.dep) (el v7 (0+v2.toNat) fun(x166:Av)=>gu (v8.length<=9223372036854775807) <|br (!AN v8 (i64.wrap (x166.b+v3))) (gu ((TY iV v1).length+[iV (i64.wrap (x166.b+v3))].length<=9223372036854775807) <|gu (((TY iV v1).length+[iV (i64.wrap (x166.b+v3))].length) * 8<=140737488355328) <|some (.inl (.l4 v0 (v1++[i64.wrap (x166.b+v3)]) v2 (i64.wrap (v3+1)) v4 v5 v6 v7 v8 v9 v10 v11 v12 v13 v14 v15))) (some (.inl (.l4 v0 v1 v2 (i64.wrap (v3+1)) v4 v5 v6 v7 v8 v9 v10 v11 v12 v13 v14 v15)))) (some (.inl (.l3 v0 v1 (i64.wrap (v2+1)) v4 v5 v6 v7 v8 v9 v10 v11 v12 v13 v14 v15)))) (some (.inl (.l3 v0 v1 (i64.wrap (v2+1)) v4 v5 v6 v7 v8 v9 v10 v11 v12 v13 v14 v15)))
def BN(L:List Int)(kk:Nat)(most:Int):C6->Option (C6⊕Ret) | .l0 v0 v1 v2 v3=>H5 L kk most v0 v1 v2 v3 | .l1 v0 v1 v2 v3 v4 v5=>H8 L kk most v0 v1 v2 v3 v4 v5 | .l2 v0 v1 v2 v3 v4 v5 v6 v7 v8 v9 v10 v11 v12=>Gh L kk most v0 v1 v2 v3 v4 v5 v6 v7 v8 v9 v10 v11 v12 | .l3 v0 v1 v2 v3 v4 v5 v6 v7 v8 v9 v10 v11 v12 v13 v14=>Gt L kk most v0 v1 v2 v3 v4 v5 v6 v7 v8 v9 v10 v11 v12 v13 v14 | .l4 v0 v1 v2 v3 v4 v5 v6 v7 v8 v9 v10 v11 v12 v13 v14 v15=>Gq L kk most v0 v1 v2 v3 v4 v5 v6 v7 v8 v9 v10 v11 v12 v13 v14 v15
theorem ntm_ct(L:List Int)(kk:Nat)(most:Int)(r:Ret)(h:Ac (BN L kk most) (JD L kk most) r):CT T5 20 ([some (AE L kk)]) ([.ptr 0 0 0,.int .i64 most]) r.1 r.2:=
 CT.mach (fn:=Tryz.f20) (c:=zB Tryz.f20) (S:=(Cr L kk most)) (hd:=C6.ctorIdx) Tryz.func20 (by kernel_rfl) (nL rfl)
  (fun s o ho=>match s,ho with
 | .l0 v0 v1 v2 v3,ho=>Scr.ok (X:=H5 L kk most v0 v1 v2 v3) ho mix (
 .rn 0 [] [] [] [] (al (u2 s2)) <|
 .br (fun a0=>
 .rn 0 [49] [] [] [] (aj a0 (al (u2 (u2 (u2 s2))))) <|
 .gu fun a1=>
 .gu fun a2=>
 .gu fun a3=>
 .gu fun a4=>
 .gu fun a5=>
 .gu fun a6=>
 have c0:=I0 (v2.length) a1;
 have c1:=AG (L) v1 (9) a3;
 have c2:=AG (L) (v1+1) (9) a4;
 .rn 0 [] [] [(33,hK c0 [] []),(36,hK c1 [0] []),(39,hK c2 [0] [])] [] (al (u2 (u2 (u2 (aj (k2 (al (c0))) (aj (ak a2) (u2 (aj (ak (k3 (al (c1)))) (u2 (u2 (aj (ak (k3 (al (c2)))) (u2 (aj t4 (u2 (aj (k2 (aj (show(TY bA v2).length=v2.length by simp) (aj (aj (show nat_lit 3=nat_lit 3 from rfl) (show 1<=[AV.agg [AV.str (ByteArray.mk #[98]++AL v2.length),iv (i64.wrap (Ae L v1 9-4)),iv (i64.wrap (Ae L (v1+1) 9-4))]].length by simp)) (aj a5 a6)))) (u2 (al t3))))))))))))))))) <|
 .gu fun a7=>
 .gu fun a8=>
 .lq [] [(47,AV.tup [])] [] [] [] [0,1,2,6,8] [0,4,5,6] (up [] [(2,[AV.agg [AV.sl 3 0 ((TY bA v2).length+[AV.agg [AV.str (ByteArray.mk #[98]++AL v2.length),iv (i64.wrap (Ae L v1 9-4)),iv (i64.wrap (Ae L (v1+1) 9-4))]].length),AV.sl 4 0 ((TY lI v3).length+1),AV.nils,AV.nils,iv 0,iv 0,iv 0,iv 0]]),(3,TY bA v2++[AV.agg [AV.str (ByteArray.mk #[98]++AL v2.length),iv (i64.wrap (Ae L v1 9-4)),iv (i64.wrap (Ae L (v1+1) 9-4))]]),(4,TY lI v3++[T4 []])] (Cr L kk most (.l0 (i64.wrap (v0-1)) (v1+1+1) (v2++[Az.mk (ByteArray.mk #[98]++AL v2.length) (i64.wrap (Ae L v1 9-4)) (i64.wrap (Ae L (v1+1) 9-4))]) (v3++[[]])))) (aj (aj (u2 (u2 (ak (aj (k2 (aj (show(TY lI v3).length=v3.length by simp) (aj (aj (show nat_lit 1=nat_lit 1 from rfl) (show nat_lit 1<=nat_lit 1 from(by first | exact nL rfl | decide))) (aj a7 a8)))) (u2 (al t3)))))) (al (u2 (u2 s2)))) (ak (k5 (aj (al t9) t3)))) (by simp[up,upF,upV,upH,upB,Cr,gL,boL,lI,bA,sA]))
 (fun a0=>
 .gu fun a1=>
 .gu fun a2=>
 .gu fun a3=>
 have c0:=rg_c (L) v1 v2 v3 a1 a2 a3;
 .rn 1 [48] [] [(51,hK c0 [0,2,3,4] [])] [] (aj a0 (aj (u2 (al (k5 (aj (al t9) (k2 (al (c0))))))) (al (u2 (u2 (u2 s2)))))) <|
 .gu fun a4=>
 have c1:=AG (L) (rgK L v1 v2 v3) (3) a4;
 .lp [] [] [(56,hK c1 [0] [])] [] [(3005,6)] [0,1,2,3,4,5] [0,4,5,8,9] (aj (al (u2 (aj (ak (k3 (al (c1)))) (u2 s2)))) (k2 (k5 (aj (al t9) t4)))))) (by kernel_rfl)
 | .l1 v0 v1 v2 v3 v4 v5,ho=>Scr.ok (X:=H8 L kk most v0 v1 v2 v3 v4 v5) ho mix (
 .rn 0 [] [] [] [] (al (u2 s2)) <|
 .br (fun a0=>
 .rn 0 [119] [] [] [] (aj a0 (al (u2 (u2 (u2 s2))))) <|
 .gu fun a1=>
 .gu fun a2=>
 .br (fun a3=>
  .gu fun a4=>
  .gu fun a5=>
  .gu fun a6=>
  have c0:=I0 (v5.length) a1;
  have c1:=AG (L) v2 (iN v3.length) a4;
  have c2:=AG (L) (v2+1) (iN v3.length) a5;
  have c3:=AG (L) (v2+1+1) (3) a6;
  .rn 1 [141] [] [(66,hK c0 [] []),(83,hK c1 [0] []),(88,hK c2 [0] []),(90,hK c3 [0] [])] [] (aj (u2 (aj (k2 (al (c0))) (aj (ak a2) (u2 (u2 (u2 (aj a3 (aj a3 (aj a3 (k3 (aj a3 (ag a3 (u2 (u2 (u2 (u2 (aj (k5 (al (c1))) (u2 (u2 (u2 (u2 (aj (k5 (al (c2))) (u2 (aj (ak (k3 (al (c3)))) (u2 (u2 (aj t7 (ak (al (k2 n11)))))))))))))))))))))))))))))) (al (u2 (u2 (u2 (aj t3 s2)))))) <|
  .gu fun a7=>
  .gu fun a8=>
  .lq [141] [] [] [] [] [0,1,2,3,4,8] [0,4,5,8,9] (up [] [(2,[AV.agg [AV.sl 3 0 v3.length,AV.sl 4 0 v4.length,AV.sl 5 0 ((TY sA v5).length+[AV.agg [AV.str (ByteArray.mk #[115]++AL v5.length),bV true,iv (Ae L v2 (iN v3.length)),iv (Ae L (v2+1) (iN v3.length)),iv (i64.wrap (1+Ae L (v2+1+1) 3)),iv v0]].length),AV.nils,iv 0,iv 0,iv 0,iv 0]]),(5,TY sA v5++[AV.agg [AV.str (ByteArray.mk #[115]++AL v5.length),bV true,iv (Ae L v2 (iN v3.length)),iv (Ae L (v2+1) (iN v3.length)),iv (i64.wrap (1+Ae L (v2+1+1) 3)),iv v0]])] (Cr L kk most (.l1 (i64.wrap (v0+i64.wrap (1+Ae L (v2+1+1) 3))) (i64.wrap (v1-1)) (v2+1+1+1) v3 v4 (v5++[Av.mk (ByteArray.mk #[115]++AL v5.length) true (Ae L v2 (iN v3.length)) (Ae L (v2+1) (iN v3.length)) (i64.wrap (1+Ae L (v2+1+1) 3)) v0])))) (aj (aj (u2 (u2 (u2 (u2 (aj (k2 (aj (show(TY sA v5).length=v5.length by simp) (aj (aj (show nat_lit 6=nat_lit 6 from rfl) (show 1<=[AV.agg [AV.str (ByteArray.mk #[115]++AL v5.length),bV true,iv (Ae L v2 (iN v3.length)),iv (Ae L (v2+1) (iN v3.length)),iv (i64.wrap (1+Ae L (v2+1+1) 3)),iv v0]].length by simp)) (aj a7 a8)))) (u2 (al t3))))))) (al (u2 (u2 s2)))) (k2 (k5 (aj (al t9) t4)))) (by simp[up,upF,upV,upH,upB,Cr,gL,boL,lI,bA,sA]))
 (fun a3=>
  .br (fun a4=>
  .gu fun a5=>
  .gu fun a6=>
  .gu fun a7=>
  .gu fun a8=>
  have c0:=I0 (v5.length) a1;
  have c1:=AG (L) v2 (2) a5;
  have c2:=AG (L) (v2+1) (iN v3.length) a6;
  have c3:=AG (L) (v2+1+1) (iN v3.length) a7;
  have c4:=AG (L) (v2+1+1+1) (3) a8;
  .rn 1 [140,147] [] [(66,hK c0 [] []),(75,hK c1 [0] []),(83,hK c2 [0] []),(88,hK c3 [0] []),(90,hK c4 [0] [])] [] (aj (u2 (aj (k2 (al (c0))) (aj (ak a2) (u2 (u2 (u2 (ag a3 (ag a3 (ag a3 (ag a4 (aj (aj a4 (ak (k3 (al (c1))))) (ag a4 (aj (aj a3 (aj a4 t2)) (ag a3 (u2 (u2 (u2 (u2 (aj (k5 (al (c2))) (u2 (u2 (u2 (u2 (aj (k5 (al (c3))) (u2 (aj (ak (k3 (al (c4)))) (u2 (u2 (aj t7 (ak (al (k2 n11)))))))))))))))))))))))))))))))) (al (u2 (u2 (u2 (aj t3 s2)))))) <|
  .gu fun a9=>
  .gu fun a10=>
  .lq [140,147] [] [] [] [] [0,1,2,3,4,8] [0,4,5,8,9] (up [] [(2,[AV.agg [AV.sl 3 0 v3.length,AV.sl 4 0 v4.length,AV.sl 5 0 ((TY sA v5).length+[AV.agg [AV.str (ByteArray.mk #[115]++AL v5.length),bV (Ae L v2 2==0),iv (Ae L (v2+1) (iN v3.length)),iv (Ae L (v2+1+1) (iN v3.length)),iv (i64.wrap (1+Ae L (v2+1+1+1) 3)),iv v0]].length),AV.nils,iv 0,iv 0,iv 0,iv 0]]),(5,TY sA v5++[AV.agg [AV.str (ByteArray.mk #[115]++AL v5.length),bV (Ae L v2 2==0),iv (Ae L (v2+1) (iN v3.length)),iv (Ae L (v2+1+1) (iN v3.length)),iv (i64.wrap (1+Ae L (v2+1+1+1) 3)),iv v0]])] (Cr L kk most (.l1 (i64.wrap (v0+i64.wrap (1+Ae L (v2+1+1+1) 3))) (i64.wrap (v1-1)) (v2+1+1+1+1) v3 v4 (v5++[Av.mk (ByteArray.mk #[115]++AL v5.length) (Ae L v2 2==0) (Ae L (v2+1) (iN v3.length)) (Ae L (v2+1+1) (iN v3.length)) (i64.wrap (1+Ae L (v2+1+1+1) 3)) v0])))) (aj (aj (u2 (u2 (u2 (u2 (aj (k2 (aj (show(TY sA v5).length=v5.length by simp) (aj (aj (show nat_lit 6=nat_lit 6 from rfl) (show 1<=[AV.agg [AV.str (ByteArray.mk #[115]++AL v5.length),bV (Ae L v2 2==0),iv (Ae L (v2+1) (iN v3.length)),iv (Ae L (v2+1+1) (iN v3.length)),iv (i64.wrap (1+Ae L (v2+1+1+1) 3)),iv v0]].length by simp)) (aj a9 a10)))) (u2 (al t3))))))) (al (u2 (u2 s2)))) (k2 (k5 (aj (al t9) t4)))) (by simp[up,upF,upV,upH,upB,Cr,gL,boL,lI,bA,sA]))
  (fun a4=>
  .gu fun a5=>
  .gu fun a6=>
  .gu fun a7=>
  have c0:=I0 (v5.length) a1;
  have c1:=AG (L) v2 (iN v3.length) a5;
  have c2:=AG (L) (v2+1) (iN v3.length) a6;
  have c3:=AG (L) (v2+1+1) (3) a7;
  .rn 1 [140,146] [] [(66,hK c0 [] []),(83,hK c1 [0] []),(88,hK c2 [0] []),(90,hK c3 [0] [])] [] (aj (u2 (aj (k2 (al (c0))) (aj (ak a2) (u2 (u2 (u2 (ag a3 (ag a3 (ag a3 (aj a4 (aj a4 (aj a4 (aj (aj a3 (aj a4 t2)) (ag a3 (u2 (u2 (u2 (u2 (aj (k5 (al (c1))) (u2 (u2 (u2 (u2 (aj (k5 (al (c2))) (u2 (aj (ak (k3 (al (c3)))) (u2 (u2 (aj t7 (ak (al (k2 n11)))))))))))))))))))))))))))))))) (al (u2 (u2 (u2 (aj t3 s2)))))) <|
  .gu fun a8=>
  .gu fun a9=>
  .lq [140,146] [] [] [] [] [0,1,2,3,4,8] [0,4,5,8,9] (up [] [(2,[AV.agg [AV.sl 3 0 v3.length,AV.sl 4 0 v4.length,AV.sl 5 0 ((TY sA v5).length+[AV.agg [AV.str (ByteArray.mk #[115]++AL v5.length),bV false,iv (Ae L v2 (iN v3.length)),iv (Ae L (v2+1) (iN v3.length)),iv (i64.wrap (1+Ae L (v2+1+1) 3)),iv v0]].length),AV.nils,iv 0,iv 0,iv 0,iv 0]]),(5,TY sA v5++[AV.agg [AV.str (ByteArray.mk #[115]++AL v5.length),bV false,iv (Ae L v2 (iN v3.length)),iv (Ae L (v2+1) (iN v3.length)),iv (i64.wrap (1+Ae L (v2+1+1) 3)),iv v0]])] (Cr L kk most (.l1 (i64.wrap (v0+i64.wrap (1+Ae L (v2+1+1) 3))) (i64.wrap (v1-1)) (v2+1+1+1) v3 v4 (v5++[Av.mk (ByteArray.mk #[115]++AL v5.length) false (Ae L v2 (iN v3.length)) (Ae L (v2+1) (iN v3.length)) (i64.wrap (1+Ae L (v2+1+1) 3)) v0])))) (aj (aj (u2 (u2 (u2 (u2 (aj (k2 (aj (show(TY sA v5).length=v5.length by simp) (aj (aj (show nat_lit 6=nat_lit 6 from rfl) (show 1<=[AV.agg [AV.str (ByteArray.mk #[115]++AL v5.length),bV false,iv (Ae L v2 (iN v3.length)),iv (Ae L (v2+1) (iN v3.length)),iv (i64.wrap (1+Ae L (v2+1+1) 3)),iv v0]].length by simp)) (aj a8 a9)))) (u2 (al t3))))))) (al (u2 (u2 s2)))) (k2 (k5 (aj (al t9) t4)))) (by simp[up,upF,upV,upH,upB,Cr,gL,boL,lI,bA,sA]))))
 (fun a0=>
 .gu fun a1=>
 .gu fun a2=>
 .gu fun a3=>
 .gu fun a4=>
 have c0:=AG (L) v2 (4) a1;
 have c1:=AG (L) (v2+1) (3) a2;
 have c2:=AG (L) (v2+1+1) (3) a3;
 have c3:=AG (L) (v2+1+1+1) (8) a4;
 .rn 0 [118] [] [(105,hK c0 [0] []),(108,hK c1 [0] []),(110,hK c2 [0] []),(112,hK c3 [0] [])] [] (aj a0 (al (u2 (aj (ak (k3 (al (c0)))) (u2 (u2 (aj (ak (k3 (al (c1)))) (u2 (aj (ak (k3 (al (c2)))) (u2 (aj (ak (k3 (al (c3)))) (u2 (aj t5 (u2 (al t3))))))))))))))) <|
 .gu fun a5=>
 .gu fun a6=>
 have c4:=fl_c v3 v4 v5 (i64.wrap (1+Ae L v2 4)) (Ae L (v2+1) 3) (Ae L (v2+1+1) 3) (i64.wrap (1+Ae L (v2+1+1+1) 8)) a5 a6;
 .rn 0 [] [] [(118,hK c4 [] [3,4,5])] [] (al (u2 (aj (ak (aj (aj (show v3.length=(TY bA v3).length by simp) (aj (show v4.length=(TY lI v4).length by simp) (aj (show v5.length=(TY sA v5).length by simp) t6))) (aj (c4) (show ∀(blk:Blk),blk∈[]->A4 blk from(by intro _ h;cases h))))) (u2 (u2 (u2 (ak (aj (k2 n11) s2)))))))) <|
 .gu fun a7=>
 have c5:=AG (L) (v2+1+1+1+1) (3) a7;
 .lp [] [] [(122,hK c5 [0] [])] [] [(4005,1)] [0,1,2,6,3,4,5,7] [0,4,5,12,14] (aj (al (u2 (aj (ak (k3 (al (c5)))) (u2 s2)))) (k2 (k5 (aj (al t9) t6)))))) (by kernel_rfl)
 | .l2 v0 v1 v2 v3 v4 v5 v6 v7 v8 v9 v10 v11 v12,ho=>Scr.ok (X:=Gh L kk most v0 v1 v2 v3 v4 v5 v6 v7 v8 v9 v10 v11 v12) ho mix (
 .br (fun a0=>
 .rn 0 [253] [] [] [] (al (u2 (u2 (u2 (ag a0 (ag a0 (ag a0 (ag a0 (ag a0 (aj (aj a0 t3) (al (aj a0 t2)))))))))))) <|
 .br (fun a1=>
  .lp [253,267] [] [] [] [(15,1)] [0,1,2,3,8,4,5,6,7] [0,4,5,12,14,15,16] (aj (aj a1 (u2 s2)) (ak (k3 (k5 (aj (al t9) t7))))))
 (fun a1=>
  .rt [253,266] [] [] [] [0] [4,5,6,7] (aj (aj a1 (al (u2 (al (k2 n11))))) (aj (aj (show v2.length=(TY bA v2).length by simp) (aj (show v3.length=(TY lI v3).length by simp) (aj (show v4.length=(TY sA v4).length by simp) (aj (show v5.length=(TY iv v5).length by simp) t5)))) t2))))
 (fun a0=>
 .rt [252] [] [] [] [0] [4,5,6,7] (aj (aj (u2 (u2 (u2 (aj a0 (aj a0 (aj a0 (aj a0 (aj a0 (aj a0 (al (aj a0 t2))))))))))) (ak (al (u2 (al (k2 n11)))))) (aj (aj (show v2.length=(TY bA v2).length by simp) (aj (show v3.length=(TY lI v3).length by simp) (aj (show v4.length=(TY sA v4).length by simp) (aj (show v5.length=(TY iv v5).length by simp) t5)))) t2)))) (by kernel_rfl)
 | .l3 v0 v1 v2 v3 v4 v5 v6 v7 v8 v9 v10 v11 v12 v13 v14,ho=>Scr.ok (X:=Gt L kk most v0 v1 v2 v3 v4 v5 v6 v7 v8 v9 v10 v11 v12 v13 v14) ho mix (
 .rn 0 [] [] [] [] (al (u2 (u2 (u2 (u2 (al t3)))))) <|
 .br (fun a0=>
 .lp [281] [] [] [] [] [0,1,2,3,4,5,6,7,8] [0,4,5,12,14,15,16,17] (aj (aj a0 s2) (k5 (k5 (aj (al t9) t7)))))
 (fun a0=>
 .gu fun a1=>
 .gu fun a2=>
 .gu fun a3=>
 .el fun x186 a4=>
 .gu fun a5=>
 .gu fun a6=>
 have c0:=AG (L) v3 (iN v1.length) a1;
 .lq [280] [(186,iv x186)] [(184,hK c0 [0] [])] [] [] [0,1,2,3,5,6,7,10] [0,4,5,12,14] (up [] [(2,[AV.agg [AV.sl 4 0 v4.length,AV.sl 5 0 v5.length,AV.sl 6 0 v6.length,AV.sl 7 0 ((TY iv v7).length+[iv x186].length),iv v8,iv v9,iv v10,iv v11]]),(7,TY iv v7++[iv x186])] (Cr L kk most (.l2 (i64.wrap (v0-1)) (v3+1) v4 v5 v6 (v7++[x186]) v8 v9 v10 v11 v12 v13 v14))) (aj (aj a0 (aj (u2 (u2 (u2 (u2 (u2 (u2 (aj (k5 (al (c0))) (aj (k2 (aj a2 a3)) (aj (ak (Af (f:=iv) a4)) (u2 (aj (k2 (aj (show(TY iv v7).length=v7.length by simp) (aj (aj (show nat_lit 1=nat_lit 1 from rfl) (show 1<=[iv x186].length by simp)) (aj a5 a6)))) (u2 (al t3))))))))))))) (al (u2 (u2 s2))))) (k2 (k5 (aj (al t9) t6)))) (by simp[up,upF,upV,upH,upB,Cr,gL,boL,lI,bA,sA]))) (by kernel_rfl)
 | .l4 v0 v1 v2 v3 v4 v5 v6 v7 v8 v9 v10 v11 v12 v13 v14 v15,ho=>Scr.ok (X:=Gq L kk most v0 v1 v2 v3 v4 v5 v6 v7 v8 v9 v10 v11 v12 v13 v14 v15) ho mix (
 .gu fun a0=>
 .gu fun a1=>
 .el fun x149 a2=>
 .br (fun a3=>
 .el fun x157 a4=>
 .rn 0 [303] [(149,sA x149),(157,sA x157)] [] [] (al (u2 (u2 (u2 (u2 (aj (k2 (aj a0 a1)) (u2 (aj (ak (Af (f:=sA) a2)) (aj t3 (u2 (ag a3 (ag a3 (ag a3 (aj (aj a3 (k2 (aj a0 a1))) (ag a3 (aj (aj a3 (ak (Af (f:=sA) a4))) (al (aj a3 t2)))))))))))))))))) <|
 .br (fun a5=>
  .el fun x166 a6=>
  .rn 0 [303,317] [(166,sA x166)] [] [] (aj a5 (al (u2 (u2 (u2 (aj (k2 (aj a0 a1)) (u2 (aj (ak (Af (f:=sA) a6)) (u2 (aj t3 s2)))))))))) <|
  .gu fun a7=>
  have c0:=Dd v8 (i64.wrap (x166.b+v3)) a7;
  .rn 0 [303] [] [(172,hK c0 [] [8])] [] (al (u2 (u2 (u2 (aj (k2 (aj (show v8.length=(TY iv v8).length by simp) (ak (aj (c0) (show ∀(blk:Blk),blk∈[]->A4 blk from(by intro _ h;cases h)))))) s2))))) <|
  .br (fun a8=>
  .gu fun a9=>
  .gu fun a10=>
  .lq [303,347] [] [] [] [] [0,1,2,3,10,5,6,7,8] [0,4,5,12,14,15,16,17] (up [(15,AV.sl 4 0 ((TY iv v1).length+[iv (i64.wrap (x166.b+v3))].length))] [(4,TY iv v1++[iv (i64.wrap (x166.b+v3))])] (Cr L kk most (.l4 v0 (v1++[i64.wrap (x166.b+v3)]) v2 (i64.wrap (v3+1)) v4 v5 v6 v7 v8 v9 v10 v11 v12 v13 v14 v15))) (aj (aj a8 (aj (u2 (u2 (u2 (aj (k2 (aj (show(TY iv v1).length=v1.length by simp) (aj (aj (show nat_lit 1=nat_lit 1 from rfl) (show 1<=[iv (i64.wrap (x166.b+v3))].length by simp)) (aj a9 a10)))) s2)))) (al (u2 (u2 s2))))) (k5 (k5 (aj (al t9) t7)))) (by simp[up,upF,upV,upH,upB,Cr,gL,boL,lI,bA,sA]))
  (fun a8=>
  .lp [303,346] [] [] [] [] [0,1,2,3,4,5,6,7,8] [0,4,5,12,14,15,16,17] (aj (aj a8 (al (u2 (u2 s2)))) (k5 (k5 (aj (al t9) t7))))))
 (fun a5=>
  .lp [303,316] [] [] [] [] [0,1,2,3,4,5,6,7,8] [0,4,5,12,14,15,16] (aj (aj a5 (al (u2 (u2 s2)))) (ak (k3 (k5 (aj (al t9) t7)))))))
 (fun a3=>
 .lp [302] [(149,sA x149)] [] [] [] [0,1,2,3,4,5,6,7,8] [0,4,5,12,14,15,16] (aj (aj (u2 (u2 (u2 (u2 (aj (k2 (aj a0 a1)) (u2 (aj (ak (Af (f:=sA) a2)) (aj t3 (u2 (aj a3 (aj a3 (aj a3 (aj a3 (aj a3 (aj a3 (al (aj a3 t2))))))))))))))))) (ak (al (u2 (u2 s2))))) (ak (k3 (k5 (aj (al t9) t7))))))) (by kernel_rfl)
  )
  (fun o ho=>Scr.ok (X:=JD L kk most) ho mix (
 .rn 1 [] [] [] [] (u2 s2) <|
 .gu fun a0=>
 have c0:=AG (L) (kk) (most) a0;
 .lp [] [] [(21,hK c0 [0] [])] [] [(2005,1),(1005,3)] [0,1,2,4,3] [0,4,5,6] (aj (al (u2 (u2 (aj (k5 (al (c0))) (u2 s2))))) (ak (k5 (aj (al t9) t3))))) (by kernel_rfl)) h
def BkI(bs:List Az):Prop:=∀(i:Nat) (b:Az),bs[i]?=some b->b.nm=Jo i/\-4<=b.x/\b.x<=4/\-4<=b.y/\b.y<=4
def bsS(K:Nat)(ss:List Av)(i:Nat):Int:=(K:Int)+((ss.take i).map (·.k)).sum
structure SpE(K:Nat)(ss:List Av)(i:Nat)(s:Av):Prop where
 nm:s.nm=IT i
 d0:i=0->s.dep=true
 d1:i=1\/i=2->s.dep=false
 hi:0<=s.i/\s.i<(K:Int)
 ho:0<=s.o/\s.o<(K:Int)
 hk:1<=s.k/\s.k<=3
 hb:s.b=bsS K ss i
def SpI(K:Nat)(ss:List Av):Prop:=∀(i:Nat) (s:Av),ss[i]?=some s->SpE K ss i s
theorem SpI.snoc{K:Nat}{ss:List Av}(h:SpI K ss){s:Av}(hs:SpE K ss ss.length s):SpI K (ss++[s])/\bsS K (ss++[s]) (ss.length+1)=bsS K ss ss.length+s.k:=by
 have e:∀i,i<=ss.length->bsS K (ss++[s]) i=bsS K ss i:=fun i hi=>by unfold bsS;rw[List.take_append_of_le_length hi]
 refine⟨fun i t ht=>?_,?_⟩
 .by_cases hi:i<ss.length
  .rw[List.getElem?_append_left hi] at ht;have g:=h i t ht;exact⟨g.nm,g.d0,g.d1,g.hi,g.ho,g.hk,by rw[e i (by omega)];exact g.hb⟩
  .have hl:=(S4.1 ht).1;rw[Tl,TF] at hl;obtain rfl:i=ss.length:=by omega
   rw[List.getElem?_append_right (Td _),SM] at ht;obtain rfl:s=t:=by simpa using ht
   exact⟨hs.nm,hs.d0,hs.d1,hs.hi,hs.ho,hs.hk,by rw[e _ (Td _)];exact hs.hb⟩
 .unfold bsS;rw[List.take_of_length_le (by simp),List.take_length];simp;omega
theorem row_ok{b v:Nat}{r:List Int}(h:Ge b v r):nxB r v b=true:=by
 have hf:fnd (nxE r v b) 0 r.length=none:=La fun k _ hk=>by
  have hk:k<r.length:=by omega
  have hm:r.getD k 0∈r:=by rw[F3 hk];exact Ty hk
  obtain⟨h1,h2,h3⟩:=h.el _ hm;have h4:BL r k<r.getD k 0:=by
   unfold BL;split
   .omega
   .rw[F3 hk,F3 (show k-1<r.length by omega)];exact List.pairwise_iff_getElem.1 h.asc _ _ _ _ (by omega)
  unfold nxE;simp only[Bool.or_eq_false_iff,decide_eq_false_iff_not,TC];exact⟨⟨by omega,by omega⟩,h3⟩
 unfold nxB;rw[hf];simp[h.len]
theorem NY{bs:List Az}{g:List (List Int)}{ss:List Av}{rs:List Int}{q a d p:Int}(hK:1<=bs.length/\bs.length<=24)(hb:BkI bs)(hg:GK bs.length g)(hs:SpI bs.length ss)(hl:3<=ss.length/\ss.length<=5)(hq:1<=q/\q<=4)(ha:0<=a/\a<=2)(hd:0<=d/\d<=2)(hp:1<=p/\p<=8)
  (hr:rs.length<=8) (hrs:∀(i:Nat) c,rs[i]?=some c->Cn ⟨bs,g,ss,rs,q,a,d,p⟩ ss.length c/\c∉rs.take i):Ao ⟨bs,g,ss,rs,q,a,d,p⟩:=by
 have hi6:∀{i:Nat} {s:Av},ss[i]?=some s->i<6:=fun h=>by have:=(S4.1 h).1;omega
 have hi24:∀{i:Nat} {b:Az},bs[i]?=some b->i<24:=fun h=>by have:=(S4.1 h).1;omega
 refine⟨Bi.2 (by simp only;omega),hg.len,by simp only;omega,hr,?_,fun i b h=>?_,fun i s h=>?_,?_,?_,hrs⟩
 .unfold CC;simp only[Ta,Bi];omega
 .obtain⟨h1,h2⟩:=hb i b h;exact⟨by rw[h1];exact nmBk_ok i (hi24 h),Bi.2 (by omega),Bi.2 (by omega),row_ok (hg.row i (S4.1 h).1)⟩
 .have e:=hs i s h;have e1:=e.hi;have e2:=e.ho;have e3:=e.hk;exact⟨by rw[e.nm];exact nmSp_ok i (hi6 h),Bi.2 (by simp only;omega),Bi.2 (by simp only;omega),Bi.2 (by omega),e.hb⟩
 .unfold Bc;rw[List.nodup_append];refine⟨?_,?_,?_⟩
  .rw[List.nodup_iff_pairwise_ne,List.pairwise_iff_getElem];intro i j ha hb' hab he;simp only[List.getElem_map] at he;have ga:=S2 (l:=bs) (i:=i) (by simpa using ha);have gb:=S2 (l:=bs) (i:=j) (by simpa using hb');rw[(hb i _ ga).1,(hb j _ gb).1] at he;have:=nmBk_inj i (hi24 ga) j (hi24 gb) he;omega
  .rw[List.nodup_iff_pairwise_ne,List.pairwise_iff_getElem];intro i j ha hb' hab he;simp only[List.getElem_map] at he;have ga:=S2 (l:=ss) (i:=i) (by simpa using ha);have gb:=S2 (l:=ss) (i:=j) (by simpa using hb');rw[(hs i _ ga).nm,(hs j _ gb).nm] at he;have:=nmSp_inj i (hi6 ga) j (hi6 gb) he;omega
  .intro a ha b' hb' he;obtain⟨s,hs',rfl⟩:=Tx.1 ha;obtain⟨t,ht,rfl⟩:=Tx.1 hb';obtain⟨i,hi⟩:=List.mem_iff_getElem?.1 hs';obtain⟨j,hj⟩:=List.mem_iff_getElem?.1 ht;rw[(hb i s hi).1,(hs j t hj).nm] at he;exact nm_dis i (hi24 hi) j (hi6 hj) he
 .obtain⟨s,h⟩:∃s,ss[0]?=some s:=⟨_,S2 (by omega)⟩;have e:=hs 0 s h;have e3:=e.hk;refine⟨s.b,s,?_,e.d0 rfl,by omega,by omega⟩;rw[List.take_length];exact S6 h
structure Iv(n:Aa):Prop where
 v:Ao n
 ln:3<=n.ss.length/\n.ss.length<=5
 d0:∀s,n.ss[0]?=some s->s.dep=true
 d1:∀s,n.ss[1]?=some s->s.dep=false
 d2:∀s,n.ss[2]?=some s->s.dep=false
 rows:Rows n.nx
abbrev DZ(kk:Nat):={p:Aa×Nat // Iv p.1/\p.2<=kk+200}
def Ek(L:List Int){kk:Nat}(p:DZ kk):Ret:=([some (AE L p.1.2)],Aj p.1.1)
theorem NX{l:List Int}{x y:Int}(h:x<=y):l.countP (fun z=>decide (z<x))<=l.countP (fun z=>decide (z<y)):=List.countP_mono_left fun z _ hz=>by simp only[decide_eq_true_eq] at hz ⊢;omega
theorem Px{x:Int}:∀{l:List Int},x∈l->l.countP (fun z=>decide (z<x))+1<=l.countP (fun z=>decide (z<x+1))
 | y::t,h=>by
  rw[List.countP_cons,List.countP_cons];have m:=NX (l:=t) (show x<=x+1 by omega);rcases Tv.1 h with e | h
  .subst e;rw[S1 (by simp),S0 (by simp;omega)];omega
  .have ih:=Px h;by_cases hy:y<x
   .rw[S0 (by simpa using hy),S0 (by simp;omega)];omega
   .rw[S1 (by simpa using hy)];split<;>omega
theorem rep_f(c j:Nat):(TZ c false).getD j false=false:=by rw[S3,Ts];split<;>rfl
theorem slT_all{n:Aa}{c i:Nat}{s:Av}(hs:n.ss[i]?=some s):slT n (TZ c false) i=if s.dep=true then s.k else 0:=by
 have ho:opB n (TZ c false) (i:Int)=true:=by unfold opB;rw[Tb,hs];unfold IR;simp only[rep_f];rw[La fun _ _ _=>rfl];rfl
 unfold slT;rw[ho,S3,hs];simp
def RbI(n:Aa)(rs:List Int):Prop:=∀(i:Nat) c,rs[i]?=some c->Cn n n.ss.length c/\c∉rs.take i
theorem RbI.snoc{n:Aa}{rs:List Int}(h:RbI n rs){x:Int}(hd:Cn n n.ss.length x)(hx:x∉rs):RbI n (rs++[x]):=fun i c hc=>by
 by_cases hi:i<rs.length
 .rw[List.getElem?_append_left hi] at hc;rw[List.take_append_of_le_length (by omega)];exact h i c hc
 .have hl:=(S4.1 hc).1;rw[Tl,TF] at hl;obtain rfl:i=rs.length:=by omega
  rw[List.getElem?_append_right (Td _),SM] at hc;obtain rfl:x=c:=by simpa using hc
  rw[List.take_append_of_le_length (Td _),List.take_length];exact⟨hd,hx⟩
theorem GK.rows{b:Nat}{g:List (List Int)}(h:GK b g):Rows g:=fun v hv=>by have:=(h.row v (by rw[<-h.len];exact hv)).len;omega
theorem net2_ex{L:List Int}{kk:Nat}{most:Int}{bs:List Az}{g:List (List Int)}{ss:List Av}{q a d p e z c:Int}(hK:1<=bs.length/\bs.length<=24)(hb:BkI bs)(hg:GK bs.length g)(hs:SpI bs.length ss)(hl:3<=ss.length/\ss.length<=5)(hq:1<=q/\q<=4)(ha:0<=a/\a<=2)(hd:0<=d/\d<=2)(hp:1<=p/\p<=8)(hkk:kk<=5000)
  (hc:c<=slS (flN bs g ss q a d p) (TZ (Am (flN bs g ss q a d p)) false)):∀(m t:Nat) (rs:List Int),rs.length+m<=3->t+m<=kk+200->RbI (flN bs g ss q a d p) rs->∃w:DZ kk,Ac (BN L kk most) (some (.inl (.l2 (m:Int) t bs g ss rs q a d p e z c))) (Ek L w):=by
 have fin:∀{t:Nat} {rs:List Int},rs.length<=3->t<=kk+200->RbI (flN bs g ss q a d p) rs->∃w:DZ kk,Ac (BN L kk most) (some (.inr ([some (Blk.mk [AV.agg [T4 (TY (AV.int .i64) L),.int .i64 (iN t)]] 2 true true none)],AV.agg [T4 (TY bA bs),T4 (TY lI g),T4 (TY sA ss),T4 (TY (AV.int .i64) rs),.int .i64 q,.int .i64 a,.int .i64 d,.int .i64 p]))) (Ek L w):=fun {t rs} h1 h2 h3=>
  ⟨⟨(⟨bs,g,ss,rs,q,a,d,p⟩,t),⟨NY hK hb hg hs hl hq ha hd hp (by omega) h3,hl,fun s h=>(hs 0 s h).d0 rfl,fun s h=>(hs 1 s h).d1 (.inl rfl),fun s h=>(hs 2 s h).d1 (.inr rfl),hg.rows⟩,h2⟩,.ret _⟩
 generalize hn:flN bs g ss q a d p=n at hc fin;have hnss:n.ss=ss:=by rw[<-hn];rfl
 have hnb:∀i s,ss[i]?=some s->s.b=AO n i:=fun i s h=>by rw[<-hn];exact(hs i s h).hb
 have hv:Ao n:=by rw[<-hn];exact NY hK hb hg hs hl hq ha hd hp (Te _) fun i c h=>by simp at h
 have hnl:n.bs.length=bs.length:=by rw[<-hn];rfl
 generalize Am n=cel at hc;intro m;induction m with
 | zero=>intro t rs h1 h2 h3;refine AD (show BN L kk most (.l2 (0:Nat) t bs g ss rs q a d p e z c)=Gh L kk most (0:Nat) t bs g ss rs q a d p e z c from rfl) ?_;unfold Gh;rw[Ad (S7 (by omega))];exact fin (by omega) (by omega) h3
 | succ m ih=>
  intro t rs h1 h2 h3;refine AD (show BN L kk most (.l2 ((m+1:Nat):Int) t bs g ss rs q a d p e z c)=Gh L kk most ((m+1:Nat):Int) t bs g ss rs q a d p e z c from rfl) ?_;unfold Gh;rw[Ag (S8 (by omega))];refine CI (fun hlt=>?_) fun _=>fin (by omega) (by omega) h3
  have e3:∀(j i:Nat) (fr:List Int),i+j=ss.length->(∀y∈fr,Cn n n.ss.length y/\y∉rs)->slI n (TZ cel false) i<=fr.length+rs.countP (fun z=>decide (z<AO n i))->fr.length<=4 * i->∃w:DZ kk,Ac (BN L kk most) (some (.inl (.l3 ((m+1:Nat):Int) fr (i:Int) t bs g ss rs q a d p e z c))) (Ek L w):=by
   intro j;induction j with
   | zero=>
    intro i fr hi hf hcnt hfl;obtain rfl:i=ss.length:=by omega
    refine AD (show BN L kk most (.l3 ((m+1:Nat):Int) fr (ss.length:Int) t bs g ss rs q a d p e z c)=Gt L kk most ((m+1:Nat):Int) fr (ss.length:Int) t bs g ss rs q a d p e z c from rfl) ?_;have hpos:1<=fr.length:=by have:=List.countP_le_length (p:=fun z=>decide (z<AO n ss.length)) (l:=rs);unfold slS at hc;rw[hnss] at hc;simp only[iN] at hlt;omega
    have r:=BA L t (iN fr.length) (by simp only[iN];omega) (by simp only[iN];omega);unfold Gt;rw[Ad (S7 (by simp only[iN];omega)),Ab (by omega),Ab r.1,Ab r.2,Th];simp only[iN] at r;have hx:=S2 (l:=fr) (i:=(Ae L t (iN fr.length)).toNat) (by simp only[iN];omega);rw[An hx,Ab (by simp only[S5,TF];omega),Ab (by simp only[S5,TF];omega),AZ _ (by omega) (by omega),show((m+1:Nat):Int)-1=(m:Int) by omega];have hm:=hf _ (S6 hx);exact ih (t+1) _ (by simp;omega) (by omega) (h3.snoc hm.1 hm.2)
   | succ j ih3=>
    intro i fr hi hf hcnt hfl;have hsi:ss[i]?=some ss[i]:=S2 (by omega);have hsn:n.ss[i]?=some ss[i]:=by rw[hnss];exact hsi
    have hSe:=hs i _ hsi;have hb0:=hnb i _ hsi;have hbd:=hv.bd i;have hS1:slI n (TZ cel false) (i+1)=slI n (TZ cel false) i+if ss[i].dep=true then ss[i].k else 0:=by rw[<-slT_all (c:=cel) hsn];rfl
    have hB1:=CF hsn;refine AD (show BN L kk most (.l3 ((m+1:Nat):Int) fr (i:Int) t bs g ss rs q a d p e z c)=Gt L kk most ((m+1:Nat):Int) fr (i:Int) t bs g ss rs q a d p e z c from rfl) ?_;unfold Gt;rw[Ag (S8 (by simp only[iN];omega))];generalize ss[i]=s at hsi hsn hSe hb0 hS1 hB1;have hk:=hSe.hk;have e4:∀(j k:Nat) (fr:List Int),(k:Int)+j=s.k->(∀y∈fr,Cn n n.ss.length y/\y∉rs)->slI n (TZ cel false) i+(if s.dep=true then (k:Int) else 0)<=fr.length+rs.countP (fun z=>decide (z<s.b+k))->fr.length<=4 * i+k->∃w:DZ kk,Ac (BN L kk most) (some (.inl (.l4 ((m+1:Nat):Int) fr (i:Int) (k:Int) t bs g ss rs q a d p e z c))) (Ek L w):=by
     intro j;induction j with
     | zero=>intro k fr hk1 hf hcnt hfl;refine AD (show BN L kk most (.l4 ((m+1:Nat):Int) fr (i:Int) (k:Int) t bs g ss rs q a d p e z c)=Gq L kk most ((m+1:Nat):Int) fr (i:Int) (k:Int) t bs g ss rs q a d p e z c from rfl) ?_;unfold Gq;rw[Ab (by omega),Ab (by simp only[iN];omega),Th,Tb,An hsi,Ad (S7 (by omega)),zW i (by omega)];refine ih3 (i+1) fr (by omega) hf ?_ (by omega);rw[hS1,hB1,<-hb0];rw[show (k:Int)=s.k by omega] at hcnt;exact hcnt
     | succ j ih4=>
      intro k fr hk1 hf hcnt hfl;refine AD (show BN L kk most (.l4 ((m+1:Nat):Int) fr (i:Int) (k:Int) t bs g ss rs q a d p e z c)=Gq L kk most ((m+1:Nat):Int) fr (i:Int) (k:Int) t bs g ss rs q a d p e z c from rfl) ?_;unfold Gq;rw[Ab (by omega),Ab (by simp only[iN];omega),Th,Tb,An hsi,Ag (S8 (by omega)),An hsi];cases hdp:s.dep with
      | false=>
       rw[Ad rfl,zW i (by omega)];refine ih3 (i+1) fr (by omega) hf ?_ (by omega);have:=NX (l:=rs) (show s.b+(k:Int)<=s.b+s.k by omega);rw[hdp] at hcnt hS1;rw[hS1,hB1,<-hb0];simp only[Bool.false_eq_true,if_false] at hcnt ⊢
       omega
      | true=>
       rw[hdp] at hcnt;rw[Ag rfl,An hsi,Ab (by omega),AZ _ (by omega) (by omega),zW k (by omega)];have hmo:=NX (l:=rs) (show s.b+(k:Int)<=s.b+(k:Int)+1 by omega);simp only[if_true] at hcnt;refine Aq (fun hz=>?_) fun hz=>?_
       .rw[Ab (by simp only[S5,TF];omega),Ab (by simp only[S5,TF];omega)];refine ih4 (k+1) _ (by omega) (fun y hy=>?_) ?_ (by simp;omega)
        .rcases Tw.1 hy with hy | hy
         .exact hf y hy
         .rw[SU.1 hy];refine⟨⟨s,?_,hdp,by omega,by omega⟩,KP (by simpa using hz)⟩;rw[List.take_length];exact S6 hsn
        .rw[hdp,S0 rfl,show s.b+((k+1:Nat):Int)=s.b+(k:Int)+1 by omega,Tl,TF];omega
       .refine ih4 (k+1) fr (by omega) hf ?_ (by omega);have:=Px (Eo.1 (show AN rs (s.b+(k:Int))=true by simpa using hz));rw[hdp,S0 rfl,show s.b+((k+1:Nat):Int)=s.b+(k:Int)+1 by omega];omega
    refine e4 s.k.toNat 0 fr (by omega) hf ?_ (by omega);rw[show s.b+((0:Nat):Int)=AO n i by rw[<-hb0];omega];split<;>simpa using hcnt
  exact e3 ss.length 0 [] (Th _) (fun y hy=>by cases hy) (by simp[slI]) (Te _)
theorem PW(n:Nat):(AL n).size<=2:=by unfold AL;split<;>exact nL rfl
theorem net_ex(L:List Int)(kk:Nat)(hkk:kk<=5000)(most:Int)(hmo:1<=most/\most<=20):∃w:DZ kk,Ac (BN L kk most) (JD L kk most) (Ek L w):=by
 have r0:=BA L kk most (by omega) (by omega);have e1:∀(bs:List Az) (g:List (List Int)),1<=bs.length/\bs.length<=24->BkI bs->GK bs.length g->∀(m t:Nat) (ss:List Av),3<=ss.length+m->ss.length+m<=5->t+4 * m<=kk+90->SpI bs.length ss->∃w:DZ kk,Ac (BN L kk most) (some (.inl (.l1 (bsS bs.length ss ss.length) (m:Int) t bs g ss))) (Ek L w):=by
  intro bs g hK hb hg m;induction m with
  | zero=>
   intro t ss h1 h2 h3 hs;refine AD (show BN L kk most (.l1 _ (0:Nat) t bs g ss)=H8 L kk most _ (0:Nat) t bs g ss from rfl) ?_;have a1:=BA L t 4 (by omega) (by omega);have a2:=BA L (t+1) 3 (by omega) (by omega);have a3:=BA L (t+1+1) 3 (by omega) (by omega);have a4:=BA L (t+1+1+1) 8 (by omega) (by omega);have a5:=BA L (t+1+1+1+1) 3 (by omega) (by omega);unfold H8;rw[Ad (S7 (by omega)),AZ (1+Ae L t 4) (by omega) (by omega),AZ (1+Ae L (t+1+1+1) 8) (by omega) (by omega),AZ (1+Ae L (t+1+1+1+1) 3) (by omega) (by omega)];have hv:Ao (flN bs g ss (1+Ae L t 4) (Ae L (t+1) 3) (Ae L (t+1+1) 3) (1+Ae L (t+1+1+1) 8)):=NY hK hb hg hs ⟨by omega,by omega⟩ (by omega) (by omega) (by omega) (by omega) (Te _) fun i c h=>by simp at h
   rw[Ab (by omega),Ab (by omega),Ab (by omega),Ab (by omega),Ab hv,Ab hg.rows,Ab (by omega)];obtain⟨k,hk⟩:∃k:Nat,(k:Int)=1+Ae L (t+1+1+1+1) 3:=⟨(1+Ae L (t+1+1+1+1) 3).toNat,by omega⟩;rw[<-hk];exact net2_ex hK hb hg hs ⟨by omega,by omega⟩ (by omega) (by omega) (by omega) (by omega) hkk (fl_p hv hg.rows) k _ [] (by simp only[TH];omega) (by omega) fun i c h=>by simp at h
  | succ m ih=>
   intro t ss h1 h2 h3 hs;have hz:=PW ss.length
   have step:∀(t':Nat) (dp:Bool) (x y w:Int),t'<=t+4->(ss.length=0->dp=true)->(ss.length=1\/ss.length=2->dp=false)->0<=x/\x<(bs.length:Int)->0<=y/\y<(bs.length:Int)->0<=w/\w<3->∃p:DZ kk,Ac (BN L kk most)
     (some (.inl (.l1 (i64.wrap (bsS bs.length ss ss.length+i64.wrap (1+w))) (i64.wrap (((m+1:Nat):Int)-1)) t' bs g (ss++[Av.mk (ByteArray.mk #[115]++AL ss.length) dp x y (i64.wrap (1+w)) (bsS bs.length ss ss.length)])))) (Ek L p):=by
    intro t' dp x y w ht d0 d1 hx hy hw;rw[AZ (1+w) (by omega) (by omega)];have hS:=hs.snoc (s:=Av.mk (ByteArray.mk #[115]++AL ss.length) dp x y (1+w) (bsS bs.length ss ss.length)) ⟨rfl,d0,d1,hx,hy,by simp only;omega,rfl⟩;have hbd : -1000<=bsS bs.length ss ss.length/\bsS bs.length ss ss.length<=1000:=by
     have key:∀i,i<=ss.length->0<=bsS bs.length ss i/\bsS bs.length ss i<=24+3 * i:=by
      intro i;induction i with
      | zero=>intro _;unfold bsS;simp;omega
      | succ i ih=>intro hi;have g:=ih (by omega);have e:=AA s0 (show i<ss.length by omega);have hk:=(hs i _ e).hk;have:bsS bs.length ss (i+1)=bsS bs.length ss i+(ss.getD i s0).k:=CF (n:=flN bs [] ss 0 0 0 0) e;omega
     have:=key ss.length (Td _);omega
    rw[AZ (bsS bs.length ss ss.length+(1+w)) (by omega) (by omega),AZ (((m+1:Nat):Int)-1) (by omega) (by omega),show((m+1:Nat):Int)-1=(m:Int) by omega];have:=ih t' _ (by rw[Tl,TF];omega) (by rw[Tl,TF];omega) (by omega) hS.1;rw[Tl,TF,hS.2] at this;exact this
   refine AD (show BN L kk most (.l1 _ ((m+1:Nat):Int) t bs g ss)=H8 L kk most _ ((m+1:Nat):Int) t bs g ss from rfl) ?_;have rb:∀k,0<=Ae L k (iN bs.length)/\Ae L k (iN bs.length)<(bs.length:Int):=fun k=>BA L k (iN bs.length) (by simp only[iN];omega) (by simp only[iN];omega)
   have r3:∀k,0<=Ae L k 3/\Ae L k 3<3:=fun k=>BA L k 3 (by omega) (by omega)
   unfold H8;rw[Ag (S8 (by omega)),Ab (by omega),Ab (show Nat.le _ _ from(show 1+(AL ss.length).size<=9223372036854775807 by omega))];refine Aq (fun h0=>?_) fun h0=>CI (fun h2=>?_) fun h2=>?_
   .have h0:ss.length=0:=by have:=beq_iff_eq.1 h0;simp only[iN] at this;omega
    rw[Ab (by omega),Ab (by omega),Ab (by omega),Ab (by simp only[S5,TF];omega),Ab (by simp only[S5,TF];omega)];exact step _ true _ _ _ (by omega) (fun _=>rfl) (fun h=>by omega) (rb _) (rb _) (r3 _)
   .have h0:ss.length≠0:=by have:=TC.1 h0;simp only[iN] at this;omega
    simp only[iN] at h2;rw[Ab (by omega),Ab (by omega),Ab (by omega),Ab (by omega),Ab (by simp only[S5,TF];omega),Ab (by simp only[S5,TF];omega)];exact step _ _ _ _ _ (by omega) (fun h=>absurd h h0) (fun h=>by omega) (rb _) (rb _) (r3 _)
   .have h0:ss.length≠0:=by have:=TC.1 h0;simp only[iN] at this;omega
    rw[Ab (by omega),Ab (by omega),Ab (by omega),Ab (by simp only[S5,TF];omega),Ab (by simp only[S5,TF];omega)];exact step _ false _ _ _ (by omega) (fun h=>absurd h h0) (fun _=>rfl) (rb _) (rb _) (r3 _)
 have e0:∀(m t:Nat) (bs:List Az),1<=bs.length+m->bs.length+m<=20->t+2 * m<=kk+41->BkI bs->∃w:DZ kk,Ac (BN L kk most) (some (.inl (.l0 (m:Int) t bs (TZ bs.length [])))) (Ek L w):=by
  intro m;induction m with
  | zero=>
   intro t bs h1 h2 h3 hb;have hK:1<=bs.length/\bs.length<=24:=by omega
   have hg:GK bs.length (TZ bs.length []):=⟨Tm ..,fun v hv=>by
    rw[S3,Ts,S0 hv];exact⟨fun w hw=>(by cases hw),List.Pairwise.nil,Te _⟩⟩
   have hr:=rg_p (L:=L) (kk:=t) hK (by omega) hg;have r:=BA L (rgK L t bs (TZ bs.length [])) 3 (by omega) (by omega);refine AD (show BN L kk most (.l0 (0:Nat) t bs (TZ bs.length []))=H5 L kk most (0:Nat) t bs (TZ bs.length []) from rfl) ?_;unfold H5;rw[Ad (S7 (by omega)),Ab hK,Ab (by omega),Ab hg,Ab (by omega),AZ _ (by omega) (by omega)];obtain⟨M,hM⟩:∃M:Nat,(M:Int)=3+Ae L (rgK L t bs (TZ bs.length [])) 3:=⟨(3+Ae L (rgK L t bs (TZ bs.length [])) 3).toNat,by omega⟩;rw[<-hM];have:=e1 bs _ hK hb hr.1 M (rgK L t bs (TZ bs.length [])+1) [] (by simp only[TH];omega) (by simp only[TH];omega) (by omega) fun i s h=>by simp at h
   rwa [show bsS bs.length [] ([]:List Av).length=iN bs.length by simp[bsS,iN]] at this
  | succ m ih=>
   intro t bs h1 h2 h3 hb;have hz:=PW bs.length;have ra:=BA L t 9 (by omega) (by omega);have rc:=BA L (t+1) 9 (by omega) (by omega);refine AD (show BN L kk most (.l0 ((m+1:Nat):Int) t bs (TZ bs.length []))=H5 L kk most ((m+1:Nat):Int) t bs (TZ bs.length []) from rfl) ?_;unfold H5;rw[Ag (S8 (by omega)),Ab (by omega),Ab (show Nat.le _ _ from(show 1+(AL bs.length).size<=9223372036854775807 by omega)),Ab (by omega),Ab (by omega),Ab (by simp only[S5,TF];omega),Ab (by simp only[S5,TF];omega),Ab (by simp only[S5,Tm];omega),Ab (by simp only[S5,Tm];omega),AZ (((m+1:Nat):Int)-1) (by omega) (by omega),AZ (Ae L t 9-4) (by omega) (by omega),AZ (Ae L (t+1) 9-4) (by omega) (by omega),show((m+1:Nat):Int)-1=(m:Int) by omega];have:=ih (t+1+1) (bs++[Az.mk (ByteArray.mk #[98]++AL bs.length) (Ae L t 9-4) (Ae L (t+1) 9-4)]) (by rw[Tl,TF];omega) (by rw[Tl,TF];omega) (by omega) fun i b h=>by
    by_cases hi:i<bs.length
    .rw[List.getElem?_append_left hi] at h;exact hb i b h
    .have hl:=(S4.1 h).1;rw[Tl,TF] at hl;obtain rfl:i=bs.length:=by omega
     rw[List.getElem?_append_right (Td _),SM] at h;obtain rfl:_=b:=by simpa using h
     exact⟨rfl,by simp only;omega,by simp only;omega,by simp only;omega,by simp only;omega⟩
   rwa [Tl,TF,List.replicate_succ'] at this
 unfold JD;rw[Ab (by omega),AZ _ (by omega) (by omega)];obtain⟨K,hK⟩:∃K:Nat,(K:Int)=1+Ae L kk most:=⟨(1+Ae L kk most).toNat,by omega⟩;rw[<-hK];exact e0 K (kk+1) [] (by simp only[TH];omega) (by simp only[TH];omega) (by omega) fun i b h=>by simp at h
theorem Lt(L:List Int)(kk:Nat)(most:Int):∃p:Aa×Nat,kk<=5000->(1<=most/\most<=20)->Iv p.1/\p.2<=kk+200/\CT T5 20 [some (AE L kk)] [.ptr 0 0 0,.int .i64 most] [some (AE L p.2)] (Aj p.1):=by
 by_cases h:kk<=5000/\(1<=most/\most<=20)
 .obtain⟨w,hw⟩:=net_ex L kk h.1 most h.2;exact⟨w.1,fun _ _=>⟨w.2.1,w.2.2,ntm_ct L kk most _ hw⟩⟩
 .exact⟨(⟨[],[],[],[],0,0,0,0⟩,0),fun a b=>absurd ⟨a,b⟩ h⟩
@[irreducible] def Ar(L:List Int)(kk:Nat)(most:Int):Aa:=(Classical.choose (Lt L kk most)).1
@[irreducible] def Iw(L:List Int)(kk:Nat)(most:Int):Nat:=(Classical.choose (Lt L kk most)).2
theorem KW{L:List Int}{kk:Nat}{most:Int}(h:kk<=5000)(hm:1<=most/\most<=20):Iv (Ar L kk most)/\Iw L kk most<=kk+200/\CT T5 20 [some (AE L kk)] [.ptr 0 0 0,.int .i64 most] [some (AE L (Iw L kk most))] (Aj (Ar L kk most)):=by unfold Ar Iw;exact TE (Lt L kk most) h hm
theorem net_ct(L:List Int)(kk:Nat)(most:Int)(h:kk<=5000)(hm:1<=most/\most<=20):CT T5 20 [some (AE L kk)] [.ptr 0 0 0,.int .i64 most] [some (AE L (Iw L kk most))] (Aj (Ar L kk most)):=(KW h hm).2.2
def RwV(n:Aa):Prop:=Ao n/\Rows n.nx
theorem Iv.rwv{n:Aa}(h:Iv n):RwV n:=⟨h.v,h.rows⟩
structure GoodT(n:Aa)(i:Nat)(s:Av):Prop where
 hi:0<=s.i/\s.i<n.bs.length
 ho:0<=s.o/\s.o<n.bs.length
 hk:1<=s.k/\s.k<=4
 hb:s.b=AO n i
theorem Ao.goodT{n:Aa}(hv:Ao n)(i:Nat)(s:Av)(h:n.ss[i]?=some s):GoodT n i s:=by have g:=hv.spu i s h;have g1:=Bi.1 g.hi;have g2:=Bi.1 g.ho;exact⟨by omega,by omega,Bi.1 g.hk,g.hb⟩
theorem FK{n:Aa}(hrw:RwV n):CT T5 71 [] [Aj n] [] (.bool (Bb n)):=by rw[BG.2 hrw.1];exact Se hrw.2 hrw.1
theorem Ni{n:Aa}(hrw:RwV n):CT T5 103 [] [Aj n] [] (.bool (Bb n)):=by rw[BG.2 hrw.1];exact P6 hrw.2 hrw.1
open Classical in
def Ca(g:List (List Int)):Bool:=decide (VG g)
theorem OA{g:List (List Int)}:Ca g=true↔VG g:=by unfold Ca;exact @decide_eq_true_iff _ (Classical.propDecidable _)
def Cz(g:List (List Int))(s:List Bool):Int:=if Ca g=true then (if s.length≠g.length then 19 else 0) else 20
end Go.Proofs.YthjgbnbibebigaaGreat

/- Parts of the proof:Nw1m,NwA,NwB,Nw2m,NwC,Ny1m,NyA,Ny2m,NyB,Ny3m,NyC,Ny4m,NyD,Nx1m,NxA,Ny5m,NyE,Ny6m,NyF,NyG,Ny7m,NyH,Ny8m,NyI,NyJ,NyK,NyL. -/
import Derived.Test.YthjgbnbibebigaaGreatProg
import Derived.KernelRfl
import Derived.Test.YthjgbnbibebigaaGreatLedgerFleetM3
noncomputable section
set_option linter.unusedVariables false
set_option linter.unusedSimpArgs false
open Go Go.AX Go.Proofs
set_option maxRecDepth 100000
set_option maxHeartbeats 4000000
set_option linter.unusedVariables false
set_option linter.unusedSimpArgs false
open Go.IntKind (i64 u64)
open List renaming map->U4,replicate->U5,drop->U6,take->U7
open Int renaming toNat->U9
open Go.AX.AV renaming lst->Va
open Go.Proofs.Tryz renaming prog->Vb
namespace Go.Proofs.YthjgbnbibebigaaGreat
inductive F4 where | l0 (v0 v1:Int)
def rccSt(n:Aa):F4->St | .l0 v0 v1=>St.mk 24 [(1,AV.ptr 0 0 0),(3,iv v0),(4,iv v1)] [some (bK [Ai n] 8)]
def NL(n:Aa):Option (F4⊕Ret):=some (.inl (.l0 (iN (U4 bA n.bs).length) ((0:Int))))
def HY(n:Aa)(v0 v1:Int):Option (F4⊕Ret):=br (decide (v1<iN (U4 sA n.ss).length)) (gu (0<=v1) <|el (n.ss) (v1.toNat) fun(x19:Av)=>some (.inl (.l0 (i64.wrap (v0+x19.k)) (i64.wrap (v1+1))))) (some (.inr ([],iV v0)))
def rccStep(n:Aa):F4->Option (F4⊕Ret) | .l0 v0 v1=>HY n v0 v1
theorem rcc_ct(n:Aa)(r:Ret)(h:Ac (rccStep n) (NL n) r):CT Vb 69 ([]) ([Ai n]) r.1 r.2:=
 CT.mach (fn:=Tryz.f69) (c:=zB Tryz.f69) (S:=(rccSt n)) (hd:=F4.ctorIdx) Tryz.func69 (by kernel_rfl) (nL rfl)
  (fun s o ho=>match s,ho with
 | .l0 v0 v1,ho=>Scr.ok (X:=HY n v0 v1) ho mix (
 .rn 0 [] [] [] [] (al (u2 (u2 (u2 (u2 (al t3)))))) <|
 .br (fun a0=>
 .gu fun a1=>
 .el fun x19 a2=>
 .lp [25] [(19,sA x19)] [] [] [] [0] [1,3,4] (aj (aj a0 (aj (u2 (u2 (u2 (u2 (aj (k2 (aj a1 (Af (f:=sA) a2))) (u2 (u2 (aj t3 s2)))))))) (al (u2 (u2 s2))))) t5))
 (fun a0=>
 .rt [24] [] [] [] [] [] (aj (aj a0 (al (u2 s2))) t2))) (by kernel_rfl)
  )
  (fun o ho=>Scr.ok (X:=NL n) ho mix (
 .lp [] [] [] [] [] [0] [1,3,4] (aj (ag t2 (aj (u2 (u2 (u2 s2))) s2)) t5)) (by kernel_rfl)) h
inductive Fa where | l0 (v0 v1:Int)
def ccoSt(n:Aa):Fa->St | .l0 v0 v1=>St.mk 22 [(3,iv v0),(10,Va (U4 sA n.ss)),(11,iv (iN (U4 sA n.ss).length)),(12,iv v1)] []
def OM(n:Aa):Option (Fa⊕Ret):=some (.inl (.l0 (iN (U4 bA n.bs).length) ((0:Int))))
def He(n:Aa)(v0 v1:Int):Option (Fa⊕Ret):=br (decide (v1<iN (U4 sA n.ss).length)) (gu (0<=v1) <|el (n.ss) (v1.toNat) fun(x14:Av)=>some (.inl (.l0 (i64.wrap (v0+x14.k)) (i64.wrap (v1+1))))) (some (.inr ([],iV v0)))
def ccoStep(n:Aa):Fa->Option (Fa⊕Ret) | .l0 v0 v1=>He n v0 v1
theorem cco_ct(n:Aa)(r:Ret)(h:Ac (ccoStep n) (OM n) r):CT Vb 129 ([]) ([Ai n]) r.1 r.2:=
 CT.mach (fn:=Tryz.f129) (c:=zB Tryz.f129) (S:=(ccoSt n)) (hd:=Fa.ctorIdx) Tryz.func129 (by kernel_rfl) (nL rfl)
  (fun s o ho=>match s,ho with
 | .l0 v0 v1,ho=>Scr.ok (X:=He n v0 v1) ho mix (
 .rn 0 [] [] [] [] (al (al t3)) <|
 .br (fun a0=>
 .gu fun a1=>
 .el fun x14 a2=>
 .lp [27] [(14,sA x14)] [] [] [] [] [3,10,11,12] (aj (aj a0 (aj (aj (k2 (aj a1 (Af (f:=sA) a2))) (u2 (ak (al (k2 n11))))) (aj (u2 (u2 (u2 (aj t3 s2)))) (al (u2 s2))))) t5))
 (fun a0=>
 .rt [26] [] [] [] [] [] (aj (aj a0 (al (u2 s2))) t2))) (by kernel_rfl)
  )
  (fun o ho=>Scr.ok (X:=OM n) ho mix (
 .lp [] [] [] [] [] [] [3,10,11,12] (aj (ag t2 (aj (u2 (u2 (u2 s2))) (al (u2 (u2 (u2 t2)))))) t5)) (by kernel_rfl)) h
inductive DL where | l0 (v0:Int) | l1 (v0 v1:Int)
def rblSt(n:Aa):DL->St | .l0 v0=>St.mk 114 [(1,AV.ptr 0 0 0),(3,iv v0)] [some (bK [Ai n] 8)] | .l1 v0 v1=>St.mk 114 [(1,AV.ptr 0 0 0),(3,iv v0),(5,iv v1)] [some (bK [Ai n] 8)]
def Oa(n:Aa):Option (DL⊕Ret):=br (decide (iN (U4 bA n.bs).length<1)) (none) (br (decide (24<iN (U4 bA n.bs).length)) (none) (br (iN (gL n.nx).length != iN (U4 bA n.bs).length) (none) (some (.inl (.l0 ((0:Int)))))))
def Hr(n:Aa)(v0:Int):Option (DL⊕Ret):=br (decide (v0<iN (U4 bA n.bs).length)) (gu (0<=v0) <|el (n.bs) (v0.toNat) fun(x36:AC)=>br (decide (x36.x < -9999)) (none) (br (decide (9999<x36.x)) (none) (br (decide (x36.y < -9999)) (none) (br (decide (9999<x36.y)) (none) (el (n.nx) (v0.toNat) fun(x60:List Int)=>br (decide (4<iN (U4 iV x60).length)) (none) (some (.inl (.l1 v0 ((0:Int)))))))))) (some (.inr ([],bV true)))
def GA(n:Aa)(v0 v1:Int):Option (DL⊕Ret):=gu (0<=v0) <|el (n.nx) (v0.toNat) fun(x69:List Int)=>br (decide (v1<iN (U4 iV x69).length)) (el (n.nx) (v0.toNat) fun(x78:List Int)=>gu (0<=v1) <|el x78 (v1.toNat) fun(x81:Int)=>br (decide (x81<0)) (none) (br (decide (iN (U4 bA n.bs).length<=x81)) (none) (br (x81==v0) (none) (br (decide (0<v1)) (el (n.nx) (v0.toNat) fun(x105:List Int)=>gu (0<=i64.wrap (v1-1)) <|el x105 ((i64.wrap (v1-1)).toNat) fun(x109:Int)=>br (decide (x81<=x109)) (none) (some (.inl (.l1 v0 (i64.wrap (v1+1)))))) (some (.inl (.l1 v0 (i64.wrap (v1+1))))))))) (some (.inl (.l0 (i64.wrap (v0+1)))))
def rblStep(n:Aa):DL->Option (DL⊕Ret) | .l0 v0=>Hr n v0 | .l1 v0 v1=>GA n v0 v1
theorem rbl_ct(n:Aa)(r:Ret)(h:Ac (rblStep n) (Oa n) r):CT Vb 142 ([]) ([Ai n]) r.1 r.2:=
 CT.mach (fn:=Tryz.f142) (c:=zB Tryz.f142) (S:=(rblSt n)) (hd:=DL.ctorIdx) Tryz.func142 (by kernel_rfl) (nL rfl)
  (fun s o ho=>match s,ho with
 | .l0 v0,ho=>Scr.ok (X:=Hr n v0) ho mix (
 .rn 0 [] [] [] [] (al (u2 (u2 (u2 (u2 (al t3)))))) <|
 .br (fun a0=>
 .gu fun a1=>
 .el fun x36 a2=>
 .rn 0 [61] [(36,bA x36)] [] [] (aj a0 (al (u2 (u2 (u2 (aj (k2 (aj a1 (Af (f:=bA) a2))) (u2 (ak (al (k2 n11)))))))))) <|
 .br (fun a3=>
  .no)
 (fun a3=>
  .br (fun a4=>
  .no)
  (fun a4=>
  .br (fun a5=>
   .no)
  (fun a5=>
   .br (fun a6=>
   .no)
   (fun a6=>
   .el fun x60 a7=>
   .rn 0 [82,92,102,112] [(60,lI x60)] [] [] (al (u2 (u2 (u2 (u2 (ag a3 (ag a3 (ag a3 (ag a3 (u2 (ag a4 (ag a4 (ag a4 (ag a4 (u2 (ag a5 (ag a5 (ag a5 (ag a5 (u2 (ag a6 (ag a6 (ag a6 (aj (aj a6 (k2 (aj a1 (Af (f:=lI) a7)))) (ag a6 (ag a6 (ag a6 (al (aj a6 t2))))))))))))))))))))))))))))) <|
   .br (fun a8=>
    .no)
   (fun a8=>
    .lp [82,92,102,112,128] [] [] [] [] [0] [1,3,5] (aj (aj a8 s2) t5)))))))
 (fun a0=>
 .rt [60] [] [] [] [] [] (aj (aj a0 s2) t2))) (by kernel_rfl)
 | .l1 v0 v1,ho=>Scr.ok (X:=GA n v0 v1) ho mix (
 .gu fun a0=>
 .el fun x69 a1=>
 .rn 0 [] [(69,lI x69)] [] [] (al (u2 (u2 (u2 (u2 (aj (k2 (aj a0 (Af (f:=lI) a1))) (u2 (u2 (al t3))))))))) <|
 .br (fun a2=>
 .el fun x78 a3=>
 .gu fun a4=>
 .el fun x81 a5=>
 .rn 0 [145] [(78,lI x78),(81,iv x81)] [] [] (aj a2 (al (u2 (u2 (u2 (aj (k2 (aj a0 (Af (f:=lI) a3))) (u2 (u2 (aj (k2 (aj a4 (Af (f:=iv) a5))) (u2 s2)))))))))) <|
 .br (fun a6=>
  .no)
 (fun a6=>
  .br (fun a7=>
  .no)
  (fun a7=>
  .br (fun a8=>
   .no)
  (fun a8=>
   .br (fun a9=>
   .el fun x105 a10=>
   .gu fun a11=>
   .el fun x109 a12=>
   .rn 0 [170,184,194,201] [(105,lI x105),(109,iv x109)] [] [] (al (u2 (u2 (u2 (ag a6 (ag a6 (ag a6 (ag a6 (aj (aj a6 t3) (ag a6 (u2 (ag a7 (ag a7 (aj (aj a7 t3) (ag a7 (u2 (ag a8 (ag a8 (ag a8 (ag a9 (ag a9 (ag a9 (ag a9 (aj (aj a9 (k2 (aj a0 (Af (f:=lI) a10)))) (ag a9 (ag a9 (ag a9 (aj (aj a9 (k2 (aj a11 (Af (f:=iv) a12)))) (ag a9 (aj (aj a9 t3) (aj (aj a8 (aj a9 t2)) (al (aj a8 t2))))))))))))))))))))))))))))))))) <|
   .br (fun a13=>
    .no)
   (fun a13=>
    .lp [170,184,194,201,226] [] [] [] [] [0] [1,3,5] (aj (aj a13 (al (u2 (u2 s2)))) t5)))
   (fun a9=>
   .lp [170,184,194,200] [] [] [] [] [0] [1,3,5] (aj (aj (u2 (u2 (u2 (ag a6 (ag a6 (ag a6 (ag a6 (aj (aj a6 t3) (ag a6 (u2 (ag a7 (ag a7 (aj (aj a7 t3) (ag a7 (u2 (ag a8 (ag a8 (ag a8 (aj a9 (aj a9 (aj a9 (aj a9 (aj a9 (aj a9 (aj a9 (aj a9 (aj a9 (aj a9 (aj a9 (aj (aj a8 (aj a9 t2)) (al (aj a8 t2)))))))))))))))))))))))))))))))) (ak (al (u2 (u2 s2))))) t5))))))
 (fun a2=>
 .lp [144] [] [] [] [] [0] [1,3] (aj (aj a2 (al (u2 (u2 s2)))) t4))) (by kernel_rfl)
  )
  (fun o ho=>Scr.ok (X:=Oa n) ho mix (
 .rn 0 [] [] [] [] (al (u2 t2)) <|
 .br (fun a0=>
 .no)
 (fun a0=>
 .br (fun a1=>
  .no)
 (fun a1=>
  .rn 0 [22,34] [] [] [] (al (u2 (u2 (u2 (u2 (u2 (ag a0 (ag a0 (ag a0 (ag a0 (ag a0 (u2 (ag a1 (ag a1 (ag a1 (ag a1 (ag a1 (ag a1 (aj (aj a1 t3) (al (aj a1 t2))))))))))))))))))))) <|
  .br (fun a2=>
  .no)
  (fun a2=>
  .lp [22,34,50] [] [] [] [] [0] [1,3] (aj (aj a2 s2) t4))))) (by kernel_rfl)) h
inductive Cu where | l0 (v0:List ByteArray) (v1:Int) | l1 (v0:List ByteArray) (v1:Int) | l2 (v0:List ByteArray) (v1:Int) | l3 (v0:List ByteArray) (v1 v2:Int)
def IP(n:Aa):Cu->St | .l0 v0 v1=>St.mk 66 [(1,AV.ptr 0 0 0),(3,AV.sl 1 0 v0.length),(4,iv v1)] [some (bK [Ai n] 8),some (bK (U4 AV.str v0) 1)] | .l1 v0 v1=>St.mk 66 [(1,AV.ptr 0 0 0),(3,AV.sl 1 0 v0.length),(5,iv v1)] [some (bK [Ai n] 8),some (bK (U4 AV.str v0) 1)] | .l2 v0 v1=>St.mk 66 [(3,AV.sl 0 0 v0.length),(6,iv v1)] [some (bK (U4 AV.str v0) 1)] | .l3 v0 v1 v2=>St.mk 66 [(3,AV.sl 0 0 v0.length),(6,iv v1),(7,iv v2)] [some (bK (U4 AV.str v0) 1)]
def rnmEn(n:Aa):Option (Cu⊕Ret):=some (.inl (.l0 ([]) ((0:Int))))
def GZ(n:Aa)(v0:List ByteArray)(v1:Int):Option (Cu⊕Ret):=br (decide (v1<iN (U4 bA n.bs).length)) (gu (0<=v1) <|el (n.bs) (v1.toNat) fun(x19:AC)=>gu ((U4 AV.str v0).length+[AV.str x19.nm].length<=9223372036854775807) <|gu (((U4 AV.str v0).length+[AV.str x19.nm].length) * 16<=140737488355328) <|some (.inl (.l0 (v0++[x19.nm]) (i64.wrap (v1+1))))) (some (.inl (.l1 v0 ((0:Int)))))
def Hc(n:Aa)(v0:List ByteArray)(v1:Int):Option (Cu⊕Ret):=br (decide (v1<iN (U4 sA n.ss).length)) (gu (0<=v1) <|el (n.ss) (v1.toNat) fun(x35:Av)=>gu ((U4 AV.str v0).length+[AV.str x35.nm].length<=9223372036854775807) <|gu (((U4 AV.str v0).length+[AV.str x35.nm].length) * 16<=140737488355328) <|some (.inl (.l1 (v0++[x35.nm]) (i64.wrap (v1+1))))) (some (.inl (.l2 v0 ((0:Int)))))
def Hu(n:Aa)(v0:List ByteArray)(v1:Int):Option (Cu⊕Ret):=br (decide (v1<iN v0.length)) (gu (0<=v1) <|gu (v1<iN v0.length) <|el v0 (0+v1.toNat) fun(x49:ByteArray)=>br (nmB x49) (some (.inl (.l3 v0 v1 ((0:Int))))) (none)) (some (.inr ([],bV true)))
def HV(n:Aa)(v0:List ByteArray)(v1 v2:Int):Option (Cu⊕Ret):=br (decide (v2<v1)) (gu (0<=v1) <|gu (v1<iN v0.length) <|el v0 (0+v1.toNat) fun(x60:ByteArray)=>gu (0<=v2) <|gu (v2<iN v0.length) <|el v0 (0+v2.toNat) fun(x64:ByteArray)=>br (x60.toList==x64.toList) (none) (some (.inl (.l3 v0 v1 (i64.wrap (v2+1)))))) (some (.inl (.l2 v0 (i64.wrap (v1+1)))))
def rnmStep(n:Aa):Cu->Option (Cu⊕Ret) | .l0 v0 v1=>GZ n v0 v1 | .l1 v0 v1=>Hc n v0 v1 | .l2 v0 v1=>Hu n v0 v1 | .l3 v0 v1 v2=>HV n v0 v1 v2
theorem rnm_ct(n:Aa)(r:Ret)(h:Ac (rnmStep n) (rnmEn n) r):CT Vb 143 ([]) ([Ai n]) r.1 r.2:=
 CT.mach (fn:=Tryz.f143) (c:=zB Tryz.f143) (S:=(IP n)) (hd:=Cu.ctorIdx) Tryz.func143 (by kernel_rfl) (nL rfl)
  (fun s o ho=>match s,ho with
 | .l0 v0 v1,ho=>Scr.ok (X:=GZ n v0 v1) ho mix (
 .rn 0 [] [] [] [] (al (u2 (u2 (u2 (u2 (al t3)))))) <|
 .br (fun a0=>
 .gu fun a1=>
 .el fun x19 a2=>
 .gu fun a3=>
 .gu fun a4=>
 .lq [25] [(19,bA x19)] [] [] [] [0,3] [1,3,4] (up [(3,AV.sl 1 0 ((U4 AV.str v0).length+[AV.str x19.nm].length))] [(1,U4 AV.str v0++[AV.str x19.nm])] (IP n (.l0 (v0++[x19.nm]) (i64.wrap (v1+1))))) (aj (aj a0 (aj (u2 (u2 (u2 (u2 (aj (k2 (aj a1 (Af (f:=bA) a2))) (u2 (u2 (u2 (aj (k2 (aj (show(U4 AV.str v0).length=v0.length by simp) (aj (aj (show nat_lit 1=nat_lit 1 from rfl) (show 1<=[AV.str x19.nm].length by simp)) (aj a3 a4)))) s2))))))))) (al (u2 (u2 s2))))) t6) (by simp[up,upF,upV,upH,upB,IP,gL,boL,lI,sA,bA,vsA]))
 (fun a0=>
 .lp [24] [] [] [] [] [0,1] [1,3,5] (aj (aj a0 s2) t6))) (by kernel_rfl)
 | .l1 v0 v1,ho=>Scr.ok (X:=Hc n v0 v1) ho mix (
 .rn 0 [] [] [] [] (al (u2 (u2 (u2 (u2 (al t3)))))) <|
 .br (fun a0=>
 .gu fun a1=>
 .el fun x35 a2=>
 .gu fun a3=>
 .gu fun a4=>
 .lq [57] [(35,sA x35)] [] [] [] [0,3] [1,3,5] (up [(3,AV.sl 1 0 ((U4 AV.str v0).length+[AV.str x35.nm].length))] [(1,U4 AV.str v0++[AV.str x35.nm])] (IP n (.l1 (v0++[x35.nm]) (i64.wrap (v1+1))))) (aj (aj a0 (aj (u2 (u2 (u2 (u2 (aj (k2 (aj a1 (Af (f:=sA) a2))) (u2 (u2 (u2 (aj (k2 (aj (show(U4 AV.str v0).length=v0.length by simp) (aj (aj (show nat_lit 1=nat_lit 1 from rfl) (show 1<=[AV.str x35.nm].length by simp)) (aj a3 a4)))) s2))))))))) (al (u2 (u2 s2))))) t6) (by simp[up,upF,upV,upH,upB,IP,gL,boL,lI,sA,bA,vsA]))
 (fun a0=>
 .lp [56] [] [] [] [] [1] [3,6] (aj (aj a0 s2) t4))) (by kernel_rfl)
 | .l2 v0 v1,ho=>Scr.ok (X:=Hu n v0 v1) ho mix (
 .rn 0 [] [] [] [] (al (u2 (u2 (u2 (al t3))))) <|
 .br (fun a0=>
 .gu fun a1=>
 .gu fun a2=>
 .el fun x49 a3=>
 .br (fun a4=>
  have c0:=rnm_v x49 a4;
  .lp [87] [(49,AV.str x49)] [(50,hK c0 [] [])] [] [] [0] [3,6,7] (aj (aj a0 (aj (u2 (u2 (aj (k2 (aj a1 a2)) (aj (ak (Af (f:=AV.str) a3)) (aj (k2 (al (c0))) s2))))) (ak s2))) t5))
 (fun a4=>
  .no))
 (fun a0=>
 .rt [86] [] [] [] [] [] (aj (aj a0 s2) t2))) (by kernel_rfl)
 | .l3 v0 v1 v2,ho=>Scr.ok (X:=HV n v0 v1 v2) ho mix (
 .rn 0 [] [] [] [] (al (u2 (u2 (al t3)))) <|
 .br (fun a0=>
 .gu fun a1=>
 .gu fun a2=>
 .el fun x60 a3=>
 .gu fun a4=>
 .gu fun a5=>
 .el fun x64 a6=>
 .rn 0 [109] [(60,AV.str x60),(64,AV.str x64)] [] [] (aj a0 (al (u2 (u2 (aj (k2 (aj a1 a2)) (aj (ak (Af (f:=AV.str) a3)) (u2 (u2 (aj (k2 (aj a4 a5)) (aj (ak (Af (f:=AV.str) a6)) (al t3))))))))))) <|
 .br (fun a7=>
  .no)
 (fun a7=>
  .lp [130] [] [] [] [] [0] [3,6,7] (aj (aj a7 (al (u2 (u2 s2)))) t5)))
 (fun a0=>
 .lp [108] [] [] [] [] [0] [3,6] (aj (aj a0 (al (u2 (u2 s2)))) t4))) (by kernel_rfl)
  )
  (fun o ho=>Scr.ok (X:=rnmEn n) ho mix (
 .lp [] [] [] [] [(3,1)] [0,1] [1,3,4] (aj (ag t2 (u2 s2)) t6)) (by kernel_rfl)) h
inductive GJ where | l0 (v0:Int)
def hsZSt(l:List Int)(q:Int):GJ->St | .l0 v0=>St.mk 18 [(0,Va (U4 iv l)),(1,iv q),(5,iv v0)] []
def Nf(l:List Int)(q:Int):Option (GJ⊕Ret):=some (.inl (.l0 ((0:Int))))
def HG(l:List Int)(q v0:Int):Option (GJ⊕Ret):=br (decide (v0<iN (U4 iV l).length)) (gu (0<=v0) <|el l (v0.toNat) fun(x14:Int)=>br (x14==q) (some (.inr ([],bV true))) (some (.inl (.l0 (i64.wrap (v0+1)))))) (some (.inr ([],bV false)))
def QS(l:List Int)(q:Int):GJ->Option (GJ⊕Ret) | .l0 v0=>HG l q v0
theorem hsZ_ct(l:List Int)(q:Int)(r:Ret)(h:Ac (QS l q) (Nf l q) r):CT Vb 16 ([]) ([lI l,.int .i64 q]) r.1 r.2:=
 CT.mach (fn:=Tryz.f16) (c:=zB Tryz.f16) (S:=(hsZSt l q)) (hd:=GJ.ctorIdx) Tryz.func16 (by kernel_rfl) (nL rfl)
  (fun s o ho=>match s,ho with
 | .l0 v0,ho=>Scr.ok (X:=HG l q v0) ho mix (
 .rn 0 [] [] [] [] (al (u2 (u2 (u2 (al t3))))) <|
 .br (fun a0=>
 .gu fun a1=>
 .el fun x14 a2=>
 .rn 0 [19] [(14,iv x14)] [] [] (aj a0 (al (u2 (u2 (aj (k2 (aj a1 (Af (f:=iv) a2))) (u2 (u2 (al t3)))))))) <|
 .br (fun a3=>
  .rt [35] [] [] [] [] [] (aj (aj a3 s2) t2))
 (fun a3=>
  .lp [34] [] [] [] [] [] [0,1,5] (aj (aj a3 (al (u2 (u2 s2)))) t4)))
 (fun a0=>
 .rt [18] [] [] [] [] [] (aj (aj a0 s2) t2))) (by kernel_rfl)
  )
  (fun o ho=>Scr.ok (X:=Nf l q) ho mix (
 .lp [] [] [] [] [] [] [0,1,5] (aj (u2 s2) t4)) (by kernel_rfl)) h
end Go.Proofs.YthjgbnbibebigaaGreat
namespace Go.Proofs.YthjgbnbibebigaaGreat
def Al(n:Aa):Nat:=(AP n n.ss.length).toNat
theorem Aq.cel{n:Aa}(hv:Aq n):AP n n.ss.length=(Al n:Int)/\n.bs.length<=Al n/\Al n<=48:=by have h1:=hv.bd n.ss.length;have h2:=hv.ns;have h3:=hv.nb24;unfold Al;omega
theorem Kc{n:Aa}(hv:Aq n){i:Nat}:∀{j:Nat},i<=j->j<=n.ss.length->AP n i<=AP n j:=by
 intro j;induction j with
 | zero=>intro h _;have:i=0:=by omega
         subst this;omega
 | succ j ih=>
  intro h hj;by_cases e:i=j+1
  .subst e;omega
  .have h1:=ih (by omega) (by omega);obtain⟨s,hs⟩:∃s,n.ss[j]?=some s:=⟨_,Uf (by omega)⟩;rw[CK hs];have:=Bj.1 (hv.spu j s hs).hk;omega
theorem RK{σ:Type}{step:σ->Option (σ⊕Ret)}{n:Aa}(hv:Aq n){L:Int->Int->σ}
  (hs:∀(i:Nat) s,n.ss[i]?=some s->step (L (AP n i) i)=some (.inl (L (i64.wrap (AP n i+s.k)) (i64.wrap ((i:Int)+1)))))
  (he:step (L (Al n) (n.ss.length:Nat))=some (.inr ([],.int .i64 (Al n)))):Ac step (some (.inl (L n.bs.length 0))) (([],.int .i64 (Al n)):Ret):=by
 have hns:=hv.ns;have hn:=hv.nb24;rw[show (n.bs.length:Int)=AP n 0 by simp[AP]];refine Bm (fun i=>L (AP n i) (i:Int)) n.ss.length (fun i hi h=>.to (hs i _ (Uf hi)) ?_) (.to (by rw[hv.cel.1];exact he) (.ret _));have hb:=hv.bd (i+1);rw[CK (Uf hi)] at hb h;rw[A3 _ (by omega) (by omega),zW i (by omega)];exact h
theorem FP{n:Aa}(hv:Aq n):CT Vb 69 [] [Ai n] [] (.int .i64 (iN (Al n))):=by
 refine rcc_ct n ([],_) ?_;unfold NL;rw[show iN (U4 bA n.bs).length=(n.bs.length:Int) by simp[iN]];refine RK hv (L:=fun v i=>F4.l0 v i) (fun i s hs=>?_) ?_
 .show HY n (AP n i) i=_;unfold HY;rw[AS hs]
 .show HY n (Al n) n.ss.length=_;unfold HY;rw[AO]
theorem NW{n:Aa}(hv:Aq n):CT Vb 129 [] [Ai n] [] (.int .i64 (iN (Al n))):=by
 refine cco_ct n ([],_) ?_;unfold OM;rw[show iN (U4 bA n.bs).length=(n.bs.length:Int) by simp[iN]];refine RK hv (L:=fun v i=>Fa.l0 v i) (fun i s hs=>?_) ?_
 .show He n (AP n i) i=_;unfold He;rw[AS hs]
 .show He n (Al n) n.ss.length=_;unfold He;rw[AO]
theorem EB(l:List Int)(x:Int)(hl:l.length<=9223372036854775807):CT Vb 16 [] [lI l,.int .i64 x] [] (.bool (AR l x)):=by
 refine hsZ_ct l x ([],_) ?_;unfold Nf AR;have key:∀(d i:Nat),i+d=l.length->Ac (QS l x) (some (.inl (.l0 (i:Nat)))) (([],.bool (fnd (fun i=>l.getD i 0==x) i d).isSome):Ret):=by
  intro d;induction d with
  | zero=>
   intro i hi;obtain rfl:i=l.length:=by omega
   refine .to (show HG l x l.length=_ from rfl) ?_;unfold HG;rw[AO];exact .ret _
  | succ d ih=>
   intro i hi;have hg:=Ax 0 (show i<l.length by omega);refine .to (show HG l x i=_ from rfl) ?_;unfold HG fnd;rw[AS hg];cases l.getD i 0==x with
   | true=>exact .ret _
   | false=>rw[Ad rfl,zW i (by omega)];exact ih (i+1) (by omega)
 exact key l.length 0 (by omega)
theorem rbl_v{n:Aa}(hrw:Rows n.nx)(hv:Aq n):CT Vb 142 [] [Ai n] [] (.bool true):=by
 have hn:=hv.nb24;have hnx:=hv.nx;have hgl:=BZ n.nx;have hbl:iN (U4 bA n.bs).length=(n.bs.length:Int):=by simp[iN]
 refine rbl_ct n ([],_) ?_;unfold Oa;rw[Ad (Uk (by omega)),Ad (Uk (by omega)),Ad (by simp[iN,hgl,hnx])];refine Bm (fun i=>DL.l0 (i:Int)) n.bs.length (fun i hi h=>.to (show Hr n i=some (.inl (.l1 i 0)) from ?_) ?_) (.to (show Hr n n.bs.length=_ from ?_) (.ret _))
 .have hx:n.bs[i]?=some n.bs[i]:=Uf hi;have g:=hv.blk i _ hx;have gx:=Bj.1 g.x;have gy:=Bj.1 g.y;have hr:=Ax [] (show i<n.nx.length by omega);unfold Hr;rw[AS hx,Ad (Uk (by omega)),Ad (Uk (by omega)),Ad (Uk (by omega)),Ad (Uk (by omega)),Uo,Ak hr,Ad (Uk (by have:=(CY g.nx).1;simp only[iN,Ui];omega))]
 .have hx:n.bs[i]?=some n.bs[i]:=Uf hi;have hr:=Ax [] (show i<n.nx.length by omega);obtain⟨h4,hk⟩:=CY (hv.blk i _ hx).nx;generalize n.nx.getD i []=r at *;refine Bm (fun k=>DL.l1 (i:Int) (k:Int)) r.length (fun k hkl hh=>.to (show GA n i k=_ from ?_) hh) (.to (show GA n i r.length=_ from ?_) h)
  .obtain⟨a1,a2,a3⟩:=hk k hkl;have hg:=Ax 0 hkl;have hp:∀j:Nat,j<=k->-1<=Bl r j:=fun j hj=>by
    unfold Bl;split
    .omega
    .have:∀j:Nat,j<r.length->0<=r.getD j 0:=fun j=>by
      induction j with
      | zero=>intro h0;have:=(hk 0 h0).1;unfold Bl at this;rw[Ud rfl] at this;omega
      | succ j ihj=>intro h0;have:=(hk (j+1) h0).1;unfold Bl at this;rw[Ue (by omega),show j+1-1=j by omega] at this;have:=ihj (by omega);omega
     have:=this (j-1) (by omega);omega
   have hp0:=hp k (Uq _);unfold GA;rw[Ab (by omega),Uo,Ak hr,Ag (Ul (by simp only[iN,Ui];omega)),Ak hr,Ab (by omega),Uo,Ak hg,Ad (Uk (by omega)),Ad (Uk (by omega)),Ad (by simpa using a3),zW k (by omega)];by_cases h0:k=0
   .rw[Ad (Uk (by omega))]
   .rw[Ag (Ul (by omega)),Ak hr,Pc k (by omega) (by omega),Ab (by omega),Uo,Ak (Ax 0 (show k-1<r.length by omega))];unfold Bl at a1;rw[Ue h0] at a1;rw[Ad (Uk (by omega))]
  .unfold GA;rw[Ab (by omega),Uo,Ak hr,Ad (Uk (by simp only[iN,Ui];omega)),zW i (by omega)]
 .unfold Hr;rw[AO]
theorem rnm_ok{n:Aa}(hv:Aq n):CT Vb 143 [] [Ai n] [] (.bool true):=by
 have hn:=hv.nb24;have hns:=hv.ns;have hnl:(Bc n).length=n.bs.length+n.ss.length:=by simp[Bc]
 have nm:∀i,i<(Bc n).length->∃x,(Bc n)[i]?=some x/\nmB x=true:=fun i hi=>by
  refine⟨_,Uf hi,?_⟩;have hm:=UJ hi;generalize (Bc n)[i]=x at hm;unfold Bc at hm;rcases UH.1 hm with h | h
  .obtain⟨b,hb,rfl⟩:=UI.1 h;obtain⟨j,hj⟩:=List.getElem?_of_mem hb;exact(hv.blk j b hj).nm
  .obtain⟨b,hb,rfl⟩:=UI.1 h;obtain⟨j,hj⟩:=List.getElem?_of_mem hb;exact(hv.spu j b hj).nm
 refine rnm_ct n ([],_) ?_;refine Bm (fun i=>Cu.l0 ((n.bs.take i).map (·.nm)) (i:Int)) n.bs.length (fun i hi h=>.to (show GZ n _ i=_ from ?_) h) (.to (show GZ n _ n.bs.length=some (.inl (.l1 (n.bs.map (·.nm)) 0)) from ?_) ?_)
 .have hx:n.bs[i]?=some n.bs[i]:=Uf hi;unfold GZ;rw[AS hx,Ab (by simp only[Ui,UF,UQ];omega),Ab (by simp only[Ui,UF,UQ];omega),zW i (by omega),List.take_add_one,hx];simp only[Us,Option.toList_some,Ub,Uc,List.append_assoc]
 .unfold GZ;rw[AO,List.take_length]
 refine Bm (fun i=>Cu.l1 (n.bs.map (·.nm)++(n.ss.take i).map (·.nm)) (i:Int)) n.ss.length (fun i hi h=>.to (show Hc n _ i=_ from ?_) h) (.to (show Hc n _ n.ss.length=some (.inl (.l2 (Bc n) 0)) from ?_) ?_) |> fun h=>by simpa using h
 .have hx:n.ss[i]?=some n.ss[i]:=Uf hi;unfold Hc;rw[AS hx,Ab (by simp only[Ui,Uy,UF,UQ];omega),Ab (by simp only[Ui,Uy,UF,UQ];omega),zW i (by omega),List.take_add_one,hx];simp only[Us,Option.toList_some,Ub,Uc,List.append_assoc]
 .unfold Hc;rw[AO,List.take_length];rfl
 refine Bm (fun i=>Cu.l2 (Bc n) (i:Int)) (Bc n).length (fun i hi h=>?_) (.to (show Hu n (Bc n) (Bc n).length=_ from ?_) (.ret _))
 .obtain⟨x,hx,hb⟩:=nm i hi;refine .to (show Hu n (Bc n) i=some (.inl (.l3 (Bc n) i 0)) from ?_) ?_
  .unfold Hu;rw[Ag (Ul (by simp only[iN];omega)),Ab (by omega),Ab (by simp only[iN];omega),Uu,Uo,Ak hx,Ag hb]
  refine Bm (fun k=>Cu.l3 (Bc n) (i:Int) (k:Int)) i (fun k hk hh=>.to (show HV n (Bc n) i k=_ from ?_) hh) (.to (show HV n (Bc n) i i=_ from ?_) h)
  .obtain⟨y,hy,_⟩:=nm k (by omega);have hne:(x.toList==y.toList)=false:=by rw[UN];intro e;have e:=nm_eq e;have a1:=Uh.1 hx;have a2:=Uh.1 hy;exact List.pairwise_iff_getElem.1 hv.nod k i a2.1 a1.1 hk (a2.2.trans (e.symm.trans a1.2.symm))
   unfold HV;rw[Ag (Ul (by omega)),Ab (by omega),Ab (by simp only[iN];omega),Uu,Uo,Ak hx,Ab (by omega),Ab (by simp only[iN];omega),Uu,Uo,Ak hy,hne,Ad rfl,zW k (by omega)]
  .unfold HV;rw[Ad (Uk (by omega)),zW i (by omega)]
 .unfold Hu;rw[Ad (Uk (by simp only[iN];omega))]
inductive C3 where | l0 (v0 v1 v2:Int) | l1 (v0 v1:Int) | l2 (v0 v1:Int) (v2:Bool) (v3:Int)
def rvnSt(n:Aa):C3->St | .l0 v0 v1 v2=>St.mk 163 [(1,AV.ptr 0 0 0),(3,iv v0),(4,iv v1),(5,iv v2)] [some (bK [Ai n] 8)] | .l1 v0 v1=>St.mk 163 [(1,AV.ptr 0 0 0),(4,iv v0),(7,iv v1)] [some (bK [Ai n] 8)] | .l2 v0 v1 v2 v3=>St.mk 163 [(1,AV.ptr 0 0 0),(4,iv v0),(7,iv v1),(8,bV v2),(9,iv v3)] [some (bK [Ai n] 8)]
def MT(n:Aa):Option (C3⊕Ret):=gu (Rows n.nx) <|gu (Aq n) <|br (decide (6<iN (U4 sA n.ss).length)) (none) (br (decide (8<iN (U4 iV n.rs).length)) (none) (br (CH (Aa.mk [] [] [] [] n.q n.a n.d n.p)) (some (.inl (.l0 (iN (U4 bA n.bs).length) ((0:Int)) ((0:Int))))) (none)))
def Gj(n:Aa)(v0 v1 v2:Int):Option (C3⊕Ret):=br (decide (v2<iN (U4 sA n.ss).length)) (gu (0<=v2) <|el (n.ss) (v2.toNat) fun(x50:Av)=>br (decide (x50.i<0)) (none) (br (decide (iN (U4 bA n.bs).length<=x50.i)) (none) (br (decide (x50.o<0)) (none) (br (decide (iN (U4 bA n.bs).length<=x50.o)) (none) (br (decide (x50.k<1)) (none) (br (decide (4<x50.k)) (none) (br (x50.b != v0) (none) (br (x50.dep) (some (.inl (.l0 (i64.wrap (v0+x50.k)) (i64.wrap (v1+1)) (i64.wrap (v2+1))))) (some (.inl (.l0 (i64.wrap (v0+x50.k)) v1 (i64.wrap (v2+1))))))))))))) (some (.inl (.l1 v1 ((0:Int)))))
def Hn(n:Aa)(v0 v1:Int):Option (C3⊕Ret):=br (decide (v1<iN (U4 iV n.rs).length)) (some (.inl (.l2 v0 v1 (false) ((0:Int))))) (some (.inr ([],bV (decide (0<v0)))))
def IH(n:Aa)(v0 v1:Int)(v2:Bool)(v3:Int):Option (C3⊕Ret):=br (decide (v3<iN (U4 sA n.ss).length)) (gu (0<=v3) <|el (n.ss) (v3.toNat) fun(x117:Av)=>br v2 (some (.inl (.l2 v0 v1 (true) (i64.wrap (v3+1))))) (br (x117.dep) (gu (0<=v1) <|el (n.rs) (v1.toNat) fun(x127:Int)=>br (decide (x117.b<=x127)) (el (n.rs) (v1.toNat) fun(x137:Int)=>some (.inl (.l2 v0 v1 (decide (x137<i64.wrap (x117.b+x117.k))) (i64.wrap (v3+1))))) (some (.inl (.l2 v0 v1 (false) (i64.wrap (v3+1)))))) (some (.inl (.l2 v0 v1 (false) (i64.wrap (v3+1))))))) (br (!v2) (none) (gu (∀(e:AV),e∈U4 iV n.rs->e.cells.length=1) <|gu (0<=v1) <|gu (v1<=iN (U4 iV n.rs).length) <|el (n.rs) (v1.toNat) fun(x157:Int)=>gu ((U7 (v1.toNat-U9 0) (U6 (U9 0) n.rs)).length<=9223372036854775807) <|br (AR (U7 (v1.toNat-U9 0) (U6 (U9 0) n.rs)) x157) (none) (some (.inl (.l1 v0 (i64.wrap (v1+1)))))))
def rvnStep(n:Aa):C3->Option (C3⊕Ret) | .l0 v0 v1 v2=>Gj n v0 v1 v2 | .l1 v0 v1=>Hn n v0 v1 | .l2 v0 v1 v2 v3=>IH n v0 v1 v2 v3
theorem rvn_ct(n:Aa)(r:Ret)(h:Ac (rvnStep n) (MT n) r):CT Vb 103 ([]) ([Ai n]) r.1 r.2:=
 CT.mach (fn:=Tryz.f103) (c:=zB Tryz.f103) (S:=(rvnSt n)) (hd:=C3.ctorIdx) Tryz.func103 (by kernel_rfl) (nL rfl)
  (fun s o ho=>match s,ho with
 | .l0 v0 v1 v2,ho=>Scr.ok (X:=Gj n v0 v1 v2) ho mix (
 .rn 0 [] [] [] [] (al (u2 (u2 (u2 (u2 (al t3)))))) <|
 .br (fun a0=>
 .gu fun a1=>
 .el fun x50 a2=>
 .rn 0 [89] [(50,sA x50)] [] [] (aj a0 (al (u2 (u2 (u2 (aj (k2 (aj a1 (Af (f:=sA) a2))) (u2 (ak (al (k2 n11)))))))))) <|
 .br (fun a3=>
  .no)
 (fun a3=>
  .br (fun a4=>
  .no)
  (fun a4=>
  .br (fun a5=>
   .no)
  (fun a5=>
   .br (fun a6=>
   .no)
   (fun a6=>
   .br (fun a7=>
    .no)
   (fun a7=>
    .br (fun a8=>
    .no)
    (fun a8=>
    .rn 0 [110,126,136,152,162,172] [] [] [] (al (u2 (u2 (u2 (u2 (ag a3 (ag a3 (ag a3 (ag a3 (ag a3 (aj (aj a3 t3) (ag a3 (u2 (ag a4 (ag a4 (ag a4 (ag a4 (u2 (ag a5 (ag a5 (ag a5 (ag a5 (ag a5 (aj (aj a5 t3) (ag a5 (u2 (ag a6 (ag a6 (ag a6 (ag a6 (u2 (ag a7 (ag a7 (ag a7 (ag a7 (u2 (ag a8 (ag a8 (ag a8 (aj (aj a8 t3) (al (aj a8 t2)))))))))))))))))))))))))))))))))))))))))) <|
    .br (fun a9=>
     .no)
    (fun a9=>
     .rn 1 [110,126,136,152,162,172,182] [] [] [] (aj a9 (aj (u2 (u2 (u2 (aj t3 s2)))) (al (u2 s2)))) <|
     .br (fun a10=>
     .lp [110,126,136,152,162,172,195] [] [] [] [] [0] [1,3,4,5] (aj (aj a10 (aj (u2 (u2 s2)) (al (u2 (u2 s2))))) t6))
     (fun a10=>
     .lp [110,126,136,152,162,172,194] [] [] [] [] [0] [1,3,4,5] (aj (aj a10 (al (u2 (u2 s2)))) t6))))))))))
 (fun a0=>
 .lp [88] [] [] [] [] [0] [1,4,7] (aj (aj a0 s2) t5))) (by kernel_rfl)
 | .l1 v0 v1,ho=>Scr.ok (X:=Hn n v0 v1) ho mix (
 .rn 0 [] [] [] [] (al (u2 (u2 (u2 (u2 (al t3)))))) <|
 .br (fun a0=>
 .lp [209] [] [] [] [] [0] [1,4,7,8,9] (aj (aj a0 (u2 s2)) t7))
 (fun a0=>
 .rt [208] [] [] [] [] [] (aj (aj a0 (al (u2 (u2 s2)))) t2))) (by kernel_rfl)
 | .l2 v0 v1 v2 v3,ho=>Scr.ok (X:=IH n v0 v1 v2 v3) ho mix (
 .rn 0 [] [] [] [] (al (u2 (u2 (u2 (u2 (al t3)))))) <|
 .br (fun a0=>
 .gu fun a1=>
 .el fun x117 a2=>
 .rn 0 [223] [(117,sA x117)] [] [] (aj a0 (al (u2 (u2 (u2 (aj (k2 (aj a1 (Af (f:=sA) a2))) (u2 (ak (al (k2 n11)))))))))) <|
 .br (fun a3=>
  .lp [241] [] [] [] [] [0] [1,4,7,8,9] (aj (aj (u2 (u2 (aj a3 (aj a3 (aj a3 (k3 (k5 (aj a3 (aj a3 (ak (k5 (k5 (aj a3 (ag a3 s2)))))))))))))) (al (u2 (u2 s2)))) t7))
 (fun a3=>
  .br (fun a4=>
  .gu fun a5=>
  .el fun x127 a6=>
  .br (fun a7=>
   .el fun x137 a8=>
   .lp [240,247,267] [(127,iv x127),(137,iv x137)] [] [] [] [0] [1,4,7,8,9] (aj (aj (u2 (u2 (ag a3 (ag a3 (ag a3 (ag a4 (ag a4 (ag a4 (aj (aj a4 (k2 (aj a5 (Af (f:=iv) a6)))) (ag a4 (ag a4 (ag a4 (aj (aj a4 t3) (aj (aj a3 (aj a4 t2)) (ag a3 (ag a7 (ag a7 (ag a7 (aj (aj a7 (k2 (aj a5 (Af (f:=iv) a8)))) (ag a7 (ag a7 (ag a7 (ag a7 (ag a7 (aj (aj a7 t3) (aj (aj a7 t3) (aj (aj a3 (aj a7 t2)) (ag a3 s2)))))))))))))))))))))))))))) (al (u2 (u2 s2)))) t7))
  (fun a7=>
   .lp [240,247,266] [(127,iv x127)] [] [] [] [0] [1,4,7,8,9] (aj (aj (u2 (u2 (ag a3 (ag a3 (ag a3 (ag a4 (ag a4 (ag a4 (aj (aj a4 (k2 (aj a5 (Af (f:=iv) a6)))) (ag a4 (ag a4 (ag a4 (aj (aj a4 t3) (aj (aj a3 (aj a4 t2)) (ag a3 (aj a7 (aj a7 (aj a7 (aj a7 (aj a7 (aj a7 (aj a7 (aj a7 (aj a7 (aj a7 (aj a7 (aj (aj a3 (aj a7 t2)) (ag a3 s2)))))))))))))))))))))))))))) (al (u2 (u2 s2)))) t7)))
  (fun a4=>
  .lp [240,246] [] [] [] [] [0] [1,4,7,8,9] (aj (aj (u2 (u2 (ag a3 (ag a3 (ag a3 (aj a4 (aj a4 (aj a4 (aj a4 (aj a4 (aj a4 (aj a4 (aj a4 (aj (aj a3 (aj a4 t2)) (ag a3 (ak (k5 (k5 (aj (aj a3 t3) (ag a3 s2)))))))))))))))))))) (al (u2 (u2 s2)))) t7))))
 (fun a0=>
 .br (fun a1=>
  .no)
 (fun a1=>
  .gu fun a2=>
  .gu fun a3=>
  .gu fun a4=>
  .el fun x157 a5=>
  .gu fun a6=>
  have c0:=EB (U7 (v1.toNat-U9 0) (U6 (U9 0) n.rs)) x157 a6;
  .rn 0 [222,298] [(157,iv x157)] [(159,hK c0 [] [])] [] (aj a0 (al (u2 (u2 (u2 (ag a1 (ag a1 (ag a1 (aj (aj a1 (k2 (aj a2 (aj (Int.le_refl 0) (aj a3 (aj a4 (show iN (U4 iv n.rs).length<=iN (U4 iv n.rs).length by omega))))))) (ag a1 (ag a1 (ag a1 (aj (aj a1 (k2 (aj a3 (Af (f:=iv) a5)))) (ag a1 (aj (aj a1 (ak (k3 (al (show CT Vb 16 [] [Va (U7 (v1.toNat-U9 0) (U6 (U9 0) (U4 iv n.rs))),iv x157] [] (bV (AR (U7 (v1.toNat-U9 0) (U6 (U9 0) n.rs)) x157)) from CT.eqs (c0) (by first | (simp only[boL,Us,U0,List.map_take,List.map_drop,List.map_replicate,List.nil_append]<;>rfl) | (simp[gL,boL,lI,sA,bA]<;>rfl)) (by first | (simp only[boL,Us,U0,List.map_take,List.map_drop,List.map_replicate,List.nil_append]<;>rfl) | (simp[gL,boL,lI,sA,bA]<;>rfl))))))) (al (aj a1 t2))))))))))))))))) <|
  .br (fun a7=>
  .no)
  (fun a7=>
  .lp [298,320] [] [] [] [] [0] [1,4,7] (aj (aj a7 (al (u2 (u2 s2)))) t5))))) (by kernel_rfl)
  )
  (fun o ho=>Scr.ok (X:=MT n) ho mix (
 .rn 0 [] [] [] [] (al (u2 t2)) <|
 .gu fun a0=>
 .gu fun a1=>
 .br (fun a2=>
 .no)
 (fun a2=>
 .br (fun a3=>
  .no)
 (fun a3=>
  .br (fun a4=>
  have c0:=rbl_v a0 a1;
  have c1:=rnm_ok a1;
  have c2:=cfg_w (n.q) (n.a) (n.d) (n.p) a4;
  .lp [40,62] [] [(12,hK c0 [] []),(22,hK c1 [] []),(34,hK c2 [] [])] [] [] [0] [1,3,4,5] (aj (aj (u2 (aj (ak (aj t9 (al (c0)))) (u2 (u2 (aj t3 (aj t3 (aj t3 (aj t3 (aj t3 (u2 (ag a2 (aj (aj a2 (ak (aj t9 (al (c1))))) (ag a2 (ag a2 (u2 (aj t3 (aj t3 (aj t3 (aj t3 (aj t3 (u2 (ag a3 (ag a3 (aj (aj a3 (ak (aj t5 (al (c2))))) (ag a3 (al (aj a3 t2))))))))))))))))))))))))))) (ak (aj (u2 (u2 (u2 (u2 t2)))) s2))) t6))
  (fun a4=>
  .no)))) (by kernel_rfl)) h
def dpN(n:Aa)(i:Nat):Int:=((n.ss.take i).filter (·.dep)).length
def okS(c:Int)(s:Av):Bool:=s.dep&&(decide (s.b<=c)&&decide (c<s.b+s.k))
theorem Q7{n:Aa}(hrw:Rows n.nx)(hv:Aq n):CT Vb 103 [] [Ai n] [] (.bool true):=by
 have hn:=hv.nb24;have hns:=hv.ns;have hnr:=hv.nr;have hbl:iN (U4 bA n.bs).length=(n.bs.length:Int):=by simp[iN]
 have hdb:∀i,0<=dpN n i/\dpN n i<=6:=fun i=>by unfold dpN;have:=List.length_filter_le (fun s:Av=>s.dep) (n.ss.take i);rw[UF] at this;omega
 have hds:∀{i:Nat} {s:Av},n.ss[i]?=some s->dpN n (i+1)=dpN n i+if s.dep=true then 1 else 0:=fun {i s} hs=>by unfold dpN;rw[List.take_add_one,hs,Option.toList_some,List.filter_append,Uy];cases hd:s.dep<;>simp[List.filter,hd]
 refine rvn_ct n ([],_) ?_;unfold MT;rw[Ab hrw,Ab hv,Ad (Uk (by simp only[iN,Ui];omega)),Ad (Uk (by simp only[iN,Ui];omega)),Ag (by have:=hv.cfg;unfold CH at this ⊢;exact this),hbl,show(n.bs.length:Int)=AP n 0 by simp[AP]];refine Bm (fun i=>C3.l0 (AP n i) (dpN n i) (i:Int)) n.ss.length (fun i hi h=>.to (show Gj n _ _ i=_ from ?_) h) (.to (show Gj n _ _ n.ss.length=some (.inl (.l1 (dpN n n.ss.length) 0)) from ?_) ?_)
 .have hx:n.ss[i]?=some n.ss[i]:=Uf hi;have g:=hv.spu i _ hx;have g1:=Bj.1 g.hi;have g2:=Bj.1 g.ho;have g3:=Bj.1 g.hk;have hb:=hv.bd (i+1);have hd:=hdb i;have hd1:=hds hx;rw[CK hx] at hb ⊢
  unfold Gj;rw[AS hx,hbl,Ad (Uk (by omega)),Ad (Uk (by omega)),Ad (Uk (by omega)),Ad (Uk (by omega)),Ad (Uk (by omega)),Ad (Uk (by omega)),Ad (by simpa using g.hb),A3 _ (by omega) (by omega),zW i (by omega),A3 _ (by omega) (by omega),hd1];cases n.ss[i].dep<;>simp[br]
 .unfold Gj;rw[AO]
 have hp:decide (0<dpN n n.ss.length)=true:=by obtain⟨x,s,hs,hd,_⟩:=hv.dep;unfold dpN;have:=List.length_pos_of_mem (List.mem_filter.2 ⟨hs,hd⟩);exact Ul (Int.natCast_pos.2 this)
 refine Bm (fun i=>C3.l1 (dpN n n.ss.length) (i:Int)) n.rs.length (fun i hi h=>.to (show Hn n _ i=some (.inl (.l2 (dpN n n.ss.length) i false 0)) from ?_) ?_) (.to (show Hn n _ n.rs.length=_ from ?_) (.ret _))
 .unfold Hn;rw[Ag (Ul (by simp only[iN,Ui];omega))]
 .have hx:n.rs[i]?=some n.rs[i]:=Uf hi;obtain⟨⟨t,ht,hd1,hd2,hd3⟩,hr2⟩:=hv.rob i _ hx;generalize n.rs[i]=c at *;refine Bm (fun k=>C3.l2 (dpN n n.ss.length) (i:Int) ((n.ss.take k).any (okS c)) (k:Int)) n.ss.length (fun k hk hh=>.to (show IH n _ i _ k=_ from ?_) hh) (.to (show IH n _ i _ n.ss.length=_ from ?_) h)
  .have hs:n.ss[k]?=some n.ss[k]:=Uf hk;have g:=hv.spu k _ hs;have g3:=Bj.1 g.hk;have hb:=hv.bd k;have hb2:=g.hb;have e:(n.ss.take (k+1)).any (okS c)=((n.ss.take k).any (okS c)||okS c n.ss[k]):=by rw[List.take_add_one,hs,Option.toList_some,List.any_append];simp
   unfold IH;rw[AS hs,e,zW k (by omega)];cases (n.ss.take k).any (okS c) with
   | true=>rw[Ag rfl];rfl
   | false=>
    unfold okS;rw[Ad rfl,Ab (by omega),Uo,Ak hx,Ak hx,A3 _ (by omega) (by omega)];cases n.ss[k].dep with
    | false=>rfl
    | true=>cases decide (n.ss[k].b<=c)<;>rfl
  .have hT:(n.ss.take n.ss.length).any (okS c)=true:=List.any_eq_true.2 ⟨t,ht,by unfold okS;rw[hd1,Ul hd2,Ul hd3];rfl⟩;have hz:AR (U7 ((i:Int).toNat-U9 0) (U6 (U9 0) n.rs)) c=false:=by
    cases hq:AR (U7 ((i:Int).toNat-U9 0) (U6 (U9 0) n.rs)) c with
    | false=>rfl
    | true=>exact absurd (Fo.1 hq) (by simpa using hr2)
   unfold IH;rw[AO,hT,Ad (by rfl),Ab (fun e he=>by obtain⟨x,_,rfl⟩:=UI.1 he;rfl),Ab (by omega),Ab (by simp only[iN,Ui];omega),Uo,Ak hx];rw[Uo] at hz;rw[Ab (by simp only[UF,T5];omega),hz,Ad rfl,zW i (by omega)]
 .unfold Hn;rw[Ad (Uk (by simp only[iN,Ui];omega)),hp]
inductive DY where | l0 (v0:List Int) (v1:Int) | l1 (v0:List Int) (v1:Int) | l2 (v0:List Int) (v1 v2:Int) | l3 (v0:List Int) (v1 v2 v3:Int)
def D1(g:List (List Int))(sh:List Bool)(q:Int):DY->St | .l0 v0 v1=>St.mk 82 [(0,Va (gL g)),(1,Va (boL sh)),(2,iv q),(7,AV.sl 0 0 v0.length),(8,iv v1)] [some (bK (U4 iv v0) 1)] | .l1 v0 v1=>St.mk 82 [(0,Va (gL g)),(1,Va (boL sh)),(7,AV.sl 0 0 v0.length),(9,iv v1)] [some (bK (U4 iv v0) 1)] | .l2 v0 v1 v2=>St.mk 82 [(0,Va (gL g)),(1,Va (boL sh)),(7,AV.sl 0 0 v0.length),(9,iv v1),(10,iv v2)] [some (bK (U4 iv v0) 1)] | .l3 v0 v1 v2 v3=>St.mk 82 [(0,Va (gL g)),(1,Va (boL sh)),(7,AV.sl 0 0 v0.length),(9,iv v1),(10,iv v2),(11,iv v3)] [some (bK (U4 iv v0) 1)]
def Km(g:List (List Int))(sh:List Bool)(q:Int):Option (DY⊕Ret):=gu (8 * iN (gL g).length<=281474976710656) <|gu (iN (gL g).length<=9223372036854775807) <|some (.inl (.l0 (U5 (gL g).length 0) ((0:Int))))
def Gy(g:List (List Int))(sh:List Bool)(q:Int)(v0:List Int)(v1:Int):Option (DY⊕Ret):=br (decide (v1<iN (gL g).length)) (gu (0<=v1) <|gu (v1<iN v0.length) <|gu ((0+v1.toNat).succ.le (U4 iV v0).length) <|some (.inl (.l0 (v0.set (0+v1.toNat) (-1)) (i64.wrap (v1+1))))) (gu (0<=q) <|el (sh) (q.toNat) fun(x26:Bool)=>br x26 (some (.inr ([],Va (U4 iV v0)))) (gu (q<iN v0.length) <|gu ((0+q.toNat).succ.le (U4 iV v0).length) <|some (.inl (.l1 (v0.set (0+q.toNat) 0) ((1:Int))))))
def HA(g:List (List Int))(sh:List Bool)(q:Int)(v0:List Int)(v1:Int):Option (DY⊕Ret):=br (decide (v1<iN (gL g).length)) (some (.inl (.l2 v0 v1 ((0:Int))))) (some (.inr ([],Va (U4 iV v0))))
def Iy(g:List (List Int))(sh:List Bool)(q:Int)(v0:List Int)(v1 v2:Int):Option (DY⊕Ret):=br (decide (v2<iN (gL g).length)) (gu (0<=v2) <|el (sh) (v2.toNat) fun(x46:Bool)=>br x46 (some (.inl (.l2 v0 v1 (i64.wrap (v2+1))))) (gu (v2<iN v0.length) <|el v0 (0+v2.toNat) fun(x52:Int)=>br (decide (0<=x52)) (some (.inl (.l2 v0 v1 (i64.wrap (v2+1))))) (some (.inl (.l3 v0 v1 v2 ((0:Int))))))) (some (.inl (.l1 v0 (i64.wrap (v1+1)))))
def GH(g:List (List Int))(sh:List Bool)(q:Int)(v0:List Int)(v1 v2 v3:Int):Option (DY⊕Ret):=gu (0<=v2) <|el g (v2.toNat) fun(x58:List Int)=>br (decide (v3<iN (U4 iV x58).length)) (el g (v2.toNat) fun(x67:List Int)=>gu (0<=v3) <|el x67 (v3.toNat) fun(x70:Int)=>gu (0<=x70) <|gu (x70<iN v0.length) <|el v0 (0+x70.toNat) fun(x73:Int)=>br (x73==i64.wrap (v1-1)) (gu (v2<iN v0.length) <|gu ((0+v2.toNat).succ.le (U4 iV v0).length) <|some (.inl (.l3 (v0.set (0+v2.toNat) v1) v1 v2 (i64.wrap (v3+1))))) (some (.inl (.l3 v0 v1 v2 (i64.wrap (v3+1)))))) (some (.inl (.l2 v0 v1 (i64.wrap (v2+1)))))
def Cc(g:List (List Int))(sh:List Bool)(q:Int):DY->Option (DY⊕Ret) | .l0 v0 v1=>Gy g sh q v0 v1 | .l1 v0 v1=>HA g sh q v0 v1 | .l2 v0 v1 v2=>Iy g sh q v0 v1 v2 | .l3 v0 v1 v2 v3=>GH g sh q v0 v1 v2 v3
theorem dst_ct(g:List (List Int))(sh:List Bool)(q:Int)(r:Ret)(h:Ac (Cc g sh q) (Km g sh q) r):CT Vb 159 ([]) ([.lst (gL g),.lst (boL sh),.int .i64 q]) r.1 r.2:=
 CT.mach (fn:=Tryz.f159) (c:=zB Tryz.f159) (S:=(D1 g sh q)) (hd:=DY.ctorIdx) Tryz.func159 (by kernel_rfl) (nL rfl)
  (fun s o ho=>match s,ho with
 | .l0 v0 v1,ho=>Scr.ok (X:=Gy g sh q v0 v1) ho mix (
 .rn 0 [] [] [] [] (al (u2 (u2 (u2 (al t3))))) <|
 .br (fun a0=>
 .gu fun a1=>
 .gu fun a2=>
 .gu fun a3=>
 .lq [37] [] [] [] [] [0] [0,1,2,7,8] (up [(7,AV.sl 0 0 v0.length)] [(0,(U4 iv v0).set (0+v1.toNat) (iv (-1)))] (D1 g sh q (.l0 (v0.set (0+v1.toNat) (-1)) (i64.wrap (v1+1))))) (aj (aj a0 (aj (u2 (u2 (aj (k2 (aj a1 a2)) (al (ak a3))))) (al (u2 (u2 s2))))) t7) (by simp[up,upF,upV,upH,upB,D1,gL,boL,lI]))
 (fun a0=>
 .gu fun a1=>
 .el fun x26 a2=>
 .rn 0 [36] [(26,bV x26)] [] [] (aj a0 (al (u2 (u2 (aj (k2 (aj a1 (Af (f:=bV) a2))) s2))))) <|
 .br (fun a3=>
  .rt [55] [] [] [] [] [0] (aj (aj a3 (al (u2 s2))) (al (show v0.length=(U4 iv v0).length by simp))))
 (fun a3=>
  .gu fun a4=>
  .gu fun a5=>
  .lq [54] [] [] [] [] [0] [0,1,7,9] (up [(7,AV.sl 0 0 v0.length)] [(0,(U4 iv v0).set (0+q.toNat) (iv 0))] (D1 g sh q (.l1 (v0.set (0+q.toNat) 0) ((1:Int))))) (aj (aj a3 (aj (u2 (u2 (aj (k2 (aj a1 a4)) (al (ak a5))))) s2)) t6) (by simp[up,upF,upV,upH,upB,D1,gL,boL,lI])))) (by kernel_rfl)
 | .l1 v0 v1,ho=>Scr.ok (X:=HA g sh q v0 v1) ho mix (
 .rn 0 [] [] [] [] (al (u2 (u2 (u2 (al t3))))) <|
 .br (fun a0=>
 .lp [71] [] [] [] [] [0] [0,1,7,9,10] (aj (aj a0 s2) t7))
 (fun a0=>
 .rt [70] [] [] [] [] [0] (aj (aj a0 (al (u2 s2))) (al (show v0.length=(U4 iv v0).length by simp))))) (by kernel_rfl)
 | .l2 v0 v1 v2,ho=>Scr.ok (X:=Iy g sh q v0 v1 v2) ho mix (
 .rn 0 [] [] [] [] (al (u2 (u2 (u2 (al t3))))) <|
 .br (fun a0=>
 .gu fun a1=>
 .el fun x46 a2=>
 .br (fun a3=>
  .lp [83,97] [(46,bV x46)] [] [] [] [0] [0,1,7,9,10] (aj (aj a0 (aj (u2 (u2 (aj (k2 (aj a1 (Af (f:=bV) a2))) (u2 (u2 (aj a3 (aj a3 (aj a3 (aj a3 (aj a3 (al (aj a3 t2)))))))))))) (ak (al (u2 (u2 s2)))))) t7))
 (fun a3=>
  .gu fun a4=>
  .el fun x52 a5=>
  .rn 0 [83,96] [(46,bV x46),(52,iv x52)] [] [] (aj a0 (al (u2 (u2 (aj (k2 (aj a1 (Af (f:=bV) a2))) (u2 (u2 (ag a3 (ag a3 (aj (aj a3 (k2 (aj a1 a4))) (aj (aj a3 (ak (Af (f:=iv) a5))) (ag a3 (al (aj a3 t2)))))))))))))) <|
  .br (fun a6=>
  .lp [96,109] [] [] [] [] [0] [0,1,7,9,10] (aj (aj a6 (al (u2 (u2 s2)))) t7))
  (fun a6=>
  .lp [96,108] [] [] [] [] [0] [0,1,7,9,10,11] (aj (aj a6 s2) t8))))
 (fun a0=>
 .lp [82] [] [] [] [] [0] [0,1,7,9] (aj (aj a0 (al (u2 (u2 s2)))) t6))) (by kernel_rfl)
 | .l3 v0 v1 v2 v3,ho=>Scr.ok (X:=GH g sh q v0 v1 v2 v3) ho mix (
 .gu fun a0=>
 .el fun x58 a1=>
 .rn 0 [] [(58,lI x58)] [] [] (al (u2 (u2 (u2 (aj (k2 (aj a0 (Af (f:=lI) a1))) (u2 (u2 (al t3)))))))) <|
 .br (fun a2=>
 .el fun x67 a3=>
 .gu fun a4=>
 .el fun x70 a5=>
 .gu fun a6=>
 .gu fun a7=>
 .el fun x73 a8=>
 .rn 0 [123] [(67,lI x67),(70,iv x70),(73,iv x73)] [] [] (aj a2 (al (u2 (u2 (u2 (aj (k2 (aj a0 (Af (f:=lI) a3))) (u2 (u2 (aj (k2 (aj a4 (Af (f:=iv) a5))) (u2 (aj (k2 (aj a6 a7)) (aj (ak (Af (f:=iv) a8)) (u2 (u2 (al t3))))))))))))))) <|
 .br (fun a9=>
  .gu fun a10=>
  .gu fun a11=>
  .lq [153] [] [] [] [] [0] [0,1,7,9,10,11] (up [(7,AV.sl 0 0 v0.length)] [(0,(U4 iv v0).set (0+v2.toNat) (iv v1))] (D1 g sh q (.l3 (v0.set (0+v2.toNat) v1) v1 v2 (i64.wrap (v3+1))))) (aj (aj a9 (aj (u2 (u2 (u2 (aj (k2 (aj a0 a10)) (al (k2 a11)))))) (al (u2 (u2 s2))))) t8) (by simp[up,upF,upV,upH,upB,D1,gL,boL,lI]))
 (fun a9=>
  .lp [152] [] [] [] [] [0] [0,1,7,9,10,11] (aj (aj a9 (al (u2 (u2 s2)))) t8)))
 (fun a2=>
 .lp [122] [] [] [] [] [0] [0,1,7,9,10] (aj (aj a2 (al (u2 (u2 s2)))) t7))) (by kernel_rfl)
  )
  (fun o ho=>Scr.ok (X:=Km g sh q) ho mix (
 .rn 0 [] [] [] [] s2 <|
 .gu fun a0=>
 .gu fun a1=>
 .lq [] [] [] [] [] [0] [0,1,2,7,8] (up [(7,AV.sl 0 0 (gL g).length)] [(0,U5 (gL g).length (iv 0))] (D1 g sh q (.l0 (U5 (gL g).length 0) ((0:Int))))) (aj (aj (u2 (u2 (aj (k2 (aj (show 0<=iN (gL g).length from(Int.natCast_nonneg _)) (aj (show iN (gL g).length<=iN (gL g).length by omega) (aj a0 a1)))) s2))) s2) t7) (by simp[up,upF,upV,upH,upB,D1,gL,boL,lI])) (by kernel_rfl)) h
structure DsP(g:List (List Int))(q:Nat)(d:List Int):Prop where
 len:d.length=g.length
 rng:∀v,v<g.length->-1<=d.getD v 0/\d.getD v 0<=g.length
 stp:∀v,v<g.length->0<d.getD v 0->∃w:Nat,(w:Int)∈g.getD v []/\w<g.length/\d.getD w 0=d.getD v 0-1
 zer:∀v,v<g.length->d.getD v 0=0->v=q
theorem Dx{l:List Int}{i j:Nat}{x:Int}(hi:i<l.length):(l.set i x).getD j 0=if i=j then x else l.getD j 0:=by
 rw[Ug,U1];by_cases h:i=j
 .subst h;rw[Ud rfl,Ud hi,Ud rfl];rfl
 .rw[Ue h,Ue h,Ug]
theorem DsP.set{g:List (List Int)}{q:Nat}{d:List Int}(h:DsP g q d){v w:Nat}{x:Int}(hv:v<g.length)(hw:w<g.length)(hm:(w:Int)∈g.getD v [])(hne:w≠v)(hx:1<=x/\x<=g.length)(hd:d.getD w 0=x-1)(h0:d.getD v 0 = -1\/d.getD v 0=x):DsP g q (d.set v x):=by
 have hl:=h.len;have e:∀j,(d.set v x).getD j 0=if v=j then x else d.getD j 0:=fun j=>Dx (by omega)
 refine⟨by rw[UL];exact hl,fun u hu=>?_,fun u hu hp=>?_,fun u hu hp=>?_⟩
 .rw[e];split
  .omega
  .exact h.rng u hu
 .rw[e] at hp ⊢
  split at hp
  .rename_i e1;rw[Ud e1];subst e1;exact⟨w,hm,hw,by rw[e,Ue (fun e=>hne e.symm)];exact hd⟩
  .rename_i e1;rw[Ue e1];obtain⟨t,t1,t2,t3⟩:=h.stp u hu hp;refine⟨t,t1,t2,?_⟩;rw[e];split
   .rename_i e2;subst e2;rcases h0 with h0 | h0<;>omega
   .exact t3
 .rw[e] at hp;split at hp
  .omega
  .exact h.zer u hu hp
theorem dst_ex{g:List (List Int)}{sh:List Bool}(hg:OkG g sh){q:Nat}(hq:q<g.length):∃d:{d:List Int // DsP g q d},Ac (Cc g sh q) (Km g sh q) (([],lI d.1):Ret):=by
 have hgl:=BZ g;have hl:=hg.len;have hsh:=hg.sh
 have e3:∀(x v:Nat),v<g.length->1<=x->x<=g.length->(∀d,DsP g q d->∃d':{d:List Int // DsP g q d},Ac (Cc g sh q) (some (.inl (.l2 d (x:Int) ((v+1:Nat):Int)))) (([],lI d'.1):Ret))->
   ∀(m k:Nat) (d:List Int),k+m=(g.getD v []).length->DsP g q d->(d.getD v 0 = -1\/d.getD v 0=x)->∃d':{d:List Int // DsP g q d},Ac (Cc g sh q) (some (.inl (.l3 d (x:Int) (v:Int) (k:Int)))) (([],lI d'.1):Ret):=by
  intro x v hv hx hxg nx m;have hrow:=hg.row v hv;have hr:=Ax [] hv;induction m with
  | zero=>intro k d hk hd _;refine Ay (show Cc g sh q (.l3 d x v k)=GH g sh q d x v k from rfl) ?_;unfold GH;rw[Ab (by omega),Uo,Ak hr,Ad (Uk (by simp only[iN,Ui];omega)),zW v (by omega)];exact nx d hd
  | succ m ih=>
   intro k d hk hd h0;have hdl:=hd.len;obtain⟨w,hw1,hw2,hw3⟩:=Jq hg hv (i:=k) (by omega);have hwk:=Ax 0 (show k<(g.getD v []).length by omega);rw[hw1] at hwk;have hwm:=Uj hwk;have hdw:=Ax 0 (show w<d.length by omega);refine Ay (show Cc g sh q (.l3 d x v k)=GH g sh q d x v k from rfl) ?_;unfold GH;rw[Ab (by omega),Uo,Ak hr,Ag (Ul (by simp only[iN,Ui];omega)),Ak hr,Ab (by omega),Uo,Ak hwk,Ab (by omega),Ab (by simp only[iN];omega),Uu,Uo,Ak hdw,Pc x (by omega) (by omega),zW k (by omega)];cases hb:d.getD w 0==((x-1:Nat):Int) with
   | false=>rw[Ad rfl];exact ih (k+1) d (by omega) hd h0
   | true=>have hb:=beq_iff_eq.1 hb;rw[Ag rfl,Ab (by simp only[iN];omega),Ab (show Nat.le _ _ from by show 0+v+1<=_;simp only[Ui];omega),Uu];exact ih (k+1) _ (by omega) (hd.set hv hw2 hwm hw3 ⟨by omega,by omega⟩ (by omega) h0) (.inr (by rw[Dx (by omega),Ud rfl]))
 have e2:∀(x:Nat),1<=x->x<=g.length->(∀d,DsP g q d->∃d':{d:List Int // DsP g q d},Ac (Cc g sh q) (some (.inl (.l1 d ((x+1:Nat):Int)))) (([],lI d'.1):Ret))->
   ∀(m v:Nat) (d:List Int),v+m=g.length->DsP g q d->∃d':{d:List Int // DsP g q d},Ac (Cc g sh q) (some (.inl (.l2 d (x:Int) (v:Int)))) (([],lI d'.1):Ret):=by
  intro x hx hxg nx m;induction m with
  | zero=>intro v d hv hd;refine Ay (show Cc g sh q (.l2 d x v)=Iy g sh q d x v from rfl) ?_;unfold Iy;rw[Ad (Uk (by simp only[iN];omega)),zW x (by omega)];exact nx d hd
  | succ m ih=>
   intro v d hv hd;have hdl:=hd.len;have hsv:=Ax false (show v<sh.length by omega);have hdv:=Ax 0 (show v<d.length by omega);have hr:=hd.rng v (by omega);refine Ay (show Cc g sh q (.l2 d x v)=Iy g sh q d x v from rfl) ?_;unfold Iy;rw[Ag (Ul (by simp only[iN];omega)),Ab (by omega),Uo,Ak hsv,zW v (by omega)];refine Am (fun _=>ih (v+1) d (by omega) hd) fun _=>?_
   rw[Ab (by simp only[iN];omega),Uu,Ak hdv];refine BK (fun _=>ih (v+1) d (by omega) hd) fun h=>?_
   exact e3 x v (by omega) hx hxg (fun d hd=>ih (v+1) d (by omega) hd) (g.getD v []).length 0 d (Uu _) hd (.inl (by omega))
 have e1:∀(m x:Nat) (d:List Int),1<=x->x+m=g.length+1->DsP g q d->∃d':{d:List Int // DsP g q d},Ac (Cc g sh q) (some (.inl (.l1 d (x:Int)))) (([],lI d'.1):Ret):=by
  intro m;induction m with
  | zero=>intro x d hx hm hd;refine Ay (show Cc g sh q (.l1 d x)=HA g sh q d x from rfl) ?_;unfold HA;rw[Ad (Uk (by simp only[iN];omega))];exact⟨⟨d,hd⟩,.ret _⟩
  | succ m ih=>
   intro x d hx hm hd;refine Ay (show Cc g sh q (.l1 d x)=HA g sh q d x from rfl) ?_;unfold HA;refine BK (fun h=>?_) fun _=>⟨⟨d,hd⟩,.ret _⟩
   exact e2 x hx (by simp only[iN] at h;omega) (fun d hd=>ih (x+1) d (by omega) (by omega) hd) g.length 0 d (Uu _) hd
 have hlow:∀(d:List Int),d.length=g.length->(∀v,v<g.length->d.getD v 0 = -1\/v=q/\d.getD v 0=0)->DsP g q d:=fun d hd h=>by refine⟨hd,fun v hv=>?_,fun v hv hp=>?_,fun v hv hp=>?_⟩<;>rcases h v hv with h1 | ⟨h1,h2⟩<;>first | omega | exact h1
 have e0:∀(m i:Nat) (d:List Int),i+m=g.length->d.length=g.length->(∀v,v<i->d.getD v 0 = -1)->∃d':{d:List Int // DsP g q d},Ac (Cc g sh q) (some (.inl (.l0 d (i:Int)))) (([],lI d'.1):Ret):=by
  intro m;induction m with
  | zero=>
   intro i d hi hd hf;refine Ay (show Cc g sh q (.l0 d i)=Gy g sh q d i from rfl) ?_;unfold Gy;rw[Ad (Uk (by simp only[iN];omega)),Ab (by omega),Uo,Ak (Ax false (show q<sh.length by omega))];refine Am (fun _=>⟨⟨d,hlow d hd fun v hv=>.inl (hf v (by omega))⟩,.ret _⟩) fun _=>?_
   rw[Ab (by simp only[iN];omega),Ab (show Nat.le _ _ from by show 0+q+1<=_;simp only[Ui];omega),Uu];refine e1 g.length 1 _ (Uq _) (by omega) (hlow _ (by rw[UL];exact hd) fun v hv=>?_);rw[Dx (by omega)];split
   .rename_i e;exact .inr ⟨e.symm,rfl⟩
   .exact .inl (hf v (by omega))
  | succ m ih=>
   intro i d hi hd hf;refine Ay (show Cc g sh q (.l0 d i)=Gy g sh q d i from rfl) ?_;unfold Gy;rw[Ag (Ul (by simp only[iN];omega)),Ab (by omega),Ab (by simp only[iN];omega),Ab (show Nat.le _ _ from by show 0+(i:Int).toNat+1<=_;simp only[Ui];omega),zW i (by omega),Uu,Uo];refine ih (i+1) _ (by omega) (by rw[UL];exact hd) fun v hv=>?_
   rw[Dx (by omega)];split
   .rfl
   .exact hf v (by omega)
 unfold Km;exact Ah (by simp only[iN];omega) (Ah (by simp only[iN];omega) (e0 g.length 0 _ (Uu _) (by rw[Uz,hgl]) fun v hv=>by omega))
theorem Mb(g:List (List Int))(sh:List Bool)(q:Int):∃d:List Int,OkG g sh->0<=q->q<(g.length:Int)->DsP g q.toNat d/\CT Vb 159 [] [.lst (gL g),.lst (boL sh),.int .i64 q] [] (lI d):=by
 by_cases h:OkG g sh/\0<=q/\q<(g.length:Int)
 .obtain⟨d,hd⟩:=dst_ex h.1 (q:=q.toNat) (by omega);rw[UE h.2.1] at hd;exact⟨d.1,fun _ _ _=>⟨d.2,dst_ct g sh q _ hd⟩⟩
 .exact⟨[],fun a b c=>absurd ⟨a,b,c⟩ h⟩
@[irreducible] def dsL(g:List (List Int))(sh:List Bool)(q:Int):List Int:=Classical.choose (Mb g sh q)
theorem ds_p{g:List (List Int)}{sh:List Bool}{q:Int}(hg:OkG g sh)(h0:0<=q)(h1:q<(g.length:Int)):DsP g q.toNat (dsL g sh q):=by unfold dsL;exact(UP (Mb g sh q) hg h0 h1).1
theorem ds_c(g:List (List Int))(sh:List Bool)(q:Int)(hg:OkG g sh)(h0:0<=q)(h1:q<(g.length:Int)):CT Vb 159 [] [.lst (gL g),.lst (boL sh),.int .i64 q] [] (lI (dsL g sh q)):=by unfold dsL;exact(UP (Mb g sh q) hg h0 h1).2
inductive Fs where | l0 (v0:List Int) (v1:Int) | l1 (v0:List Int) (v1 v2:Int)
def Fy(g:List (List Int))(sh:List Bool)(q:Int):Fs->St | .l0 v0 v1=>St.mk 67 [(0,Va (gL g)),(7,Va (U4 iv (dsL g sh q))),(8,AV.sl 0 0 v0.length),(9,iv v1)] [some (bK (U4 iv v0) 1)] | .l1 v0 v1 v2=>St.mk 67 [(0,Va (gL g)),(7,Va (U4 iv (dsL g sh q))),(8,AV.sl 0 0 v0.length),(9,iv v1),(10,iv v2)] [some (bK (U4 iv v0) 1)]
def Lk(g:List (List Int))(sh:List Bool)(q:Int):Option (Fs⊕Ret):=gu (OkG g sh) <|gu (0<=q) <|gu (q<iN g.length) <|gu (8 * iN (gL g).length<=281474976710656) <|gu (iN (gL g).length<=9223372036854775807) <|some (.inl (.l0 (U5 (gL g).length 0) ((0:Int))))
def G5(g:List (List Int))(sh:List Bool)(q:Int)(v0:List Int)(v1:Int):Option (Fs⊕Ret):=br (decide (v1<iN (gL g).length)) (gu (0<=v1) <|gu (v1<iN v0.length) <|gu ((0+v1.toNat).succ.le (U4 iV v0).length) <|el g (v1.toNat) fun(x30:List Int)=>some (.inl (.l1 (v0.set (0+v1.toNat) (-1)) v1 (i64.wrap (iN (U4 iV x30).length-1))))) (some (.inr ([],Va (U4 iV v0))))
def Gl(g:List (List Int))(sh:List Bool)(q:Int)(v0:List Int)(v1 v2:Int):Option (Fs⊕Ret):=br (decide (0<=v2)) (gu (0<=v1) <|el (dsL g sh q) (v1.toNat) fun(x39:Int)=>br (decide (0<x39)) (el g (v1.toNat) fun(x47:List Int)=>gu (0<=v2) <|el x47 (v2.toNat) fun(x50:Int)=>gu (0<=x50) <|el (dsL g sh q) (x50.toNat) fun(x54:Int)=>el (dsL g sh q) (v1.toNat) fun(x58:Int)=>br (x54==i64.wrap (x58-1)) (gu (v1<iN v0.length) <|gu ((0+v1.toNat).succ.le (U4 iV v0).length) <|some (.inl (.l1 (v0.set (0+v1.toNat) x50) v1 (i64.wrap (v2-1))))) (some (.inl (.l1 v0 v1 (i64.wrap (v2-1)))))) (some (.inl (.l0 v0 (i64.wrap (v1+1)))))) (some (.inl (.l0 v0 (i64.wrap (v1+1)))))
def DA(g:List (List Int))(sh:List Bool)(q:Int):Fs->Option (Fs⊕Ret) | .l0 v0 v1=>G5 g sh q v0 v1 | .l1 v0 v1 v2=>Gl g sh q v0 v1 v2
theorem hop_ct(g:List (List Int))(sh:List Bool)(q:Int)(r:Ret)(h:Ac (DA g sh q) (Lk g sh q) r):CT Vb 164 ([]) ([.lst (gL g),.lst (boL sh),.int .i64 q]) r.1 r.2:=
 CT.mach (fn:=Tryz.f164) (c:=zB Tryz.f164) (S:=(Fy g sh q)) (hd:=Fs.ctorIdx) Tryz.func164 (by kernel_rfl) (nL rfl)
  (fun s o ho=>match s,ho with
 | .l0 v0 v1,ho=>Scr.ok (X:=G5 g sh q v0 v1) ho mix (
 .rn 0 [] [] [] [] (al (u2 (u2 (u2 (al t3))))) <|
 .br (fun a0=>
 .gu fun a1=>
 .gu fun a2=>
 .gu fun a3=>
 .rn 0 [45] [] [] [] (aj a0 (al (u2 (u2 (aj (k2 (aj a1 a2)) (al (ak a3))))))) <|
 .el fun x30 a4=>
 .lq [] [(30,lI x30)] [] [] [] [0] [0,7,8,9,10] (up [(8,AV.sl 0 0 v0.length)] [(0,(U4 iv v0).set (0+v1.toNat) (iv (-1)))] (Fy g sh q (.l1 (v0.set (0+v1.toNat) (-1)) v1 (i64.wrap (iN (U4 iv x30).length-1))))) (aj (al (u2 (u2 (aj (k2 (aj a1 (Af (f:=lI) a4))) (u2 (u2 (u2 s2))))))) t7) (by simp[up,upF,upV,upH,upB,Fy,gL,boL,lI]))
 (fun a0=>
 .rt [44] [] [] [] [] [0] (aj (aj a0 (al (u2 s2))) (al (show v0.length=(U4 iv v0).length by simp))))) (by kernel_rfl)
 | .l1 v0 v1 v2,ho=>Scr.ok (X:=Gl g sh q v0 v1 v2) ho mix (
 .br (fun a0=>
 .gu fun a1=>
 .el fun x39 a2=>
 .rn 0 [73] [(39,iv x39)] [] [] (al (u2 (u2 (u2 (ag a0 (ag a0 (aj (aj a0 (k2 (aj a1 (Af (f:=iv) a2)))) (ag a0 (ag a0 (al (aj a0 t2))))))))))) <|
 .br (fun a3=>
  .el fun x47 a4=>
  .gu fun a5=>
  .el fun x50 a6=>
  .rn 0 [73,85] [(47,lI x47),(50,iv x50)] [] [] (aj a3 (al (u2 (u2 (aj (k2 (aj a1 (Af (f:=lI) a4))) (u2 (u2 (aj (k2 (aj a5 (Af (f:=iv) a6))) (u2 s2))))))))) <|
  .gu fun a7=>
  .el fun x54 a8=>
  .el fun x58 a9=>
  .rn 0 [73] [(54,iv x54),(58,iv x58)] [] [] (al (u2 (u2 (aj (k2 (aj a7 (Af (f:=iv) a8))) (u2 (u2 (u2 (aj (k2 (aj a1 (Af (f:=iv) a9))) (u2 (u2 (al t3))))))))))) <|
  .br (fun a10=>
  .gu fun a11=>
  .gu fun a12=>
  .lq [73,123] [] [] [] [] [0] [0,7,8,9,10] (up [(8,AV.sl 0 0 v0.length)] [(0,(U4 iv v0).set (0+v1.toNat) (iv x50))] (Fy g sh q (.l1 (v0.set (0+v1.toNat) x50) v1 (i64.wrap (v2-1))))) (aj (aj a10 (aj (u2 (u2 (u2 (aj (k2 (aj a1 a11)) (al (k2 a12)))))) (al (u2 (u2 s2))))) t7) (by simp[up,upF,upV,upH,upB,Fy,gL,boL,lI]))
  (fun a10=>
  .lp [73,122] [] [] [] [] [0] [0,7,8,9,10] (aj (aj a10 (al (u2 (u2 s2)))) t7)))
 (fun a3=>
  .lp [73,84] [] [] [] [] [0] [0,7,8,9] (aj (aj a3 (al (u2 (u2 s2)))) t6)))
 (fun a0=>
 .lp [72] [] [] [] [] [0] [0,7,8,9] (aj (aj (u2 (u2 (u2 (aj a0 (aj a0 (aj a0 (aj a0 (aj a0 (al (aj a0 t2)))))))))) (ak (al (u2 (u2 s2))))) t6))) (by kernel_rfl)
  )
  (fun o ho=>Scr.ok (X:=Lk g sh q) ho mix (
 .rn 0 [] [] [] [] s2 <|
 .gu fun a0=>
 .gu fun a1=>
 .gu fun a2=>
 have c0:=ds_c g (sh) q a0 a1 a2;
 .rn 0 [] [] [(15,hK c0 [] [])] [] (al (u2 (u2 (u2 (aj (ak (k5 (al (c0)))) s2))))) <|
 .gu fun a3=>
 .gu fun a4=>
 .lq [] [] [] [] [] [0] [0,7,8,9] (up [(8,AV.sl 0 0 (gL g).length)] [(0,U5 (gL g).length (iv 0))] (Fy g sh q (.l0 (U5 (gL g).length 0) ((0:Int))))) (aj (aj (u2 (u2 (aj (k2 (aj (show 0<=iN (gL g).length from(Int.natCast_nonneg _)) (aj (show iN (gL g).length<=iN (gL g).length by omega) (aj a3 a4)))) s2))) s2) t6) (by simp[up,upF,upV,upH,upB,Fy,gL,boL,lI])) (by kernel_rfl)) h
inductive DZ where | l0 (v0:Int) | l1 (v0 v1:Int)
def vldSt(g:List (List Int)):DZ->St | .l0 v0=>St.mk 60 [(0,Va (gL g)),(3,iv v0)] [] | .l1 v0 v1=>St.mk 60 [(0,Va (gL g)),(3,iv v0),(4,iv v1)] []
def O2(g:List (List Int)):Option (DZ⊕Ret):=br (decide (24<iN (gL g).length)) (none) (some (.inl (.l0 ((0:Int)))))
def GY(g:List (List Int))(v0:Int):Option (DZ⊕Ret):=br (decide (v0<iN (gL g).length)) (some (.inl (.l1 v0 ((0:Int))))) (some (.inr ([],bV true)))
def Hf(g:List (List Int))(v0 v1:Int):Option (DZ⊕Ret):=gu (0<=v0) <|el g (v0.toNat) fun(x18:List Int)=>br (decide (v1<iN (U4 iV x18).length)) (el g (v0.toNat) fun(x26:List Int)=>gu (0<=v1) <|el x26 (v1.toNat) fun(x29:Int)=>br (decide (x29<0)) (none) (br (decide (iN (gL g).length<=x29)) (none) (br (x29==v0) (none) (br (decide (0<v1)) (el g (v0.toNat) fun(x51:List Int)=>gu (0<=i64.wrap (v1-1)) <|el x51 ((i64.wrap (v1-1)).toNat) fun(x55:Int)=>br (decide (x29<=x55)) (none) (some (.inl (.l1 v0 (i64.wrap (v1+1)))))) (some (.inl (.l1 v0 (i64.wrap (v1+1))))))))) (some (.inl (.l0 (i64.wrap (v0+1)))))
def vldStep(g:List (List Int)):DZ->Option (DZ⊕Ret) | .l0 v0=>GY g v0 | .l1 v0 v1=>Hf g v0 v1
theorem vld_ct(g:List (List Int))(r:Ret)(h:Ac (vldStep g) (O2 g) r):CT Vb 158 ([]) ([.lst (gL g)]) r.1 r.2:=
 CT.mach (fn:=Tryz.f158) (c:=zB Tryz.f158) (S:=(vldSt g)) (hd:=DZ.ctorIdx) Tryz.func158 (by kernel_rfl) (nL rfl)
  (fun s o ho=>match s,ho with
 | .l0 v0,ho=>Scr.ok (X:=GY g v0) ho mix (
 .rn 0 [] [] [] [] (al (u2 (u2 (u2 (al t3))))) <|
 .br (fun a0=>
 .lp [25] [] [] [] [] [] [0,3,4] (aj (aj a0 s2) t4))
 (fun a0=>
 .rt [24] [] [] [] [] [] (aj (aj a0 s2) t2))) (by kernel_rfl)
 | .l1 v0 v1,ho=>Scr.ok (X:=Hf g v0 v1) ho mix (
 .gu fun a0=>
 .el fun x18 a1=>
 .rn 0 [] [(18,lI x18)] [] [] (al (u2 (u2 (u2 (aj (k2 (aj a0 (Af (f:=lI) a1))) (u2 (u2 (al t3)))))))) <|
 .br (fun a2=>
 .el fun x26 a3=>
 .gu fun a4=>
 .el fun x29 a5=>
 .rn 0 [43] [(26,lI x26),(29,iv x29)] [] [] (aj a2 (al (u2 (u2 (aj (k2 (aj a0 (Af (f:=lI) a3))) (u2 (u2 (aj (k2 (aj a4 (Af (f:=iv) a5))) (u2 s2))))))))) <|
 .br (fun a6=>
  .no)
 (fun a6=>
  .br (fun a7=>
  .no)
  (fun a7=>
  .br (fun a8=>
   .no)
  (fun a8=>
   .br (fun a9=>
   .el fun x51 a10=>
   .gu fun a11=>
   .el fun x55 a12=>
   .rn 0 [66,78,88,95] [(51,lI x51),(55,iv x55)] [] [] (al (u2 (u2 (u2 (ag a6 (ag a6 (ag a6 (aj (aj a6 t3) (ag a6 (u2 (ag a7 (ag a7 (aj (aj a7 t3) (ag a7 (u2 (ag a8 (ag a8 (ag a8 (ag a9 (ag a9 (ag a9 (aj (aj a9 (k2 (aj a0 (Af (f:=lI) a10)))) (ag a9 (ag a9 (ag a9 (aj (aj a9 (k2 (aj a11 (Af (f:=iv) a12)))) (ag a9 (aj (aj a9 t3) (aj (aj a8 (aj a9 t2)) (al (aj a8 t2))))))))))))))))))))))))))))))) <|
   .br (fun a13=>
    .no)
   (fun a13=>
    .lp [66,78,88,95,118] [] [] [] [] [] [0,3,4] (aj (aj a13 (al (u2 (u2 s2)))) t4)))
   (fun a9=>
   .lp [66,78,88,94] [] [] [] [] [] [0,3,4] (aj (aj (u2 (u2 (u2 (ag a6 (ag a6 (ag a6 (aj (aj a6 t3) (ag a6 (u2 (ag a7 (ag a7 (aj (aj a7 t3) (ag a7 (u2 (ag a8 (ag a8 (ag a8 (aj a9 (aj a9 (aj a9 (aj a9 (aj a9 (aj a9 (aj a9 (aj a9 (aj a9 (aj a9 (aj (aj a8 (aj a9 t2)) (al (aj a8 t2)))))))))))))))))))))))))))))) (ak (al (u2 (u2 s2))))) t4))))))
 (fun a2=>
 .lp [42] [] [] [] [] [] [0,3] (aj (aj a2 (al (u2 (u2 s2)))) t3))) (by kernel_rfl)
  )
  (fun o ho=>Scr.ok (X:=O2 g) ho mix (
 .rn 1 [] [] [] [] (u2 (al (u2 (u2 s2)))) <|
 .br (fun a0=>
 .no)
 (fun a0=>
 .lp [16] [] [] [] [] [] [0,3] (aj (aj a0 s2) t3))) (by kernel_rfl)) h
structure VG(g:List (List Int)):Prop where
 len:g.length<=24
 row:∀v:Nat,v<g.length->nxB (g.getD v []) v g.length=true
theorem Nv{r:List Int}{i m:Int}(h:nxB r i m=true):∀k,k<r.length->0<=r.getD k 0 | 0,hk=>by have:=((CY h).2 0 hk).1;unfold Bl at this;rw[Ud rfl] at this;omega | k+1,hk=>by have:=((CY h).2 (k+1) hk).1;have ih:=Nv h k (by omega);unfold Bl at this;rw[Ue (by omega),T0] at this;omega
theorem EZ{l:List Int}{k:Nat}(h:k<l.length):l.getD k 0=l[k]:=by rw[Ug,Uf h];rfl
theorem VG.ok{g:List (List Int)}(h:VG g){sh:List Bool}(hs:sh.length=g.length):OkG g sh:=⟨h.len,fun v hv=>by
 have hr:=CY (h.row v hv);refine⟨by have:=hr.1;omega,fun w hw=>?_⟩;obtain⟨k,hk,rfl⟩:=UO.1 hw;have e:(g.getD v [])[k]=(g.getD v []).getD k 0:=by exact(EZ hk).symm
 have h1:=hr.2 k hk;have h2:=Nv (h.row v hv) k hk;rw[e];omega,hs⟩
theorem vld_v{g:List (List Int)}(h:VG g):CT Vb 158 [] [.lst (gL g)] [] (.bool true):=by
 have hgl:=BZ g;have hl:=h.len;refine vld_ct g ([],_) ?_;unfold O2;rw[Ad (Uk (by simp only[iN];omega))];refine Bm (fun i=>DZ.l0 (i:Int)) g.length (fun i hi hx=>.to (show GY g i=some (.inl (.l1 i 0)) from ?_) ?_) (.to (show GY g g.length=_ from ?_) (.ret _))
 .unfold GY;rw[Ag (Ul (by simp only[iN];omega))]
 .have hr:=CY (h.row i hi);have er:=Ax [] hi;refine Bm (fun k=>DZ.l1 (i:Int) (k:Int)) (g.getD i []).length (fun k hk hh=>.to (show Hf g i k=_ from ?_) hh) (.to (show Hf g i (g.getD i []).length=_ from ?_) hx)
  .have ek:=Ax 0 hk;have h1:=hr.2 k hk;have h0:=Nv (h.row i hi) k hk;unfold Hf;rw[Ab (by omega),Uo,Ak er,Ag (Ul (by simp only[iN,Ui];omega)),Ak er,Ab (by omega),Uo,Ak ek,Ad (Uk (by omega)),Ad (Uk (by simp only[iN];omega)),Ad (UN.2 h1.2.2),zW k (by omega)];by_cases hz:k=0
   .rw[Ad (Uk (by omega))]
   .rw[Ag (Ul (by omega)),Ak er,Pc k (by omega) (by omega),Ab (by omega),Uo,Ak (Ax 0 (show k-1<_ by omega)),Ad (Uk (by have:=h1.1;unfold Bl at this;rw[Ue hz] at this;omega))]
  .unfold Hf;rw[Ab (by omega),Uo,Ak er,Ad (Uk (by simp only[iN,Ui];omega)),zW i (by omega)]
 .unfold GY;rw[Ad (Uk (by simp only[iN];omega))]
def hpG(m:Nat)(d h:List Int)(v:Nat):Prop:=0<d.getD v 0->0<=h.getD v 0/\h.getD v 0<m/\d.getD (h.getD v 0).toNat 0=d.getD v 0-1
def HpP(m:Nat)(d h:List Int):Prop:=h.length=m/\∀v,v<m->hpG m d h v
theorem hop_ex{g:List (List Int)}{sh:List Bool}(hg:OkG g sh){q:Int}(h0:0<=q)(h1:q<(g.length:Int)):∃p:{h:List Int // HpP g.length (dsL g sh q) h},Ac (DA g sh q) (Lk g sh q) (([],lI p.1):Ret):=by
 have hgl:=BZ g;have hl:=hg.len;have hd:=ds_p hg h0 h1;have hdl:=hd.len;unfold Lk;generalize he:dsL g sh q=d at hd hdl;have keep:∀{h:List Int} {v u:Nat} {x:Int},h.length=g.length->v<g.length->u≠v->hpG g.length d h u->hpG g.length d (h.set v x) u:=fun {h v u x} hh hv hn hp=>by
  unfold hpG at hp ⊢
  rw[Dx (by omega),Ue (fun e=>hn e.symm)];exact hp
 have e1:∀(v:Nat),v<g.length->(∀h,h.length=g.length->(∀u,u<v+1->hpG g.length d h u)->∃p:{h:List Int // HpP g.length d h},Ac (DA g sh q) (some (.inl (.l0 h ((v+1:Nat):Int)))) (([],lI p.1):Ret))->
   ∀(j:Nat) (h:List Int),j<=(g.getD v []).length->h.length=g.length->(∀u,u<v->hpG g.length d h u)->(hpG g.length d h v\/∃k,k<j/\d.getD ((g.getD v []).getD k 0).toNat 0=d.getD v 0-1)->∃p:{h:List Int // HpP g.length d h},Ac (DA g sh q) (some (.inl (.l1 h (v:Int) ((j:Int)-1)))) (([],lI p.1):Ret):=by
  intro v hv nx j;have hrow:=(hg.row v hv).1;have er:=Ax [] hv;have edv:=Ax 0 (show v<d.length by omega);have hrv:=hd.rng v hv;induction j with
  | zero=>
   intro h _ hh hu hx;refine Ay (show DA g sh q (.l1 h v _)=Gl g sh q h v _ from rfl) ?_;unfold Gl;rw[Ad (Uk (by omega)),zW v (by omega)];refine nx h hh fun u hu1=>?_
   by_cases e:u=v
   .subst e;rcases hx with hx | ⟨k,hk,_⟩
    .exact hx
    .omega
   .exact hu u (by omega)
  | succ j ih=>
   intro h hj hh hu hx;rw[show ((j+1:Nat):Int)-1=(j:Int) by omega];obtain⟨w,hw1,hw2,_⟩:=Jq hg hv (i:=j) (by omega);have ew:=Ax 0 (show j<(g.getD v []).length by omega);rw[hw1] at ew;refine Ay (show DA g sh q (.l1 h v j)=Gl g sh q h v j from rfl) ?_;unfold Gl;rw[Ag (Ul (by omega)),Ab (by omega),Uo,he,Ak edv];refine BK (fun hp=>?_) fun hp=>?_
   .rw[Ak er,Ab (by omega),Uo,Ak ew,Ab (by omega),Uo,Ak (Ax 0 (show w<d.length by omega)),Ak edv,A3 (d.getD v 0-1) (by omega) (by omega)];have wj:i64.wrap ((j:Int)-1)=(j:Int)-1:=CB (by omega) (by omega);refine Am (fun hb=>?_) fun hb=>?_
    .rw[Ab (by simp only[iN];omega),Ab (show Nat.le _ _ from by show 0+v+1<=_;simp only[Ui];omega),Uu,wj];refine ih _ (by omega) (by rw[UL];exact hh) (fun u hu1=>keep hh hv (by omega) (hu u hu1)) (.inl fun _=>?_);rw[Dx (by omega),Ud rfl,Uo];exact⟨by omega,by omega,beq_iff_eq.1 hb⟩
    .rw[wj];refine ih h (by omega) hh hu (hx.imp id fun⟨k,hk1,hk2⟩=>⟨k,?_,hk2⟩);by_cases e:k=j
     .subst e;rw[hw1,Uo] at hk2;exact absurd hk2 (UN.1 hb)
     .omega
   .rw[zW v (by omega)];refine nx h hh fun u hu1=>?_
    by_cases e:u=v
    .subst e;exact fun h=>absurd h hp
    .exact hu u (by omega)
 have e0:∀(m i:Nat) (h:List Int),i+m=g.length->h.length=g.length->(∀u,u<i->hpG g.length d h u)->∃p:{h:List Int // HpP g.length d h},Ac (DA g sh q) (some (.inl (.l0 h (i:Int)))) (([],lI p.1):Ret):=by
  intro m;induction m with
  | zero=>intro i h hi hh hu;refine Ay (show DA g sh q (.l0 h i)=G5 g sh q h i from rfl) ?_;unfold G5;rw[Ad (Uk (by simp only[iN];omega))];exact⟨⟨h,hh,fun u hu1=>hu u (by omega)⟩,.ret _⟩
  | succ m ih=>
   intro i h hi hh hu;have hrow:=(hg.row i (by omega)).1;refine Ay (show DA g sh q (.l0 h i)=G5 g sh q h i from rfl) ?_;unfold G5;rw[Ag (Ul (by simp only[iN];omega)),Ab (by omega),Ab (by simp only[iN];omega),Ab (show Nat.le _ _ from by show 0+(i:Int).toNat+1<=_;simp only[Ui];omega),Uo,Ak (Ax [] (show i<g.length by omega)),Uu,Ui,CB (x:=iN (g.getD i []).length-1) (by simp only[iN];omega) (by simp only[iN];omega)];refine e1 i (by omega) (fun h hh hu=>ih (i+1) h (by omega) hh hu) (g.getD i []).length _ (Uq _) (by rw[UL];exact hh) (fun u hu1=>keep hh (by omega) (by omega) (hu u hu1)) ?_;by_cases hp:0<d.getD i 0
   .obtain⟨w,hw1,hw2,hw3⟩:=hd.stp i (by omega) hp;obtain⟨k,hk,hkw⟩:=UO.1 hw1;refine .inr ⟨k,hk,?_⟩;rw[show (g.getD i []).getD k 0=(g.getD i [])[k] from EZ hk,hkw,Uo,hw3]
   .exact .inl fun h=>absurd h hp
 exact Ah hg (Ah h0 (Ah h1 (Ah (by simp only[iN];omega) (Ah (by simp only[iN];omega) (e0 g.length 0 _ (Uu _) (by rw[Uz,hgl]) fun v hv=>by omega)))))
theorem OQ(g:List (List Int))(sh:List Bool)(q:Int):∃h:List Int,OkG g sh->0<=q->q<(g.length:Int)->HpP g.length (dsL g sh q) h/\CT Vb 164 [] [.lst (gL g),.lst (boL sh),.int .i64 q] [] (lI h):=by
 by_cases h:OkG g sh/\0<=q/\q<(g.length:Int)
 .obtain⟨d,hd⟩:=hop_ex h.1 h.2.1 h.2.2;exact⟨d.1,fun _ _ _=>⟨d.2,hop_ct g sh q _ hd⟩⟩
 .exact⟨[],fun a b c=>absurd ⟨a,b,c⟩ h⟩
@[irreducible] def hpL(g:List (List Int))(sh:List Bool)(q:Int):List Int:=Classical.choose (OQ g sh q)
theorem hp_p{g:List (List Int)}{sh:List Bool}{q:Int}(hg:OkG g sh)(h0:0<=q)(h1:q<(g.length:Int)):HpP g.length (dsL g sh q) (hpL g sh q):=by unfold hpL;exact(UP (OQ g sh q) hg h0 h1).1
theorem hp_c(g:List (List Int))(sh:List Bool)(q:Int)(hg:OkG g sh)(h0:0<=q)(h1:q<(g.length:Int)):CT Vb 164 [] [.lst (gL g),.lst (boL sh),.int .i64 q] [] (lI (hpL g sh q)):=by unfold hpL;exact(UP (OQ g sh q) hg h0 h1).2
inductive IE where | l0 (v0:Int) (v1:List Int)
def Mg(g:List (List Int))(sh:List Bool)(p q:Int):IE->St | .l0 v0 v1=>St.mk 37 [(2,iv v0),(3,iv q),(9,Va (U4 iv (hpL g sh q))),(10,AV.sl 0 0 v1.length)] [some (bK (U4 iv v1) 1)]
def K6(g:List (List Int))(sh:List Bool)(p q:Int):Option (IE⊕Ret):=gu (OkG g sh) <|gu (0<=q) <|gu (q<iN g.length) <|gu (0<=p) <|el (dsL g sh q) (p.toNat) fun(x16:Int)=>br (decide (x16<0)) (none) (some (.inl (.l0 p ([p]))))
def GE(g:List (List Int))(sh:List Bool)(p q:Int)(v0:Int)(v1:List Int):Option (IE⊕Ret):=br (v0 != q) (gu (0<=v0) <|el (hpL g sh q) (v0.toNat) fun(x30:Int)=>gu ((U4 iV v1).length+[iV x30].length<=9223372036854775807) <|gu (((U4 iV v1).length+[iV x30].length) * 8<=140737488355328) <|some (.inl (.l0 x30 (v1++[x30])))) (some (.inr ([],Va (U4 iV v1))))
def Jz(g:List (List Int))(sh:List Bool)(p q:Int):IE->Option (IE⊕Ret) | .l0 v0 v1=>GE g sh p q v0 v1
theorem frt_ct(g:List (List Int))(sh:List Bool)(p q:Int)(r:Ret)(h:Ac (Jz g sh p q) (K6 g sh p q) r):CT Vb 160 ([]) ([.lst (gL g),.lst (boL sh),.int .i64 p,.int .i64 q]) r.1 r.2:=
 CT.mach (fn:=Tryz.f160) (c:=zB Tryz.f160) (S:=(Mg g sh p q)) (hd:=IE.ctorIdx) Tryz.func160 (by kernel_rfl) (nL rfl)
  (fun s o ho=>match s,ho with
 | .l0 v0 v1,ho=>Scr.ok (X:=GE g sh p q v0 v1) ho mix (
 .rn 0 [] [] [] [] (al (u2 (u2 (al t3)))) <|
 .br (fun a0=>
 .gu fun a1=>
 .el fun x30 a2=>
 .rn 0 [55] [(30,iv x30)] [] [] (aj a0 (al (u2 (u2 (aj (k2 (aj a1 (Af (f:=iv) a2))) (u2 s2)))))) <|
 .gu fun a3=>
 .gu fun a4=>
 .lq [] [] [] [] [] [2] [2,3,9,10] (up [(10,AV.sl 0 0 ((U4 iv v1).length+[iv x30].length))] [(0,U4 iv v1++[iv x30])] (Mg g sh p q (.l0 x30 (v1++[x30])))) (aj (al (u2 (u2 (u2 (aj (k2 (aj (show(U4 iv v1).length=v1.length by simp) (aj (aj (show nat_lit 1=nat_lit 1 from rfl) (show 1<=[iv x30].length by simp)) (aj a3 a4)))) s2))))) t6) (by simp[up,upF,upV,upH,upB,Mg,gL,boL,lI]))
 (fun a0=>
 .rt [54] [] [] [] [] [0] (aj (aj a0 (al (u2 s2))) (al (show v1.length=(U4 iv v1).length by simp))))) (by kernel_rfl)
  )
  (fun o ho=>Scr.ok (X:=K6 g sh p q) ho mix (
 .rn 0 [] [] [] [] s2 <|
 .gu fun a0=>
 .gu fun a1=>
 .gu fun a2=>
 .gu fun a3=>
 .el fun x16 a4=>
 have c0:=ds_c g (sh) q a0 a1 a2;
 .rn 0 [] [(16,iv x16)] [(14,hK c0 [] [])] [] (al (u2 (u2 (u2 (aj (ak (k5 (al (c0)))) (u2 (aj (k2 (aj a3 (Af (f:=iv) a4))) (u2 s2)))))))) <|
 .br (fun a5=>
 .no)
 (fun a5=>
 have c1:=hp_c g (sh) q a0 a1 a2;
 .lp [36] [] [(22,hK c1 [] [])] [] [] [0] [2,3,9,10] (aj (aj a5 (aj (u2 (u2 (u2 (aj (ak (k5 (al (c1)))) s2)))) (al (u2 (u2 s2))))) t6))) (by kernel_rfl)) h
def NY(g:List (List Int))(sh:List Bool):Option (Empty⊕Ret):=gu (VG g) <|br (iN (boL sh).length != iN (gL g).length) (none) (some (.inr ([],iV 0)))
theorem chq_ct(g:List (List Int))(sh:List Bool)(r:Ret)(h:Ac emT (NY g sh) r):CT Vb 145 ([]) ([.lst (gL g),.lst (boL sh)]) r.1 r.2:=
 CT.mach (fn:=Tryz.f145) (c:=zB Tryz.f145) (S:=emS) (hd:=emH) Tryz.func145 (by kernel_rfl) (nL rfl)
  (fun s o ho=>match s,ho with
   | x,_=>x.elim)
  (fun o ho=>Scr.ok (X:=NY g sh) ho mix (
 .rn 0 [] [] [] [] s2 <|
 .gu fun a0=>
 have c0:=vld_v a0;
 .rn 1 [] [] [(6,hK c0 [] [])] [] (aj (u2 (aj (k2 (al (c0))) s2)) (ak (al (u2 (u2 (u2 (u2 (al t3)))))))) <|
 .br (fun a1=>
 .no)
 (fun a1=>
 .rt [24] [] [] [] [] [] (aj (aj a1 s2) t2))) (by kernel_rfl)) h
theorem frt_ex{g:List (List Int)}{sh:List Bool}(hg:OkG g sh){q:Int}(h0:0<=q)(h1:q<(g.length:Int)){v:Nat}(hv:v<g.length)(hp:0<=(dsL g sh q).getD v 0):∃p:{l:List Int // 0<l.length/\l.length<=50},Ac (Jz g sh v q) (K6 g sh v q) (([],lI p.1):Ret):=by
 have hl:=hg.len;have hd:=ds_p hg h0 h1;have hh:=hp_p hg h0 h1;have hdl:=hd.len;have hhl:=hh.1;have e0:∀(m u:Nat) (l:List Int),u<g.length->(dsL g sh q).getD u 0=m->0<l.length->l.length+m<=50->∃p:{l:List Int // 0<l.length/\l.length<=50},Ac (Jz g sh v q) (some (.inl (.l0 (u:Int) l))) (([],lI p.1):Ret):=by
  intro m;induction m with
  | zero=>intro u l hu hm hp1 hp2;refine Ay (show Jz g sh v q (.l0 u l)=GE g sh v q u l from rfl) ?_;have e:=hd.zer u hu hm;unfold GE;rw[Ad (by simp;omega)];exact⟨⟨l,hp1,hp2⟩,.ret _⟩
  | succ m ih=>
   intro u l hu hm hp1 hp2;refine Ay (show Jz g sh v q (.l0 u l)=GE g sh v q u l from rfl) ?_;have e:=hh.2 u hu (by omega);unfold GE;refine Am (fun _=>?_) fun _=>⟨⟨l,hp1,by omega⟩,.ret _⟩
   rw[Ab (by omega),Uo,Ak (Ax 0 (show u<(hpL g sh q).length by omega)),Ab (by simp only[Ui,UQ];omega),Ab (by simp only[Ui,UQ];omega)];obtain⟨w,hw⟩:∃w:Nat,(hpL g sh q).getD u 0=(w:Int):=⟨((hpL g sh q).getD u 0).toNat,by omega⟩;rw[hw] at e ⊢
   rw[Uo] at e;exact ih w _ (by omega) (by omega) (by simp) (by simp only[Uy,UQ];omega)
 have hr:=hd.rng v hv;unfold K6;refine Ah hg (Ah h0 (Ah h1 (Ah (by omega) ?_)));rw[Uo,Ak (Ax 0 (show v<(dsL g sh q).length by omega)),Ad (Uk (by omega))];exact e0 ((dsL g sh q).getD v 0).toNat v [(v:Int)] hv (by omega) (by simp) (by simp only[UQ];omega)
theorem Oe(g:List (List Int))(sh:List Bool)(p q:Int):∃l:List Int,OkG g sh->0<=q->q<(g.length:Int)->0<=p->p<(g.length:Int)->0<=(dsL g sh q).getD p.toNat 0->(0<l.length/\l.length<=50)/\CT Vb 160 [] [.lst (gL g),.lst (boL sh),.int .i64 p,.int .i64 q] [] (lI l):=by
 by_cases h:OkG g sh/\0<=q/\q<(g.length:Int)/\0<=p/\p<(g.length:Int)/\0<=(dsL g sh q).getD p.toNat 0
 .obtain⟨a,b,c,d,e,f⟩:=h;obtain⟨l,hd⟩:=frt_ex a b c (v:=p.toNat) (by omega) f;rw[UE d] at hd;exact⟨l.1,fun _ _ _ _ _ _=>⟨l.2,frt_ct g sh p q _ hd⟩⟩
 .exact⟨[],fun a b c d e f=>absurd ⟨a,b,c,d,e,f⟩ h⟩
@[irreducible] def frL(g:List (List Int))(sh:List Bool)(p q:Int):List Int:=Classical.choose (Oe g sh p q)
theorem fr_p{g:List (List Int)}{sh:List Bool}{p q:Int}(hg:OkG g sh)(h0:0<=q)(h1:q<(g.length:Int))(h2:0<=p)(h3:p<(g.length:Int))(h4:0<=(dsL g sh q).getD p.toNat 0):0<(frL g sh p q).length/\(frL g sh p q).length<=50:=by unfold frL;exact(UP (Oe g sh p q) hg h0 h1 h2 h3 h4).1
theorem fr_c(g:List (List Int))(sh:List Bool)(p q:Int)(hg:OkG g sh)(h0:0<=q)(h1:q<(g.length:Int))(h2:0<=p)(h3:p<(g.length:Int))(h4:0<=(dsL g sh q).getD p.toNat 0):CT Vb 160 [] [.lst (gL g),.lst (boL sh),.int .i64 p,.int .i64 q] [] (lI (frL g sh p q)):=by unfold frL;exact(UP (Oe g sh p q) hg h0 h1 h2 h3 h4).2
theorem chq_v{g:List (List Int)}(h:VG g){sh:List Bool}(hs:sh.length=g.length):CT Vb 145 [] [.lst (gL g),.lst (boL sh)] [] (.int .i64 0):=by refine chq_ct g sh ([],_) (.val ?_);unfold NY;rw[Ab h,Ad (by simp only[iN,A9,BZ,hs];simp)]
inductive Ib where | l0 (v0 v1:Int)
def thrSt(g:List (List Int))(sh:List Bool)(q:Int):Ib->St | .l0 v0 v1=>St.mk 72 [(0,Va (gL g)),(1,Va (boL sh)),(2,iv q),(7,Va (U4 iv (dsL g sh q))),(8,iv v0),(9,iv v1)] []
def La(g:List (List Int))(sh:List Bool)(q:Int):Option (Ib⊕Ret):=gu (0<=q) <|el (sh) (q.toNat) fun(x14:Bool)=>br x14 (some (.inr ([],AV.nils))) (gu (OkG g sh) <|gu (q<iN g.length) <|some (.inl (.l0 ((-1:Int)) ((0:Int)))))
def HI(g:List (List Int))(sh:List Bool)(q v0 v1:Int):Option (Ib⊕Ret):=gu (0<=q) <|el g (q.toNat) fun(x23:List Int)=>br (decide (v1<iN (U4 iV x23).length)) (el g (q.toNat) fun(x31:List Int)=>gu (0<=v1) <|el x31 (v1.toNat) fun(x34:Int)=>gu (0<=x34) <|el (dsL g sh q) (x34.toNat) fun(x38:Int)=>br (decide (0<=x38)) (br (decide (v0<0)) (some (.inl (.l0 x34 (i64.wrap (v1+1))))) (el (dsL g sh q) (x34.toNat) fun(x47:Int)=>gu (0<=v0) <|el (dsL g sh q) (v0.toNat) fun(x51:Int)=>br (decide (x47<x51)) (some (.inl (.l0 x34 (i64.wrap (v1+1))))) (some (.inl (.l0 v0 (i64.wrap (v1+1))))))) (some (.inl (.l0 v0 (i64.wrap (v1+1)))))) (br (decide (v0<0)) (some (.inr ([],AV.nils))) (gu (OkG g sh) <|gu (q<iN g.length) <|gu (0<=v0) <|gu (v0<iN g.length) <|gu (0<=(dsL g sh q).getD v0.toNat 0) <|gu (∀(e:AV),e∈U4 iV (frL g sh v0 q)->e.cells.length=1) <|gu (0<=i64.wrap (iN (U4 iV (frL g sh v0 q)).length-1)) <|gu (i64.wrap (iN (U4 iV (frL g sh v0 q)).length-1)<=iN (U4 iV (frL g sh v0 q)).length) <|gu (∀(e:AV),e∈U7 ((i64.wrap (iN (U4 iV (frL g sh v0 q)).length-1)).toNat-U9 0) (U6 (U9 0) (U4 iV (frL g sh v0 q)))->e.cells.length=1) <|gu ([iV q].length+(U7 ((i64.wrap (iN (U4 iV (frL g sh v0 q)).length-1)).toNat-U9 0) (U6 (U9 0) (U4 iV (frL g sh v0 q)))).length<=9223372036854775807) <|gu (([iV q].length+(U7 ((i64.wrap (iN (U4 iV (frL g sh v0 q)).length-1)).toNat-U9 0) (U6 (U9 0) (U4 iV (frL g sh v0 q)))).length) * 8<=140737488355328) <|gu ([iV q].length+(U7 ((i64.wrap (iN (U4 iV (frL g sh v0 q)).length-1)).toNat-U9 0) (U6 (U9 0) (U4 iV (frL g sh v0 q)))).length=(iV q::List.append._f [] PUnit.unit (U7 ((i64.wrap (iN (U4 iV (frL g sh v0 q)).length-1)).toNat-U9 0) (U6 (U9 0) (U4 iV (frL g sh v0 q))))).length) <|some (.inr ([],Va (iV q::List.append._f [] PUnit.unit (U7 ((i64.wrap (iN (U4 iV (frL g sh v0 q)).length-1)).toNat-U9 0) (U6 (U9 0) (U4 iV (frL g sh v0 q)))))))))
def IR(g:List (List Int))(sh:List Bool)(q:Int):Ib->Option (Ib⊕Ret) | .l0 v0 v1=>HI g sh q v0 v1
theorem PS(g:List (List Int))(sh:List Bool)(q:Int)(r:Ret)(h:Ac (IR g sh q) (La g sh q) r):CT Vb 146 ([]) ([.lst (gL g),.lst (boL sh),.int .i64 q]) r.1 r.2:=
 CT.mach (fn:=Tryz.f146) (c:=zB Tryz.f146) (S:=(thrSt g sh q)) (hd:=Ib.ctorIdx) Tryz.func146 (by kernel_rfl) (nL rfl)
  (fun s o ho=>match s,ho with
 | .l0 v0 v1,ho=>Scr.ok (X:=HI g sh q v0 v1) ho mix (
 .gu fun a0=>
 .el fun x23 a1=>
 .rn 0 [] [(23,lI x23)] [] [] (al (u2 (u2 (u2 (aj (k2 (aj a0 (Af (f:=lI) a1))) (u2 (u2 (al t3)))))))) <|
 .br (fun a2=>
 .el fun x31 a3=>
 .gu fun a4=>
 .el fun x34 a5=>
 .rn 0 [53] [(31,lI x31),(34,iv x34)] [] [] (aj a2 (al (u2 (u2 (aj (k2 (aj a0 (Af (f:=lI) a3))) (u2 (u2 (aj (k2 (aj a4 (Af (f:=iv) a5))) (u2 s2))))))))) <|
 .gu fun a6=>
 .el fun x38 a7=>
 .br (fun a8=>
  .br (fun a9=>
  .lp [83,89] [(38,iv x38)] [] [] [] [] [0,1,2,7,8,9] (aj (aj (u2 (u2 (aj (k2 (aj a6 (Af (f:=iv) a7))) (u2 (u2 (u2 (ag a8 (ag a8 (ag a8 (aj a9 (aj a9 (aj a9 (aj a9 (aj a9 (aj a9 (aj a9 (aj a9 (aj a9 (aj (aj a8 (aj a9 t2)) (al (aj a8 t2))))))))))))))))))))) (ak (aj (u2 s2) (al (u2 (u2 s2)))))) t7))
  (fun a9=>
  .el fun x47 a10=>
  .gu fun a11=>
  .el fun x51 a12=>
  .rn 0 [83,88] [(38,iv x38),(47,iv x47),(51,iv x51)] [] [] (al (u2 (u2 (aj (k2 (aj a6 (Af (f:=iv) a7))) (u2 (u2 (u2 (ag a8 (ag a8 (ag a8 (ag a9 (ag a9 (aj (aj a9 (k2 (aj a6 (Af (f:=iv) a10)))) (ag a9 (ag a9 (ag a9 (aj (aj a9 (k2 (aj a11 (Af (f:=iv) a12)))) (ag a9 (aj (aj a9 t3) (aj (aj a8 (aj a9 t2)) (al (aj a8 t2)))))))))))))))))))))) <|
  .br (fun a13=>
   .lp [83,88,111] [] [] [] [] [] [0,1,2,7,8,9] (aj (aj a13 (aj (u2 s2) (al (u2 (u2 s2))))) t7))
  (fun a13=>
   .lp [83,88,110] [] [] [] [] [] [0,1,2,7,8,9] (aj (aj a13 (al (u2 (u2 s2)))) t7))))
 (fun a8=>
  .lp [82] [(38,iv x38)] [] [] [] [] [0,1,2,7,8,9] (aj (aj (u2 (u2 (aj (k2 (aj a6 (Af (f:=iv) a7))) (u2 (u2 (u2 (aj a8 (aj a8 (aj a8 (ak (k3 (k5 (aj a8 (al (aj a8 t2))))))))))))))) (ak (al (u2 (u2 s2))))) t7)))
 (fun a2=>
 .rn 0 [52] [] [] [] (aj a2 (al (u2 s2))) <|
 .br (fun a3=>
  .rt [117] [] [] [] [] [] (aj (aj a3 s2) t2))
 (fun a3=>
  .gu fun a4=>
  .gu fun a5=>
  .gu fun a6=>
  .gu fun a7=>
  .gu fun a8=>
  have c0:=fr_c g (sh) v0 q a4 a0 a5 a6 a7 a8;
  .rn 0 [116] [] [(63,hK c0 [] [])] [] (aj a3 (al (u2 (u2 (u2 (u2 (aj (k3 (k5 (al (c0)))) s2))))))) <|
  .gu fun a9=>
  .gu fun a10=>
  .gu fun a11=>
  .gu fun a12=>
  .gu fun a13=>
  .gu fun a14=>
  .rn 0 [] [] [] [] (al (u2 (u2 (u2 (u2 (u2 (u2 (aj (k2 (aj a9 (aj (Int.le_refl 0) (aj a10 (aj a11 (show iN (U4 iv (frL g sh v0 q)).length<=iN (U4 iv (frL g sh v0 q)).length by omega)))))) (aj (k2 (aj (show [iv q].length=1 by simp) (aj a12 (aj a13 a14)))) s2))))))))) <|
  .gu fun a15=>
  .rt [] [] [] [] [] [1] (ak (al a15))))) (by kernel_rfl)
  )
  (fun o ho=>Scr.ok (X:=La g sh q) ho mix (
 .rn 0 [] [] [] [] s2 <|
 .gu fun a0=>
 .el fun x14 a1=>
 .rn 0 [] [(14,bV x14)] [] [] (al (u2 (u2 (aj (k2 (aj a0 (Af (f:=bV) a1))) s2)))) <|
 .br (fun a2=>
 .rt [31] [] [] [] [] [] (aj (aj a2 s2) t2))
 (fun a2=>
 .gu fun a3=>
 .gu fun a4=>
 have c0:=ds_c g (sh) q a3 a0 a4;
 .lp [30] [] [(19,hK c0 [] [])] [] [] [] [0,1,2,7,8,9] (aj (aj a2 (aj (u2 (u2 (u2 (aj (ak (k5 (al (c0)))) s2)))) (u2 s2))) t7))) (by kernel_rfl)) h
abbrev OL:={o:Option (List Int) // ∀l,o=some l->l.length<=60}
def olR(o:OL):Ret:=([],match o.1 with | none=>.nils | some l=>lI l)
theorem Kp{σ:Type}{step:σ->Option (σ⊕Ret)}:∃o:OL,Ac step (some (.inr ([],.nils))) (olR o):=⟨⟨none,fun _ h=>by cases h⟩,.ret _⟩
theorem thr_ex{g:List (List Int)}{sh:List Bool}(hg:OkG g sh){v:Nat}(hv:v<g.length):∃o:OL,Ac (IR g sh v) (La g sh v) (olR o):=by
 have hl:=hg.len;have hsh:=hg.sh;have h1:(v:Int)<(g.length:Int):=by omega
 have hd:=ds_p hg (Int.natCast_nonneg v) h1;have hdl:=hd.len;have er:=Ax [] hv;have hrow:=(hg.row v hv).1;have e0:∀(m k:Nat) (b:Int),k+m=(g.getD v []).length->(b<0\/b<g.length/\0<=(dsL g sh v).getD b.toNat 0)->∃o:OL,Ac (IR g sh v) (some (.inl (.l0 b (k:Int)))) (olR o):=by
  intro m;induction m with
  | zero=>
   intro k b hk hb;refine Ay (show IR g sh v (.l0 b k)=HI g sh v b k from rfl) ?_;unfold HI;rw[Ab (by omega),Uo,Ak er,Ad (Uk (by simp only[iN,Ui];omega))];refine BK (fun _=>Kp) fun hb0=>?_
   have hb:b<g.length/\0<=(dsL g sh v).getD b.toNat 0:=hb.resolve_left hb0;have hf:=fr_p hg (Int.natCast_nonneg v) h1 (show 0<=b by omega) hb.1 hb.2;have one:∀e∈U4 (AV.int .i64) (frL g sh b v),e.cells.length=1:=fun e he=>by obtain⟨x,_,rfl⟩:=UI.1 he;rfl
   have hw:i64.wrap (iN (U4 (AV.int .i64) (frL g sh b v)).length-1)=((frL g sh b v).length:Int)-1:=by rw[Ui];exact CB (by simp only[iN];omega) (by simp only[iN];omega)
   rw[hw];refine Ah hg (Ah h1 (Ah (by omega) (Ah hb.1 (Ah hb.2 (Ah one (Ah (by omega) (Ah (by simp only[iN,Ui];omega) (Ah (fun e he=>one e (List.drop_subset _ _ (List.take_subset _ _ he))) ?_))))))));have hX:U7 ((((frL g sh b v).length:Int)-1).toNat-U9 0) (U6 (U9 0) (U4 (AV.int .i64) (frL g sh b v)))=U4 (AV.int .i64) ((frL g sh b v).take (((frL g sh b v).length:Int)-1).toNat):=by rw[show U9 0=0 from rfl,List.drop_zero,Nat.sub_zero,List.map_take]
   rw[hX];have hL:((frL g sh b v).take (((frL g sh b v).length:Int)-1).toNat).length<=50:=by rw[UF];omega
   generalize (frL g sh b v).take (((frL g sh b v).length:Int)-1).toNat=X at hL;refine Ah (by rw[Ui,UQ];omega) (Ah (by rw[Ui,UQ];omega) (Ah (show 1+(U4 (AV.int .i64) X).length=(U4 (AV.int .i64) X).length+1 by omega) ⟨⟨some (v::X),fun l h=>by cases h;simp only[UR];omega⟩,.ret _⟩))
  | succ m ih=>
   intro k b hk hb;obtain⟨w,hw1,hw2,_⟩:=Jq hg hv (i:=k) (by omega);have ew:=Ax 0 (show k<(g.getD v []).length by omega);rw[hw1] at ew;have edw:=Ax 0 (show w<(dsL g sh v).length by omega);refine Ay (show IR g sh v (.l0 b k)=HI g sh v b k from rfl) ?_;unfold HI;rw[Ab (by omega),Uo,Ak er,Ag (Ul (by simp only[iN,Ui];omega)),Ak er,Ab (by omega),Uo,Ak ew,Ab (by omega),Uo,Ak edw,zW k (by omega)];refine BK (fun h=>BK (fun _=>ih (k+1) _ (by omega) (.inr ⟨by omega,by rw[Uo];exact h⟩)) fun hb0=>?_) fun _=>ih (k+1) b (by omega) hb
   have hb1:=hb.resolve_left hb0;rw[Ak edw,Ab (by omega),Ak (Ax 0 (show b.toNat<(dsL g sh v).length by omega))];exact Am (fun _=>ih (k+1) _ (by omega) (.inr ⟨by omega,by rw[Uo];exact h⟩)) fun _=>ih (k+1) b (by omega) hb
 unfold La;refine Ah (by omega) ?_;rw[Uo,Ak (Ax false (show v<sh.length by omega))];exact Am (fun _=>Kp) fun _=>Ah hg (Ah h1 (e0 (g.getD v []).length 0 (-1) (Uu _) (.inl (by omega))))
theorem NB(g:List (List Int))(sh:List Bool)(q:Int):∃l:List Int,OkG g sh->0<=q->q<(g.length:Int)->l.length<=60/\CT Vb 146 [] [.lst (gL g),.lst (boL sh),.int .i64 q] [] (lI l):=by
 by_cases h:OkG g sh/\0<=q/\q<(g.length:Int)
 .obtain⟨a,b,c⟩:=h;obtain⟨⟨o,ho⟩,hd⟩:=thr_ex a (v:=q.toNat) (by omega);rw[UE b] at hd;cases o with
  | none=>exact⟨[],fun _ _ _=>⟨Ur _,(PS g sh q ([],.nils) hd).to rfl rfl⟩⟩
  | some l=>exact⟨l,fun _ _ _=>⟨ho l rfl,PS g sh q _ hd⟩⟩
 .exact⟨[],fun a b c=>absurd ⟨a,b,c⟩ h⟩
@[irreducible] def thL(g:List (List Int))(sh:List Bool)(q:Int):List Int:=Classical.choose (NB g sh q)
theorem th_p{g:List (List Int)}{sh:List Bool}{q:Int}(hg:OkG g sh)(h0:0<=q)(h1:q<(g.length:Int)):(thL g sh q).length<=60:=by unfold thL;exact(UP (NB g sh q) hg h0 h1).1
theorem th_c(g:List (List Int))(sh:List Bool)(q:Int)(hg:OkG g sh)(h0:0<=q)(h1:q<(g.length:Int)):CT Vb 146 [] [.lst (gL g),.lst (boL sh),.int .i64 q] [] (lI (thL g sh q)):=by unfold thL;exact(UP (NB g sh q) hg h0 h1).2
inductive H4 where | l0 (v0:Int) (v1:Av)
def ropSt(n:Aa)(sh:List Bool)(q:Int):H4->St | .l0 v0 v1=>St.mk 41 [(1,Va (boL sh)),(7,AV.ptr 0 0 0),(8,iv v0)] [some (bK [sA v1] 6)]
def M9(n:Aa)(sh:List Bool)(q:Int):Option (H4⊕Ret):=gu (0<=q) <|el (n.ss) (q.toNat) fun(x12:Av)=>gu (0<=x12.i) <|el (sh) (x12.i.toNat) fun(x17:Bool)=>br x17 (some (.inr ([],bV false))) (gu (0<=x12.o) <|el (sh) (x12.o.toNat) fun(x23:Bool)=>br x23 (some (.inr ([],bV false))) (some (.inl (.l0 (x12.b) x12))))
def Ie(n:Aa)(sh:List Bool)(q v0:Int)(v1:Av):Option (H4⊕Ret):=br (decide (v0<i64.wrap (v1.b+v1.k))) (gu (0<=v0) <|el (sh) (v0.toNat) fun(x39:Bool)=>br x39 (some (.inr ([],bV false))) (some (.inl (.l0 (i64.wrap (v0+1)) v1)))) (some (.inr ([],bV true)))
def Qd(n:Aa)(sh:List Bool)(q:Int):H4->Option (H4⊕Ret) | .l0 v0 v1=>Ie n sh q v0 v1
theorem rop_ct(n:Aa)(sh:List Bool)(q:Int)(r:Ret)(h:Ac (Qd n sh q) (M9 n sh q) r):CT Vb 109 ([]) ([Ai n,.lst (boL sh),.int .i64 q]) r.1 r.2:=
 CT.mach (fn:=Tryz.f109) (c:=zB Tryz.f109) (S:=(ropSt n sh q)) (hd:=H4.ctorIdx) Tryz.func109 (by kernel_rfl) (nL rfl)
  (fun s o ho=>match s,ho with
 | .l0 v0 v1,ho=>Scr.ok (X:=Ie n sh q v0 v1) ho mix (
 .rn 0 [] [] [] [] (al (u2 (u2 (u2 (u2 (u2 (aj t3 (al t3)))))))) <|
 .br (fun a0=>
 .gu fun a1=>
 .el fun x39 a2=>
 .rn 0 [69] [(39,bV x39)] [] [] (aj a0 (al (u2 (u2 (aj (k2 (aj a1 (Af (f:=bV) a2))) s2))))) <|
 .br (fun a3=>
  .rt [81] [] [] [] [] [] (aj (aj a3 s2) t2))
 (fun a3=>
  .lp [80] [] [] [] [] [0] [1,7,8] (aj (aj a3 (al (u2 (u2 s2)))) t5)))
 (fun a0=>
 .rt [68] [] [] [] [] [] (aj (aj a0 s2) t2))) (by kernel_rfl)
  )
  (fun o ho=>Scr.ok (X:=M9 n sh q) ho mix (
 .rn 0 [] [] [] [] (al (u2 t2)) <|
 .gu fun a0=>
 .el fun x12 a1=>
 .rn 0 [] [(12,sA x12)] [] [] (al (u2 (u2 (u2 (aj (k2 (aj a0 (Af (f:=sA) a1))) (u2 (ak (al (k2 n11))))))))) <|
 .gu fun a2=>
 .el fun x17 a3=>
 .br (fun a4=>
 .rt [39] [(17,bV x17)] [] [] [] [] (aj (aj (u2 (u2 (u2 (aj (k2 (aj a2 (Af (f:=bV) a3))) (u2 (u2 (aj a4 (aj a4 (aj a4 (aj a4 (aj a4 (al (aj a4 t2))))))))))))) (ak s2)) t2))
 (fun a4=>
 .gu fun a5=>
 .el fun x23 a6=>
 .rn 0 [38] [(17,bV x17),(23,bV x23)] [] [] (al (u2 (u2 (u2 (aj (k2 (aj a2 (Af (f:=bV) a3))) (u2 (u2 (ag a4 (ag a4 (ag a4 (aj (aj a4 (k2 (aj a5 (Af (f:=bV) a6)))) (ag a4 (al (aj a4 t2)))))))))))))) <|
 .br (fun a7=>
  .rt [38,51] [] [] [] [] [] (aj (aj a7 s2) t2))
 (fun a7=>
  .lp [38,50] [] [] [] [] [1] [1,7,8] (aj (aj a7 (al (u2 (u2 s2)))) t5)))) (by kernel_rfl)) h
inductive FL where | l0 (v0:Int) (v1:ByteArray)
def dgtSt(q:Int):FL->St | .l0 v0 v1=>St.mk 23 [(0,iv v0),(3,AV.str v1)] []
def N0(q:Int):Option (FL⊕Ret):=br (decide (q<0)) (none) (some (.inl (.l0 q (ByteArray.mk #[]))))
def K0(q v0:Int)(v1:ByteArray):Option (FL⊕Ret):=
 br ([AV.int IntKind.u8 (IntKind.u8.wrap (i64.wrap (48+v0.tmod 10)))].all fun x=>
 match x with
 | AV.int IntKind.u8 n=>decide (0<=n)&&decide (n<256)
 | x=>false)
 (gu (((Ds [AV.int IntKind.u8 (IntKind.u8.wrap (i64.wrap (48+v0.tmod 10)))]).size+v1.size).le 9223372036854775807) <|
  br (i64.wrap (v0.tdiv 10)==0)
  (some (.inr ([],AV.str (Ds (bK [AV.int IntKind.u8 (IntKind.u8.wrap (i64.wrap (48+v0.tmod 10)))] 1).es++v1))))
  (some (.inl (.l0 (i64.wrap (v0.tdiv 10)) (Ds (bK [AV.int IntKind.u8 (IntKind.u8.wrap (i64.wrap (48+v0.tmod 10)))] 1).es++v1)))))
 (none)
def Q2(q:Int):FL->Option (FL⊕Ret) | .l0 v0 v1=>K0 q v0 v1
theorem dgt_ct(q:Int)(r:Ret)(h:Ac (Q2 q) (N0 q) r):CT Vb 41 ([]) ([.int .i64 q]) r.1 r.2:=
 CT.mach (fn:=Tryz.f41) (c:=zB Tryz.f41) (S:=(dgtSt q)) (hd:=FL.ctorIdx) Tryz.func41 (by kernel_rfl) (nL rfl)
  (fun s o ho=>match s,ho with
 | .l0 v0 v1,ho=>Scr.ok (X:=K0 q v0 v1) ho mix (
 .br (fun a0=>
 .gu fun a1=>
 .rn 2 [] [] [] [] (aj (u2 (aj (ak (show(10:Int)=(0:Int)->False from(by first | decide | exact TV _))) (u2 (u2 (u2 (aj (ak (aj (show [AV.int IntKind.u8 (IntKind.u8.wrap (i64.wrap (48+v0.tmod 10)))].length=1 by simp) (aj (show nat_lit 1≠nat_lit 0 from(by first | decide | exact TV _)) a0))) (u2 (aj (k2 a1) s2)))))))) (aj (u2 (aj (ak (show(10:Int)=(0:Int)->False from(by first | decide | exact TV _))) s2)) (al (u2 s2)))) <|
 .br (fun a2=>
  .rt [43] [] [] [] [] [] (aj (aj a2 (al (u2 s2))) t2))
 (fun a2=>
  .lp [42] [] [] [] [] [] [0,3] (aj (al a2) t3)))
 (fun a0=>
 .no)) (by kernel_rfl)
  )
  (fun o ho=>Scr.ok (X:=N0 q) ho mix (
 .rn 1 [] [] [] [] (u2 (al (u2 s2))) <|
 .br (fun a0=>
 .no)
 (fun a0=>
 .lp [10] [] [] [] [] [] [0,3] (aj (aj a0 s2) t3))) (by kernel_rfl)) h
def Jj(sh:List Bool)(s:Av):Bool:= !(sh.getD s.i.toNat false)&&!(sh.getD s.o.toNat false)&&!(fnd (fun j=>sh.getD (s.b+(j:Int)).toNat false) 0 s.k.toNat).isSome
def opB(n:Aa)(sh:List Bool)(sp:Int):Bool:=match n.ss[sp.toNat]? with | some s=>Jj sh s | none=>false
theorem Jm(n:Aa)(sh:List Bool)(sp:Int)(hv:Aq n)(hsh:sh.length=Al n)(hi:0<=sp/\sp<n.ss.length):CT Vb 109 [] [Ai n,.lst (boL sh),.int .i64 sp] [] (.bool (opB n sh sp)):=by
 have hil:sp.toNat<n.ss.length:=by omega
 have hs:n.ss[sp.toNat]?=some n.ss[sp.toNat]:=Uf hil;refine rop_ct n sh sp ([],_) ?_;unfold M9 opB;simp only[hs];generalize n.ss[sp.toNat]=s at hs;have g:=hv.spu _ s hs;have g1:=Bj.1 g.hi;have g2:=Bj.1 g.ho;have g3:=Bj.1 g.hk;have hc:=hv.cel;have hbd:=hv.bd sp.toNat;have hm:=Kc hv (i:=sp.toNat+1) (j:=n.ss.length) (by omega) (Uq _);rw[CK hs,<-g.hb] at hm;rw[<-g.hb] at hbd;have hnb:=hv.nb24;rw[Ab hi.1,Ak hs,Ab (by omega),Ak (Ax false (show s.i.toNat<sh.length by omega))];unfold Jj;cases h1:sh.getD s.i.toNat false with
 | true=>rw[Ag rfl];exact .ret _
 | false=>
  rw[Ad rfl,Ab (by omega),Ak (Ax false (show s.o.toNat<sh.length by omega))];cases h2:sh.getD s.o.toNat false with
  | true=>rw[Ag rfl];exact .ret _
  | false=>
   rw[Ad rfl];have e0:∀(m k:Nat),k+m=s.k.toNat->Ac (Qd n sh sp) (some (.inl (.l0 (s.b+(k:Int)) s))) (([],.bool (!(fnd (fun j=>sh.getD (s.b+(j:Int)).toNat false) k m).isSome)):Ret):=by
    intro m;induction m with
    | zero=>intro k hk;refine .to (show Ie n sh sp (s.b+(k:Int)) s=_ from ?_) (.ret _);unfold Ie;rw[A3 _ (by omega) (by omega),Ad (Uk (by omega))];rfl
    | succ m ih=>
     intro k hk;refine .to (show Ie n sh sp (s.b+(k:Int)) s=_ from rfl) ?_;unfold Ie;rw[A3 (s.b+s.k) (by omega) (by omega),Ag (Ul (by omega)),Ab (by omega),Ak (Ax false (show(s.b+(k:Int)).toNat<sh.length by omega)),fnd];cases sh.getD (s.b+(k:Int)).toNat false with
     | true=>rw[Ag rfl];exact .ret _
     | false=>rw[Ad rfl,A3 _ (by omega) (by omega),show s.b+(k:Int)+1=s.b+((k+1:Nat):Int) by omega];exact ih (k+1) (by omega)
   have:=e0 s.k.toNat 0 (Uu _);rw[show s.b+((0:Nat):Int)=s.b by omega] at this;simpa using this
def AM(n:Nat):ByteArray:=if n<10 then ⟨#[UInt8.ofNat (48+n)]⟩ else ⟨#[UInt8.ofNat (48+n / 10),UInt8.ofNat (48+n % 10)]⟩
theorem dig_w(c:Nat)(h:c<100):IntKind.u8.wrap (i64.wrap (48+(c:Int).tmod 10))=((48+c % 10:Nat):Int):=by
 have:∀c:Nat,c<100->IntKind.u8.wrap (i64.wrap (48+(c:Int).tmod 10))=((48+c % 10:Nat):Int):=by decide +kernel
 exact this c h
theorem dig_q(c:Nat)(h:c<100):i64.wrap ((c:Int).tdiv 10)=((c / 10:Nat):Int):=by
 have:∀c:Nat,c<100->i64.wrap ((c:Int).tdiv 10)=((c / 10:Nat):Int):=by decide +kernel
 exact this c h
theorem dig1{n:Int}(c:Nat)(h:c<100)(u:ByteArray)(hu:u.size<=2):Q2 n (.l0 (c:Int) u)=(if c / 10=0 then some (.inr ([],.str (⟨#[UInt8.ofNat (48+c % 10)]⟩++u))) else some (.inl (.l0 ((c / 10:Nat):Int) (⟨#[UInt8.ofNat (48+c % 10)]⟩++u)))):=by
 have e:Ds [AV.int .u8 ((48+c % 10:Nat):Int)]=⟨#[UInt8.ofNat (48+c % 10)]⟩:=by unfold Ds;rfl
 show K0 n (c:Int) u=_;unfold K0;rw[dig_w c h,dig_q c h,Ag (by simp;omega),Ab (by rw[e];exact UU (show 1+u.size<=3 by omega) (by decide))];by_cases hq:c / 10=0
 .rw[Ud hq,Ag (by rw[hq];rfl)];exact congrArg (fun x=>some (Sum.inr ([],AV.str (x++u)))) e
 .rw[Ue hq,Ad (UN.2 (by omega))];exact congrArg (fun x=>some (Sum.inl (FL.l0 _ (x++u)))) e
theorem Jt(n:Nat)(h:n<100):CT Vb 41 [] [.int .i64 (iN n)] [] (.str (AM n)):=by
 refine dgt_ct (n:Int) ([],_) ?_;unfold N0 AM;rw[Ad (Uk (by omega))];refine .to (dig1 n h _ (Ur _)) ?_;by_cases h10:n<10
 .rw[Ud (by omega),Ud h10,T8 h10];exact .ret _
 .rw[Ue (by omega),Ue h10];refine .to (dig1 (n / 10) (by omega) _ (Nat.le_succ 1)) ?_;rw[Ud (by omega),T8 (show n / 10<10 by omega)];exact .ret _
def JT(i:Nat):ByteArray:=⟨#[98]⟩++AM i
def Jl(i:Nat):ByteArray:=⟨#[115]⟩++AM i
theorem nmBk_ok:∀i,i<24->nmB (JT i)=true:=by decide +kernel
theorem nmSp_ok:∀i,i<6->nmB (Jl i)=true:=by decide +kernel
theorem nmBk_inj:∀i,i<24->∀j,j<24->JT i=JT j->i=j:=by decide +kernel
theorem nmSp_inj:∀i,i<6->∀j,j<6->Jl i=Jl j->i=j:=by decide +kernel
theorem nm_dis:∀i,i<24->∀j,j<6->JT i≠Jl j:=by decide +kernel
inductive G3 where | l0 (v0:List Int) (v1:Int)
def girSt(g:List (List Int))(sh:List Bool):G3->St | .l0 v0 v1=>St.mk 46 [(0,Va (gL g)),(1,Va (boL sh)),(8,Va (U4 iv v0)),(9,iv v1)] []
def J1(g:List (List Int))(sh:List Bool):Option (G3⊕Ret):=gu (VG g) <|gu (sh.length=g.length) <|some (.inl (.l0 ([]) ((0:Int))))
def HP(g:List (List Int))(sh:List Bool)(v0:List Int)(v1:Int):Option (G3⊕Ret):=br (decide (v1<iN (gL g).length)) (gu (OkG g sh) <|gu (0<=v1) <|gu (v1<iN g.length) <|br (decide (0<iN (U4 iV (thL g sh v1)).length)) (br (iN (U4 iV v0).length==0) (some (.inl (.l0 (thL g sh v1) (i64.wrap (v1+1))))) (br (decide (iN (U4 iV (thL g sh v1)).length<iN (U4 iV v0).length)) (some (.inl (.l0 (thL g sh v1) (i64.wrap (v1+1))))) (some (.inl (.l0 v0 (i64.wrap (v1+1))))))) (some (.inl (.l0 v0 (i64.wrap (v1+1)))))) (some (.inr ([],AV.tup [iV (iN (U4 iV v0).length),Va (U4 iV v0),iV 0])))
def JK(g:List (List Int))(sh:List Bool):G3->Option (G3⊕Ret) | .l0 v0 v1=>HP g sh v0 v1
theorem gir_ct(g:List (List Int))(sh:List Bool)(r:Ret)(h:Ac (JK g sh) (J1 g sh) r):CT Vb 104 ([]) ([.lst (gL g),.lst (boL sh)]) r.1 r.2:=
 CT.mach (fn:=Tryz.f104) (c:=zB Tryz.f104) (S:=(girSt g sh)) (hd:=G3.ctorIdx) Tryz.func104 (by kernel_rfl) (nL rfl)
  (fun s o ho=>match s,ho with
 | .l0 v0 v1,ho=>Scr.ok (X:=HP g sh v0 v1) ho mix (
 .rn 0 [] [] [] [] (al (u2 (u2 (u2 (al t3))))) <|
 .br (fun a0=>
 .gu fun a1=>
 .gu fun a2=>
 .gu fun a3=>
 have c0:=th_c g (sh) v1 a1 a2 a3;
 .rn 0 [41] [] [(26,hK c0 [] [])] [] (aj a0 (al (u2 (u2 (u2 (aj (ak (k5 (al (c0)))) s2)))))) <|
 .br (fun a4=>
  .br (fun a5=>
  .lp [61,69] [] [] [] [] [] [0,1,8,9] (aj (aj (u2 (u2 (u2 (u2 (ag a4 (ag a4 (ag a4 (ag a4 (aj a5 (aj a5 (aj a5 (aj a5 (aj a5 (aj (aj a4 (aj a5 t2)) (al (aj a4 t2)))))))))))))))) (ak (aj (u2 s2) (al (u2 (u2 s2)))))) t5))
  (fun a5=>
  .rn 0 [61,68] [] [] [] (al (u2 (u2 (u2 (u2 (ag a4 (ag a4 (ag a4 (ag a4 (ag a5 (ag a5 (ag a5 (ag a5 (aj (aj a5 t3) (aj (aj a4 (aj a5 t2)) (al (aj a4 t2))))))))))))))))) <|
  .br (fun a6=>
   .lp [61,68,83] [] [] [] [] [] [0,1,8,9] (aj (aj a6 (aj (u2 s2) (al (u2 (u2 s2))))) t5))
  (fun a6=>
   .lp [61,68,82] [] [] [] [] [] [0,1,8,9] (aj (aj a6 (al (u2 (u2 s2)))) t5))))
 (fun a4=>
  .lp [60] [] [] [] [] [] [0,1,8,9] (aj (aj (u2 (u2 (u2 (u2 (aj a4 (aj a4 (aj a4 (aj a4 (k5 (aj a4 (al (aj a4 t2)))))))))))) (ak (al (u2 (u2 s2))))) t5)))
 (fun a0=>
 .rt [40] [] [] [] [] [] (aj (aj a0 (al (u2 (u2 (u2 (u2 (u2 t2))))))) (al t4)))) (by kernel_rfl)
  )
  (fun o ho=>Scr.ok (X:=J1 g sh) ho mix (
 .rn 0 [] [] [] [] (al t4) <|
 .gu fun a0=>
 .gu fun a1=>
 have c0:=chq_v a0 a1;
 .lp [] [] [(13,hK c0 [] [])] [] [(8,1000)] [] [0,1,8,9] (aj (aj (u2 (u2 (aj (ak (k3 (al (c0)))) s2))) (aj (u2 s2) (ak (u2 s2)))) t5)) (by kernel_rfl)) h
inductive Eh where | l0 (v0 v1:Int)
def rslSt(n:Aa)(sh:List Bool):Eh->St | .l0 v0 v1=>St.mk 35 [(1,Va (boL sh)),(2,AV.ptr 0 0 0),(5,iv v0),(6,iv v1)] [some (bK [Ai n] 8)]
def LQ(n:Aa)(sh:List Bool):Option (Eh⊕Ret):=some (.inl (.l0 ((0:Int)) ((0:Int))))
def GN(n:Aa)(sh:List Bool)(v0 v1:Int):Option (Eh⊕Ret):=br (decide (v1<iN (U4 sA n.ss).length)) (gu (0<=v1) <|el (n.ss) (v1.toNat) fun(x17:Av)=>br (x17.dep) (gu (Aq n) <|gu (sh.length=Al n) <|gu (0<=v1/\v1<iN n.ss.length) <|br (opB n sh v1) (el (n.ss) (v1.toNat) fun(x30:Av)=>some (.inl (.l0 (i64.wrap (v0+x30.k)) (i64.wrap (v1+1))))) (some (.inl (.l0 v0 (i64.wrap (v1+1)))))) (some (.inl (.l0 v0 (i64.wrap (v1+1)))))) (some (.inr ([],iV v0)))
def rslStep(n:Aa)(sh:List Bool):Eh->Option (Eh⊕Ret) | .l0 v0 v1=>GN n sh v0 v1
theorem rsl_ct(n:Aa)(sh:List Bool)(r:Ret)(h:Ac (rslStep n sh) (LQ n sh) r):CT Vb 105 ([]) ([Ai n,.lst (boL sh)]) r.1 r.2:=
 CT.mach (fn:=Tryz.f105) (c:=zB Tryz.f105) (S:=(rslSt n sh)) (hd:=Eh.ctorIdx) Tryz.func105 (by kernel_rfl) (nL rfl)
  (fun s o ho=>match s,ho with
 | .l0 v0 v1,ho=>Scr.ok (X:=GN n sh v0 v1) ho mix (
 .rn 0 [] [] [] [] (al (u2 (u2 (u2 (u2 (al t3)))))) <|
 .br (fun a0=>
 .gu fun a1=>
 .el fun x17 a2=>
 .br (fun a3=>
  .gu fun a4=>
  .gu fun a5=>
  .gu fun a6=>
  have c0:=Jm n (sh) v1 a4 a5 a6;
  .rn 0 [23,41] [(17,sA x17)] [(24,hK c0 [] [])] [] (aj a0 (al (u2 (u2 (u2 (aj (k2 (aj a1 (Af (f:=sA) a2))) (u2 (u2 (u2 (ag a3 (ag a3 (ag a3 (aj (aj a3 (k3 (aj t9 (k2 (al (c0)))))) (al (aj a3 t2))))))))))))))) <|
  .br (fun a7=>
  .el fun x30 a8=>
  .lp [41,51] [(30,sA x30)] [] [] [] [0] [1,2,5,6] (aj (aj a7 (aj (u2 (u2 (u2 (u2 (aj (k2 (aj a1 (Af (f:=sA) a8))) (u2 (u2 (aj t3 s2)))))))) (al (u2 (u2 s2))))) t6))
  (fun a7=>
  .lp [41,50] [] [] [] [] [0] [1,2,5,6] (aj (aj a7 (al (u2 (u2 s2)))) t6)))
 (fun a3=>
  .lp [23,40] [(17,sA x17)] [] [] [] [0] [1,2,5,6] (aj (aj a0 (aj (u2 (u2 (u2 (aj (k2 (aj a1 (Af (f:=sA) a2))) (u2 (u2 (u2 (aj a3 (aj a3 (aj a3 (aj a3 (al (aj a3 t2))))))))))))) (ak (al (u2 (u2 s2)))))) t6)))
 (fun a0=>
 .rt [22] [] [] [] [] [] (aj (aj a0 (al (u2 s2))) t2))) (by kernel_rfl)
  )
  (fun o ho=>Scr.ok (X:=LQ n sh) ho mix (
 .lp [] [] [] [] [] [0] [1,2,5,6] (aj (ag t2 (u2 s2)) t6)) (by kernel_rfl)) h
theorem gir_ex{g:List (List Int)}(hg:VG g){sh:List Bool}(hs:sh.length=g.length):∃p:{l:List Int // l.length<=60},Ac (JK g sh) (J1 g sh) (([],.tup [.int .i64 (iN p.1.length),lI p.1,.int .i64 0]):Ret):=by
 have hl:=hg.len;have hgl:=BZ g;have e0:∀(m i:Nat) (l:List Int),i+m=g.length->l.length<=60->∃p:{l:List Int // l.length<=60},Ac (JK g sh) (some (.inl (.l0 l (i:Int)))) (([],.tup [.int .i64 (iN p.1.length),lI p.1,.int .i64 0]):Ret):=by
  intro m;induction m with
  | zero=>intro i l hi hll;refine Ay (show JK g sh (.l0 l i)=HP g sh l i from rfl) ?_;unfold HP;rw[Ad (Uk (by simp only[iN];omega)),Ui];exact⟨⟨l,hll⟩,.ret _⟩
  | succ m ih=>intro i l hi hll;refine Ay (show JK g sh (.l0 l i)=HP g sh l i from rfl) ?_;have ht:=th_p (hg.ok hs) (Int.natCast_nonneg i) (by omega);unfold HP;rw[Ag (Ul (by simp only[iN];omega)),Ab (hg.ok hs),Ab (by omega),Ab (by simp only[iN];omega),zW i (by omega)];exact Am (fun _=>Am (fun _=>ih (i+1) _ (by omega) ht) fun _=>Am (fun _=>ih (i+1) _ (by omega) ht) fun _=>ih (i+1) _ (by omega) hll) fun _=>ih (i+1) _ (by omega) hll
 unfold J1;exact Ah hg (Ah hs (e0 g.length 0 [] (Uu _) (Ur _)))
theorem QV(g:List (List Int))(sh:List Bool):∃l:List Int,VG g->sh.length=g.length->l.length<=60/\CT Vb 104 [] [.lst (gL g),.lst (boL sh)] [] (.tup [.int .i64 (iN l.length),lI l,.int .i64 0]):=by
 by_cases h:VG g/\sh.length=g.length
 .obtain⟨l,hd⟩:=gir_ex h.1 h.2;exact⟨l.1,fun _ _=>⟨l.2,gir_ct g sh _ hd⟩⟩
 .exact⟨[],fun a b=>absurd ⟨a,b⟩ h⟩
@[irreducible] def giL(g:List (List Int))(sh:List Bool):List Int:=Classical.choose (QV g sh)
theorem CT.any1{f:FuncId}{hin hout:List (Option Blk)}{args L:List AV}{a c:AV}(h:CT Vb f hin args hout (.tup [a,.lst L,c])):CT Vb f hin args hout (.tup [a,.any,c]):=h.less fun φ A w v hv=>by
 cases hv with
 | imm _ _ h=>cases h
 | tup cs vs hl hh=>
  refine .tup _ vs (by simpa using hl) fun i c u hc hu=>?_
  match i,hc with
  | 0,hc=>exact hh 0 c u hc hu
  | 1,hc=>simp at hc;subst hc;exact(show B0 (.lst L) .any from .any rfl).2 _ _ _ _ (hh 1 _ u rfl hu)
  | 2,hc=>exact hh 2 c u hc hu
  | i+3,hc=>simp at hc
theorem gi_c{g:List (List Int)}(h:VG g){sh:List Bool}(hs:sh.length=g.length):CT Vb 104 [] [.lst (gL g),.lst (boL sh)] [] (.tup [.int .i64 (iN (giL g sh).length),.any,.int .i64 0]):=by unfold giL;exact CT.any1 (UP (QV g sh) h hs).2
def slT(n:Aa)(sh:List Bool)(i:Nat):Int:=if (n.ss.getD i s0).dep=true/\opB n sh (i:Int)=true then (n.ss.getD i s0).k else 0
def slI(n:Aa)(sh:List Bool):Nat->Int | 0=>0 | i+1=>slI n sh i+slT n sh i
def slS(n:Aa)(sh:List Bool):Int:=slI n sh n.ss.length
theorem N8{n:Aa}(hv:Aq n)(sh:List Bool){i:Nat}(hi:i<n.ss.length):0<=slT n sh i/\slT n sh i<=1000:=by have hk:=Bj.1 (hv.spu i _ (Ax s0 hi)).hk;unfold slT;split<;>omega
theorem RG{n:Aa}(hv:Aq n)(sh:List Bool):∀i,i<=n.ss.length->0<=slI n sh i/\slI n sh i<=1000 * i:=by
 intro i;induction i with
 | zero=>intro _;exact⟨Int.le_refl _,Int.le_refl _⟩
 | succ i ih=>intro hi;have h1:=ih (by omega);have h2:=N8 hv sh (i:=i) (by omega);show 0<=slI n sh i+slT n sh i/\slI n sh i+slT n sh i<=_;omega
theorem rsl_c{n:Aa}(hv:Aq n){sh:List Bool}(hl:sh.length=Al n):CT Vb 105 [] [Ai n,.lst (boL sh)] [] (.int .i64 (slS n sh)):=by
 refine rsl_ct n sh ([],_) ?_;have hn:(U4 sA n.ss).length=n.ss.length:=Ui _;have hss:n.ss.length<=100000:=by have:=hv.ns;omega
 unfold LQ;refine Bm (fun j=>Eh.l0 (slI n sh j) (j:Int)) n.ss.length (fun j hj hr=>.to ?_ hr) (.to ?_ (.ret _))
 .show GN n sh (slI n sh j) j=_;have hs:=Ax s0 hj;have hb:=RG hv sh j (by omega);have ht:=N8 hv sh hj;unfold GN;rw[Ag (Ul (by rw[hn];simp only[iN];omega)),Ab (by omega),Uo,Ak hs,zW j (by omega)];show _=some (Sum.inl (Eh.l0 (slI n sh j+slT n sh j) ((j+1:Nat):Int)));unfold slT at ht ⊢
  cases hd:(n.ss.getD j s0).dep with
  | false=>rw[Ad rfl,Ue (fun h=>by cases h.1),Int.add_zero]
  | true=>
   rw[Ag rfl,Ab hv,Ab hl,Ab ⟨by omega,by simp only[iN];omega⟩];cases ho:opB n sh (j:Int) with
   | false=>rw[Ad rfl,Ue (fun h=>by cases h.2),Int.add_zero]
   | true=>rw[hd,ho,Ud ⟨rfl,rfl⟩] at ht;rw[Ag rfl,Ak hs,Ud ⟨rfl,rfl⟩,CB (by omega) (by omega)]
 .show GN n sh (slI n sh n.ss.length) n.ss.length=_;unfold GN;rw[Ad (Uk (by rw[hn];simp only[iN];omega))];rfl
def bsB(bs:List AC):Blk:={es:=bs.map bA,z:=3}
def gB(g:List (List Int)):Blk:={es:=gL g,z:=1}
def nJ(bs:List AC)(g:List (List Int)):Blk:={es:=[.agg [.sl 2 0 bs.length,.sl 3 0 g.length,.nils,.nils,.int .i64 0,.int .i64 0,.int .i64 0,.int .i64 0]],z:=8,flat:=false}
def KD(n:Aa):Option (Empty⊕Ret):=gu (Rows n.nx) <|gu (Aq n) <|gu (1 * iN (U4 bA n.bs).length<=281474976710656) <|gu (iN (U4 bA n.bs).length<=9223372036854775807) <|gu (VG n.nx) <|gu ((U5 (U4 bA n.bs).length false).length=n.nx.length) <|gu (1 * iN (Al n)<=281474976710656) <|gu (iN (Al n)<=9223372036854775807) <|br (decide (0<iN (giL n.nx (U5 (U4 bA n.bs).length false)).length)) (some (.inr ([],AV.tup [AV.agg [iV (iN (giL n.nx (U5 (U4 bA n.bs).length false)).length),AV.any,iV (slS n (U5 (iN (Al n)).toNat false)),iV (if slS n (U5 (iN (Al n)).toNat false)<i64.wrap (iN (giL n.nx (U5 (U4 bA n.bs).length false)).length-1) then slS n (U5 (iN (Al n)).toNat false) else i64.wrap (iN (giL n.nx (U5 (U4 bA n.bs).length false)).length-1))],iV 0]))) (some (.inr ([],AV.tup [AV.agg [iV (iN (giL n.nx (U5 (U4 bA n.bs).length false)).length),AV.any,iV (slS n (U5 (iN (Al n)).toNat false)),iV (slS n (U5 (iN (Al n)).toNat false))],iV 0])))
theorem flt_ct(n:Aa)(r:Ret)(h:Ac emT (KD n) r):CT Vb 52 ([]) ([Ai n]) r.1 r.2:=
 CT.mach (fn:=Tryz.f52) (c:=zB Tryz.f52) (S:=emS) (hd:=emH) Tryz.func52 (by kernel_rfl) (nL rfl)
  (fun s o ho=>match s,ho with
   | x,_=>x.elim)
  (fun o ho=>Scr.ok (X:=KD n) ho mix (
 .rn 0 [] [] [] [] (al (u2 t3)) <|
 .gu fun a0=>
 .gu fun a1=>
 have c0:=Q7 a0 a1;
 .rn 0 [] [] [(9,hK c0 [] [])] [] (al (u2 (aj (ak (aj t9 (al (c0)))) s2))) <|
 .gu fun a2=>
 .gu fun a3=>
 .gu fun a4=>
 .gu fun a5=>
 have c1:=gi_c a4 a5;
 .rn 0 [] [] [(19,hK c1 [] [2])] [] (ak (al (u2 (u2 (u2 (u2 (u2 (aj (k2 (aj (show 0<=iN (U4 bA n.bs).length from(Int.natCast_nonneg _)) (aj (show iN (U4 bA n.bs).length<=iN (U4 bA n.bs).length by omega) (aj a2 a3)))) (aj (k3 (aj (show(U4 bA n.bs).length=(U5 (U4 bA n.bs).length (bV false)).length by simp) (aj (show CT Vb 104 [] [Va (gL n.nx),Va (U5 (U4 bA n.bs).length (bV false))] [] (AV.tup [iv (iN (giL n.nx (U5 (U4 bA n.bs).length false)).length),AV.any,iv 0]) from CT.eqs (c1) (by first | (simp only[boL,Us,U0,List.map_take,List.map_drop,List.map_replicate,List.nil_append]<;>rfl) | (simp[gL,boL,lI,sA,bA]<;>rfl)) (by first | (simp only[boL,Us,U0,List.map_take,List.map_drop,List.map_replicate,List.nil_append]<;>rfl) | (simp[gL,boL,lI,sA,bA]<;>rfl))) (show ∀(blk:Blk),blk∈[]->A5 blk from(by intro _ h;cases h))))) (u2 (u2 (u2 (u2 (u2 (u2 s2))))))))))))))) <|
 .gu fun a6=>
 .gu fun a7=>
 have c2:=FP a1;
 have c3:=rsl_c a1 (show(U5 (iN (Al n)).toNat false).length=Al n by simp);
 .rn 2 [] [] [(27,hK c2 [] []),(29,hK c3 [] [3])] [] (aj (u2 (u2 (u2 (u2 (aj (ak (aj t9 (al (c2)))) (aj (k2 (aj (show 0<=iN (Al n) by simp) (aj (show iN (Al n)<=iN (Al n) by omega) (aj a6 a7)))) (aj (k2 (aj t9 (aj (show(iN (Al n)).toNat=(U5 (iN (Al n)).toNat (bV false)).length by simp) (aj (show CT Vb 105 [] [AV.agg [Va (U4 bA n.bs),Va (gL n.nx),Va (U4 sA n.ss),Va (U4 iv n.rs),iv n.q,iv n.a,iv n.d,iv n.p],Va (U5 (iN (Al n)).toNat (bV false))] [] (iv (slS n (U5 (iN (Al n)).toNat false))) from CT.eqs (c3) (by first | (simp only[boL,Us,U0,List.map_take,List.map_drop,List.map_replicate,List.nil_append]<;>rfl) | (simp[gL,boL,lI,sA,bA]<;>rfl)) (by first | (simp only[boL,Us,U0,List.map_take,List.map_drop,List.map_replicate,List.nil_append]<;>rfl) | (simp[gL,boL,lI,sA,bA]<;>rfl))) (show ∀(blk:Blk),blk∈[]->A5 blk from(by intro _ h;cases h)))))) (aj t4 (ak (al (k2 n11))))))))))) (aj (u2 (u2 (u2 (al t3)))) (al (u2 s2)))) <|
 .br (fun a8=>
 .rt [71] [] [] [] [] [] (aj (aj a8 (aj (u2 (u2 (u2 (u2 (aj t3 (u2 (al t3))))))) (al (u2 (aj (k2 n11) t2))))) (al (aj t5 t2))))
 (fun a8=>
 .rt [70] [] [] [] [] [] (aj (aj a8 (al (u2 (aj (k2 n11) t2)))) (al (aj t5 t2))))) (by kernel_rfl)) h
inductive H7 where | l0 (v0:List Int) (v1:Bool) (v2:Int)
def Fp(l:List Int)(x:Int):H7->St | .l0 v0 v1 v2=>St.mk 42 [(0,Va (U4 iv l)),(1,iv x),(5,AV.sl 0 0 v0.length),(6,bV v1),(7,iv v2)] [some (bK (U4 iv v0) 1)]
def Mx(l:List Int)(x:Int):Option (H7⊕Ret):=some (.inl (.l0 ([]) (false) ((0:Int))))
def G4(l:List Int)(x:Int)(v0:List Int)(v1:Bool)(v2:Int):Option (H7⊕Ret):=br (decide (v2<iN (U4 iV l).length)) (br (!v1) (gu (0<=v2) <|el l (v2.toNat) fun(x19:Int)=>br (decide (x<x19)) (gu ((U4 iV v0).length+[iV x].length<=9223372036854775807) <|gu (((U4 iV v0).length+[iV x].length) * 8<=140737488355328) <|el l (v2.toNat) fun(x31:Int)=>gu ((U4 iV v0++[iV x]).length+[iV x31].length<=9223372036854775807) <|gu (((U4 iV v0++[iV x]).length+[iV x31].length) * 8<=140737488355328) <|some (.inl (.l0 (v0++[x]++[x31]) (true) (i64.wrap (v2+1))))) (el l (v2.toNat) fun(x31:Int)=>gu ((U4 iV v0).length+[iV x31].length<=9223372036854775807) <|gu (((U4 iV v0).length+[iV x31].length) * 8<=140737488355328) <|some (.inl (.l0 (v0++[x31]) v1 (i64.wrap (v2+1)))))) (gu (0<=v2) <|el l (v2.toNat) fun(x31:Int)=>gu ((U4 iV v0).length+[iV x31].length<=9223372036854775807) <|gu (((U4 iV v0).length+[iV x31].length) * 8<=140737488355328) <|some (.inl (.l0 (v0++[x31]) v1 (i64.wrap (v2+1)))))) (br (!v1) (gu ((U4 iV v0).length+[iV x].length<=9223372036854775807) <|gu (((U4 iV v0).length+[iV x].length) * 8<=140737488355328) <|some (.inr ([],Va (U4 iV v0++[iV x])))) (some (.inr ([],Va (U4 iV v0)))))
def QK(l:List Int)(x:Int):H7->Option (H7⊕Ret) | .l0 v0 v1 v2=>G4 l x v0 v1 v2
theorem ins_ct(l:List Int)(x:Int)(r:Ret)(h:Ac (QK l x) (Mx l x) r):CT Vb 102 ([]) ([lI l,.int .i64 x]) r.1 r.2:=
 CT.mach (fn:=Tryz.f102) (c:=zB Tryz.f102) (S:=(Fp l x)) (hd:=H7.ctorIdx) Tryz.func102 (by kernel_rfl) (nL rfl)
  (fun s o ho=>match s,ho with
 | .l0 v0 v1 v2,ho=>Scr.ok (X:=G4 l x v0 v1 v2) ho mix (
 .rn 0 [] [] [] [] (al (u2 (u2 (u2 (al t3))))) <|
 .br (fun a0=>
 .br (fun a1=>
  .gu fun a2=>
  .el fun x19 a3=>
  .rn 0 [23,33] [(19,iv x19)] [] [] (aj a0 (al (u2 (u2 (u2 (ag a1 (ag a1 (aj (aj a1 (k2 (aj a2 (Af (f:=iv) a3)))) (ag a1 (ag a1 (aj (aj a1 t3) (al (aj a1 t2))))))))))))) <|
  .br (fun a4=>
  .gu fun a5=>
  .gu fun a6=>
  .rn 0 [33,47] [] [] [] (aj a4 (al (u2 (u2 (u2 (aj (k2 (aj (show(U4 iv v0).length=v0.length by simp) (aj (aj (show nat_lit 1=nat_lit 1 from rfl) (show 1<=[iv x].length by simp)) (aj a5 a6)))) (u2 t2))))))) <|
  .el fun x31 a7=>
  .gu fun a8=>
  .gu fun a9=>
  .lq [33] [(31,iv x31)] [] [] [] [4] [0,1,5,6,7] (up [(5,AV.sl 0 0 ((U4 iv v0++[iv x]).length+[iv x31].length))] [(0,U4 iv v0++[iv x]++[iv x31])] (Fp l x (.l0 (v0++[x]++[x31]) (true) (i64.wrap (v2+1))))) (aj (aj (u2 (u2 (u2 (aj (k2 (aj a2 (Af (f:=iv) a7))) (u2 (u2 (aj (k2 (aj (show(U4 iv v0++[iv x]).length=(U4 iv v0).length+[iv x].length by simp) (aj (aj (show nat_lit 1=nat_lit 1 from rfl) (show 1<=[iv x31].length by simp)) (aj a8 a9)))) s2))))))) (al (u2 (u2 s2)))) t7) (by simp[up,upF,upV,upH,upB,Fp,gL,boL,lI]))
  (fun a4=>
  .el fun x31 a5=>
  .gu fun a6=>
  .gu fun a7=>
  .lq [33,46] [(31,iv x31)] [] [] [] [2] [0,1,5,6,7] (up [(5,AV.sl 0 0 ((U4 iv v0).length+[iv x31].length))] [(0,U4 iv v0++[iv x31])] (Fp l x (.l0 (v0++[x31]) v1 (i64.wrap (v2+1))))) (aj (aj a4 (aj (u2 (u2 (u2 (aj (k2 (aj a2 (Af (f:=iv) a5))) (u2 (u2 (aj (k2 (aj (show(U4 iv v0).length=v0.length by simp) (aj (aj (show nat_lit 1=nat_lit 1 from rfl) (show 1<=[iv x31].length by simp)) (aj a6 a7)))) s2))))))) (al (u2 (u2 s2))))) t7) (by simp[up,upF,upV,upH,upB,Fp,gL,boL,lI])))
 (fun a1=>
  .rn 0 [23,32] [] [] [] (aj a0 (al (u2 (u2 (u2 (aj a1 (aj a1 (aj a1 (aj a1 (aj a1 (aj a1 (al (aj a1 t2))))))))))))) <|
  .gu fun a2=>
  .el fun x31 a3=>
  .gu fun a4=>
  .gu fun a5=>
  .lq [32] [(31,iv x31)] [] [] [] [2] [0,1,5,6,7] (up [(5,AV.sl 0 0 ((U4 iv v0).length+[iv x31].length))] [(0,U4 iv v0++[iv x31])] (Fp l x (.l0 (v0++[x31]) v1 (i64.wrap (v2+1))))) (aj (ak (aj (u2 (u2 (u2 (aj (k2 (aj a2 (Af (f:=iv) a3))) (u2 (u2 (aj (k2 (aj (show(U4 iv v0).length=v0.length by simp) (aj (aj (show nat_lit 1=nat_lit 1 from rfl) (show 1<=[iv x31].length by simp)) (aj a4 a5)))) s2))))))) (al (u2 (u2 s2))))) t7) (by simp[up,upF,upV,upH,upB,Fp,gL,boL,lI])))
 (fun a0=>
 .rn 0 [22] [] [] [] (aj a0 (al (u2 s2))) <|
 .br (fun a1=>
  .gu fun a2=>
  .gu fun a3=>
  .rt [73] [] [] [] [] [2] (aj (aj a1 (aj (u2 (u2 (u2 (aj (k2 (aj (show(U4 iv v0).length=v0.length by simp) (aj (aj (show nat_lit 1=nat_lit 1 from rfl) (show 1<=[iv x].length by simp)) (aj a2 a3)))) s2)))) (al (u2 s2)))) (al (show(U4 iv v0).length+[iv x].length=(U4 iv v0++[iv x]).length by simp))))
 (fun a1=>
  .rt [72] [] [] [] [] [0] (aj (aj a1 (al (u2 s2))) (al (show v0.length=(U4 iv v0).length by simp)))))) (by kernel_rfl)
  )
  (fun o ho=>Scr.ok (X:=Mx l x) ho mix (
 .lp [] [] [] [] [(5,1)] [0] [0,1,5,6,7] (aj (u2 (u2 (u2 s2))) t7)) (by kernel_rfl)) h
def flN(bs:List AC)(g:List (List Int))(ss:List Av)(q a d p:Int):Aa:=⟨bs,g,ss,[],q,a,d,p⟩
theorem Aq.vg{n:Aa}(hv:Aq n):VG n.nx:=by have h1:=hv.nb24;have h2:=hv.nx;refine⟨by omega,fun v hlt=>?_⟩;rw[h2];exact(hv.blk v _ (Uf (show v<n.bs.length by omega))).nx
theorem H2(n:Aa):∃t:Int×Int×Int,Aq n->Rows n.nx->t.2.2<=slS n (U5 (Al n) false)/\CT Vb 52 [] [Ai n] [] (.tup [.agg [.int .i64 t.1,.any,.int .i64 t.2.1,.int .i64 t.2.2],.int .i64 0]):=by
 by_cases hh:Aq n/\Rows n.nx
 .obtain⟨hv,hr⟩:=hh;have h1:=hv.nb24;have hc:=hv.cel;have hs:(U5 (U4 bA n.bs).length false).length=n.nx.length:=by rw[Uz,Ui,hv.nx]
  have key:∃t:{t:Int×Int×Int // t.2.2<=slS n (U5 (Al n) false)},Ac emT (KD n) (([],.tup [.agg [.int .i64 t.1.1,.any,.int .i64 t.1.2.1,.int .i64 t.1.2.2],.int .i64 0]):Ret):=by
   unfold KD;rw[show (iN (Al n)).toNat=Al n from rfl];refine Ah hr (Ah hv (Ah (by simp only[iN,Ui];omega) (Ah (by simp only[iN,Ui];omega) (Ah hv.vg (Ah hs (Ah (by simp only[iN];omega) (Ah (by simp only[iN];omega) (Am (fun _=>?_) fun _=>⟨⟨(_,_,_),Int.le_refl _⟩,.ret _⟩))))))));have mn:∀a b:Int,(if a<b then a else b)<=a:=fun a b=>by split<;>omega
   exact⟨⟨(_,_,_),mn _ _⟩,.ret _⟩
  obtain⟨t,ht⟩:=key;exact⟨t.1,fun _ _=>⟨t.2,flt_ct n _ ht⟩⟩
 .exact⟨(0,0,0),fun a b=>absurd ⟨a,b⟩ hh⟩
@[irreducible] def flE(n:Aa):Int:=(Classical.choose (H2 n)).1
@[irreducible] def flS(n:Aa):Int:=(Classical.choose (H2 n)).2.1
@[irreducible] def flC(n:Aa):Int:=(Classical.choose (H2 n)).2.2
theorem fl_p{n:Aa}(hv:Aq n)(hr:Rows n.nx):flC n<=slS n (U5 (Al n) false):=by unfold flC;exact(UP (H2 n) hv hr).1
theorem fl_c(bs:List AC)(g:List (List Int))(ss:List Av)(q a d p:Int)(hv:Aq (flN bs g ss q a d p))(hr:Rows g):CT Vb 52 [] [.agg [.lst (bs.map bA),.lst (gL g),.lst (ss.map sA),.nils,.int .i64 q,.int .i64 a,.int .i64 d,.int .i64 p]] [] (.tup [.agg [.int .i64 (flE (flN bs g ss q a d p)),.any,.int .i64 (flS (flN bs g ss q a d p)),.int .i64 (flC (flN bs g ss q a d p))],.int .i64 0]):=by
 have h:=(UP (H2 (flN bs g ss q a d p)) hv hr).2;unfold flE flS flC;refine CT.lessArgs h rfl fun i a' ha=>?_
 match i,ha with
 | 0,ha=>
  simp at ha;subst ha;refine⟨_,rfl,B0.agg rfl fun j c' hj=>?_⟩;match j,hj with
  | 0,hj=>simp at hj;subst hj;exact⟨_,rfl,.refl _⟩
  | 1,hj=>simp at hj;subst hj;exact⟨_,rfl,.refl _⟩
  | 2,hj=>simp at hj;subst hj;exact⟨_,rfl,.refl _⟩
  | 3,hj=>simp at hj;subst hj;exact⟨.nils,rfl,.nilL⟩
  | 4,hj=>simp at hj;subst hj;exact⟨_,rfl,.refl _⟩
  | 5,hj=>simp at hj;subst hj;exact⟨_,rfl,.refl _⟩
  | 6,hj=>simp at hj;subst hj;exact⟨_,rfl,.refl _⟩
  | 7,hj=>simp at hj;subst hj;exact⟨_,rfl,.refl _⟩
  | j+8,hj=>simp at hj
 | i+1,ha=>simp at ha
def Bp(x:Int):List Int->List Int | []=>[x] | y::t=>if x<y then x::y::t else y::Bp x t
theorem QB(x:Int):∀l,(Bp x l).length=l.length+1 | []=>rfl | y::t=>by unfold Bp;split<;>simp[QB x t]
theorem O4(x:Int){w:Int}:∀{l},w∈Bp x l->w=x\/w∈l
 | [],h=>.inl (by simpa [Bp] using h)
 | y::t,h=>by
  unfold Bp at h;split at h
  .simpa using h
  .rcases UG.1 h with h | h
   .exact .inr (by simp[h])
   .exact(O4 x h).imp id fun h=>Uw _ h
theorem PH(x:Int):∀{l},l.Pairwise (· < ·)->x∉l->(Bp x l).Pairwise (· < ·)
 | [],_,_=>by simp[Bp]
 | y::t,h,hx=>by
  have h1:=List.pairwise_cons.1 h;unfold Bp;split
  .rename_i hlt;exact List.pairwise_cons.2 ⟨fun z hz=>(UG.1 hz).elim (fun e=>e ▸ hlt) fun e=>Int.lt_trans hlt (h1.1 z e),h⟩
  .refine List.pairwise_cons.2 ⟨fun z hz=>?_,PH x h1.2 fun hm=>hx (Uw _ hm)⟩;rcases O4 x hz with e | e
   .subst e;have:z≠y:=fun e=>hx (by simp[e])
    omega
   .exact h1.1 z e
theorem ins_c(l:List Int)(x:Int)(hl:l.length<=1000):CT Vb 102 [] [lI l,.int .i64 x] [] (lI (Bp x l)):=by
 refine ins_ct l x ([],_) ?_;have key:∀(m i:Nat) (o:List Int) (b:Bool),i+m=l.length->o.length<=i+b.toNat->(if b=true then o++l.drop i else o++Bp x (l.drop i))=Bp x l->Ac (QK l x) (some (.inl (.l0 o b (i:Int)))) (([],lI (Bp x l)):Ret):=by
  intro m;induction m with
  | zero=>
   intro i o b hi ho he;rw[List.drop_of_length_le (by omega)] at he;refine .to (show G4 l x o b i=some (.inr ([],lI (Bp x l))) from ?_) (.ret _);unfold G4;rw[Ad (Uk (by simp only[iN,Ui];omega)),<-he];cases b with
   | true=>rw[Ad (show(!true)=false from rfl),Ud rfl,List.append_nil];rfl
   | false=>rw[show false.toNat=0 from rfl] at ho;rw[Ag (show(!false)=true from rfl),Ue (by decide),Ab (by simp only[Ui,UQ];omega),Ab (by simp only[Ui,UQ];omega)];simp[lI,Bp]
  | succ m ih=>
   intro i o b hi ho he;have e:=Ax 0 (show i<l.length by omega);have hd:l.drop i=l.getD i 0::l.drop (i+1):=by rw[EZ (show i<l.length by omega)];exact UX (by omega)
   rw[hd] at he;refine .to (show G4 l x o b i=_ from rfl) ?_;unfold G4;rw[Ag (Ul (by simp only[iN,Ui];omega))];cases b with
   | true=>
    rw[show true.toNat=1 from rfl] at ho;rw[Ad (show(!true)=false from rfl),Ab (by omega),Uo,Ak e,Ab (by simp only[Ui,UQ];omega),Ab (by simp only[Ui,UQ];omega),zW i (by omega)];refine ih (i+1) _ true (by omega) (by simp;omega) ?_;rw[Ud rfl] at he ⊢
    rw[<-he];simp
   | false=>
    rw[Ue (by decide)] at he;rw[show false.toNat=0 from rfl] at ho;rw[Ag (show(!false)=true from rfl),Ab (by omega),Uo,Ak e,zW i (by omega)];rw[show Bp x (l.getD i 0::l.drop (i+1))=if x<l.getD i 0 then x::l.getD i 0::l.drop (i+1) else l.getD i 0::Bp x (l.drop (i+1)) from rfl] at he;by_cases hlt:x<l.getD i 0
    .rw[Ag (Ul hlt),Ab (by simp only[Ui,UQ];omega),Ab (by simp only[Ui,UQ];omega),Ak e,Ab (by simp only[Uy,Ui,UQ];omega),Ab (by simp only[Uy,Ui,UQ];omega)];refine ih (i+1) _ true (by omega) (by simp;omega) ?_;rw[Ud hlt] at he;rw[Ud rfl,<-he];simp
    .rw[Ad (Uk hlt),Ak e,Ab (by simp only[Ui,UQ];omega),Ab (by simp only[Ui,UQ];omega)];refine ih (i+1) _ false (by omega) (by simp;omega) ?_;rw[Ue hlt] at he;rw[Ue (by decide),<-he];simp
 unfold Mx;exact key l.length 0 [] false (Uu _) (Ur _) (by simp)
inductive Fe where | l0 (v0:Int) (v1:List (List Int)) | l1 (v0:Int) (v1:Nat) (v2:List (List Int))
def Fu(L:List Int)(kk:Nat)(bs:List AC)(g:List (List Int)):Fe->St | .l0 v0 v1=>St.mk 98 [(0,AV.ptr 0 0 0),(1,AV.ptr 1 0 0),(4,iv (iN bs.length)),(5,iv v0)] [some (AE L kk),some (Blk.mk [AV.agg [AV.sl 2 0 bs.length,AV.sl 3 0 v1.length,AV.nils,AV.nils,iv 0,iv 0,iv 0,iv 0]] 8 false true none),some (bK (U4 bA bs) 3),some (bK (U4 lI v1) 1)] | .l1 v0 v1 v2=>St.mk 98 [(0,AV.ptr 0 0 0),(1,AV.ptr 1 0 0),(4,iv (iN bs.length)),(6,iv v0)] [some (AE L v1),some (Blk.mk [AV.agg [AV.sl 2 0 bs.length,AV.sl 3 0 v2.length,AV.nils,AV.nils,iv 0,iv 0,iv 0,iv 0]] 8 false true none),some (bK (U4 bA bs) 3),some (bK (U4 lI v2) 1)]
def Mw(L:List Int)(kk:Nat)(bs:List AC)(g:List (List Int)):Option (Fe⊕Ret):=some (.inl (.l0 ((0:Int)) g))
def HS(L:List Int)(kk:Nat)(bs:List AC)(g:List (List Int))(v0:Int)(v1:List (List Int)):Option (Fe⊕Ret):=br (decide (v0<iN bs.length)) (br (decide (1<iN bs.length)) (gu (iN bs.length=0->False) <|gu (0<=v0) <|gu (v0<iN v1.length) <|gu ((0+v0.toNat).succ.le (U4 lI v1).length) <|some (.inl (.l0 (i64.wrap (v0+1)) (v1.set (0+v0.toNat) [(i64.wrap (v0+1)).tmod (iN bs.length)])))) (gu (kk<9223372036854775807) <|some (.inl (.l1 (Ae L kk 4) (kk+1) v1)))) (gu (kk<9223372036854775807) <|some (.inl (.l1 (Ae L kk 4) (kk+1) v1)))
def Iu(L:List Int)(kk:Nat)(bs:List AC)(g:List (List Int))(v0:Int)(v1:Nat)(v2:List (List Int)):Option (Fe⊕Ret):=br (decide (0<v0)) (br (decide (2<iN bs.length)) (gu (v1<9223372036854775807) <|gu (v1+1<9223372036854775807) <|gu (v1+1+1<9223372036854775807) <|br (decide (0<Ae L (v1+1+1) 3)) (gu (iN bs.length=0->False) <|br (Ae L v1 (iN bs.length) != (i64.wrap (Ae L v1 (iN bs.length)+2)).tmod (iN bs.length)) (gu (0<=Ae L v1 (iN bs.length)) <|gu (Ae L v1 (iN bs.length)<iN v2.length) <|el v2 (0+(Ae L v1 (iN bs.length)).toNat) fun(x67:List Int)=>gu (x67.length<=9223372036854775807) <|br (!AR x67 ((i64.wrap (Ae L v1 (iN bs.length)+2)).tmod (iN bs.length))) (el v2 (0+(Ae L v1 (iN bs.length)).toNat) fun(x79:List Int)=>br (decide (iN (U4 iV x79).length<4)) (el v2 (0+(Ae L v1 (iN bs.length)).toNat) fun(x94:List Int)=>gu (x94.length<=1000) <|gu ((0+(Ae L v1 (iN bs.length)).toNat).succ.le (U4 lI v2).length) <|some (.inl (.l1 (i64.wrap (v0-1)) (v1+1+1+1) (v2.set (0+(Ae L v1 (iN bs.length)).toNat) (Bp ((i64.wrap (Ae L v1 (iN bs.length)+2)).tmod (iN bs.length)) x94))))) (some (.inl (.l1 (i64.wrap (v0-1)) (v1+1+1+1) v2)))) (some (.inl (.l1 (i64.wrap (v0-1)) (v1+1+1+1) v2)))) (some (.inl (.l1 (i64.wrap (v0-1)) (v1+1+1+1) v2)))) (br (Ae L v1 (iN bs.length) != Ae L (v1+1) (iN bs.length)) (gu (0<=Ae L v1 (iN bs.length)) <|gu (Ae L v1 (iN bs.length)<iN v2.length) <|el v2 (0+(Ae L v1 (iN bs.length)).toNat) fun(x67:List Int)=>gu (x67.length<=9223372036854775807) <|br (!AR x67 (Ae L (v1+1) (iN bs.length))) (el v2 (0+(Ae L v1 (iN bs.length)).toNat) fun(x79:List Int)=>br (decide (iN (U4 iV x79).length<4)) (el v2 (0+(Ae L v1 (iN bs.length)).toNat) fun(x94:List Int)=>gu (x94.length<=1000) <|gu ((0+(Ae L v1 (iN bs.length)).toNat).succ.le (U4 lI v2).length) <|some (.inl (.l1 (i64.wrap (v0-1)) (v1+1+1+1) (v2.set (0+(Ae L v1 (iN bs.length)).toNat) (Bp (Ae L (v1+1) (iN bs.length)) x94))))) (some (.inl (.l1 (i64.wrap (v0-1)) (v1+1+1+1) v2)))) (some (.inl (.l1 (i64.wrap (v0-1)) (v1+1+1+1) v2)))) (some (.inl (.l1 (i64.wrap (v0-1)) (v1+1+1+1) v2))))) (some (.inr ([some (bK [AV.agg [Va (U4 iV L),iV (iN v1)]] 2),some (Blk.mk [AV.agg [AV.sl 2 0 bs.length,AV.sl 3 0 v2.length,AV.nils,AV.nils,iV 0,iV 0,iV 0,iV 0]] 8 false true none),some (bK (U4 bA bs) 3),some (bK (U4 lI v2) 1)],AV.tup [])))) (some (.inr ([some (bK [AV.agg [Va (U4 iV L),iV (iN v1)]] 2),some (Blk.mk [AV.agg [AV.sl 2 0 bs.length,AV.sl 3 0 v2.length,AV.nils,AV.nils,iV 0,iV 0,iV 0,iV 0]] 8 false true none),some (bK (U4 bA bs) 3),some (bK (U4 lI v2) 1)],AV.tup [])))
def CF(L:List Int)(kk:Nat)(bs:List AC)(g:List (List Int)):Fe->Option (Fe⊕Ret) | .l0 v0 v1=>HS L kk bs g v0 v1 | .l1 v0 v1 v2=>Iu L kk bs g v0 v1 v2
theorem rin_ct(L:List Int)(kk:Nat)(bs:List AC)(g:List (List Int))(r:Ret)(h:Ac (CF L kk bs g) (Mw L kk bs g) r):CT Vb 51 ([some (AE L kk),some (nJ bs g),some (bsB bs),some (gB g)]) ([.ptr 0 0 0,.ptr 1 0 0]) r.1 r.2:=
 CT.mach (fn:=Tryz.f51) (c:=zB Tryz.f51) (S:=(Fu L kk bs g)) (hd:=Fe.ctorIdx) Tryz.func51 (by kernel_rfl) (nL rfl)
  (fun s o ho=>match s,ho with
 | .l0 v0 v1,ho=>Scr.ok (X:=HS L kk bs g v0 v1) ho mix (
 .br (fun a0=>
 .rn 0 [35] [] [] [] (al (u2 (u2 (aj t3 (u2 (ag a0 (ag a0 (al (aj a0 t2))))))))) <|
 .br (fun a1=>
  .gu fun a2=>
  .gu fun a3=>
  .gu fun a4=>
  .gu fun a5=>
  .lq [35,41] [(32,Va [])] [] [] [] [0,1,2,3] [0,1,4,5] (up [] [(1,[AV.agg [AV.sl 2 0 bs.length,AV.sl 3 0 v1.length,AV.nils,AV.nils,iv 0,iv 0,iv 0,iv 0]]),(3,(U4 lI v1).set (0+v0.toNat) (Va [iv ((i64.wrap (v0+1)).tmod (iN bs.length))]))] (Fu L kk bs g (.l0 (i64.wrap (v0+1)) (v1.set (0+v0.toNat) [(i64.wrap (v0+1)).tmod (iN bs.length)])))) (aj (aj a1 (aj (u2 (u2 (u2 (u2 (u2 (u2 (u2 (u2 (aj (k2 a2) (u2 (aj (k2 (aj a3 a4)) (al (k2 a5))))))))))))) (al (u2 (u2 s2))))) (k5 (aj (al t9) t3))) (by simp[up,upF,upV,upH,upB,Fu,gL,boL,lI,bA]))
 (fun a1=>
  .gu fun a2=>
  have c0:=AF (L) (kk) (4) a2;
  .lp [35,40] [] [(35,hK c0 [0] [])] [] [] [0,1,2,3] [0,1,4,6] (aj (aj a1 (al (u2 (aj (ak (k3 (al (c0)))) s2)))) (k5 (aj (al t9) t3)))))
 (fun a0=>
 .rn 0 [34] [] [] [] (al (u2 (u2 (aj t3 (u2 (aj a0 (aj a0 (al (aj a0 t2))))))))) <|
 .gu fun a1=>
 have c0:=AF (L) (kk) (4) a1;
 .lp [34] [] [(35,hK c0 [0] [])] [] [] [0,1,2,3] [0,1,4,6] (aj (ak (al (u2 (aj (ak (k3 (al (c0)))) s2)))) (k5 (aj (al t9) t3))))) (by kernel_rfl)
 | .l1 v0 v1 v2,ho=>Scr.ok (X:=Iu L kk bs g v0 v1 v2) ho mix (
 .br (fun a0=>
 .rn 0 [77] [] [] [] (al (u2 (u2 (u2 (ag a0 (ag a0 (al (aj a0 t2)))))))) <|
 .br (fun a1=>
  .gu fun a2=>
  .gu fun a3=>
  have c0:=AF (L) v1 (iN bs.length) a2;
  have c1:=AF (L) (v1+1) (iN bs.length) a3;
  .rn 0 [77,83] [] [(46,hK c0 [0] []),(49,hK c1 [0] [])] [] (aj a1 (al (u2 (u2 (aj (k5 (al (c0))) (u2 (u2 (aj (k5 (al (c1))) (u2 s2))))))))) <|
  .gu fun a4=>
  have c2:=AF (L) (v1+1+1) (3) a4;
  .rn 0 [77] [] [(51,hK c2 [0] [])] [] (al (u2 (aj (ak (k3 (al (c2)))) s2))) <|
  .br (fun a5=>
  .gu fun a6=>
  .rn 0 [77,105] [] [] [] (aj a5 (al (u2 (u2 (u2 (aj (k2 a6) s2)))))) <|
  .br (fun a7=>
   .gu fun a8=>
   .gu fun a9=>
   .el fun x67 a10=>
   .gu fun a11=>
   .br (fun a12=>
   .el fun x79 a13=>
   have c3:=EB x67 ((i64.wrap (Ae L v1 (iN bs.length)+2)).tmod (iN bs.length)) a11;
   .rn 0 [77,121,145] [(67,lI x67),(79,lI x79)] [(69,hK c3 [] [])] [] (al (u2 (u2 (aj t3 (u2 (ag a7 (ag a7 (ag a7 (ag a7 (ag a7 (aj (aj a7 (k2 (aj a8 a9))) (aj (aj a7 (ak (Af (f:=lI) a10))) (ag a7 (aj (aj a7 (ak (k3 (al (c3))))) (ag a7 (ag a7 (u2 (ag a12 (ag a12 (ag a12 (ag a12 (ag a12 (aj (aj a12 (k2 (aj a8 a9))) (aj (aj a12 (ak (Af (f:=lI) a13))) (ag a12 (ag a12 (al (aj a12 t2)))))))))))))))))))))))))))) <|
   .br (fun a14=>
    .el fun x94 a15=>
    .gu fun a16=>
    .gu fun a17=>
    have c4:=ins_c x94 ((i64.wrap (Ae L v1 (iN bs.length)+2)).tmod (iN bs.length)) a16;
    .lq [77,121,145,165] [(94,lI x94)] [(96,hK c4 [] [])] [] [] [0,1,2,3] [0,1,4,6] (up [] [(1,[AV.agg [AV.sl 2 0 bs.length,AV.sl 3 0 v2.length,AV.nils,AV.nils,iv 0,iv 0,iv 0,iv 0]]),(3,(U4 lI v2).set (0+(Ae L v1 (iN bs.length)).toNat) (Va (U4 iv (Bp ((i64.wrap (Ae L v1 (iN bs.length)+2)).tmod (iN bs.length)) x94))))] (Fu L kk bs g (.l1 (i64.wrap (v0-1)) (v1+1+1+1) (v2.set (0+(Ae L v1 (iN bs.length)).toNat) (Bp ((i64.wrap (Ae L v1 (iN bs.length)+2)).tmod (iN bs.length)) x94))))) (aj (aj a14 (aj (u2 (u2 (u2 (u2 (u2 (u2 (u2 (u2 (u2 (u2 (aj (k2 (aj a8 a9)) (aj (ak (Af (f:=lI) a15)) (u2 (aj (ak (k3 (al (c4)))) (aj (k2 (aj a8 a9)) (al (k2 a17))))))))))))))))) (al (u2 (u2 s2))))) (k5 (aj (al t9) t3))) (by simp[up,upF,upV,upH,upB,Fu,gL,boL,lI,bA]))
   (fun a14=>
    .lp [77,121,145,164] [] [] [] [] [0,1,2,3] [0,1,4,6] (aj (aj a14 (al (u2 (u2 s2)))) (k5 (aj (al t9) t3)))))
   (fun a12=>
   have c3:=EB x67 ((i64.wrap (Ae L v1 (iN bs.length)+2)).tmod (iN bs.length)) a11;
   .lp [77,121,144] [(67,lI x67)] [(69,hK c3 [] [])] [] [] [0,1,2,3] [0,1,4,6] (aj (aj (u2 (u2 (aj t3 (u2 (ag a7 (ag a7 (ag a7 (ag a7 (ag a7 (aj (aj a7 (k2 (aj a8 a9))) (aj (aj a7 (ak (Af (f:=lI) a10))) (ag a7 (aj (aj a7 (ak (k3 (al (c3))))) (ag a7 (ag a7 (u2 (aj a12 (aj a12 (aj a12 (aj a12 (aj a12 (aj a12 (aj a12 (aj a12 (aj a12 (al (aj a12 t2))))))))))))))))))))))))))) (ak (al (u2 (u2 s2))))) (k5 (aj (al t9) t3)))))
  (fun a7=>
   .lp [77,120] [] [] [] [] [0,1,2,3] [0,1,4,6] (aj (aj (u2 (u2 (aj t3 (u2 (aj a7 (aj a7 (aj a7 (aj a7 (aj a7 (aj a7 (aj a7 (aj a7 (aj a7 (aj a7 (ag a7 (u2 (ak (k3 (k5 (al t3)))))))))))))))))))) (ak (al (u2 (u2 s2))))) (k5 (aj (al t9) t3)))))
  (fun a5=>
  .br (fun a6=>
   .gu fun a7=>
   .gu fun a8=>
   .el fun x67 a9=>
   .gu fun a10=>
   .br (fun a11=>
   .el fun x79 a12=>
   have c3:=EB x67 (Ae L (v1+1) (iN bs.length)) a10;
   .rn 0 [77,104,121,145] [(67,lI x67),(79,lI x79)] [(69,hK c3 [] [])] [] (aj a5 (al (u2 (u2 (aj t3 (u2 (ag a6 (ag a6 (ag a6 (ag a6 (ag a6 (aj (aj a6 (k2 (aj a7 a8))) (aj (aj a6 (ak (Af (f:=lI) a9))) (ag a6 (aj (aj a6 (ak (k3 (al (c3))))) (ag a6 (ag a6 (u2 (ag a11 (ag a11 (ag a11 (ag a11 (ag a11 (aj (aj a11 (k2 (aj a7 a8))) (aj (aj a11 (ak (Af (f:=lI) a12))) (ag a11 (ag a11 (al (aj a11 t2))))))))))))))))))))))))))))) <|
   .br (fun a13=>
    .el fun x94 a14=>
    .gu fun a15=>
    .gu fun a16=>
    have c4:=ins_c x94 (Ae L (v1+1) (iN bs.length)) a15;
    .lq [77,121,145,165] [(94,lI x94)] [(96,hK c4 [] [])] [] [] [0,1,2,3] [0,1,4,6] (up [] [(1,[AV.agg [AV.sl 2 0 bs.length,AV.sl 3 0 v2.length,AV.nils,AV.nils,iv 0,iv 0,iv 0,iv 0]]),(3,(U4 lI v2).set (0+(Ae L v1 (iN bs.length)).toNat) (Va (U4 iv (Bp (Ae L (v1+1) (iN bs.length)) x94))))] (Fu L kk bs g (.l1 (i64.wrap (v0-1)) (v1+1+1+1) (v2.set (0+(Ae L v1 (iN bs.length)).toNat) (Bp (Ae L (v1+1) (iN bs.length)) x94))))) (aj (aj a13 (aj (u2 (u2 (u2 (u2 (u2 (u2 (u2 (u2 (u2 (u2 (aj (k2 (aj a7 a8)) (aj (ak (Af (f:=lI) a14)) (u2 (aj (ak (k3 (al (c4)))) (aj (k2 (aj a7 a8)) (al (k2 a16))))))))))))))))) (al (u2 (u2 s2))))) (k5 (aj (al t9) t3))) (by simp[up,upF,upV,upH,upB,Fu,gL,boL,lI,bA]))
   (fun a13=>
    .lp [77,121,145,164] [] [] [] [] [0,1,2,3] [0,1,4,6] (aj (aj a13 (al (u2 (u2 s2)))) (k5 (aj (al t9) t3)))))
   (fun a11=>
   have c3:=EB x67 (Ae L (v1+1) (iN bs.length)) a10;
   .lp [77,104,121,144] [(67,lI x67)] [(69,hK c3 [] [])] [] [] [0,1,2,3] [0,1,4,6] (aj (aj a5 (aj (u2 (u2 (aj t3 (u2 (ag a6 (ag a6 (ag a6 (ag a6 (ag a6 (aj (aj a6 (k2 (aj a7 a8))) (aj (aj a6 (ak (Af (f:=lI) a9))) (ag a6 (aj (aj a6 (ak (k3 (al (c3))))) (ag a6 (ag a6 (u2 (aj a11 (aj a11 (aj a11 (aj a11 (aj a11 (aj a11 (aj a11 (aj a11 (aj a11 (al (aj a11 t2))))))))))))))))))))))))))) (ak (al (u2 (u2 s2)))))) (k5 (aj (al t9) t3)))))
  (fun a6=>
   .lp [77,104,120] [] [] [] [] [0,1,2,3] [0,1,4,6] (aj (aj a5 (aj (u2 (u2 (aj t3 (u2 (aj a6 (aj a6 (aj a6 (aj a6 (aj a6 (aj a6 (aj a6 (aj a6 (aj a6 (aj a6 (ag a6 (u2 (ak (k3 (k5 (al t3)))))))))))))))))))) (ak (al (u2 (u2 s2)))))) (k5 (aj (al t9) t3))))))
 (fun a1=>
  .rt [77,82] [] [] [] [0,1,2,3] [] (aj (al a1) (k2 (aj (al t9) t3)))))
 (fun a0=>
 .rt [76] [] [] [] [0,1,2,3] [] (ag (u2 (u2 (u2 (aj a0 (aj a0 (al (aj a0 t2))))))) (k2 (aj (al t9) t3))))) (by kernel_rfl)
  )
  (fun o ho=>Scr.ok (X:=Mw L kk bs g) ho mix (
 .lp [] [] [] [] [] [0,1,2,3] [0,1,4,5] (aj (aj (u2 (u2 (u2 (u2 (u2 s2))))) s2) (k5 (aj (al t9) t3)))) (by kernel_rfl)) h
theorem Bz(L:List Int)(k:Nat)(n:Int)(h1:1<=n)(h2:n<=100000):0<=Ae L k n/\Ae L k n<n:=by
 unfold Ae DU;split
 .omega
 .have ha:=Int.tmod_lt_of_pos (KA L k) (show 0<n by omega);have hb:=Int.lt_tmod_of_pos (KA L k) (show 0<n by omega);split
  .rw[A3 _ (by omega) (by omega)];omega
  .omega
structure Gv(b v:Nat)(l:List Int):Prop where
 el:∀w∈l,0<=w/\w<(b:Int)/\w≠(v:Int)
 asc:l.Pairwise (· < ·)
 len:l.length<=4
structure GK(b:Nat)(g:List (List Int)):Prop where
 len:g.length=b
 row:∀v,v<b->Gv b v (g.getD v [])
theorem TA{l:List (List Int)}{i j:Nat}{x:List Int}(hi:i<l.length):(l.set i x).getD j []=if i=j then x else l.getD j []:=by
 rw[Ug,U1];by_cases h:i=j
 .subst h;rw[Ud rfl,Ud hi,Ud rfl];rfl
 .rw[Ue h,Ue h,Ug]
theorem GK.set{b:Nat}{g:List (List Int)}(h:GK b g){i:Nat}{l:List Int}(hi:i<b)(hl:Gv b i l):GK b (g.set i l):=by
 have hg:=h.len;refine⟨by rw[UL];exact hg,fun v hv=>?_⟩;rw[TA (by omega)];split
 .rename_i e;exact e ▸ hl
 .exact h.row v hv
theorem Gv.ins{b v:Nat}{l:List Int}{x:Int}(h:Gv b v l)(hx:0<=x/\x<(b:Int)/\x≠(v:Int))(hn:x∉l)(hl:l.length<4):Gv b v (Bp x l):=⟨fun w hw=>(O4 x hw).elim (fun e=>e ▸ hx) (h.el w),PH x h.asc hn,by rw[QB];omega⟩
theorem QL{x b:Int}(h:0<=x)(hb:1<=b):0<=x.tmod b/\x.tmod b<b:=⟨Int.tmod_nonneg _ h,Int.tmod_lt_of_pos _ (by omega)⟩
abbrev En(b kk:Nat):={p:Nat×List (List Int) // GK b p.2/\kk<=p.1/\p.1<=kk+20}
def ED(L:List Int)(bs:List AC){b kk:Nat}(p:En b kk):Ret:=([some (AE L p.1.1),some (nJ bs p.1.2),some (bsB bs),some (gB p.1.2)],.tup [])
theorem rin_ex(L:List Int){kk:Nat}(bs:List AC){g:List (List Int)}(hb:1<=bs.length/\bs.length<=24)(hk:kk<=90000)(hg:GK bs.length g):∃p:En bs.length kk,Ac (CF L kk bs g) (Mw L kk bs g) (ED L bs p):=by
 have e1:∀(m k:Nat) (h:List (List Int)),m<=4->GK bs.length h->kk<=k->k+3 * m<=kk+13->∃p:En bs.length kk,Ac (CF L kk bs g) (some (.inl (.l1 (m:Int) k h))) (ED L bs p):=by
  intro m;have done:∀{k:Nat} {h:List (List Int)},GK bs.length h->kk<=k->k<=kk+13->∃p:En bs.length kk,Ac (CF L kk bs g) (some (.inr (ED L bs p))) (ED L bs p):=fun {k h} h1 h2 h3=>⟨⟨(k,h),h1,h2,by omega⟩,.ret _⟩
  induction m with
  | zero=>intro k h _ hh hk1 hk2;refine Ay (show CF L kk bs g (.l1 (0:Nat) k h)=Iu L kk bs g (0:Nat) k h from rfl) ?_;unfold Iu;rw[Ad (Uk (by omega))];exact⟨⟨(k,h),hh,hk1,by omega⟩,.ret _⟩
  | succ m ih=>
   intro k h hm hh hk1 hk2;refine Ay (show CF L kk bs g (.l1 ((m+1:Nat):Int) k h)=Iu L kk bs g ((m+1:Nat):Int) k h from rfl) ?_;have r1:=Bz L k bs.length (by omega) (by omega);have r2:=Bz L (k+1) bs.length (by omega) (by omega);have hl:=hh.len;unfold Iu;rw[Ag (Ul (by omega)),A3 (((m+1:Nat):Int)-1) (by omega) (by omega),show((m+1:Nat):Int)-1=(m:Int) by omega];have nx:∀h',GK bs.length h'->∃p:En bs.length kk,Ac (CF L kk bs g) (some (.inl (.l1 (m:Int) (k+1+1+1) h'))) (ED L bs p):=fun h' hg'=>ih (k+1+1+1) h' (by omega) hg' (by omega) (by omega)
   have step:∀x:Int,0<=x->x<bs.length->∃p:En bs.length kk,Ac (CF L kk bs g)
     (br (Ae L k (iN bs.length) != x)
      (gu (0<=Ae L k (iN bs.length)) <| gu (Ae L k (iN bs.length)<iN h.length) <| el h (0+(Ae L k (iN bs.length)).toNat) fun x67=>gu (x67.length<=9223372036854775807) <|
       br (!AR x67 x) (el h (0+(Ae L k (iN bs.length)).toNat) fun x79=>br (decide (iN (U4 (AV.int .i64) x79).length<4))
        (el h (0+(Ae L k (iN bs.length)).toNat) fun x94=>gu (x94.length<=1000) <| gu ((0+(Ae L k (iN bs.length)).toNat).succ.le (U4 lI h).length) <| some (.inl (.l1 (m:Int) (k+1+1+1) (h.set (0+(Ae L k (iN bs.length)).toNat) (Bp x x94)))))
        (some (.inl (.l1 (m:Int) (k+1+1+1) h)))) (some (.inl (.l1 (m:Int) (k+1+1+1) h))))
      (some (.inl (.l1 (m:Int) (k+1+1+1) h)))) (ED L bs p):=by
    intro x hx0 hx1;generalize hp:Ae L k (iN bs.length)=p;have r1:0<=p/\p<bs.length:=by rw[<-hp];exact r1
    have hi:p.toNat<bs.length:=by omega
    have er:=Ax [] (show p.toNat<h.length by omega);have ho:=hh.row p.toNat hi;have hol:=ho.len;refine Am (fun hne=>?_) fun _=>nx h hh
    rw[Ab r1.1,Ab (by simp only[iN];omega),Uu,Ak er,Ab (by omega)];refine Am (fun hnz=>?_) fun _=>nx h hh
    rw[Ak er];refine BK (fun h4=>?_) fun _=>nx h hh
    rw[Ak er,Ab (by omega),Ab (show Nat.le _ _ from by show p.toNat+1<=_;simp only[Ui];omega)];refine nx _ (hh.set hi (ho.ins ⟨hx0,hx1,?_⟩ (Ln (by simpa using hnz)) (by simp only[iN,Ui] at h4;omega)));have:=UZ.1 hne;omega
   refine BK (fun h2=>?_) fun _=>⟨⟨(k,h),hh,hk1,by omega⟩,.ret _⟩
   rw[Ab (by omega),Ab (by omega),Ab (by omega)];refine Am (fun _=>?_) fun _=>step _ r2.1 r2.2
   rw[Ab (by simp only[iN];omega),A3 _ (by simp only[iN];omega) (by simp only[iN];omega)];have:=QL (x:=Ae L k (iN bs.length)+2) (b:=(bs.length:Int)) (by simp only[iN];omega) (by omega);exact step _ this.1 this.2
 have r4:=Bz L kk 4 (by omega) (by omega);have e1':∀h,GK bs.length h->∃p:En bs.length kk,Ac (CF L kk bs g) (some (.inl (.l1 (Ae L kk 4) (kk+1) h))) (ED L bs p):=fun h hh=>by
  have:=e1 (Ae L kk 4).toNat (kk+1) h (by omega) hh (by omega) (by omega)
  rwa [UE r4.1] at this
 have e0:∀(m i:Nat) (h:List (List Int)),i+m=bs.length->GK bs.length h->∃p:En bs.length kk,Ac (CF L kk bs g) (some (.inl (.l0 (i:Int) h))) (ED L bs p):=by
  intro m;induction m with
  | zero=>intro i h hi hh;refine Ay (show CF L kk bs g (.l0 (i:Int) h)=HS L kk bs g i h from rfl) ?_;unfold HS;rw[Ad (Uk (by simp only[iN];omega)),Ab (by omega)];exact e1' h hh
  | succ m ih=>
   intro i h hi hh;have hl:=hh.len;refine Ay (show CF L kk bs g (.l0 (i:Int) h)=HS L kk bs g i h from rfl) ?_;unfold HS;rw[Ag (Ul (by simp only[iN];omega))];refine BK (fun hb1=>?_) fun _=>Ah (by omega) (e1' h hh)
   rw[Ab (by simp only[iN];omega),Ab (by omega),Ab (by simp only[iN];omega),Ab (show Nat.le _ _ from by show 0+(i:Int).toNat+1<=_;simp only[Ui];omega),zW i (by omega),Uu,Uo];have ht:=QL (x:=((i+1:Nat):Int)) (b:=(bs.length:Int)) (by omega) (by omega);refine ih (i+1) _ (by omega) (hh.set (by omega) ⟨fun w hw=>?_,List.pairwise_singleton _ _,by simp⟩);rw[T7.1 hw];refine⟨ht.1,ht.2,fun e=>?_⟩;have hb1:1<bs.length:=by simp only[iN] at hb1;omega
   have e:((i+1:Nat):Int).tmod (bs.length:Int)=(i:Int):=e;by_cases hq:i+1=bs.length
   .rw[hq,Int.tmod_self] at e;omega
   .rw[Int.tmod_eq_of_lt (by omega) (by omega)] at e;omega
 exact e0 bs.length 0 g (Uu _) hg
theorem J3(L:List Int)(kk:Nat)(bs:List AC)(g:List (List Int)):∃p:Nat×List (List Int),1<=bs.length/\bs.length<=24->kk<=90000->GK bs.length g->(GK bs.length p.2/\kk<=p.1/\p.1<=kk+20)/\CT Vb 51 [some (AE L kk),some (nJ bs g),some (bsB bs),some (gB g)] [.ptr 0 0 0,.ptr 1 0 0] [some (AE L p.1),some (nJ bs p.2),some (bsB bs),some (gB p.2)] (.tup []):=by
 by_cases h:(1<=bs.length/\bs.length<=24)/\kk<=90000/\GK bs.length g
 .obtain⟨p,hp⟩:=rin_ex L bs h.1 h.2.1 h.2.2;exact⟨p.1,fun _ _ _=>⟨p.2,rin_ct L kk bs g _ hp⟩⟩
 .exact⟨(0,[]),fun a b c=>absurd ⟨a,b,c⟩ h⟩
@[irreducible] def rgK(L:List Int)(kk:Nat)(bs:List AC)(g:List (List Int)):Nat:=(Classical.choose (J3 L kk bs g)).1
@[irreducible] def rgG(L:List Int)(kk:Nat)(bs:List AC)(g:List (List Int)):List (List Int):=(Classical.choose (J3 L kk bs g)).2
theorem rg_p{L:List Int}{kk:Nat}{bs:List AC}{g:List (List Int)}(a:1<=bs.length/\bs.length<=24)(b:kk<=90000)(c:GK bs.length g):GK bs.length (rgG L kk bs g)/\kk<=rgK L kk bs g/\rgK L kk bs g<=kk+20:=by unfold rgG rgK;exact(UP (J3 L kk bs g) a b c).1
theorem rg_c(L:List Int)(kk:Nat)(bs:List AC)(g:List (List Int))(a:1<=bs.length/\bs.length<=24)(b:kk<=90000)(c:GK bs.length g):CT Vb 51 [some (AE L kk),some (nJ bs g),some (bsB bs),some (gB g)] [.ptr 0 0 0,.ptr 1 0 0] [some (AE L (rgK L kk bs g)),some (nJ bs (rgG L kk bs g)),some (bsB bs),some (gB (rgG L kk bs g))] (.tup []):=by unfold rgG rgK;exact(UP (J3 L kk bs g) a b c).2
inductive Df where | l0 (v0:Int) (v1:Nat) (v2:List AC) (v3:List (List Int)) | l1 (v0 v1:Int) (v2:Nat) (v3:List AC) (v4:List (List Int)) (v5:List Av) | l2 (v0:Int) (v1:Nat) (v2:List AC) (v3:List (List Int)) (v4:List Av) (v5:List Int) (v6 v7 v8 v9 v10 v11 v12:Int) | l3 (v0:Int) (v1:List Int) (v2:Int) (v3:Nat) (v4:List AC) (v5:List (List Int)) (v6:List Av) (v7:List Int) (v8 v9 v10 v11 v12 v13 v14:Int) | l4 (v0:Int) (v1:List Int) (v2 v3:Int) (v4:Nat) (v5:List AC) (v6:List (List Int)) (v7:List Av) (v8:List Int) (v9 v10 v11 v12 v13 v14 v15:Int)
def Cv(L:List Int)(kk:Nat)(most:Int):Df->St | .l0 v0 v1 v2 v3=>St.mk 191 [(0,AV.ptr 0 0 0),(4,AV.ptr 1 0 0),(5,AV.ptr 2 0 0),(6,iv v0)] [some (AE L v1),some (bK [AV.agg [AV.nils,AV.nils,AV.nils,AV.nils,iv 0,iv 0,iv 0,iv 0]] 8),some (Blk.mk [AV.agg [AV.sl 3 0 v2.length,AV.sl 4 0 v3.length,AV.nils,AV.nils,iv 0,iv 0,iv 0,iv 0]] 8 false true none),some (bK (U4 bA v2) 3),some (bK (U4 lI v3) 1)] | .l1 v0 v1 v2 v3 v4 v5=>St.mk 191 [(0,AV.ptr 0 0 0),(4,AV.ptr 1 0 0),(5,AV.ptr 2 0 0),(8,iv v0),(9,iv v1)] [some (AE L v2),some (bK [AV.agg [AV.nils,AV.nils,AV.nils,AV.nils,iv 0,iv 0,iv 0,iv 0]] 8),some (Blk.mk [AV.agg [AV.sl 3 0 v3.length,AV.sl 4 0 v4.length,AV.sl 5 0 v5.length,AV.nils,iv 0,iv 0,iv 0,iv 0]] 8 false true none),some (bK (U4 bA v3) 3),some (bK (U4 lI v4) 1),some (bK (U4 sA v5) 6)] | .l2 v0 v1 v2 v3 v4 v5 v6 v7 v8 v9 v10 v11 v12=>St.mk 191 [(0,AV.ptr 0 0 0),(4,AV.ptr 1 0 0),(5,AV.ptr 2 0 0),(12,AV.ptr 3 0 0),(14,iv v0)] [some (AE L v1),some (bK [AV.agg [AV.nils,AV.nils,AV.nils,AV.nils,iv 0,iv 0,iv 0,iv 0]] 8),some (Blk.mk [AV.agg [AV.sl 4 0 v2.length,AV.sl 5 0 v3.length,AV.sl 6 0 v4.length,AV.sl 7 0 v5.length,iv v6,iv v7,iv v8,iv v9]] 8 false true none),some (bK [AV.agg [iv v10,AV.any,iv v11,iv v12]] 4),some (bK (U4 bA v2) 3),some (bK (U4 lI v3) 1),some (bK (U4 sA v4) 6),some (bK (U4 iv v5) 1)] | .l3 v0 v1 v2 v3 v4 v5 v6 v7 v8 v9 v10 v11 v12 v13 v14=>St.mk 191 [(0,AV.ptr 0 0 0),(4,AV.ptr 1 0 0),(5,AV.ptr 2 0 0),(12,AV.ptr 3 0 0),(14,iv v0),(15,AV.sl 4 0 v1.length),(16,iv v2)] [some (AE L v3),some (bK [AV.agg [AV.nils,AV.nils,AV.nils,AV.nils,iv 0,iv 0,iv 0,iv 0]] 8),some (Blk.mk [AV.agg [AV.sl 5 0 v4.length,AV.sl 6 0 v5.length,AV.sl 7 0 v6.length,AV.sl 8 0 v7.length,iv v8,iv v9,iv v10,iv v11]] 8 false true none),some (bK [AV.agg [iv v12,AV.any,iv v13,iv v14]] 4),some (bK (U4 iv v1) 1),some (bK (U4 bA v4) 3),some (bK (U4 lI v5) 1),some (bK (U4 sA v6) 6),some (bK (U4 iv v7) 1)] | .l4 v0 v1 v2 v3 v4 v5 v6 v7 v8 v9 v10 v11 v12 v13 v14 v15=>St.mk 191 [(0,AV.ptr 0 0 0),(4,AV.ptr 1 0 0),(5,AV.ptr 2 0 0),(12,AV.ptr 3 0 0),(14,iv v0),(15,AV.sl 4 0 v1.length),(16,iv v2),(17,iv v3)] [some (AE L v4),some (bK [AV.agg [AV.nils,AV.nils,AV.nils,AV.nils,iv 0,iv 0,iv 0,iv 0]] 8),some (Blk.mk [AV.agg [AV.sl 5 0 v5.length,AV.sl 6 0 v6.length,AV.sl 7 0 v7.length,AV.sl 8 0 v8.length,iv v9,iv v10,iv v11,iv v12]] 8 false true none),some (bK [AV.agg [iv v13,AV.any,iv v14,iv v15]] 4),some (bK (U4 iv v1) 1),some (bK (U4 bA v5) 3),some (bK (U4 lI v6) 1),some (bK (U4 sA v7) 6),some (bK (U4 iv v8) 1)]
def J9(L:List Int)(kk:Nat)(most:Int):Option (Df⊕Ret):=gu (kk<9223372036854775807) <|some (.inl (.l0 (i64.wrap (1+Ae L kk most)) (kk+1) ([]) ([])))
def IG(L:List Int)(kk:Nat)(most v0:Int)(v1:Nat)(v2:List AC)(v3:List (List Int)):Option (Df⊕Ret):=br (decide (0<v0)) (gu (v2.length<100) <|gu ((1+(AM v2.length).size).le 9223372036854775807) <|gu (v1<9223372036854775807) <|gu (v1+1<9223372036854775807) <|gu ((U4 bA v2).length+[AV.agg [AV.str (ByteArray.mk #[98]++AM v2.length),iV (i64.wrap (Ae L v1 9-4)),iV (i64.wrap (Ae L (v1+1) 9-4))]].length<=9223372036854775807) <|gu (((U4 bA v2).length+[AV.agg [AV.str (ByteArray.mk #[98]++AM v2.length),iV (i64.wrap (Ae L v1 9-4)),iV (i64.wrap (Ae L (v1+1) 9-4))]].length) * 32<=140737488355328) <|gu ((U4 lI v3).length+1<=9223372036854775807) <|gu (((U4 lI v3).length+1) * 24<=140737488355328) <|some (.inl (.l0 (i64.wrap (v0-1)) (v1+1+1) (v2++[AC.mk (ByteArray.mk #[98]++AM v2.length) (i64.wrap (Ae L v1 9-4)) (i64.wrap (Ae L (v1+1) 9-4))]) (v3++[[]])))) (gu (1<=v2.length/\v2.length<=24) <|gu (v1<=90000) <|gu (GK v2.length v3) <|gu (rgK L v1 v2 v3<9223372036854775807) <|some (.inl (.l1 (iN v2.length) (i64.wrap (3+Ae L (rgK L v1 v2 v3) 3)) (rgK L v1 v2 v3+1) v2 (rgG L v1 v2 v3) ([]))))
def II(L:List Int)(kk:Nat)(most v0 v1:Int)(v2:Nat)(v3:List AC)(v4:List (List Int))(v5:List Av):Option (Df⊕Ret):=br (decide (0<v1)) (gu (v5.length<100) <|gu ((1+(AM v5.length).size).le 9223372036854775807) <|br (iN v5.length==0) (gu (v2<9223372036854775807) <|gu (v2+1<9223372036854775807) <|gu (v2+1+1<9223372036854775807) <|gu ((U4 sA v5).length+[AV.agg [AV.str (ByteArray.mk #[115]++AM v5.length),bV true,iV (Ae L v2 (iN v3.length)),iV (Ae L (v2+1) (iN v3.length)),iV (i64.wrap (1+Ae L (v2+1+1) 3)),iV v0]].length<=9223372036854775807) <|gu (((U4 sA v5).length+[AV.agg [AV.str (ByteArray.mk #[115]++AM v5.length),bV true,iV (Ae L v2 (iN v3.length)),iV (Ae L (v2+1) (iN v3.length)),iV (i64.wrap (1+Ae L (v2+1+1) 3)),iV v0]].length) * 56<=140737488355328) <|some (.inl (.l1 (i64.wrap (v0+i64.wrap (1+Ae L (v2+1+1) 3))) (i64.wrap (v1-1)) (v2+1+1+1) v3 v4 (v5++[Av.mk (ByteArray.mk #[115]++AM v5.length) true (Ae L v2 (iN v3.length)) (Ae L (v2+1) (iN v3.length)) (i64.wrap (1+Ae L (v2+1+1) 3)) v0])))) (br (decide (2<iN v5.length)) (gu (v2<9223372036854775807) <|gu (v2+1<9223372036854775807) <|gu (v2+1+1<9223372036854775807) <|gu (v2+1+1+1<9223372036854775807) <|gu ((U4 sA v5).length+[AV.agg [AV.str (ByteArray.mk #[115]++AM v5.length),bV (Ae L v2 2==0),iV (Ae L (v2+1) (iN v3.length)),iV (Ae L (v2+1+1) (iN v3.length)),iV (i64.wrap (1+Ae L (v2+1+1+1) 3)),iV v0]].length<=9223372036854775807) <|gu (((U4 sA v5).length+[AV.agg [AV.str (ByteArray.mk #[115]++AM v5.length),bV (Ae L v2 2==0),iV (Ae L (v2+1) (iN v3.length)),iV (Ae L (v2+1+1) (iN v3.length)),iV (i64.wrap (1+Ae L (v2+1+1+1) 3)),iV v0]].length) * 56<=140737488355328) <|some (.inl (.l1 (i64.wrap (v0+i64.wrap (1+Ae L (v2+1+1+1) 3))) (i64.wrap (v1-1)) (v2+1+1+1+1) v3 v4 (v5++[Av.mk (ByteArray.mk #[115]++AM v5.length) (Ae L v2 2==0) (Ae L (v2+1) (iN v3.length)) (Ae L (v2+1+1) (iN v3.length)) (i64.wrap (1+Ae L (v2+1+1+1) 3)) v0])))) (gu (v2<9223372036854775807) <|gu (v2+1<9223372036854775807) <|gu (v2+1+1<9223372036854775807) <|gu ((U4 sA v5).length+[AV.agg [AV.str (ByteArray.mk #[115]++AM v5.length),bV false,iV (Ae L v2 (iN v3.length)),iV (Ae L (v2+1) (iN v3.length)),iV (i64.wrap (1+Ae L (v2+1+1) 3)),iV v0]].length<=9223372036854775807) <|gu (((U4 sA v5).length+[AV.agg [AV.str (ByteArray.mk #[115]++AM v5.length),bV false,iV (Ae L v2 (iN v3.length)),iV (Ae L (v2+1) (iN v3.length)),iV (i64.wrap (1+Ae L (v2+1+1) 3)),iV v0]].length) * 56<=140737488355328) <|some (.inl (.l1 (i64.wrap (v0+i64.wrap (1+Ae L (v2+1+1) 3))) (i64.wrap (v1-1)) (v2+1+1+1) v3 v4 (v5++[Av.mk (ByteArray.mk #[115]++AM v5.length) false (Ae L v2 (iN v3.length)) (Ae L (v2+1) (iN v3.length)) (i64.wrap (1+Ae L (v2+1+1) 3)) v0])))))) (gu (v2<9223372036854775807) <|gu (v2+1<9223372036854775807) <|gu (v2+1+1<9223372036854775807) <|gu (v2+1+1+1<9223372036854775807) <|gu (Aq (flN v3 v4 v5 (i64.wrap (1+Ae L v2 4)) (Ae L (v2+1) 3) (Ae L (v2+1+1) 3) (i64.wrap (1+Ae L (v2+1+1+1) 8)))) <|gu (Rows v4) <|gu (v2+1+1+1+1<9223372036854775807) <|some (.inl (.l2 (i64.wrap (1+Ae L (v2+1+1+1+1) 3)) (v2+1+1+1+1+1) v3 v4 v5 ([]) (i64.wrap (1+Ae L v2 4)) (Ae L (v2+1) 3) (Ae L (v2+1+1) 3) (i64.wrap (1+Ae L (v2+1+1+1) 8)) (flE (flN v3 v4 v5 (i64.wrap (1+Ae L v2 4)) (Ae L (v2+1) 3) (Ae L (v2+1+1) 3) (i64.wrap (1+Ae L (v2+1+1+1) 8)))) (flS (flN v3 v4 v5 (i64.wrap (1+Ae L v2 4)) (Ae L (v2+1) 3) (Ae L (v2+1+1) 3) (i64.wrap (1+Ae L (v2+1+1+1) 8)))) (flC (flN v3 v4 v5 (i64.wrap (1+Ae L v2 4)) (Ae L (v2+1) 3) (Ae L (v2+1+1) 3) (i64.wrap (1+Ae L (v2+1+1+1) 8)))))))
def GC(L:List Int)(kk:Nat)(most v0:Int)(v1:Nat)(v2:List AC)(v3:List (List Int))(v4:List Av)(v5:List Int)(v6 v7 v8 v9 v10 v11 v12:Int):Option (Df⊕Ret):=br (decide (0<v0)) (br (decide (iN v5.length<v12)) (some (.inl (.l3 v0 ([]) ((0:Int)) v1 v2 v3 v4 v5 v6 v7 v8 v9 v10 v11 v12))) (some (.inr ([some (bK [AV.agg [Va (U4 iV L),iV (iN v1)]] 2)],AV.agg [Va (U4 bA v2),Va (U4 lI v3),Va (U4 sA v4),Va (U4 iV v5),iV v6,iV v7,iV v8,iV v9])))) (some (.inr ([some (bK [AV.agg [Va (U4 iV L),iV (iN v1)]] 2)],AV.agg [Va (U4 bA v2),Va (U4 lI v3),Va (U4 sA v4),Va (U4 iV v5),iV v6,iV v7,iV v8,iV v9])))
def GP(L:List Int)(kk:Nat)(most v0:Int)(v1:List Int)(v2:Int)(v3:Nat)(v4:List AC)(v5:List (List Int))(v6:List Av)(v7:List Int)(v8 v9 v10 v11 v12 v13 v14:Int):Option (Df⊕Ret):=br (decide (v2<iN v6.length)) (some (.inl (.l4 v0 v1 v2 ((0:Int)) v3 v4 v5 v6 v7 v8 v9 v10 v11 v12 v13 v14))) (gu (v3<9223372036854775807) <|gu (0<=Ae L v3 (iN v1.length)) <|gu (Ae L v3 (iN v1.length)<iN v1.length) <|el v1 (0+(Ae L v3 (iN v1.length)).toNat) fun(x186:Int)=>gu ((U4 iV v7).length+[iV x186].length<=9223372036854775807) <|gu (((U4 iV v7).length+[iV x186].length) * 8<=140737488355328) <|some (.inl (.l2 (i64.wrap (v0-1)) (v3+1) v4 v5 v6 (v7++[x186]) v8 v9 v10 v11 v12 v13 v14)))
def GL(L:List Int)(kk:Nat)(most v0:Int)(v1:List Int)(v2 v3:Int)(v4:Nat)(v5:List AC)(v6:List (List Int))(v7:List Av)(v8:List Int)(v9 v10 v11 v12 v13 v14 v15:Int):Option (Df⊕Ret):=gu (0<=v2) <|gu (v2<iN v7.length) <|el v7 (0+v2.toNat) fun(x149:Av)=>br (decide (v3<x149.k)) (el v7 (0+v2.toNat) fun(x157:Av)=>br (x157.dep) (el v7 (0+v2.toNat) fun(x166:Av)=>gu (v8.length<=9223372036854775807) <|br (!AR v8 (i64.wrap (x166.b+v3))) (gu ((U4 iV v1).length+[iV (i64.wrap (x166.b+v3))].length<=9223372036854775807) <|gu (((U4 iV v1).length+[iV (i64.wrap (x166.b+v3))].length) * 8<=140737488355328) <|some (.inl (.l4 v0 (v1++[i64.wrap (x166.b+v3)]) v2 (i64.wrap (v3+1)) v4 v5 v6 v7 v8 v9 v10 v11 v12 v13 v14 v15))) (some (.inl (.l4 v0 v1 v2 (i64.wrap (v3+1)) v4 v5 v6 v7 v8 v9 v10 v11 v12 v13 v14 v15)))) (some (.inl (.l3 v0 v1 (i64.wrap (v2+1)) v4 v5 v6 v7 v8 v9 v10 v11 v12 v13 v14 v15)))) (some (.inl (.l3 v0 v1 (i64.wrap (v2+1)) v4 v5 v6 v7 v8 v9 v10 v11 v12 v13 v14 v15)))
def BN(L:List Int)(kk:Nat)(most:Int):Df->Option (Df⊕Ret) | .l0 v0 v1 v2 v3=>IG L kk most v0 v1 v2 v3 | .l1 v0 v1 v2 v3 v4 v5=>II L kk most v0 v1 v2 v3 v4 v5 | .l2 v0 v1 v2 v3 v4 v5 v6 v7 v8 v9 v10 v11 v12=>GC L kk most v0 v1 v2 v3 v4 v5 v6 v7 v8 v9 v10 v11 v12 | .l3 v0 v1 v2 v3 v4 v5 v6 v7 v8 v9 v10 v11 v12 v13 v14=>GP L kk most v0 v1 v2 v3 v4 v5 v6 v7 v8 v9 v10 v11 v12 v13 v14 | .l4 v0 v1 v2 v3 v4 v5 v6 v7 v8 v9 v10 v11 v12 v13 v14 v15=>GL L kk most v0 v1 v2 v3 v4 v5 v6 v7 v8 v9 v10 v11 v12 v13 v14 v15
theorem ntm_ct(L:List Int)(kk:Nat)(most:Int)(r:Ret)(h:Ac (BN L kk most) (J9 L kk most) r):CT Vb 20 ([some (AE L kk)]) ([.ptr 0 0 0,.int .i64 most]) r.1 r.2:=
 CT.mach (fn:=Tryz.f20) (c:=zB Tryz.f20) (S:=(Cv L kk most)) (hd:=Df.ctorIdx) Tryz.func20 (by kernel_rfl) (nL rfl)
  (fun s o ho=>match s,ho with
 | .l0 v0 v1 v2 v3,ho=>Scr.ok (X:=IG L kk most v0 v1 v2 v3) ho mix (
 .rn 0 [] [] [] [] (al (u2 s2)) <|
 .br (fun a0=>
 .rn 0 [49] [] [] [] (aj a0 (al (u2 (u2 (u2 s2))))) <|
 .gu fun a1=>
 .gu fun a2=>
 .gu fun a3=>
 .gu fun a4=>
 .gu fun a5=>
 .gu fun a6=>
 have c0:=Jt (v2.length) a1;
 have c1:=AF (L) v1 (9) a3;
 have c2:=AF (L) (v1+1) (9) a4;
 .rn 0 [] [] [(33,hK c0 [] []),(36,hK c1 [0] []),(39,hK c2 [0] [])] [] (al (u2 (u2 (u2 (aj (k2 (al (c0))) (aj (ak a2) (u2 (aj (ak (k3 (al (c1)))) (u2 (u2 (aj (ak (k3 (al (c2)))) (u2 (aj t4 (u2 (aj (k2 (aj (show(U4 bA v2).length=v2.length by simp) (aj (aj (show nat_lit 3=nat_lit 3 from rfl) (show 1<=[AV.agg [AV.str (ByteArray.mk #[98]++AM v2.length),iv (i64.wrap (Ae L v1 9-4)),iv (i64.wrap (Ae L (v1+1) 9-4))]].length by simp)) (aj a5 a6)))) (u2 (al t3))))))))))))))))) <|
 .gu fun a7=>
 .gu fun a8=>
 .lq [] [(47,AV.tup [])] [] [] [] [0,1,2,6,8] [0,4,5,6] (up [] [(2,[AV.agg [AV.sl 3 0 ((U4 bA v2).length+[AV.agg [AV.str (ByteArray.mk #[98]++AM v2.length),iv (i64.wrap (Ae L v1 9-4)),iv (i64.wrap (Ae L (v1+1) 9-4))]].length),AV.sl 4 0 ((U4 lI v3).length+1),AV.nils,AV.nils,iv 0,iv 0,iv 0,iv 0]]),(3,U4 bA v2++[AV.agg [AV.str (ByteArray.mk #[98]++AM v2.length),iv (i64.wrap (Ae L v1 9-4)),iv (i64.wrap (Ae L (v1+1) 9-4))]]),(4,U4 lI v3++[Va []])] (Cv L kk most (.l0 (i64.wrap (v0-1)) (v1+1+1) (v2++[AC.mk (ByteArray.mk #[98]++AM v2.length) (i64.wrap (Ae L v1 9-4)) (i64.wrap (Ae L (v1+1) 9-4))]) (v3++[[]])))) (aj (aj (u2 (u2 (ak (aj (k2 (aj (show(U4 lI v3).length=v3.length by simp) (aj (aj (show nat_lit 1=nat_lit 1 from rfl) (show nat_lit 1<=nat_lit 1 from(by first | exact nL rfl | decide))) (aj a7 a8)))) (u2 (al t3)))))) (al (u2 (u2 s2)))) (ak (k5 (aj (al t9) t3)))) (by simp[up,upF,upV,upH,upB,Cv,gL,boL,lI,bA,sA]))
 (fun a0=>
 .gu fun a1=>
 .gu fun a2=>
 .gu fun a3=>
 have c0:=rg_c (L) v1 v2 v3 a1 a2 a3;
 .rn 1 [48] [] [(51,hK c0 [0,2,3,4] [])] [] (aj a0 (aj (u2 (al (k5 (aj (al t9) (k2 (al (c0))))))) (al (u2 (u2 (u2 s2)))))) <|
 .gu fun a4=>
 have c1:=AF (L) (rgK L v1 v2 v3) (3) a4;
 .lp [] [] [(56,hK c1 [0] [])] [] [(3005,6)] [0,1,2,3,4,5] [0,4,5,8,9] (aj (al (u2 (aj (ak (k3 (al (c1)))) (u2 s2)))) (k2 (k5 (aj (al t9) t4)))))) (by kernel_rfl)
 | .l1 v0 v1 v2 v3 v4 v5,ho=>Scr.ok (X:=II L kk most v0 v1 v2 v3 v4 v5) ho mix (
 .rn 0 [] [] [] [] (al (u2 s2)) <|
 .br (fun a0=>
 .rn 0 [119] [] [] [] (aj a0 (al (u2 (u2 (u2 s2))))) <|
 .gu fun a1=>
 .gu fun a2=>
 .br (fun a3=>
  .gu fun a4=>
  .gu fun a5=>
  .gu fun a6=>
  have c0:=Jt (v5.length) a1;
  have c1:=AF (L) v2 (iN v3.length) a4;
  have c2:=AF (L) (v2+1) (iN v3.length) a5;
  have c3:=AF (L) (v2+1+1) (3) a6;
  .rn 1 [141] [] [(66,hK c0 [] []),(83,hK c1 [0] []),(88,hK c2 [0] []),(90,hK c3 [0] [])] [] (aj (u2 (aj (k2 (al (c0))) (aj (ak a2) (u2 (u2 (u2 (aj a3 (aj a3 (aj a3 (k3 (aj a3 (ag a3 (u2 (u2 (u2 (u2 (aj (k5 (al (c1))) (u2 (u2 (u2 (u2 (aj (k5 (al (c2))) (u2 (aj (ak (k3 (al (c3)))) (u2 (u2 (aj t7 (ak (al (k2 n11)))))))))))))))))))))))))))))) (al (u2 (u2 (u2 (aj t3 s2)))))) <|
  .gu fun a7=>
  .gu fun a8=>
  .lq [141] [] [] [] [] [0,1,2,3,4,8] [0,4,5,8,9] (up [] [(2,[AV.agg [AV.sl 3 0 v3.length,AV.sl 4 0 v4.length,AV.sl 5 0 ((U4 sA v5).length+[AV.agg [AV.str (ByteArray.mk #[115]++AM v5.length),bV true,iv (Ae L v2 (iN v3.length)),iv (Ae L (v2+1) (iN v3.length)),iv (i64.wrap (1+Ae L (v2+1+1) 3)),iv v0]].length),AV.nils,iv 0,iv 0,iv 0,iv 0]]),(5,U4 sA v5++[AV.agg [AV.str (ByteArray.mk #[115]++AM v5.length),bV true,iv (Ae L v2 (iN v3.length)),iv (Ae L (v2+1) (iN v3.length)),iv (i64.wrap (1+Ae L (v2+1+1) 3)),iv v0]])] (Cv L kk most (.l1 (i64.wrap (v0+i64.wrap (1+Ae L (v2+1+1) 3))) (i64.wrap (v1-1)) (v2+1+1+1) v3 v4 (v5++[Av.mk (ByteArray.mk #[115]++AM v5.length) true (Ae L v2 (iN v3.length)) (Ae L (v2+1) (iN v3.length)) (i64.wrap (1+Ae L (v2+1+1) 3)) v0])))) (aj (aj (u2 (u2 (u2 (u2 (aj (k2 (aj (show(U4 sA v5).length=v5.length by simp) (aj (aj (show nat_lit 6=nat_lit 6 from rfl) (show 1<=[AV.agg [AV.str (ByteArray.mk #[115]++AM v5.length),bV true,iv (Ae L v2 (iN v3.length)),iv (Ae L (v2+1) (iN v3.length)),iv (i64.wrap (1+Ae L (v2+1+1) 3)),iv v0]].length by simp)) (aj a7 a8)))) (u2 (al t3))))))) (al (u2 (u2 s2)))) (k2 (k5 (aj (al t9) t4)))) (by simp[up,upF,upV,upH,upB,Cv,gL,boL,lI,bA,sA]))
 (fun a3=>
  .br (fun a4=>
  .gu fun a5=>
  .gu fun a6=>
  .gu fun a7=>
  .gu fun a8=>
  have c0:=Jt (v5.length) a1;
  have c1:=AF (L) v2 (2) a5;
  have c2:=AF (L) (v2+1) (iN v3.length) a6;
  have c3:=AF (L) (v2+1+1) (iN v3.length) a7;
  have c4:=AF (L) (v2+1+1+1) (3) a8;
  .rn 1 [140,147] [] [(66,hK c0 [] []),(75,hK c1 [0] []),(83,hK c2 [0] []),(88,hK c3 [0] []),(90,hK c4 [0] [])] [] (aj (u2 (aj (k2 (al (c0))) (aj (ak a2) (u2 (u2 (u2 (ag a3 (ag a3 (ag a3 (ag a4 (aj (aj a4 (ak (k3 (al (c1))))) (ag a4 (aj (aj a3 (aj a4 t2)) (ag a3 (u2 (u2 (u2 (u2 (aj (k5 (al (c2))) (u2 (u2 (u2 (u2 (aj (k5 (al (c3))) (u2 (aj (ak (k3 (al (c4)))) (u2 (u2 (aj t7 (ak (al (k2 n11)))))))))))))))))))))))))))))))) (al (u2 (u2 (u2 (aj t3 s2)))))) <|
  .gu fun a9=>
  .gu fun a10=>
  .lq [140,147] [] [] [] [] [0,1,2,3,4,8] [0,4,5,8,9] (up [] [(2,[AV.agg [AV.sl 3 0 v3.length,AV.sl 4 0 v4.length,AV.sl 5 0 ((U4 sA v5).length+[AV.agg [AV.str (ByteArray.mk #[115]++AM v5.length),bV (Ae L v2 2==0),iv (Ae L (v2+1) (iN v3.length)),iv (Ae L (v2+1+1) (iN v3.length)),iv (i64.wrap (1+Ae L (v2+1+1+1) 3)),iv v0]].length),AV.nils,iv 0,iv 0,iv 0,iv 0]]),(5,U4 sA v5++[AV.agg [AV.str (ByteArray.mk #[115]++AM v5.length),bV (Ae L v2 2==0),iv (Ae L (v2+1) (iN v3.length)),iv (Ae L (v2+1+1) (iN v3.length)),iv (i64.wrap (1+Ae L (v2+1+1+1) 3)),iv v0]])] (Cv L kk most (.l1 (i64.wrap (v0+i64.wrap (1+Ae L (v2+1+1+1) 3))) (i64.wrap (v1-1)) (v2+1+1+1+1) v3 v4 (v5++[Av.mk (ByteArray.mk #[115]++AM v5.length) (Ae L v2 2==0) (Ae L (v2+1) (iN v3.length)) (Ae L (v2+1+1) (iN v3.length)) (i64.wrap (1+Ae L (v2+1+1+1) 3)) v0])))) (aj (aj (u2 (u2 (u2 (u2 (aj (k2 (aj (show(U4 sA v5).length=v5.length by simp) (aj (aj (show nat_lit 6=nat_lit 6 from rfl) (show 1<=[AV.agg [AV.str (ByteArray.mk #[115]++AM v5.length),bV (Ae L v2 2==0),iv (Ae L (v2+1) (iN v3.length)),iv (Ae L (v2+1+1) (iN v3.length)),iv (i64.wrap (1+Ae L (v2+1+1+1) 3)),iv v0]].length by simp)) (aj a9 a10)))) (u2 (al t3))))))) (al (u2 (u2 s2)))) (k2 (k5 (aj (al t9) t4)))) (by simp[up,upF,upV,upH,upB,Cv,gL,boL,lI,bA,sA]))
  (fun a4=>
  .gu fun a5=>
  .gu fun a6=>
  .gu fun a7=>
  have c0:=Jt (v5.length) a1;
  have c1:=AF (L) v2 (iN v3.length) a5;
  have c2:=AF (L) (v2+1) (iN v3.length) a6;
  have c3:=AF (L) (v2+1+1) (3) a7;
  .rn 1 [140,146] [] [(66,hK c0 [] []),(83,hK c1 [0] []),(88,hK c2 [0] []),(90,hK c3 [0] [])] [] (aj (u2 (aj (k2 (al (c0))) (aj (ak a2) (u2 (u2 (u2 (ag a3 (ag a3 (ag a3 (aj a4 (aj a4 (aj a4 (aj (aj a3 (aj a4 t2)) (ag a3 (u2 (u2 (u2 (u2 (aj (k5 (al (c1))) (u2 (u2 (u2 (u2 (aj (k5 (al (c2))) (u2 (aj (ak (k3 (al (c3)))) (u2 (u2 (aj t7 (ak (al (k2 n11)))))))))))))))))))))))))))))))) (al (u2 (u2 (u2 (aj t3 s2)))))) <|
  .gu fun a8=>
  .gu fun a9=>
  .lq [140,146] [] [] [] [] [0,1,2,3,4,8] [0,4,5,8,9] (up [] [(2,[AV.agg [AV.sl 3 0 v3.length,AV.sl 4 0 v4.length,AV.sl 5 0 ((U4 sA v5).length+[AV.agg [AV.str (ByteArray.mk #[115]++AM v5.length),bV false,iv (Ae L v2 (iN v3.length)),iv (Ae L (v2+1) (iN v3.length)),iv (i64.wrap (1+Ae L (v2+1+1) 3)),iv v0]].length),AV.nils,iv 0,iv 0,iv 0,iv 0]]),(5,U4 sA v5++[AV.agg [AV.str (ByteArray.mk #[115]++AM v5.length),bV false,iv (Ae L v2 (iN v3.length)),iv (Ae L (v2+1) (iN v3.length)),iv (i64.wrap (1+Ae L (v2+1+1) 3)),iv v0]])] (Cv L kk most (.l1 (i64.wrap (v0+i64.wrap (1+Ae L (v2+1+1) 3))) (i64.wrap (v1-1)) (v2+1+1+1) v3 v4 (v5++[Av.mk (ByteArray.mk #[115]++AM v5.length) false (Ae L v2 (iN v3.length)) (Ae L (v2+1) (iN v3.length)) (i64.wrap (1+Ae L (v2+1+1) 3)) v0])))) (aj (aj (u2 (u2 (u2 (u2 (aj (k2 (aj (show(U4 sA v5).length=v5.length by simp) (aj (aj (show nat_lit 6=nat_lit 6 from rfl) (show 1<=[AV.agg [AV.str (ByteArray.mk #[115]++AM v5.length),bV false,iv (Ae L v2 (iN v3.length)),iv (Ae L (v2+1) (iN v3.length)),iv (i64.wrap (1+Ae L (v2+1+1) 3)),iv v0]].length by simp)) (aj a8 a9)))) (u2 (al t3))))))) (al (u2 (u2 s2)))) (k2 (k5 (aj (al t9) t4)))) (by simp[up,upF,upV,upH,upB,Cv,gL,boL,lI,bA,sA]))))
 (fun a0=>
 .gu fun a1=>
 .gu fun a2=>
 .gu fun a3=>
 .gu fun a4=>
 have c0:=AF (L) v2 (4) a1;
 have c1:=AF (L) (v2+1) (3) a2;
 have c2:=AF (L) (v2+1+1) (3) a3;
 have c3:=AF (L) (v2+1+1+1) (8) a4;
 .rn 0 [118] [] [(105,hK c0 [0] []),(108,hK c1 [0] []),(110,hK c2 [0] []),(112,hK c3 [0] [])] [] (aj a0 (al (u2 (aj (ak (k3 (al (c0)))) (u2 (u2 (aj (ak (k3 (al (c1)))) (u2 (aj (ak (k3 (al (c2)))) (u2 (aj (ak (k3 (al (c3)))) (u2 (aj t5 (u2 (al t3))))))))))))))) <|
 .gu fun a5=>
 .gu fun a6=>
 have c4:=fl_c v3 v4 v5 (i64.wrap (1+Ae L v2 4)) (Ae L (v2+1) 3) (Ae L (v2+1+1) 3) (i64.wrap (1+Ae L (v2+1+1+1) 8)) a5 a6;
 .rn 0 [] [] [(118,hK c4 [] [3,4,5])] [] (al (u2 (aj (ak (aj (aj (show v3.length=(U4 bA v3).length by simp) (aj (show v4.length=(U4 lI v4).length by simp) (aj (show v5.length=(U4 sA v5).length by simp) t6))) (aj (c4) (show ∀(blk:Blk),blk∈[]->A5 blk from(by intro _ h;cases h))))) (u2 (u2 (u2 (ak (aj (k2 n11) s2)))))))) <|
 .gu fun a7=>
 have c5:=AF (L) (v2+1+1+1+1) (3) a7;
 .lp [] [] [(122,hK c5 [0] [])] [] [(4005,1)] [0,1,2,6,3,4,5,7] [0,4,5,12,14] (aj (al (u2 (aj (ak (k3 (al (c5)))) (u2 s2)))) (k2 (k5 (aj (al t9) t6)))))) (by kernel_rfl)
 | .l2 v0 v1 v2 v3 v4 v5 v6 v7 v8 v9 v10 v11 v12,ho=>Scr.ok (X:=GC L kk most v0 v1 v2 v3 v4 v5 v6 v7 v8 v9 v10 v11 v12) ho mix (
 .br (fun a0=>
 .rn 0 [253] [] [] [] (al (u2 (u2 (u2 (ag a0 (ag a0 (ag a0 (ag a0 (ag a0 (aj (aj a0 t3) (al (aj a0 t2)))))))))))) <|
 .br (fun a1=>
  .lp [253,267] [] [] [] [(15,1)] [0,1,2,3,8,4,5,6,7] [0,4,5,12,14,15,16] (aj (aj a1 (u2 s2)) (ak (k3 (k5 (aj (al t9) t7))))))
 (fun a1=>
  .rt [253,266] [] [] [] [0] [4,5,6,7] (aj (aj a1 (al (u2 (al (k2 n11))))) (aj (aj (show v2.length=(U4 bA v2).length by simp) (aj (show v3.length=(U4 lI v3).length by simp) (aj (show v4.length=(U4 sA v4).length by simp) (aj (show v5.length=(U4 iv v5).length by simp) t5)))) t2))))
 (fun a0=>
 .rt [252] [] [] [] [0] [4,5,6,7] (aj (aj (u2 (u2 (u2 (aj a0 (aj a0 (aj a0 (aj a0 (aj a0 (aj a0 (al (aj a0 t2))))))))))) (ak (al (u2 (al (k2 n11)))))) (aj (aj (show v2.length=(U4 bA v2).length by simp) (aj (show v3.length=(U4 lI v3).length by simp) (aj (show v4.length=(U4 sA v4).length by simp) (aj (show v5.length=(U4 iv v5).length by simp) t5)))) t2)))) (by kernel_rfl)
 | .l3 v0 v1 v2 v3 v4 v5 v6 v7 v8 v9 v10 v11 v12 v13 v14,ho=>Scr.ok (X:=GP L kk most v0 v1 v2 v3 v4 v5 v6 v7 v8 v9 v10 v11 v12 v13 v14) ho mix (
 .rn 0 [] [] [] [] (al (u2 (u2 (u2 (u2 (al t3)))))) <|
 .br (fun a0=>
 .lp [281] [] [] [] [] [0,1,2,3,4,5,6,7,8] [0,4,5,12,14,15,16,17] (aj (aj a0 s2) (k5 (k5 (aj (al t9) t7)))))
 (fun a0=>
 .gu fun a1=>
 .gu fun a2=>
 .gu fun a3=>
 .el fun x186 a4=>
 .gu fun a5=>
 .gu fun a6=>
 have c0:=AF (L) v3 (iN v1.length) a1;
 .lq [280] [(186,iv x186)] [(184,hK c0 [0] [])] [] [] [0,1,2,3,5,6,7,10] [0,4,5,12,14] (up [] [(2,[AV.agg [AV.sl 4 0 v4.length,AV.sl 5 0 v5.length,AV.sl 6 0 v6.length,AV.sl 7 0 ((U4 iv v7).length+[iv x186].length),iv v8,iv v9,iv v10,iv v11]]),(7,U4 iv v7++[iv x186])] (Cv L kk most (.l2 (i64.wrap (v0-1)) (v3+1) v4 v5 v6 (v7++[x186]) v8 v9 v10 v11 v12 v13 v14))) (aj (aj a0 (aj (u2 (u2 (u2 (u2 (u2 (u2 (aj (k5 (al (c0))) (aj (k2 (aj a2 a3)) (aj (ak (Af (f:=iv) a4)) (u2 (aj (k2 (aj (show(U4 iv v7).length=v7.length by simp) (aj (aj (show nat_lit 1=nat_lit 1 from rfl) (show 1<=[iv x186].length by simp)) (aj a5 a6)))) (u2 (al t3))))))))))))) (al (u2 (u2 s2))))) (k2 (k5 (aj (al t9) t6)))) (by simp[up,upF,upV,upH,upB,Cv,gL,boL,lI,bA,sA]))) (by kernel_rfl)
 | .l4 v0 v1 v2 v3 v4 v5 v6 v7 v8 v9 v10 v11 v12 v13 v14 v15,ho=>Scr.ok (X:=GL L kk most v0 v1 v2 v3 v4 v5 v6 v7 v8 v9 v10 v11 v12 v13 v14 v15) ho mix (
 .gu fun a0=>
 .gu fun a1=>
 .el fun x149 a2=>
 .br (fun a3=>
 .el fun x157 a4=>
 .rn 0 [303] [(149,sA x149),(157,sA x157)] [] [] (al (u2 (u2 (u2 (u2 (aj (k2 (aj a0 a1)) (u2 (aj (ak (Af (f:=sA) a2)) (aj t3 (u2 (ag a3 (ag a3 (ag a3 (aj (aj a3 (k2 (aj a0 a1))) (ag a3 (aj (aj a3 (ak (Af (f:=sA) a4))) (al (aj a3 t2)))))))))))))))))) <|
 .br (fun a5=>
  .el fun x166 a6=>
  .rn 0 [303,317] [(166,sA x166)] [] [] (aj a5 (al (u2 (u2 (u2 (aj (k2 (aj a0 a1)) (u2 (aj (ak (Af (f:=sA) a6)) (u2 (aj t3 s2)))))))))) <|
  .gu fun a7=>
  have c0:=EB v8 (i64.wrap (x166.b+v3)) a7;
  .rn 0 [303] [] [(172,hK c0 [] [8])] [] (al (u2 (u2 (u2 (aj (k2 (aj (show v8.length=(U4 iv v8).length by simp) (ak (aj (c0) (show ∀(blk:Blk),blk∈[]->A5 blk from(by intro _ h;cases h)))))) s2))))) <|
  .br (fun a8=>
  .gu fun a9=>
  .gu fun a10=>
  .lq [303,347] [] [] [] [] [0,1,2,3,10,5,6,7,8] [0,4,5,12,14,15,16,17] (up [(15,AV.sl 4 0 ((U4 iv v1).length+[iv (i64.wrap (x166.b+v3))].length))] [(4,U4 iv v1++[iv (i64.wrap (x166.b+v3))])] (Cv L kk most (.l4 v0 (v1++[i64.wrap (x166.b+v3)]) v2 (i64.wrap (v3+1)) v4 v5 v6 v7 v8 v9 v10 v11 v12 v13 v14 v15))) (aj (aj a8 (aj (u2 (u2 (u2 (aj (k2 (aj (show(U4 iv v1).length=v1.length by simp) (aj (aj (show nat_lit 1=nat_lit 1 from rfl) (show 1<=[iv (i64.wrap (x166.b+v3))].length by simp)) (aj a9 a10)))) s2)))) (al (u2 (u2 s2))))) (k5 (k5 (aj (al t9) t7)))) (by simp[up,upF,upV,upH,upB,Cv,gL,boL,lI,bA,sA]))
  (fun a8=>
  .lp [303,346] [] [] [] [] [0,1,2,3,4,5,6,7,8] [0,4,5,12,14,15,16,17] (aj (aj a8 (al (u2 (u2 s2)))) (k5 (k5 (aj (al t9) t7))))))
 (fun a5=>
  .lp [303,316] [] [] [] [] [0,1,2,3,4,5,6,7,8] [0,4,5,12,14,15,16] (aj (aj a5 (al (u2 (u2 s2)))) (ak (k3 (k5 (aj (al t9) t7)))))))
 (fun a3=>
 .lp [302] [(149,sA x149)] [] [] [] [0,1,2,3,4,5,6,7,8] [0,4,5,12,14,15,16] (aj (aj (u2 (u2 (u2 (u2 (aj (k2 (aj a0 a1)) (u2 (aj (ak (Af (f:=sA) a2)) (aj t3 (u2 (aj a3 (aj a3 (aj a3 (aj a3 (aj a3 (aj a3 (al (aj a3 t2))))))))))))))))) (ak (al (u2 (u2 s2))))) (ak (k3 (k5 (aj (al t9) t7))))))) (by kernel_rfl)
  )
  (fun o ho=>Scr.ok (X:=J9 L kk most) ho mix (
 .rn 1 [] [] [] [] (u2 s2) <|
 .gu fun a0=>
 have c0:=AF (L) (kk) (most) a0;
 .lp [] [] [(21,hK c0 [0] [])] [] [(2005,1),(1005,3)] [0,1,2,4,3] [0,4,5,6] (aj (al (u2 (u2 (aj (k5 (al (c0))) (u2 s2))))) (ak (k5 (aj (al t9) t3))))) (by kernel_rfl)) h
def BkI(bs:List AC):Prop:=∀(i:Nat) (b:AC),bs[i]?=some b->b.nm=JT i/\-4<=b.x/\b.x<=4/\-4<=b.y/\b.y<=4
def bsS(K:Nat)(ss:List Av)(i:Nat):Int:=(K:Int)+((ss.take i).map (·.k)).sum
structure SpE(K:Nat)(ss:List Av)(i:Nat)(s:Av):Prop where
 nm:s.nm=Jl i
 d0:i=0->s.dep=true
 d1:i=1\/i=2->s.dep=false
 hi:0<=s.i/\s.i<(K:Int)
 ho:0<=s.o/\s.o<(K:Int)
 hk:1<=s.k/\s.k<=3
 hb:s.b=bsS K ss i
def SpI(K:Nat)(ss:List Av):Prop:=∀(i:Nat) (s:Av),ss[i]?=some s->SpE K ss i s
theorem SpI.snoc{K:Nat}{ss:List Av}(h:SpI K ss){s:Av}(hs:SpE K ss ss.length s):SpI K (ss++[s])/\bsS K (ss++[s]) (ss.length+1)=bsS K ss ss.length+s.k:=by
 have e:∀i,i<=ss.length->bsS K (ss++[s]) i=bsS K ss i:=fun i hi=>by unfold bsS;rw[List.take_append_of_le_length hi]
 refine⟨fun i t ht=>?_,?_⟩
 .by_cases hi:i<ss.length
  .rw[List.getElem?_append_left hi] at ht;have g:=h i t ht;exact⟨g.nm,g.d0,g.d1,g.hi,g.ho,g.hk,by rw[e i (by omega)];exact g.hb⟩
  .have hl:=(Uh.1 ht).1;rw[Uy,UQ] at hl;obtain rfl:i=ss.length:=by omega
   rw[List.getElem?_append_right (Uq _),TZ] at ht;obtain rfl:s=t:=by simpa using ht
   exact⟨hs.nm,hs.d0,hs.d1,hs.hi,hs.ho,hs.hk,by rw[e _ (Uq _)];exact hs.hb⟩
 .unfold bsS;rw[List.take_of_length_le (by simp),List.take_length];simp;omega
theorem row_ok{b v:Nat}{r:List Int}(h:Gv b v r):nxB r v b=true:=by
 have hf:fnd (nxE r v b) 0 r.length=none:=LL fun k _ hk=>by
  have hk:k<r.length:=by omega
  have hm:r.getD k 0∈r:=by rw[EZ hk];exact UJ hk
  obtain⟨h1,h2,h3⟩:=h.el _ hm;have h4:Bl r k<r.getD k 0:=by
   unfold Bl;split
   .omega
   .rw[EZ hk,EZ (show k-1<r.length by omega)];exact List.pairwise_iff_getElem.1 h.asc _ _ _ _ (by omega)
  unfold nxE;simp only[Bool.or_eq_false_iff,decide_eq_false_iff_not,UN];exact⟨⟨by omega,by omega⟩,h3⟩
 unfold nxB;rw[hf];simp[h.len]
theorem OT{bs:List AC}{g:List (List Int)}{ss:List Av}{rs:List Int}{q a d p:Int}(hK:1<=bs.length/\bs.length<=24)(hb:BkI bs)(hg:GK bs.length g)(hs:SpI bs.length ss)(hl:3<=ss.length/\ss.length<=5)(hq:1<=q/\q<=4)(ha:0<=a/\a<=2)(hd:0<=d/\d<=2)(hp:1<=p/\p<=8)
  (hr:rs.length<=8) (hrs:∀(i:Nat) c,rs[i]?=some c->Cp ⟨bs,g,ss,rs,q,a,d,p⟩ ss.length c/\c∉rs.take i):Aq ⟨bs,g,ss,rs,q,a,d,p⟩:=by
 have hi6:∀{i:Nat} {s:Av},ss[i]?=some s->i<6:=fun h=>by have:=(Uh.1 h).1;omega
 have hi24:∀{i:Nat} {b:AC},bs[i]?=some b->i<24:=fun h=>by have:=(Uh.1 h).1;omega
 refine⟨Bj.2 (by simp only;omega),hg.len,by simp only;omega,hr,?_,fun i b h=>?_,fun i s h=>?_,?_,?_,hrs⟩
 .unfold CH;simp only[Un,Bj];omega
 .obtain⟨h1,h2⟩:=hb i b h;exact⟨by rw[h1];exact nmBk_ok i (hi24 h),Bj.2 (by omega),Bj.2 (by omega),row_ok (hg.row i (Uh.1 h).1)⟩
 .have e:=hs i s h;have e1:=e.hi;have e2:=e.ho;have e3:=e.hk;exact⟨by rw[e.nm];exact nmSp_ok i (hi6 h),Bj.2 (by simp only;omega),Bj.2 (by simp only;omega),Bj.2 (by omega),e.hb⟩
 .unfold Bc;rw[List.nodup_append];refine⟨?_,?_,?_⟩
  .rw[List.nodup_iff_pairwise_ne,List.pairwise_iff_getElem];intro i j ha hb' hab he;simp only[List.getElem_map] at he;have ga:=Uf (l:=bs) (i:=i) (by simpa using ha);have gb:=Uf (l:=bs) (i:=j) (by simpa using hb');rw[(hb i _ ga).1,(hb j _ gb).1] at he;have:=nmBk_inj i (hi24 ga) j (hi24 gb) he;omega
  .rw[List.nodup_iff_pairwise_ne,List.pairwise_iff_getElem];intro i j ha hb' hab he;simp only[List.getElem_map] at he;have ga:=Uf (l:=ss) (i:=i) (by simpa using ha);have gb:=Uf (l:=ss) (i:=j) (by simpa using hb');rw[(hs i _ ga).nm,(hs j _ gb).nm] at he;have:=nmSp_inj i (hi6 ga) j (hi6 gb) he;omega
  .intro a ha b' hb' he;obtain⟨s,hs',rfl⟩:=UI.1 ha;obtain⟨t,ht,rfl⟩:=UI.1 hb';obtain⟨i,hi⟩:=List.mem_iff_getElem?.1 hs';obtain⟨j,hj⟩:=List.mem_iff_getElem?.1 ht;rw[(hb i s hi).1,(hs j t hj).nm] at he;exact nm_dis i (hi24 hi) j (hi6 hj) he
 .obtain⟨s,h⟩:∃s,ss[0]?=some s:=⟨_,Uf (by omega)⟩;have e:=hs 0 s h;have e3:=e.hk;refine⟨s.b,s,?_,e.d0 rfl,by omega,by omega⟩;rw[List.take_length];exact Uj h
structure I0(n:Aa):Prop where
 v:Aq n
 ln:3<=n.ss.length/\n.ss.length<=5
 d0:∀s,n.ss[0]?=some s->s.dep=true
 d1:∀s,n.ss[1]?=some s->s.dep=false
 d2:∀s,n.ss[2]?=some s->s.dep=false
 rows:Rows n.nx
abbrev D8(kk:Nat):={p:Aa×Nat // I0 p.1/\p.2<=kk+200}
def Eu(L:List Int){kk:Nat}(p:D8 kk):Ret:=([some (AE L p.1.2)],Ai p.1.1)
theorem OS{l:List Int}{x y:Int}(h:x<=y):l.countP (fun z=>decide (z<x))<=l.countP (fun z=>decide (z<y)):=List.countP_mono_left fun z _ hz=>by simp only[decide_eq_true_eq] at hz ⊢;omega
theorem Qv{x:Int}:∀{l:List Int},x∈l->l.countP (fun z=>decide (z<x))+1<=l.countP (fun z=>decide (z<x+1))
 | y::t,h=>by
  rw[List.countP_cons,List.countP_cons];have m:=OS (l:=t) (show x<=x+1 by omega);rcases UG.1 h with e | h
  .subst e;rw[Ue (by simp),Ud (by simp;omega)];omega
  .have ih:=Qv h;by_cases hy:y<x
   .rw[Ud (by simpa using hy),Ud (by simp;omega)];omega
   .rw[Ue (by simpa using hy)];split<;>omega
theorem rep_f(c j:Nat):(U5 c false).getD j false=false:=by rw[Ug,UD];split<;>rfl
theorem slT_all{n:Aa}{c i:Nat}{s:Av}(hs:n.ss[i]?=some s):slT n (U5 c false) i=if s.dep=true then s.k else 0:=by
 have ho:opB n (U5 c false) (i:Int)=true:=by unfold opB;rw[Uo,hs];unfold Jj;simp only[rep_f];rw[LL fun _ _ _=>rfl];rfl
 unfold slT;rw[ho,Ug,hs];simp
def RbI(n:Aa)(rs:List Int):Prop:=∀(i:Nat) c,rs[i]?=some c->Cp n n.ss.length c/\c∉rs.take i
theorem RbI.snoc{n:Aa}{rs:List Int}(h:RbI n rs){x:Int}(hd:Cp n n.ss.length x)(hx:x∉rs):RbI n (rs++[x]):=fun i c hc=>by
 by_cases hi:i<rs.length
 .rw[List.getElem?_append_left hi] at hc;rw[List.take_append_of_le_length (by omega)];exact h i c hc
 .have hl:=(Uh.1 hc).1;rw[Uy,UQ] at hl;obtain rfl:i=rs.length:=by omega
  rw[List.getElem?_append_right (Uq _),TZ] at hc;obtain rfl:x=c:=by simpa using hc
  rw[List.take_append_of_le_length (Uq _),List.take_length];exact⟨hd,hx⟩
theorem GK.rows{b:Nat}{g:List (List Int)}(h:GK b g):Rows g:=fun v hv=>by have:=(h.row v (by rw[<-h.len];exact hv)).len;omega
theorem net2_ex{L:List Int}{kk:Nat}{most:Int}{bs:List AC}{g:List (List Int)}{ss:List Av}{q a d p e z c:Int}(hK:1<=bs.length/\bs.length<=24)(hb:BkI bs)(hg:GK bs.length g)(hs:SpI bs.length ss)(hl:3<=ss.length/\ss.length<=5)(hq:1<=q/\q<=4)(ha:0<=a/\a<=2)(hd:0<=d/\d<=2)(hp:1<=p/\p<=8)(hkk:kk<=5000)
  (hc:c<=slS (flN bs g ss q a d p) (U5 (Al (flN bs g ss q a d p)) false)):∀(m t:Nat) (rs:List Int),rs.length+m<=3->t+m<=kk+200->RbI (flN bs g ss q a d p) rs->∃w:D8 kk,Ac (BN L kk most) (some (.inl (.l2 (m:Int) t bs g ss rs q a d p e z c))) (Eu L w):=by
 have fin:∀{t:Nat} {rs:List Int},rs.length<=3->t<=kk+200->RbI (flN bs g ss q a d p) rs->∃w:D8 kk,Ac (BN L kk most) (some (.inr ([some (Blk.mk [AV.agg [Va (U4 (AV.int .i64) L),.int .i64 (iN t)]] 2 true true none)],AV.agg [Va (U4 bA bs),Va (U4 lI g),Va (U4 sA ss),Va (U4 (AV.int .i64) rs),.int .i64 q,.int .i64 a,.int .i64 d,.int .i64 p]))) (Eu L w):=fun {t rs} h1 h2 h3=>
  ⟨⟨(⟨bs,g,ss,rs,q,a,d,p⟩,t),⟨OT hK hb hg hs hl hq ha hd hp (by omega) h3,hl,fun s h=>(hs 0 s h).d0 rfl,fun s h=>(hs 1 s h).d1 (.inl rfl),fun s h=>(hs 2 s h).d1 (.inr rfl),hg.rows⟩,h2⟩,.ret _⟩
 generalize hn:flN bs g ss q a d p=n at hc fin;have hnss:n.ss=ss:=by rw[<-hn];rfl
 have hnb:∀i s,ss[i]?=some s->s.b=AP n i:=fun i s h=>by rw[<-hn];exact(hs i s h).hb
 have hv:Aq n:=by rw[<-hn];exact OT hK hb hg hs hl hq ha hd hp (Ur _) fun i c h=>by simp at h
 have hnl:n.bs.length=bs.length:=by rw[<-hn];rfl
 generalize Al n=cel at hc;intro m;induction m with
 | zero=>intro t rs h1 h2 h3;refine Ay (show BN L kk most (.l2 (0:Nat) t bs g ss rs q a d p e z c)=GC L kk most (0:Nat) t bs g ss rs q a d p e z c from rfl) ?_;unfold GC;rw[Ad (Uk (by omega))];exact fin (by omega) (by omega) h3
 | succ m ih=>
  intro t rs h1 h2 h3;refine Ay (show BN L kk most (.l2 ((m+1:Nat):Int) t bs g ss rs q a d p e z c)=GC L kk most ((m+1:Nat):Int) t bs g ss rs q a d p e z c from rfl) ?_;unfold GC;rw[Ag (Ul (by omega))];refine BK (fun hlt=>?_) fun _=>fin (by omega) (by omega) h3
  have e3:∀(j i:Nat) (fr:List Int),i+j=ss.length->(∀y∈fr,Cp n n.ss.length y/\y∉rs)->slI n (U5 cel false) i<=fr.length+rs.countP (fun z=>decide (z<AP n i))->fr.length<=4 * i->∃w:D8 kk,Ac (BN L kk most) (some (.inl (.l3 ((m+1:Nat):Int) fr (i:Int) t bs g ss rs q a d p e z c))) (Eu L w):=by
   intro j;induction j with
   | zero=>
    intro i fr hi hf hcnt hfl;obtain rfl:i=ss.length:=by omega
    refine Ay (show BN L kk most (.l3 ((m+1:Nat):Int) fr (ss.length:Int) t bs g ss rs q a d p e z c)=GP L kk most ((m+1:Nat):Int) fr (ss.length:Int) t bs g ss rs q a d p e z c from rfl) ?_;have hpos:1<=fr.length:=by have:=List.countP_le_length (p:=fun z=>decide (z<AP n ss.length)) (l:=rs);unfold slS at hc;rw[hnss] at hc;simp only[iN] at hlt;omega
    have r:=Bz L t (iN fr.length) (by simp only[iN];omega) (by simp only[iN];omega);unfold GP;rw[Ad (Uk (by simp only[iN];omega)),Ab (by omega),Ab r.1,Ab r.2,Uu];simp only[iN] at r;have hx:=Uf (l:=fr) (i:=(Ae L t (iN fr.length)).toNat) (by simp only[iN];omega);rw[Ak hx,Ab (by simp only[Ui,UQ];omega),Ab (by simp only[Ui,UQ];omega),A3 _ (by omega) (by omega),show((m+1:Nat):Int)-1=(m:Int) by omega];have hm:=hf _ (Uj hx);exact ih (t+1) _ (by simp;omega) (by omega) (h3.snoc hm.1 hm.2)
   | succ j ih3=>
    intro i fr hi hf hcnt hfl;have hsi:ss[i]?=some ss[i]:=Uf (by omega);have hsn:n.ss[i]?=some ss[i]:=by rw[hnss];exact hsi
    have hSe:=hs i _ hsi;have hb0:=hnb i _ hsi;have hbd:=hv.bd i;have hS1:slI n (U5 cel false) (i+1)=slI n (U5 cel false) i+if ss[i].dep=true then ss[i].k else 0:=by rw[<-slT_all (c:=cel) hsn];rfl
    have hB1:=CK hsn;refine Ay (show BN L kk most (.l3 ((m+1:Nat):Int) fr (i:Int) t bs g ss rs q a d p e z c)=GP L kk most ((m+1:Nat):Int) fr (i:Int) t bs g ss rs q a d p e z c from rfl) ?_;unfold GP;rw[Ag (Ul (by simp only[iN];omega))];generalize ss[i]=s at hsi hsn hSe hb0 hS1 hB1;have hk:=hSe.hk;have e4:∀(j k:Nat) (fr:List Int),(k:Int)+j=s.k->(∀y∈fr,Cp n n.ss.length y/\y∉rs)->slI n (U5 cel false) i+(if s.dep=true then (k:Int) else 0)<=fr.length+rs.countP (fun z=>decide (z<s.b+k))->fr.length<=4 * i+k->∃w:D8 kk,Ac (BN L kk most) (some (.inl (.l4 ((m+1:Nat):Int) fr (i:Int) (k:Int) t bs g ss rs q a d p e z c))) (Eu L w):=by
     intro j;induction j with
     | zero=>intro k fr hk1 hf hcnt hfl;refine Ay (show BN L kk most (.l4 ((m+1:Nat):Int) fr (i:Int) (k:Int) t bs g ss rs q a d p e z c)=GL L kk most ((m+1:Nat):Int) fr (i:Int) (k:Int) t bs g ss rs q a d p e z c from rfl) ?_;unfold GL;rw[Ab (by omega),Ab (by simp only[iN];omega),Uu,Uo,Ak hsi,Ad (Uk (by omega)),zW i (by omega)];refine ih3 (i+1) fr (by omega) hf ?_ (by omega);rw[hS1,hB1,<-hb0];rw[show (k:Int)=s.k by omega] at hcnt;exact hcnt
     | succ j ih4=>
      intro k fr hk1 hf hcnt hfl;refine Ay (show BN L kk most (.l4 ((m+1:Nat):Int) fr (i:Int) (k:Int) t bs g ss rs q a d p e z c)=GL L kk most ((m+1:Nat):Int) fr (i:Int) (k:Int) t bs g ss rs q a d p e z c from rfl) ?_;unfold GL;rw[Ab (by omega),Ab (by simp only[iN];omega),Uu,Uo,Ak hsi,Ag (Ul (by omega)),Ak hsi];cases hdp:s.dep with
      | false=>
       rw[Ad rfl,zW i (by omega)];refine ih3 (i+1) fr (by omega) hf ?_ (by omega);have:=OS (l:=rs) (show s.b+(k:Int)<=s.b+s.k by omega);rw[hdp] at hcnt hS1;rw[hS1,hB1,<-hb0];simp only[Bool.false_eq_true,if_false] at hcnt ⊢
       omega
      | true=>
       rw[hdp] at hcnt;rw[Ag rfl,Ak hsi,Ab (by omega),A3 _ (by omega) (by omega),zW k (by omega)];have hmo:=OS (l:=rs) (show s.b+(k:Int)<=s.b+(k:Int)+1 by omega);simp only[if_true] at hcnt;refine Am (fun hz=>?_) fun hz=>?_
       .rw[Ab (by simp only[Ui,UQ];omega),Ab (by simp only[Ui,UQ];omega)];refine ih4 (k+1) _ (by omega) (fun y hy=>?_) ?_ (by simp;omega)
        .rcases UH.1 hy with hy | hy
         .exact hf y hy
         .rw[T7.1 hy];refine⟨⟨s,?_,hdp,by omega,by omega⟩,Ln (by simpa using hz)⟩;rw[List.take_length];exact Uj hsn
        .rw[hdp,Ud rfl,show s.b+((k+1:Nat):Int)=s.b+(k:Int)+1 by omega,Uy,UQ];omega
       .refine ih4 (k+1) fr (by omega) hf ?_ (by omega);have:=Qv (Fo.1 (show AR rs (s.b+(k:Int))=true by simpa using hz));rw[hdp,Ud rfl,show s.b+((k+1:Nat):Int)=s.b+(k:Int)+1 by omega];omega
    refine e4 s.k.toNat 0 fr (by omega) hf ?_ (by omega);rw[show s.b+((0:Nat):Int)=AP n i by rw[<-hb0];omega];split<;>simpa using hcnt
  exact e3 ss.length 0 [] (Uu _) (fun y hy=>by cases hy) (by simp[slI]) (Ur _)
theorem QW(n:Nat):(AM n).size<=2:=by unfold AM;split<;>exact nL rfl
theorem net_ex(L:List Int)(kk:Nat)(hkk:kk<=5000)(most:Int)(hmo:1<=most/\most<=20):∃w:D8 kk,Ac (BN L kk most) (J9 L kk most) (Eu L w):=by
 have r0:=Bz L kk most (by omega) (by omega);have e1:∀(bs:List AC) (g:List (List Int)),1<=bs.length/\bs.length<=24->BkI bs->GK bs.length g->∀(m t:Nat) (ss:List Av),3<=ss.length+m->ss.length+m<=5->t+4 * m<=kk+90->SpI bs.length ss->∃w:D8 kk,Ac (BN L kk most) (some (.inl (.l1 (bsS bs.length ss ss.length) (m:Int) t bs g ss))) (Eu L w):=by
  intro bs g hK hb hg m;induction m with
  | zero=>
   intro t ss h1 h2 h3 hs;refine Ay (show BN L kk most (.l1 _ (0:Nat) t bs g ss)=II L kk most _ (0:Nat) t bs g ss from rfl) ?_;have a1:=Bz L t 4 (by omega) (by omega);have a2:=Bz L (t+1) 3 (by omega) (by omega);have a3:=Bz L (t+1+1) 3 (by omega) (by omega);have a4:=Bz L (t+1+1+1) 8 (by omega) (by omega);have a5:=Bz L (t+1+1+1+1) 3 (by omega) (by omega);unfold II;rw[Ad (Uk (by omega)),A3 (1+Ae L t 4) (by omega) (by omega),A3 (1+Ae L (t+1+1+1) 8) (by omega) (by omega),A3 (1+Ae L (t+1+1+1+1) 3) (by omega) (by omega)];have hv:Aq (flN bs g ss (1+Ae L t 4) (Ae L (t+1) 3) (Ae L (t+1+1) 3) (1+Ae L (t+1+1+1) 8)):=OT hK hb hg hs ⟨by omega,by omega⟩ (by omega) (by omega) (by omega) (by omega) (Ur _) fun i c h=>by simp at h
   rw[Ab (by omega),Ab (by omega),Ab (by omega),Ab (by omega),Ab hv,Ab hg.rows,Ab (by omega)];obtain⟨k,hk⟩:∃k:Nat,(k:Int)=1+Ae L (t+1+1+1+1) 3:=⟨(1+Ae L (t+1+1+1+1) 3).toNat,by omega⟩;rw[<-hk];exact net2_ex hK hb hg hs ⟨by omega,by omega⟩ (by omega) (by omega) (by omega) (by omega) hkk (fl_p hv hg.rows) k _ [] (by simp only[US];omega) (by omega) fun i c h=>by simp at h
  | succ m ih=>
   intro t ss h1 h2 h3 hs;have hz:=QW ss.length
   have step:∀(t':Nat) (dp:Bool) (x y w:Int),t'<=t+4->(ss.length=0->dp=true)->(ss.length=1\/ss.length=2->dp=false)->0<=x/\x<(bs.length:Int)->0<=y/\y<(bs.length:Int)->0<=w/\w<3->∃p:D8 kk,Ac (BN L kk most)
     (some (.inl (.l1 (i64.wrap (bsS bs.length ss ss.length+i64.wrap (1+w))) (i64.wrap (((m+1:Nat):Int)-1)) t' bs g (ss++[Av.mk (ByteArray.mk #[115]++AM ss.length) dp x y (i64.wrap (1+w)) (bsS bs.length ss ss.length)])))) (Eu L p):=by
    intro t' dp x y w ht d0 d1 hx hy hw;rw[A3 (1+w) (by omega) (by omega)];have hS:=hs.snoc (s:=Av.mk (ByteArray.mk #[115]++AM ss.length) dp x y (1+w) (bsS bs.length ss ss.length)) ⟨rfl,d0,d1,hx,hy,by simp only;omega,rfl⟩;have hbd : -1000<=bsS bs.length ss ss.length/\bsS bs.length ss ss.length<=1000:=by
     have key:∀i,i<=ss.length->0<=bsS bs.length ss i/\bsS bs.length ss i<=24+3 * i:=by
      intro i;induction i with
      | zero=>intro _;unfold bsS;simp;omega
      | succ i ih=>intro hi;have g:=ih (by omega);have e:=Ax s0 (show i<ss.length by omega);have hk:=(hs i _ e).hk;have:bsS bs.length ss (i+1)=bsS bs.length ss i+(ss.getD i s0).k:=CK (n:=flN bs [] ss 0 0 0 0) e;omega
     have:=key ss.length (Uq _);omega
    rw[A3 (bsS bs.length ss ss.length+(1+w)) (by omega) (by omega),A3 (((m+1:Nat):Int)-1) (by omega) (by omega),show((m+1:Nat):Int)-1=(m:Int) by omega];have:=ih t' _ (by rw[Uy,UQ];omega) (by rw[Uy,UQ];omega) (by omega) hS.1;rw[Uy,UQ,hS.2] at this;exact this
   refine Ay (show BN L kk most (.l1 _ ((m+1:Nat):Int) t bs g ss)=II L kk most _ ((m+1:Nat):Int) t bs g ss from rfl) ?_;have rb:∀k,0<=Ae L k (iN bs.length)/\Ae L k (iN bs.length)<(bs.length:Int):=fun k=>Bz L k (iN bs.length) (by simp only[iN];omega) (by simp only[iN];omega)
   have r3:∀k,0<=Ae L k 3/\Ae L k 3<3:=fun k=>Bz L k 3 (by omega) (by omega)
   unfold II;rw[Ag (Ul (by omega)),Ab (by omega),Ab (show Nat.le _ _ from(show 1+(AM ss.length).size<=9223372036854775807 by omega))];refine Am (fun h0=>?_) fun h0=>BK (fun h2=>?_) fun h2=>?_
   .have h0:ss.length=0:=by have:=beq_iff_eq.1 h0;simp only[iN] at this;omega
    rw[Ab (by omega),Ab (by omega),Ab (by omega),Ab (by simp only[Ui,UQ];omega),Ab (by simp only[Ui,UQ];omega)];exact step _ true _ _ _ (by omega) (fun _=>rfl) (fun h=>by omega) (rb _) (rb _) (r3 _)
   .have h0:ss.length≠0:=by have:=UN.1 h0;simp only[iN] at this;omega
    simp only[iN] at h2;rw[Ab (by omega),Ab (by omega),Ab (by omega),Ab (by omega),Ab (by simp only[Ui,UQ];omega),Ab (by simp only[Ui,UQ];omega)];exact step _ _ _ _ _ (by omega) (fun h=>absurd h h0) (fun h=>by omega) (rb _) (rb _) (r3 _)
   .have h0:ss.length≠0:=by have:=UN.1 h0;simp only[iN] at this;omega
    rw[Ab (by omega),Ab (by omega),Ab (by omega),Ab (by simp only[Ui,UQ];omega),Ab (by simp only[Ui,UQ];omega)];exact step _ false _ _ _ (by omega) (fun h=>absurd h h0) (fun _=>rfl) (rb _) (rb _) (r3 _)
 have e0:∀(m t:Nat) (bs:List AC),1<=bs.length+m->bs.length+m<=20->t+2 * m<=kk+41->BkI bs->∃w:D8 kk,Ac (BN L kk most) (some (.inl (.l0 (m:Int) t bs (U5 bs.length [])))) (Eu L w):=by
  intro m;induction m with
  | zero=>
   intro t bs h1 h2 h3 hb;have hK:1<=bs.length/\bs.length<=24:=by omega
   have hg:GK bs.length (U5 bs.length []):=⟨Uz ..,fun v hv=>by
    rw[Ug,UD,Ud hv];exact⟨fun w hw=>(by cases hw),List.Pairwise.nil,Ur _⟩⟩
   have hr:=rg_p (L:=L) (kk:=t) hK (by omega) hg;have r:=Bz L (rgK L t bs (U5 bs.length [])) 3 (by omega) (by omega);refine Ay (show BN L kk most (.l0 (0:Nat) t bs (U5 bs.length []))=IG L kk most (0:Nat) t bs (U5 bs.length []) from rfl) ?_;unfold IG;rw[Ad (Uk (by omega)),Ab hK,Ab (by omega),Ab hg,Ab (by omega),A3 _ (by omega) (by omega)];obtain⟨M,hM⟩:∃M:Nat,(M:Int)=3+Ae L (rgK L t bs (U5 bs.length [])) 3:=⟨(3+Ae L (rgK L t bs (U5 bs.length [])) 3).toNat,by omega⟩;rw[<-hM];have:=e1 bs _ hK hb hr.1 M (rgK L t bs (U5 bs.length [])+1) [] (by simp only[US];omega) (by simp only[US];omega) (by omega) fun i s h=>by simp at h
   rwa [show bsS bs.length [] ([]:List Av).length=iN bs.length by simp[bsS,iN]] at this
  | succ m ih=>
   intro t bs h1 h2 h3 hb;have hz:=QW bs.length;have ra:=Bz L t 9 (by omega) (by omega);have rc:=Bz L (t+1) 9 (by omega) (by omega);refine Ay (show BN L kk most (.l0 ((m+1:Nat):Int) t bs (U5 bs.length []))=IG L kk most ((m+1:Nat):Int) t bs (U5 bs.length []) from rfl) ?_;unfold IG;rw[Ag (Ul (by omega)),Ab (by omega),Ab (show Nat.le _ _ from(show 1+(AM bs.length).size<=9223372036854775807 by omega)),Ab (by omega),Ab (by omega),Ab (by simp only[Ui,UQ];omega),Ab (by simp only[Ui,UQ];omega),Ab (by simp only[Ui,Uz];omega),Ab (by simp only[Ui,Uz];omega),A3 (((m+1:Nat):Int)-1) (by omega) (by omega),A3 (Ae L t 9-4) (by omega) (by omega),A3 (Ae L (t+1) 9-4) (by omega) (by omega),show((m+1:Nat):Int)-1=(m:Int) by omega];have:=ih (t+1+1) (bs++[AC.mk (ByteArray.mk #[98]++AM bs.length) (Ae L t 9-4) (Ae L (t+1) 9-4)]) (by rw[Uy,UQ];omega) (by rw[Uy,UQ];omega) (by omega) fun i b h=>by
    by_cases hi:i<bs.length
    .rw[List.getElem?_append_left hi] at h;exact hb i b h
    .have hl:=(Uh.1 h).1;rw[Uy,UQ] at hl;obtain rfl:i=bs.length:=by omega
     rw[List.getElem?_append_right (Uq _),TZ] at h;obtain rfl:_=b:=by simpa using h
     exact⟨rfl,by simp only;omega,by simp only;omega,by simp only;omega,by simp only;omega⟩
   rwa [Uy,UQ,List.replicate_succ'] at this
 unfold J9;rw[Ab (by omega),A3 _ (by omega) (by omega)];obtain⟨K,hK⟩:∃K:Nat,(K:Int)=1+Ae L kk most:=⟨(1+Ae L kk most).toNat,by omega⟩;rw[<-hK];exact e0 K (kk+1) [] (by simp only[US];omega) (by simp only[US];omega) (by omega) fun i b h=>by simp at h
theorem L6(L:List Int)(kk:Nat)(most:Int):∃p:Aa×Nat,kk<=5000->(1<=most/\most<=20)->I0 p.1/\p.2<=kk+200/\CT Vb 20 [some (AE L kk)] [.ptr 0 0 0,.int .i64 most] [some (AE L p.2)] (Ai p.1):=by
 by_cases h:kk<=5000/\(1<=most/\most<=20)
 .obtain⟨w,hw⟩:=net_ex L kk h.1 most h.2;exact⟨w.1,fun _ _=>⟨w.2.1,w.2.2,ntm_ct L kk most _ hw⟩⟩
 .exact⟨(⟨[],[],[],[],0,0,0,0⟩,0),fun a b=>absurd ⟨a,b⟩ h⟩
@[irreducible] def Ar(L:List Int)(kk:Nat)(most:Int):Aa:=(Classical.choose (L6 L kk most)).1
@[irreducible] def I1(L:List Int)(kk:Nat)(most:Int):Nat:=(Classical.choose (L6 L kk most)).2
theorem Lu{L:List Int}{kk:Nat}{most:Int}(h:kk<=5000)(hm:1<=most/\most<=20):I0 (Ar L kk most)/\I1 L kk most<=kk+200/\CT Vb 20 [some (AE L kk)] [.ptr 0 0 0,.int .i64 most] [some (AE L (I1 L kk most))] (Ai (Ar L kk most)):=by unfold Ar I1;exact UP (L6 L kk most) h hm
theorem net_ct(L:List Int)(kk:Nat)(most:Int)(h:kk<=5000)(hm:1<=most/\most<=20):CT Vb 20 [some (AE L kk)] [.ptr 0 0 0,.int .i64 most] [some (AE L (I1 L kk most))] (Ai (Ar L kk most)):=(Lu h hm).2.2
def RwV(n:Aa):Prop:=Aq n/\Rows n.nx
theorem I0.rwv{n:Aa}(h:I0 n):RwV n:=⟨h.v,h.rows⟩
structure GoodT(n:Aa)(i:Nat)(s:Av):Prop where
 hi:0<=s.i/\s.i<n.bs.length
 ho:0<=s.o/\s.o<n.bs.length
 hk:1<=s.k/\s.k<=4
 hb:s.b=AP n i
theorem Aq.goodT{n:Aa}(hv:Aq n)(i:Nat)(s:Av)(h:n.ss[i]?=some s):GoodT n i s:=by have g:=hv.spu i s h;have g1:=Bj.1 g.hi;have g2:=Bj.1 g.ho;exact⟨by omega,by omega,Bj.1 g.hk,g.hb⟩
theorem F0{n:Aa}(hrw:RwV n):CT Vb 71 [] [Ai n] [] (.bool (A8 n)):=by rw[BD.2 hrw.1];exact Rh hrw.2 hrw.1
theorem N4{n:Aa}(hrw:RwV n):CT Vb 103 [] [Ai n] [] (.bool (A8 n)):=by rw[BD.2 hrw.1];exact Q7 hrw.2 hrw.1
open Classical in
def Cd(g:List (List Int)):Bool:=decide (VG g)
theorem Px{g:List (List Int)}:Cd g=true↔VG g:=by unfold Cd;exact @decide_eq_true_iff _ (Classical.propDecidable _)
def CE(g:List (List Int))(s:List Bool):Int:=if Cd g=true then (if s.length≠g.length then 19 else 0) else 20
end Go.Proofs.YthjgbnbibebigaaGreat

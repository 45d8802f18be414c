/- Parts of the proof:Nw1m,NwA,NwB,Nw2m,NwC,Ny1m,NyA,Ny2m,NyB,Ny3m,NyC,Ny4m,NyD,Nx1m,NxA,Ny5m,NyE,Ny6m,NyF,NyG,Ny7m,NyH,Ny8m,NyI,NyJ,NyK,NyL. -/
import Derived.Test.YthjgbnbibebigaaGreatProg
import Derived.KernelRfl
import Derived.Test.YthjgbnbibebigaaGreatLedgerQuietM3
noncomputable section
set_option linter.unusedVariables false
set_option linter.unusedSimpArgs false
open Go Go.AX Go.Proofs
set_option maxRecDepth 100000
set_option maxHeartbeats 4000000
set_option linter.unusedVariables false
set_option linter.unusedSimpArgs false
open Go.IntKind (i64 u64)
open List renaming map->Wn,replicate->Wo,drop->Wp,take->Wq
open Int renaming toNat->Ws
open Go.AX.AV renaming lst->Wt
open Go.Proofs.Tryz renaming prog->Wu
namespace Go.Proofs.YthjgbnbibebigaaGreat
inductive Gr where | l0 (v0 v1:Int)
def rccSt(n:Aa):Gr->St | .l0 v0 v1=>St.mk 24 [(1,AV.ptr 0 0 0),(3,iv v0),(4,iv v1)] [some (bK [Ai n] 8)]
def OI(n:Aa):Option (Gr⊕Ret):=some (.inl (.l0 (iN (Wn bA n.bs).length) ((0:Int))))
def Ix(n:Aa)(v0 v1:Int):Option (Gr⊕Ret):=br (decide (v1<iN (Wn sA n.ss).length)) (gu (0<=v1) <|el (n.ss) (v1.toNat) fun(x19:Au)=>some (.inl (.l0 (i64.wrap (v0+x19.k)) (i64.wrap (v1+1))))) (some (.inr ([],iV v0)))
def rccStep(n:Aa):Gr->Option (Gr⊕Ret) | .l0 v0 v1=>Ix n v0 v1
theorem rcc_ct(n:Aa)(r:Ret)(h:Ac (rccStep n) (OI n) r):CT Wu 69 ([]) ([Ai n]) r.1 r.2:=CT.mach (fn:=Tryz.f69) (c:=zB Tryz.f69) (S:=(rccSt n)) (hd:=Gr.ctorIdx) Tryz.func69 (by kernel_rfl) (nL rfl) (fun s o ho=>match s,ho with | .l0 v0 v1,ho=>Scr.ok (X:=Ix n v0 v1) ho mix (.ra cR <|.br (fun a0=>.gu fun a1=>.el fun x19 a2=>.pb [25] [(19,sA x19)] [] [] [0] [1,3,4] (bm a0 (ah (aB a1 (Ae (f:=sA) a2) (bg t3 s2))) aE t5)) (fun a0=>.ta [24] (az (bx a0)))) (by kernel_rfl)) (fun o ho=>Scr.ok (X:=OI n) ho mix (.pa [] [0] [1,3,4] (aj (ag t2 (aj (am s2) s2)) t5)) (by kernel_rfl)) h
inductive Fs where | l0 (v0 v1:Int)
def ccoSt(n:Aa):Fs->St | .l0 v0 v1=>St.mk 22 [(3,iv v0),(10,Wt (Wn sA n.ss)),(11,iv (iN (Wn sA n.ss).length)),(12,iv v1)] []
def PP(n:Aa):Option (Fs⊕Ret):=some (.inl (.l0 (iN (Wn bA n.bs).length) ((0:Int))))
def HH(n:Aa)(v0 v1:Int):Option (Fs⊕Ret):=br (decide (v1<iN (Wn sA n.ss).length)) (gu (0<=v1) <|el (n.ss) (v1.toNat) fun(x14:Au)=>some (.inl (.l0 (i64.wrap (v0+x14.k)) (i64.wrap (v1+1))))) (some (.inr ([],iV v0)))
def ccoStep(n:Aa):Fs->Option (Fs⊕Ret) | .l0 v0 v1=>HH n v0 v1
theorem cco_ct(n:Aa)(r:Ret)(h:Ac (ccoStep n) (PP n) r):CT Wu 129 ([]) ([Ai n]) r.1 r.2:=CT.mach (fn:=Tryz.f129) (c:=zB Tryz.f129) (S:=(ccoSt n)) (hd:=Fs.ctorIdx) Tryz.func129 (by kernel_rfl) (nL rfl) (fun s o ho=>match s,ho with | .l0 v0 v1,ho=>Scr.ok (X:=HH n v0 v1) ho mix (.ra bG <|.br (fun a0=>.gu fun a1=>.el fun x14 a2=>.pb [27] [(14,sA x14)] [] [] [] [3,10,11,12] (ar a0 (ax (bH a1 (Ae (f:=sA) a2) aS) (bb t3 s2) aw) t5)) (fun a0=>.ta [26] (az (bx a0)))) (by kernel_rfl)) (fun o ho=>Scr.ok (X:=PP n) ho mix (.pa [] [] [3,10,11,12] (aj (ag t2 (bX (am s2) t2)) t5)) (by kernel_rfl)) h
inductive DY where | l0 (v0:Int) | l1 (v0 v1:Int)
def rblSt(n:Aa):DY->St | .l0 v0=>St.mk 114 [(1,AV.ptr 0 0 0),(3,iv v0)] [some (bK [Ai n] 8)] | .l1 v0 v1=>St.mk 114 [(1,AV.ptr 0 0 0),(3,iv v0),(5,iv v1)] [some (bK [Ai n] 8)]
def Pc(n:Aa):Option (DY⊕Ret):=br (decide (iN (Wn bA n.bs).length<1)) (none) (br (decide (24<iN (Wn bA n.bs).length)) (none) (br (iN (gL n.nx).length != iN (Wn bA n.bs).length) (none) (some (.inl (.l0 ((0:Int)))))))
def HW(n:Aa)(v0:Int):Option (DY⊕Ret):=br (decide (v0<iN (Wn bA n.bs).length)) (gu (0<=v0) <|el (n.bs) (v0.toNat) fun(x36:AD)=>br (decide (x36.x < -9999)) (none) (br (decide (9999<x36.x)) (none) (br (decide (x36.y < -9999)) (none) (br (decide (9999<x36.y)) (none) (el (n.nx) (v0.toNat) fun(x60:List Int)=>br (decide (4<iN (Wn iV x60).length)) (none) (some (.inl (.l1 v0 ((0:Int)))))))))) (some (.inr ([],bV true)))
def GX(n:Aa)(v0 v1:Int):Option (DY⊕Ret):=gu (0<=v0) <|el (n.nx) (v0.toNat) fun(x69:List Int)=>br (decide (v1<iN (Wn iV x69).length)) (el (n.nx) (v0.toNat) fun(x78:List Int)=>gu (0<=v1) <|el x78 (v1.toNat) fun(x81:Int)=>br (decide (x81<0)) (none) (br (decide (iN (Wn bA n.bs).length<=x81)) (none) (br (x81==v0) (none) (br (decide (0<v1)) (el (n.nx) (v0.toNat) fun(x105:List Int)=>gu (0<=i64.wrap (v1-1)) <|el x105 ((i64.wrap (v1-1)).toNat) fun(x109:Int)=>br (decide (x81<=x109)) (none) (some (.inl (.l1 v0 (i64.wrap (v1+1)))))) (some (.inl (.l1 v0 (i64.wrap (v1+1))))))))) (some (.inl (.l0 (i64.wrap (v0+1)))))
def rblStep(n:Aa):DY->Option (DY⊕Ret) | .l0 v0=>HW n v0 | .l1 v0 v1=>GX n v0 v1
theorem rbl_ct(n:Aa)(r:Ret)(h:Ac (rblStep n) (Pc n) r):CT Wu 142 ([]) ([Ai n]) r.1 r.2:=CT.mach (fn:=Tryz.f142) (c:=zB Tryz.f142) (S:=(rblSt n)) (hd:=DY.ctorIdx) Tryz.func142 (by kernel_rfl) (nL rfl) (fun s o ho=>match s,ho with | .l0 v0,ho=>Scr.ok (X:=HW n v0) ho mix (.ra cR <|.br (fun a0=>.gu fun a1=>.el fun x36 a2=>.rd [61] [(36,bA x36)] [] (bX a0 (bH a1 (Ae (f:=bA) a2) aS)) <|.br (fun a3=>.no) (fun a3=>.br (fun a4=>.no) (fun a4=>.br (fun a5=>.no) (fun a5=>.br (fun a6=>.no) (fun a6=>.el fun x60 a7=>.rd [82,92,102,112] [(60,lI x60)] [] (bC (aX a3 (aX a4 (aX a5 (bt a6 (cn a6 a1 (Ae (f:=lI) a7) (ai a6 (bE a6)))))))) <|.br (fun a8=>.no) (fun a8=>.pa [82,92,102,112,128] [0] [1,3,5] (cO a8 t5))))))) (fun a0=>.ta [60] (bO a0))) (by kernel_rfl) | .l1 v0 v1,ho=>Scr.ok (X:=GX n v0 v1) ho mix (.gu fun a0=>.el fun x69 a1=>.rd [] [(69,lI x69)] [] (bC (aB a0 (Ae (f:=lI) a1) cM)) <|.br (fun a2=>.el fun x78 a3=>.gu fun a4=>.el fun x81 a5=>.rd [145] [(78,lI x78),(81,iv x81)] [] (bX a2 (aB a0 (Ae (f:=lI) a3) (bN a4 (Ae (f:=iv) a5) aw))) <|.br (fun a6=>.no) (fun a6=>.br (fun a7=>.no) (fun a7=>.br (fun a8=>.no) (fun a8=>.br (fun a9=>.el fun x105 a10=>.gu fun a11=>.el fun x109 a12=>.rd [170,184,194,201] [(105,lI x105),(109,iv x109)] [] (aL (b6 a6 t3 (cP a7 (aW a7 t3 (u2 (bt a8 (b6 a9 (an a0 (Ae (f:=lI) a10)) (ai a9 (cn a9 a11 (Ae (f:=iv) a12) (aV (aj a9 t3) (bq a8 a9) a8)))))))))) <|.br (fun a13=>.no) (fun a13=>.pa [170,184,194,201,226] [0] [1,3,5] (b4 a13 t5))) (fun a9=>.pa [170,184,194,200] [0] [1,3,5] (bI (am (b6 a6 t3 (cP a7 (aW a7 t3 (u2 (bt a8 (cA a9 (aZ a9 (aV a9 (bq a8 a9) a8))))))))) aE t5)))))) (fun a2=>.pa [144] [0] [1,3] (b4 a2 t4))) (by kernel_rfl)) (fun o ho=>Scr.ok (X:=Pc n) ho mix (.ra bR <|.br (fun a0=>.no) (fun a0=>.br (fun a1=>.no) (fun a1=>.rb [22,34] (bz (ah (ag a0 (aX a0 (ai a1 (aI a1 (bT a1 t3 a1))))))) <|.br (fun a2=>.no) (fun a2=>.pa [22,34,50] [0] [1,3] (cO a2 t4))))) (by kernel_rfl)) h
inductive CG where | l0 (v0:List ByteArray) (v1:Int) | l1 (v0:List ByteArray) (v1:Int) | l2 (v0:List ByteArray) (v1:Int) | l3 (v0:List ByteArray) (v1 v2:Int)
def Jp(n:Aa):CG->St | .l0 v0 v1=>St.mk 66 [(1,AV.ptr 0 0 0),(3,AV.sl 1 0 v0.length),(4,iv v1)] [some (bK [Ai n] 8),some (bK (Wn AV.str v0) 1)] | .l1 v0 v1=>St.mk 66 [(1,AV.ptr 0 0 0),(3,AV.sl 1 0 v0.length),(5,iv v1)] [some (bK [Ai n] 8),some (bK (Wn AV.str v0) 1)] | .l2 v0 v1=>St.mk 66 [(3,AV.sl 0 0 v0.length),(6,iv v1)] [some (bK (Wn AV.str v0) 1)] | .l3 v0 v1 v2=>St.mk 66 [(3,AV.sl 0 0 v0.length),(6,iv v1),(7,iv v2)] [some (bK (Wn AV.str v0) 1)]
def rnmEn(n:Aa):Option (CG⊕Ret):=some (.inl (.l0 ([]) ((0:Int))))
def Hn(n:Aa)(v0:List ByteArray)(v1:Int):Option (CG⊕Ret):=br (decide (v1<iN (Wn bA n.bs).length)) (gu (0<=v1) <|el (n.bs) (v1.toNat) fun(x19:AD)=>gu ((Wn AV.str v0).length+[AV.str x19.nm].length<=9223372036854775807) <|gu (((Wn AV.str v0).length+[AV.str x19.nm].length) * 16<=140737488355328) <|some (.inl (.l0 (v0++[x19.nm]) (i64.wrap (v1+1))))) (some (.inl (.l1 v0 ((0:Int)))))
def HF(n:Aa)(v0:List ByteArray)(v1:Int):Option (CG⊕Ret):=br (decide (v1<iN (Wn sA n.ss).length)) (gu (0<=v1) <|el (n.ss) (v1.toNat) fun(x35:Au)=>gu ((Wn AV.str v0).length+[AV.str x35.nm].length<=9223372036854775807) <|gu (((Wn AV.str v0).length+[AV.str x35.nm].length) * 16<=140737488355328) <|some (.inl (.l1 (v0++[x35.nm]) (i64.wrap (v1+1))))) (some (.inl (.l2 v0 ((0:Int)))))
def HZ(n:Aa)(v0:List ByteArray)(v1:Int):Option (CG⊕Ret):=br (decide (v1<iN v0.length)) (gu (0<=v1) <|gu (v1<iN v0.length) <|el v0 (0+v1.toNat) fun(x49:ByteArray)=>br (nmB x49) (some (.inl (.l3 v0 v1 ((0:Int))))) (none)) (some (.inr ([],bV true)))
def It(n:Aa)(v0:List ByteArray)(v1 v2:Int):Option (CG⊕Ret):=br (decide (v2<v1)) (gu (0<=v1) <|gu (v1<iN v0.length) <|el v0 (0+v1.toNat) fun(x60:ByteArray)=>gu (0<=v2) <|gu (v2<iN v0.length) <|el v0 (0+v2.toNat) fun(x64:ByteArray)=>br (x60.toList==x64.toList) (none) (some (.inl (.l3 v0 v1 (i64.wrap (v2+1)))))) (some (.inl (.l2 v0 (i64.wrap (v1+1)))))
def rnmStep(n:Aa):CG->Option (CG⊕Ret) | .l0 v0 v1=>Hn n v0 v1 | .l1 v0 v1=>HF n v0 v1 | .l2 v0 v1=>HZ n v0 v1 | .l3 v0 v1 v2=>It n v0 v1 v2
theorem rnm_ct(n:Aa)(r:Ret)(h:Ac (rnmStep n) (rnmEn n) r):CT Wu 143 ([]) ([Ai n]) r.1 r.2:=CT.mach (fn:=Tryz.f143) (c:=zB Tryz.f143) (S:=(Jp n)) (hd:=CG.ctorIdx) Tryz.func143 (by kernel_rfl) (nL rfl) (fun s o ho=>match s,ho with | .l0 v0 v1,ho=>Scr.ok (X:=Hn n v0 v1) ho mix (.ra cR <|.br (fun a0=>.gu fun a1=>.el fun x19 a2=>.gu fun a3=>.gu fun a4=>.lq [25] [(19,bA x19)] [] [] [] [0,3] [1,3,4] (up [(3,AV.sl 1 0 ((Wn AV.str v0).length+[AV.str x19.nm].length))] [(1,Wn AV.str v0++[AV.str x19.nm])] (Jp n (.l0 (v0++[x19.nm]) (i64.wrap (v1+1))))) (bm a0 (ah (aB a1 (Ae (f:=bA) a2) (cH (show(Wn AV.str v0).length=v0.length by simp) (bv (show nat_lit 1=nat_lit 1 from rfl) (show 1<=[AV.str x19.nm].length by simp) a3 a4) s2))) aE t6) (by simp[up,upF,upV,upH,upB,Jp,gL,boL,lI,sA,bA,vsA])) (fun a0=>.pa [24] [0,1] [1,3,5] (cO a0 t6))) (by kernel_rfl) | .l1 v0 v1,ho=>Scr.ok (X:=HF n v0 v1) ho mix (.ra cR <|.br (fun a0=>.gu fun a1=>.el fun x35 a2=>.gu fun a3=>.gu fun a4=>.lq [57] [(35,sA x35)] [] [] [] [0,3] [1,3,5] (up [(3,AV.sl 1 0 ((Wn AV.str v0).length+[AV.str x35.nm].length))] [(1,Wn AV.str v0++[AV.str x35.nm])] (Jp n (.l1 (v0++[x35.nm]) (i64.wrap (v1+1))))) (bm a0 (ah (aB a1 (Ae (f:=sA) a2) (cH (show(Wn AV.str v0).length=v0.length by simp) (bv (show nat_lit 1=nat_lit 1 from rfl) (show 1<=[AV.str x35.nm].length by simp) a3 a4) s2))) aE t6) (by simp[up,upF,upV,upH,upB,Jp,gL,boL,lI,sA,bA,vsA])) (fun a0=>.pa [56] [1] [3,6] (cO a0 t4))) (by kernel_rfl) | .l2 v0 v1,ho=>Scr.ok (X:=HZ n v0 v1) ho mix (.ra cF <|.br (fun a0=>.gu fun a1=>.gu fun a2=>.el fun x49 a3=>.br (fun a4=>have c0:=rnm_v x49 a4;.pb [87] [(49,AV.str x49)] [(50,hK c0 [] [])] [] [0] [3,6,7] (aj (ab a0 (bN a1 a2 (ab (ak (Ae (f:=AV.str) a3)) (aM (c0)) s2)) bn) t5)) (fun a4=>.no)) (fun a0=>.ta [86] (bO a0))) (by kernel_rfl) | .l3 v0 v1 v2,ho=>Scr.ok (X:=It n v0 v1 v2) ho mix (.ra (aR aD) <|.br (fun a0=>.gu fun a1=>.gu fun a2=>.el fun x60 a3=>.gu fun a4=>.gu fun a5=>.el fun x64 a6=>.rd [109] [(60,AV.str x60),(64,AV.str x64)] [] (af a0 (aa (b7 (an a1 a2) (Ae (f:=AV.str) a3) (aa (ax (an a4 a5) (ak (Ae (f:=AV.str) a6)) t3))))) <|.br (fun a7=>.no) (fun a7=>.pa [130] [0] [3,6,7] (b4 a7 t5))) (fun a0=>.pa [108] [0] [3,6] (b4 a0 t4))) (by kernel_rfl)) (fun o ho=>Scr.ok (X:=rnmEn n) ho mix (.pb [] [] [] [(3,1)] [0,1] [1,3,4] (aj (ag t2 aw) t6)) (by kernel_rfl)) h
inductive G7 where | l0 (v0:Int)
def hsZSt(l:List Int)(q:Int):G7->St | .l0 v0=>St.mk 18 [(0,Wt (Wn iv l)),(1,iv q),(5,iv v0)] []
def N1(l:List Int)(q:Int):Option (G7⊕Ret):=some (.inl (.l0 ((0:Int))))
def Ib(l:List Int)(q v0:Int):Option (G7⊕Ret):=br (decide (v0<iN (Wn iV l).length)) (gu (0<=v0) <|el l (v0.toNat) fun(x14:Int)=>br (x14==q) (some (.inr ([],bV true))) (some (.inl (.l0 (i64.wrap (v0+1)))))) (some (.inr ([],bV false)))
def R5(l:List Int)(q:Int):G7->Option (G7⊕Ret) | .l0 v0=>Ib l q v0
theorem hsZ_ct(l:List Int)(q:Int)(r:Ret)(h:Ac (R5 l q) (N1 l q) r):CT Wu 16 ([]) ([lI l,.int .i64 q]) r.1 r.2:=CT.mach (fn:=Tryz.f16) (c:=zB Tryz.f16) (S:=(hsZSt l q)) (hd:=G7.ctorIdx) Tryz.func16 (by kernel_rfl) (nL rfl) (fun s o ho=>match s,ho with | .l0 v0,ho=>Scr.ok (X:=Ib l q v0) ho mix (.ra cF <|.br (fun a0=>.gu fun a1=>.el fun x14 a2=>.rd [19] [(14,iv x14)] [] (af a0 (bN a1 (Ae (f:=iv) a2) cM)) <|.br (fun a3=>.ta [35] (bO a3)) (fun a3=>.pa [34] [] [0,1,5] (b4 a3 t4))) (fun a0=>.ta [18] (bO a0))) (by kernel_rfl)) (fun o ho=>Scr.ok (X:=N1 l q) ho mix (.pa [] [] [0,1,5] (aj aw t4)) (by kernel_rfl)) h
end Go.Proofs.YthjgbnbibebigaaGreat
namespace Go.Proofs.YthjgbnbibebigaaGreat
def Am(n:Aa):Nat:=(AQ n n.ss.length).toNat
theorem An.cel{n:Aa}(hv:An n):AQ n n.ss.length=(Am n:Int)/\n.bs.length<=Am n/\Am n<=48:=by have h1:=hv.bd n.ss.length;have h2:=hv.ns;have h3:=hv.nb24;unfold Am;omega
theorem KO{n:Aa}(hv:An n){i:Nat}:∀{j:Nat},i<=j->j<=n.ss.length->AQ n i<=AQ n j:=by
 intro j;induction j with
 | zero=>intro h _;have:i=0:=by omega
         subst this;omega
 | succ j ih=>
  intro h hj;by_cases e:i=j+1
  .subst e;omega
  .have h1:=ih (by omega) (by omega);obtain⟨s,hs⟩:∃s,n.ss[j]?=some s:=⟨_,Vv (by omega)⟩;rw[C1 hs];have:=Bm.1 (hv.spu j s hs).hk;omega
theorem S2{σ:Type}{step:σ->Option (σ⊕Ret)}{n:Aa}(hv:An n){L:Int->Int->σ}
  (hs:∀(i:Nat) s,n.ss[i]?=some s->step (L (AQ n i) i)=some (.inl (L (i64.wrap (AQ n i+s.k)) (i64.wrap ((i:Int)+1)))))
  (he:step (L (Am n) (n.ss.length:Nat))=some (.inr ([],.int .i64 (Am n)))):Ac step (some (.inl (L n.bs.length 0))) (([],.int .i64 (Am n)):Ret):=by
 have hns:=hv.ns;have hn:=hv.nb24;rw[show (n.bs.length:Int)=AQ n 0 by simp[AQ]];refine Bb (fun i=>L (AQ n i) (i:Int)) n.ss.length (fun i hi h=>.to (hs i _ (Vv hi)) ?_) (.to (by rw[hv.cel.1];exact he) (.ret _));have hb:=hv.bd (i+1);rw[C1 (Vv hi)] at hb h;rw[A3 _ (by omega) (by omega),zW i (by omega)];exact h
theorem Gb{n:Aa}(hv:An n):CT Wu 69 [] [Ai n] [] (.int .i64 (iN (Am n))):=by
 refine rcc_ct n ([],_) ?_;unfold OI;rw[show iN (Wn bA n.bs).length=(n.bs.length:Int) by simp[iN]];refine S2 hv (L:=fun v i=>Gr.l0 v i) (fun i s hs=>?_) ?_
 .show Ix n (AQ n i) i=_;unfold Ix;rw[AR hs]
 .show Ix n (Am n) n.ss.length=_;unfold Ix;rw[AN]
theorem OW{n:Aa}(hv:An n):CT Wu 129 [] [Ai n] [] (.int .i64 (iN (Am n))):=by
 refine cco_ct n ([],_) ?_;unfold PP;rw[show iN (Wn bA n.bs).length=(n.bs.length:Int) by simp[iN]];refine S2 hv (L:=fun v i=>Fs.l0 v i) (fun i s hs=>?_) ?_
 .show HH n (AQ n i) i=_;unfold HH;rw[AR hs]
 .show HH n (Am n) n.ss.length=_;unfold HH;rw[AN]
theorem EP(l:List Int)(x:Int)(hl:l.length<=9223372036854775807):CT Wu 16 [] [lI l,.int .i64 x] [] (.bool (AS l x)):=by
 refine hsZ_ct l x ([],_) ?_;unfold N1 AS;have key:∀(d i:Nat),i+d=l.length->Ac (R5 l x) (some (.inl (.l0 (i:Nat)))) (([],.bool (fnd (fun i=>l.getD i 0==x) i d).isSome):Ret):=by
  intro d;induction d with
  | zero=>
   intro i hi;obtain rfl:i=l.length:=by omega
   refine .to (show Ib l x l.length=_ from rfl) ?_;unfold Ib;rw[AN];exact .ret _
  | succ d ih=>
   intro i hi;have hg:=Ay 0 (show i<l.length by omega);refine .to (show Ib l x i=_ from rfl) ?_;unfold Ib fnd;rw[AR hg];cases l.getD i 0==x with
   | true=>exact .ret _
   | false=>rw[Ad rfl,zW i (by omega)];exact ih (i+1) (by omega)
 exact key l.length 0 (by omega)
theorem rbl_v{n:Aa}(hrw:Rows n.nx)(hv:An n):CT Wu 142 [] [Ai n] [] (.bool true):=by
 have hn:=hv.nb24;have hnx:=hv.nx;have hgl:=B4 n.nx;have hbl:iN (Wn bA n.bs).length=(n.bs.length:Int):=by simp[iN]
 refine rbl_ct n ([],_) ?_;unfold Pc;rw[Ad (VA (by omega)),Ad (VA (by omega)),Ad (by simp[iN,hgl,hnx])];refine Bb (fun i=>DY.l0 (i:Int)) n.bs.length (fun i hi h=>.to (show HW n i=some (.inl (.l1 i 0)) from ?_) ?_) (.to (show HW n n.bs.length=_ from ?_) (.ret _))
 .have hx:n.bs[i]?=some n.bs[i]:=Vv hi;have g:=hv.blk i _ hx;have gx:=Bm.1 g.x;have gy:=Bm.1 g.y;have hr:=Ay [] (show i<n.nx.length by omega);unfold HW;rw[AR hx,Ad (VA (by omega)),Ad (VA (by omega)),Ad (VA (by omega)),Ad (VA (by omega)),VE,Al hr,Ad (VA (by have:=(Da g.nx).1;simp only[iN,Vy];omega))]
 .have hx:n.bs[i]?=some n.bs[i]:=Vv hi;have hr:=Ay [] (show i<n.nx.length by omega);obtain⟨h4,hk⟩:=Da (hv.blk i _ hx).nx;generalize n.nx.getD i []=r at *;refine Bb (fun k=>DY.l1 (i:Int) (k:Int)) r.length (fun k hkl hh=>.to (show GX n i k=_ from ?_) hh) (.to (show GX n i r.length=_ from ?_) h)
  .obtain⟨a1,a2,a3⟩:=hk k hkl;have hg:=Ay 0 hkl;have hp:∀j:Nat,j<=k->-1<=Bo r j:=fun j hj=>by
    unfold Bo;split
    .omega
    .have:∀j:Nat,j<r.length->0<=r.getD j 0:=fun j=>by
      induction j with
      | zero=>intro h0;have:=(hk 0 h0).1;unfold Bo at this;rw[Vt rfl] at this;omega
      | succ j ihj=>intro h0;have:=(hk (j+1) h0).1;unfold Bo at this;rw[Vu (by omega),show j+1-1=j by omega] at this;have:=ihj (by omega);omega
     have:=this (j-1) (by omega);omega
   have hp0:=hp k (VH _);unfold GX;rw[Ab (by omega),VE,Al hr,Ah (VB (by simp only[iN,Vy];omega)),Al hr,Ab (by omega),VE,Al hg,Ad (VA (by omega)),Ad (VA (by omega)),Ad (by simpa using a3),zW k (by omega)];by_cases h0:k=0
   .rw[Ad (VA (by omega))]
   .rw[Ah (VB (by omega)),Al hr,Qk k (by omega) (by omega),Ab (by omega),VE,Al (Ay 0 (show k-1<r.length by omega))];unfold Bo at a1;rw[Vu h0] at a1;rw[Ad (VA (by omega))]
  .unfold GX;rw[Ab (by omega),VE,Al hr,Ad (VA (by simp only[iN,Vy];omega)),zW i (by omega)]
 .unfold HW;rw[AN]
theorem rnm_ok{n:Aa}(hv:An n):CT Wu 143 [] [Ai n] [] (.bool true):=by
 have hn:=hv.nb24;have hns:=hv.ns;have hnl:(Be n).length=n.bs.length+n.ss.length:=by simp[Be]
 have nm:∀i,i<(Be n).length->∃x,(Be n)[i]?=some x/\nmB x=true:=fun i hi=>by
  refine⟨_,Vv hi,?_⟩;have hm:=V2 hi;generalize (Be n)[i]=x at hm;unfold Be at hm;rcases VZ.1 hm with h | h
  .obtain⟨b,hb,rfl⟩:=V0.1 h;obtain⟨j,hj⟩:=List.getElem?_of_mem hb;exact(hv.blk j b hj).nm
  .obtain⟨b,hb,rfl⟩:=V0.1 h;obtain⟨j,hj⟩:=List.getElem?_of_mem hb;exact(hv.spu j b hj).nm
 refine rnm_ct n ([],_) ?_;refine Bb (fun i=>CG.l0 ((n.bs.take i).map (·.nm)) (i:Int)) n.bs.length (fun i hi h=>.to (show Hn n _ i=_ from ?_) h) (.to (show Hn n _ n.bs.length=some (.inl (.l1 (n.bs.map (·.nm)) 0)) from ?_) ?_)
 .have hx:n.bs[i]?=some n.bs[i]:=Vv hi;unfold Hn;rw[AR hx,Ab (by simp only[Vy,VX,V9];omega),Ab (by simp only[Vy,VX,V9];omega),zW i (by omega),List.take_add_one,hx];simp only[VJ,Option.toList_some,Vr,Vs,List.append_assoc]
 .unfold Hn;rw[AN,List.take_length]
 refine Bb (fun i=>CG.l1 (n.bs.map (·.nm)++(n.ss.take i).map (·.nm)) (i:Int)) n.ss.length (fun i hi h=>.to (show HF n _ i=_ from ?_) h) (.to (show HF n _ n.ss.length=some (.inl (.l2 (Be n) 0)) from ?_) ?_) |> fun h=>by simpa using h
 .have hx:n.ss[i]?=some n.ss[i]:=Vv hi;unfold HF;rw[AR hx,Ab (by simp only[Vy,VP,VX,V9];omega),Ab (by simp only[Vy,VP,VX,V9];omega),zW i (by omega),List.take_add_one,hx];simp only[VJ,Option.toList_some,Vr,Vs,List.append_assoc]
 .unfold HF;rw[AN,List.take_length];rfl
 refine Bb (fun i=>CG.l2 (Be n) (i:Int)) (Be n).length (fun i hi h=>?_) (.to (show HZ n (Be n) (Be n).length=_ from ?_) (.ret _))
 .obtain⟨x,hx,hb⟩:=nm i hi;refine .to (show HZ n (Be n) i=some (.inl (.l3 (Be n) i 0)) from ?_) ?_
  .unfold HZ;rw[Ah (VB (by simp only[iN];omega)),Ab (by omega),Ab (by simp only[iN];omega),VL,VE,Al hx,Ah hb]
  refine Bb (fun k=>CG.l3 (Be n) (i:Int) (k:Int)) i (fun k hk hh=>.to (show It n (Be n) i k=_ from ?_) hh) (.to (show It n (Be n) i i=_ from ?_) h)
  .obtain⟨y,hy,_⟩:=nm k (by omega);have hne:(x.toList==y.toList)=false:=by rw[V6];intro e;have e:=nm_eq e;have a1:=Vx.1 hx;have a2:=Vx.1 hy;exact List.pairwise_iff_getElem.1 hv.nod k i a2.1 a1.1 hk (a2.2.trans (e.symm.trans a1.2.symm))
   unfold It;rw[Ah (VB (by omega)),Ab (by omega),Ab (by simp only[iN];omega),VL,VE,Al hx,Ab (by omega),Ab (by simp only[iN];omega),VL,VE,Al hy,hne,Ad rfl,zW k (by omega)]
  .unfold It;rw[Ad (VA (by omega)),zW i (by omega)]
 .unfold HZ;rw[Ad (VA (by simp only[iN];omega))]
inductive De where | l0 (v0 v1 v2:Int) | l1 (v0 v1:Int) | l2 (v0 v1:Int) (v2:Bool) (v3:Int)
def rvnSt(n:Aa):De->St | .l0 v0 v1 v2=>St.mk 163 [(1,AV.ptr 0 0 0),(3,iv v0),(4,iv v1),(5,iv v2)] [some (bK [Ai n] 8)] | .l1 v0 v1=>St.mk 163 [(1,AV.ptr 0 0 0),(4,iv v0),(7,iv v1)] [some (bK [Ai n] 8)] | .l2 v0 v1 v2 v3=>St.mk 163 [(1,AV.ptr 0 0 0),(4,iv v0),(7,iv v1),(8,bV v2),(9,iv v3)] [some (bK [Ai n] 8)]
def NC(n:Aa):Option (De⊕Ret):=gu (Rows n.nx) <|gu (An n) <|br (decide (6<iN (Wn sA n.ss).length)) (none) (br (decide (8<iN (Wn iV n.rs).length)) (none) (br (CY (Aa.mk [] [] [] [] n.q n.a n.d n.p)) (some (.inl (.l0 (iN (Wn bA n.bs).length) ((0:Int)) ((0:Int))))) (none)))
def GG(n:Aa)(v0 v1 v2:Int):Option (De⊕Ret):=br (decide (v2<iN (Wn sA n.ss).length)) (gu (0<=v2) <|el (n.ss) (v2.toNat) fun(x50:Au)=>br (decide (x50.i<0)) (none) (br (decide (iN (Wn bA n.bs).length<=x50.i)) (none) (br (decide (x50.o<0)) (none) (br (decide (iN (Wn bA n.bs).length<=x50.o)) (none) (br (decide (x50.k<1)) (none) (br (decide (4<x50.k)) (none) (br (x50.b != v0) (none) (br (x50.dep) (some (.inl (.l0 (i64.wrap (v0+x50.k)) (i64.wrap (v1+1)) (i64.wrap (v2+1))))) (some (.inl (.l0 (i64.wrap (v0+x50.k)) v1 (i64.wrap (v2+1))))))))))))) (some (.inl (.l1 v1 ((0:Int)))))
def HS(n:Aa)(v0 v1:Int):Option (De⊕Ret):=br (decide (v1<iN (Wn iV n.rs).length)) (some (.inl (.l2 v0 v1 (false) ((0:Int))))) (some (.inr ([],bV (decide (0<v0)))))
def Jj(n:Aa)(v0 v1:Int)(v2:Bool)(v3:Int):Option (De⊕Ret):=br (decide (v3<iN (Wn sA n.ss).length)) (gu (0<=v3) <|el (n.ss) (v3.toNat) fun(x117:Au)=>br v2 (some (.inl (.l2 v0 v1 (true) (i64.wrap (v3+1))))) (br (x117.dep) (gu (0<=v1) <|el (n.rs) (v1.toNat) fun(x127:Int)=>br (decide (x117.b<=x127)) (el (n.rs) (v1.toNat) fun(x137:Int)=>some (.inl (.l2 v0 v1 (decide (x137<i64.wrap (x117.b+x117.k))) (i64.wrap (v3+1))))) (some (.inl (.l2 v0 v1 (false) (i64.wrap (v3+1)))))) (some (.inl (.l2 v0 v1 (false) (i64.wrap (v3+1))))))) (br (!v2) (none) (gu (∀(e:AV),e∈Wn iV n.rs->e.cells.length=1) <|gu (0<=v1) <|gu (v1<=iN (Wn iV n.rs).length) <|el (n.rs) (v1.toNat) fun(x157:Int)=>gu ((Wq (v1.toNat-Ws 0) (Wp (Ws 0) n.rs)).length<=9223372036854775807) <|br (AS (Wq (v1.toNat-Ws 0) (Wp (Ws 0) n.rs)) x157) (none) (some (.inl (.l1 v0 (i64.wrap (v1+1)))))))
def rvnStep(n:Aa):De->Option (De⊕Ret) | .l0 v0 v1 v2=>GG n v0 v1 v2 | .l1 v0 v1=>HS n v0 v1 | .l2 v0 v1 v2 v3=>Jj n v0 v1 v2 v3
theorem rvn_ct(n:Aa)(r:Ret)(h:Ac (rvnStep n) (NC n) r):CT Wu 103 ([]) ([Ai n]) r.1 r.2:=CT.mach (fn:=Tryz.f103) (c:=zB Tryz.f103) (S:=(rvnSt n)) (hd:=De.ctorIdx) Tryz.func103 (by kernel_rfl) (nL rfl) (fun s o ho=>match s,ho with | .l0 v0 v1 v2,ho=>Scr.ok (X:=GG n v0 v1 v2) ho mix (.ra cR <|.br (fun a0=>.gu fun a1=>.el fun x50 a2=>.rd [89] [(50,sA x50)] [] (bX a0 (bH a1 (Ae (f:=sA) a2) aS)) <|.br (fun a3=>.no) (fun a3=>.br (fun a4=>.no) (fun a4=>.br (fun a5=>.no) (fun a5=>.br (fun a6=>.no) (fun a6=>.br (fun a7=>.no) (fun a7=>.br (fun a8=>.no) (fun a8=>.rb [110,126,136,152,162,172] (bC (ag a3 (b6 a3 t3 (u2 (aX a4 (ag a5 (b6 a5 t3 (u2 (aX a6 (aX a7 (bt a8 (bT a8 t3 a8)))))))))))) <|.br (fun a9=>.no) (fun a9=>.rv 1 [110,126,136,152,162,172,182] [] [] (ax a9 (bb t3 s2) aw) <|.br (fun a10=>.pa [110,126,136,152,162,172,195] [0] [1,3,4,5] (bm a10 aE aE t6)) (fun a10=>.pa [110,126,136,152,162,172,194] [0] [1,3,4,5] (b4 a10 t6)))))))))) (fun a0=>.pa [88] [0] [1,4,7] (cO a0 t5))) (by kernel_rfl) | .l1 v0 v1,ho=>Scr.ok (X:=HS n v0 v1) ho mix (.ra cR <|.br (fun a0=>.pa [209] [0] [1,4,7,8,9] (ar a0 aw t7)) (fun a0=>.ta [208] (az (af a0 aE)))) (by kernel_rfl) | .l2 v0 v1 v2 v3,ho=>Scr.ok (X:=Jj n v0 v1 v2 v3) ho mix (.ra cR <|.br (fun a0=>.gu fun a1=>.el fun x117 a2=>.rd [223] [(117,sA x117)] [] (bX a0 (bH a1 (Ae (f:=sA) a2) aS)) <|.br (fun a3=>.pa [241] [0] [1,4,7,8,9] (b4 (bg a3 (aC a3 (k3 (k5 (aC a3 (bL (bp a3 (cc a3)))))))) t7)) (fun a3=>.br (fun a4=>.gu fun a5=>.el fun x127 a6=>.br (fun a7=>.el fun x137 a8=>.pb [240,247,267] [(127,iv x127),(137,iv x137)] [] [] [0] [1,4,7,8,9] (b4 (aa (ai a3 (ae a3 a4 (ai a4 (cn a4 a5 (Ae (f:=iv) a6) (ai a4 (bv a4 t3 (bq a3 a4) (ae a3 a7 (ai a7 (cn a7 a5 (Ae (f:=iv) a8) (aI a7 (ar a7 t3 (bv a7 t3 (bq a3 a7) (cc a3)))))))))))))) t7)) (fun a7=>.pb [240,247,266] [(127,iv x127)] [] [] [0] [1,4,7,8,9] (b4 (aa (ai a3 (ae a3 a4 (ai a4 (cn a4 a5 (Ae (f:=iv) a6) (ai a4 (bv a4 t3 (bq a3 a4) (ag a3 (cA a7 (aZ a7 (ab a7 (bq a3 a7) (cc a3)))))))))))) t7))) (fun a4=>.pa [240,246] [0] [1,4,7,8,9] (b4 (aa (bt a3 (aj a4 (cA a4 (ab a4 (bq a3 a4) (ag a3 (bL (k5 (aW a3 t3 s2))))))))) t7)))) (fun a0=>.br (fun a1=>.no) (fun a1=>.gu fun a2=>.gu fun a3=>.gu fun a4=>.el fun x157 a5=>.gu fun a6=>have c0:=EP (Wq (v1.toNat-Ws 0) (Wp (Ws 0) n.rs)) x157 a6;.rd [222,298] [(157,iv x157)] [(159,hK c0 [] [])] (bX a0 (bt a1 (aW a1 (k2 (ab a2 (Int.le_refl 0) (ab a3 a4 (show iN (Wn iv n.rs).length<=iN (Wn iv n.rs).length by omega)))) (ai a1 (cn a1 a3 (Ae (f:=iv) a5) (bT a1 (bu (show CT Wu 16 [] [Wt (Wq (v1.toNat-Ws 0) (Wp (Ws 0) (Wn iv n.rs))),iv x157] [] (bV (AS (Wq (v1.toNat-Ws 0) (Wp (Ws 0) n.rs)) x157)) from CT.eqs (c0) (by first | (simp only[boL,VJ,Wj,List.map_take,List.map_drop,List.map_replicate,List.nil_append]<;>rfl) | (simp[gL,boL,lI,sA,bA]<;>rfl)) (by first | (simp only[boL,VJ,Wj,List.map_take,List.map_drop,List.map_replicate,List.nil_append]<;>rfl) | (simp[gL,boL,lI,sA,bA]<;>rfl)))) a1)))))) <|.br (fun a7=>.no) (fun a7=>.pa [298,320] [0] [1,4,7] (b4 a7 t5))))) (by kernel_rfl)) (fun o ho=>Scr.ok (X:=NC n) ho mix (.ra bR <|.gu fun a0=>.gu fun a1=>.br (fun a2=>.no) (fun a2=>.br (fun a3=>.no) (fun a3=>.br (fun a4=>have c0:=rbl_v a0 a1;have c1:=rnm_ok a1;have c2:=cfg_w (n.q) (n.a) (n.d) (n.p) a4;.pb [40,62] [] [(12,hK c0 [] []),(22,hK c1 [] []),(34,hK c2 [] [])] [] [0] [1,3,4,5] (ar (cQ t9 (c0) (bg t3 (cK (cK (u2 (ag a2 (cJ a2 (bc t9 (c1)) (aG t3 (cK (cK (cP a3 (aW a3 (bc t5 (c2)) (bE a3))))))))))))) (aU (ah t2) s2) t6)) (fun a4=>.no)))) (by kernel_rfl)) h
def dpN(n:Aa)(i:Nat):Int:=((n.ss.take i).filter (·.dep)).length
def okS(c:Int)(s:Au):Bool:=s.dep&&(decide (s.b<=c)&&decide (c<s.b+s.k))
theorem Sn{n:Aa}(hrw:Rows n.nx)(hv:An n):CT Wu 103 [] [Ai n] [] (.bool true):=by
 have hn:=hv.nb24;have hns:=hv.ns;have hnr:=hv.nr;have hbl:iN (Wn bA n.bs).length=(n.bs.length:Int):=by simp[iN]
 have hdb:∀i,0<=dpN n i/\dpN n i<=6:=fun i=>by unfold dpN;have:=List.length_filter_le (fun s:Au=>s.dep) (n.ss.take i);rw[VX] at this;omega
 have hds:∀{i:Nat} {s:Au},n.ss[i]?=some s->dpN n (i+1)=dpN n i+if s.dep=true then 1 else 0:=fun {i s} hs=>by unfold dpN;rw[List.take_add_one,hs,Option.toList_some,List.filter_append,VP];cases hd:s.dep<;>simp[List.filter,hd]
 refine rvn_ct n ([],_) ?_;unfold NC;rw[Ab hrw,Ab hv,Ad (VA (by simp only[iN,Vy];omega)),Ad (VA (by simp only[iN,Vy];omega)),Ah (by have:=hv.cfg;unfold CY at this ⊢;exact this),hbl,show(n.bs.length:Int)=AQ n 0 by simp[AQ]];refine Bb (fun i=>De.l0 (AQ n i) (dpN n i) (i:Int)) n.ss.length (fun i hi h=>.to (show GG n _ _ i=_ from ?_) h) (.to (show GG n _ _ n.ss.length=some (.inl (.l1 (dpN n n.ss.length) 0)) from ?_) ?_)
 .have hx:n.ss[i]?=some n.ss[i]:=Vv hi;have g:=hv.spu i _ hx;have g1:=Bm.1 g.hi;have g2:=Bm.1 g.ho;have g3:=Bm.1 g.hk;have hb:=hv.bd (i+1);have hd:=hdb i;have hd1:=hds hx;rw[C1 hx] at hb ⊢
  unfold GG;rw[AR hx,hbl,Ad (VA (by omega)),Ad (VA (by omega)),Ad (VA (by omega)),Ad (VA (by omega)),Ad (VA (by omega)),Ad (VA (by omega)),Ad (by simpa using g.hb),A3 _ (by omega) (by omega),zW i (by omega),A3 _ (by omega) (by omega),hd1];cases n.ss[i].dep<;>simp[br]
 .unfold GG;rw[AN]
 have hp:decide (0<dpN n n.ss.length)=true:=by obtain⟨x,s,hs,hd,_⟩:=hv.dep;unfold dpN;have:=List.length_pos_of_mem (List.mem_filter.2 ⟨hs,hd⟩);exact VB (Int.natCast_pos.2 this)
 refine Bb (fun i=>De.l1 (dpN n n.ss.length) (i:Int)) n.rs.length (fun i hi h=>.to (show HS n _ i=some (.inl (.l2 (dpN n n.ss.length) i false 0)) from ?_) ?_) (.to (show HS n _ n.rs.length=_ from ?_) (.ret _))
 .unfold HS;rw[Ah (VB (by simp only[iN,Vy];omega))]
 .have hx:n.rs[i]?=some n.rs[i]:=Vv hi;obtain⟨⟨t,ht,hd1,hd2,hd3⟩,hr2⟩:=hv.rob i _ hx;generalize n.rs[i]=c at *;refine Bb (fun k=>De.l2 (dpN n n.ss.length) (i:Int) ((n.ss.take k).any (okS c)) (k:Int)) n.ss.length (fun k hk hh=>.to (show Jj n _ i _ k=_ from ?_) hh) (.to (show Jj n _ i _ n.ss.length=_ from ?_) h)
  .have hs:n.ss[k]?=some n.ss[k]:=Vv hk;have g:=hv.spu k _ hs;have g3:=Bm.1 g.hk;have hb:=hv.bd k;have hb2:=g.hb;have e:(n.ss.take (k+1)).any (okS c)=((n.ss.take k).any (okS c)||okS c n.ss[k]):=by rw[List.take_add_one,hs,Option.toList_some,List.any_append];simp
   unfold Jj;rw[AR hs,e,zW k (by omega)];cases (n.ss.take k).any (okS c) with
   | true=>rw[Ah rfl];rfl
   | false=>
    unfold okS;rw[Ad rfl,Ab (by omega),VE,Al hx,Al hx,A3 _ (by omega) (by omega)];cases n.ss[k].dep with
    | false=>rfl
    | true=>cases decide (n.ss[k].b<=c)<;>rfl
  .have hT:(n.ss.take n.ss.length).any (okS c)=true:=List.any_eq_true.2 ⟨t,ht,by unfold okS;rw[hd1,VB hd2,VB hd3];rfl⟩;have hz:AS (Wq ((i:Int).toNat-Ws 0) (Wp (Ws 0) n.rs)) c=false:=by
    cases hq:AS (Wq ((i:Int).toNat-Ws 0) (Wp (Ws 0) n.rs)) c with
    | false=>rfl
    | true=>exact absurd (FD.1 hq) (by simpa using hr2)
   unfold Jj;rw[AN,hT,Ad (by rfl),Ab (fun e he=>by obtain⟨x,_,rfl⟩:=V0.1 he;rfl),Ab (by omega),Ab (by simp only[iN,Vy];omega),VE,Al hx];rw[VE] at hz;rw[Ab (by simp only[VX,Vl];omega),hz,Ad rfl,zW i (by omega)]
 .unfold HS;rw[Ad (VA (by simp only[iN,Vy];omega)),hp]
inductive Ea where | l0 (v0:List Int) (v1:Int) | l1 (v0:List Int) (v1:Int) | l2 (v0:List Int) (v1 v2:Int) | l3 (v0:List Int) (v1 v2 v3:Int)
def Ed(g:List (List Int))(sh:List Bool)(q:Int):Ea->St | .l0 v0 v1=>St.mk 82 [(0,Wt (gL g)),(1,Wt (boL sh)),(2,iv q),(7,AV.sl 0 0 v0.length),(8,iv v1)] [some (bK (Wn iv v0) 1)] | .l1 v0 v1=>St.mk 82 [(0,Wt (gL g)),(1,Wt (boL sh)),(7,AV.sl 0 0 v0.length),(9,iv v1)] [some (bK (Wn iv v0) 1)] | .l2 v0 v1 v2=>St.mk 82 [(0,Wt (gL g)),(1,Wt (boL sh)),(7,AV.sl 0 0 v0.length),(9,iv v1),(10,iv v2)] [some (bK (Wn iv v0) 1)] | .l3 v0 v1 v2 v3=>St.mk 82 [(0,Wt (gL g)),(1,Wt (boL sh)),(7,AV.sl 0 0 v0.length),(9,iv v1),(10,iv v2),(11,iv v3)] [some (bK (Wn iv v0) 1)]
def KY(g:List (List Int))(sh:List Bool)(q:Int):Option (Ea⊕Ret):=gu (8 * iN (gL g).length<=281474976710656) <|gu (iN (gL g).length<=9223372036854775807) <|some (.inl (.l0 (Wo (gL g).length 0) ((0:Int))))
def GV(g:List (List Int))(sh:List Bool)(q:Int)(v0:List Int)(v1:Int):Option (Ea⊕Ret):=br (decide (v1<iN (gL g).length)) (gu (0<=v1) <|gu (v1<iN v0.length) <|gu ((0+v1.toNat).succ.le (Wn iV v0).length) <|some (.inl (.l0 (v0.set (0+v1.toNat) (-1)) (i64.wrap (v1+1))))) (gu (0<=q) <|el (sh) (q.toNat) fun(x26:Bool)=>br x26 (some (.inr ([],Wt (Wn iV v0)))) (gu (q<iN v0.length) <|gu ((0+q.toNat).succ.le (Wn iV v0).length) <|some (.inl (.l1 (v0.set (0+q.toNat) 0) ((1:Int))))))
def H6(g:List (List Int))(sh:List Bool)(q:Int)(v0:List Int)(v1:Int):Option (Ea⊕Ret):=br (decide (v1<iN (gL g).length)) (some (.inl (.l2 v0 v1 ((0:Int))))) (some (.inr ([],Wt (Wn iV v0))))
def Jb(g:List (List Int))(sh:List Bool)(q:Int)(v0:List Int)(v1 v2:Int):Option (Ea⊕Ret):=br (decide (v2<iN (gL g).length)) (gu (0<=v2) <|el (sh) (v2.toNat) fun(x46:Bool)=>br x46 (some (.inl (.l2 v0 v1 (i64.wrap (v2+1))))) (gu (v2<iN v0.length) <|el v0 (0+v2.toNat) fun(x52:Int)=>br (decide (0<=x52)) (some (.inl (.l2 v0 v1 (i64.wrap (v2+1))))) (some (.inl (.l3 v0 v1 v2 ((0:Int))))))) (some (.inl (.l1 v0 (i64.wrap (v1+1)))))
def G5(g:List (List Int))(sh:List Bool)(q:Int)(v0:List Int)(v1 v2 v3:Int):Option (Ea⊕Ret):=gu (0<=v2) <|el g (v2.toNat) fun(x58:List Int)=>br (decide (v3<iN (Wn iV x58).length)) (el g (v2.toNat) fun(x67:List Int)=>gu (0<=v3) <|el x67 (v3.toNat) fun(x70:Int)=>gu (0<=x70) <|gu (x70<iN v0.length) <|el v0 (0+x70.toNat) fun(x73:Int)=>br (x73==i64.wrap (v1-1)) (gu (v2<iN v0.length) <|gu ((0+v2.toNat).succ.le (Wn iV v0).length) <|some (.inl (.l3 (v0.set (0+v2.toNat) v1) v1 v2 (i64.wrap (v3+1))))) (some (.inl (.l3 v0 v1 v2 (i64.wrap (v3+1)))))) (some (.inl (.l2 v0 v1 (i64.wrap (v2+1)))))
def Cm(g:List (List Int))(sh:List Bool)(q:Int):Ea->Option (Ea⊕Ret) | .l0 v0 v1=>GV g sh q v0 v1 | .l1 v0 v1=>H6 g sh q v0 v1 | .l2 v0 v1 v2=>Jb g sh q v0 v1 v2 | .l3 v0 v1 v2 v3=>G5 g sh q v0 v1 v2 v3
theorem dst_ct(g:List (List Int))(sh:List Bool)(q:Int)(r:Ret)(h:Ac (Cm g sh q) (KY g sh q) r):CT Wu 159 ([]) ([.lst (gL g),.lst (boL sh),.int .i64 q]) r.1 r.2:=CT.mach (fn:=Tryz.f159) (c:=zB Tryz.f159) (S:=(Ed g sh q)) (hd:=Ea.ctorIdx) Tryz.func159 (by kernel_rfl) (nL rfl) (fun s o ho=>match s,ho with | .l0 v0 v1,ho=>Scr.ok (X:=GV g sh q v0 v1) ho mix (.ra cF <|.br (fun a0=>.gu fun a1=>.gu fun a2=>.gu fun a3=>.lq [37] [] [] [] [] [0] [0,1,2,7,8] (up [(7,AV.sl 0 0 v0.length)] [(0,(Wn iv v0).set (0+v1.toNat) (iv (-1)))] (Ed g sh q (.l0 (v0.set (0+v1.toNat) (-1)) (i64.wrap (v1+1))))) (bm a0 (cD (an a1 a2) (ak a3)) aE t7) (by simp[up,upF,upV,upH,upB,Ed,gL,boL,lI])) (fun a0=>.gu fun a1=>.el fun x26 a2=>.rd [36] [(26,bV x26)] [] (af a0 (bN a1 (Ae (f:=bV) a2) s2)) <|.br (fun a3=>.tc [55] [] [0] (aJ a3 aw (show v0.length=(Wn iv v0).length by simp))) (fun a3=>.gu fun a4=>.gu fun a5=>.lq [54] [] [] [] [] [0] [0,1,7,9] (up [(7,AV.sl 0 0 v0.length)] [(0,(Wn iv v0).set (0+q.toNat) (iv 0))] (Ed g sh q (.l1 (v0.set (0+q.toNat) 0) ((1:Int))))) (aj (ab a3 (cD (an a1 a4) (ak a5)) s2) t6) (by simp[up,upF,upV,upH,upB,Ed,gL,boL,lI])))) (by kernel_rfl) | .l1 v0 v1,ho=>Scr.ok (X:=H6 g sh q v0 v1) ho mix (.ra cF <|.br (fun a0=>.pa [71] [0] [0,1,7,9,10] (cO a0 t7)) (fun a0=>.tc [70] [] [0] (aJ a0 aw (show v0.length=(Wn iv v0).length by simp)))) (by kernel_rfl) | .l2 v0 v1 v2,ho=>Scr.ok (X:=Jb g sh q v0 v1 v2) ho mix (.ra cF <|.br (fun a0=>.gu fun a1=>.el fun x46 a2=>.br (fun a3=>.pb [83,97] [(46,bV x46)] [] [] [0] [0,1,7,9,10] (aj (cf a0 (bN a1 (Ae (f:=bV) a2) (bg a3 (aC a3 (bW a3)))) aE) t7)) (fun a3=>.gu fun a4=>.el fun x52 a5=>.rd [83,96] [(46,bV x46),(52,iv x52)] [] (af a0 (bN a1 (Ae (f:=bV) a2) (aa (ai a3 (bv a3 (an a1 a4) (aj a3 (ak (Ae (f:=iv) a5))) (ag a3 (bE a3))))))) <|.br (fun a6=>.pa [96,109] [0] [0,1,7,9,10] (b4 a6 t7)) (fun a6=>.pa [96,108] [0] [0,1,7,9,10,11] (cO a6 t8)))) (fun a0=>.pa [82] [0] [0,1,7,9] (b4 a0 t6))) (by kernel_rfl) | .l3 v0 v1 v2 v3,ho=>Scr.ok (X:=G5 g sh q v0 v1 v2 v3) ho mix (.gu fun a0=>.el fun x58 a1=>.rd [] [(58,lI x58)] [] (aL (aB a0 (Ae (f:=lI) a1) cM)) <|.br (fun a2=>.el fun x67 a3=>.gu fun a4=>.el fun x70 a5=>.gu fun a6=>.gu fun a7=>.el fun x73 a8=>.rd [123] [(67,lI x67),(70,iv x70),(73,iv x73)] [] (bX a2 (aB a0 (Ae (f:=lI) a3) (aa (bH a4 (Ae (f:=iv) a5) (b7 (an a6 a7) (Ae (f:=iv) a8) cM))))) <|.br (fun a9=>.gu fun a10=>.gu fun a11=>.lq [153] [] [] [] [] [0] [0,1,7,9,10,11] (up [(7,AV.sl 0 0 v0.length)] [(0,(Wn iv v0).set (0+v2.toNat) (iv v1))] (Ed g sh q (.l3 (v0.set (0+v2.toNat) v1) v1 v2 (i64.wrap (v3+1))))) (bm a9 (am (af (an a0 a10) (k2 a11))) aE t8) (by simp[up,upF,upV,upH,upB,Ed,gL,boL,lI])) (fun a9=>.pa [152] [0] [0,1,7,9,10,11] (b4 a9 t8))) (fun a2=>.pa [122] [0] [0,1,7,9,10] (b4 a2 t7))) (by kernel_rfl)) (fun o ho=>Scr.ok (X:=KY g sh q) ho mix (.ra s2 <|.gu fun a0=>.gu fun a1=>.lq [] [] [] [] [] [0] [0,1,2,7,8] (up [(7,AV.sl 0 0 (gL g).length)] [(0,Wo (gL g).length (iv 0))] (Ed g sh q (.l0 (Wo (gL g).length 0) ((0:Int))))) (cO (bN (show 0<=iN (gL g).length from(Int.natCast_nonneg _)) (ab (show iN (gL g).length<=iN (gL g).length by omega) a0 a1) s2) t7) (by simp[up,upF,upV,upH,upB,Ed,gL,boL,lI])) (by kernel_rfl)) h
structure DsP(g:List (List Int))(q:Nat)(d:List Int):Prop where
 len:d.length=g.length
 rng:∀v,v<g.length->-1<=d.getD v 0/\d.getD v 0<=g.length
 stp:∀v,v<g.length->0<d.getD v 0->∃w:Nat,(w:Int)∈g.getD v []/\w<g.length/\d.getD w 0=d.getD v 0-1
 zer:∀v,v<g.length->d.getD v 0=0->v=q
theorem DJ{l:List Int}{i j:Nat}{x:Int}(hi:i<l.length):(l.set i x).getD j 0=if i=j then x else l.getD j 0:=by
 rw[Vw,Wk];by_cases h:i=j
 .subst h;rw[Vt rfl,Vt hi,Vt rfl];rfl
 .rw[Vu h,Vu h,Vw]
theorem DsP.set{g:List (List Int)}{q:Nat}{d:List Int}(h:DsP g q d){v w:Nat}{x:Int}(hv:v<g.length)(hw:w<g.length)(hm:(w:Int)∈g.getD v [])(hne:w≠v)(hx:1<=x/\x<=g.length)(hd:d.getD w 0=x-1)(h0:d.getD v 0 = -1\/d.getD v 0=x):DsP g q (d.set v x):=by
 have hl:=h.len;have e:∀j,(d.set v x).getD j 0=if v=j then x else d.getD j 0:=fun j=>DJ (by omega)
 refine⟨by rw[V4];exact hl,fun u hu=>?_,fun u hu hp=>?_,fun u hu hp=>?_⟩
 .rw[e];split
  .omega
  .exact h.rng u hu
 .rw[e] at hp ⊢
  split at hp
  .rename_i e1;rw[Vt e1];subst e1;exact⟨w,hm,hw,by rw[e,Vu (fun e=>hne e.symm)];exact hd⟩
  .rename_i e1;rw[Vu e1];obtain⟨t,t1,t2,t3⟩:=h.stp u hu hp;refine⟨t,t1,t2,?_⟩;rw[e];split
   .rename_i e2;subst e2;rcases h0 with h0 | h0<;>omega
   .exact t3
 .rw[e] at hp;split at hp
  .omega
  .exact h.zer u hu hp
theorem dst_ex{g:List (List Int)}{sh:List Bool}(hg:OkG g sh){q:Nat}(hq:q<g.length):∃d:{d:List Int // DsP g q d},Ac (Cm g sh q) (KY g sh q) (([],lI d.1):Ret):=by
 have hgl:=B4 g;have hl:=hg.len;have hsh:=hg.sh
 have e3:∀(x v:Nat),v<g.length->1<=x->x<=g.length->(∀d,DsP g q d->∃d':{d:List Int // DsP g q d},Ac (Cm g sh q) (some (.inl (.l2 d (x:Int) ((v+1:Nat):Int)))) (([],lI d'.1):Ret))->
   ∀(m k:Nat) (d:List Int),k+m=(g.getD v []).length->DsP g q d->(d.getD v 0 = -1\/d.getD v 0=x)->∃d':{d:List Int // DsP g q d},Ac (Cm g sh q) (some (.inl (.l3 d (x:Int) (v:Int) (k:Int)))) (([],lI d'.1):Ret):=by
  intro x v hv hx hxg nx m;have hrow:=hg.row v hv;have hr:=Ay [] hv;induction m with
  | zero=>intro k d hk hd _;refine Az (show Cm g sh q (.l3 d x v k)=G5 g sh q d x v k from rfl) ?_;unfold G5;rw[Ab (by omega),VE,Al hr,Ad (VA (by simp only[iN,Vy];omega)),zW v (by omega)];exact nx d hd
  | succ m ih=>
   intro k d hk hd h0;have hdl:=hd.len;obtain⟨w,hw1,hw2,hw3⟩:=J0 hg hv (i:=k) (by omega);have hwk:=Ay 0 (show k<(g.getD v []).length by omega);rw[hw1] at hwk;have hwm:=Vz hwk;have hdw:=Ay 0 (show w<d.length by omega);refine Az (show Cm g sh q (.l3 d x v k)=G5 g sh q d x v k from rfl) ?_;unfold G5;rw[Ab (by omega),VE,Al hr,Ah (VB (by simp only[iN,Vy];omega)),Al hr,Ab (by omega),VE,Al hwk,Ab (by omega),Ab (by simp only[iN];omega),VL,VE,Al hdw,Qk x (by omega) (by omega),zW k (by omega)];cases hb:d.getD w 0==((x-1:Nat):Int) with
   | false=>rw[Ad rfl];exact ih (k+1) d (by omega) hd h0
   | true=>have hb:=beq_iff_eq.1 hb;rw[Ah rfl,Ab (by simp only[iN];omega),Ab (show Nat.le _ _ from by show 0+v+1<=_;simp only[Vy];omega),VL];exact ih (k+1) _ (by omega) (hd.set hv hw2 hwm hw3 ⟨by omega,by omega⟩ (by omega) h0) (.inr (by rw[DJ (by omega),Vt rfl]))
 have e2:∀(x:Nat),1<=x->x<=g.length->(∀d,DsP g q d->∃d':{d:List Int // DsP g q d},Ac (Cm g sh q) (some (.inl (.l1 d ((x+1:Nat):Int)))) (([],lI d'.1):Ret))->
   ∀(m v:Nat) (d:List Int),v+m=g.length->DsP g q d->∃d':{d:List Int // DsP g q d},Ac (Cm g sh q) (some (.inl (.l2 d (x:Int) (v:Int)))) (([],lI d'.1):Ret):=by
  intro x hx hxg nx m;induction m with
  | zero=>intro v d hv hd;refine Az (show Cm g sh q (.l2 d x v)=Jb g sh q d x v from rfl) ?_;unfold Jb;rw[Ad (VA (by simp only[iN];omega)),zW x (by omega)];exact nx d hd
  | succ m ih=>
   intro v d hv hd;have hdl:=hd.len;have hsv:=Ay false (show v<sh.length by omega);have hdv:=Ay 0 (show v<d.length by omega);have hr:=hd.rng v (by omega);refine Az (show Cm g sh q (.l2 d x v)=Jb g sh q d x v from rfl) ?_;unfold Jb;rw[Ah (VB (by simp only[iN];omega)),Ab (by omega),VE,Al hsv,zW v (by omega)];refine Ak (fun _=>ih (v+1) d (by omega) hd) fun _=>?_
   rw[Ab (by simp only[iN];omega),VL,Al hdv];refine Bn (fun _=>ih (v+1) d (by omega) hd) fun h=>?_
   exact e3 x v (by omega) hx hxg (fun d hd=>ih (v+1) d (by omega) hd) (g.getD v []).length 0 d (VL _) hd (.inl (by omega))
 have e1:∀(m x:Nat) (d:List Int),1<=x->x+m=g.length+1->DsP g q d->∃d':{d:List Int // DsP g q d},Ac (Cm g sh q) (some (.inl (.l1 d (x:Int)))) (([],lI d'.1):Ret):=by
  intro m;induction m with
  | zero=>intro x d hx hm hd;refine Az (show Cm g sh q (.l1 d x)=H6 g sh q d x from rfl) ?_;unfold H6;rw[Ad (VA (by simp only[iN];omega))];exact⟨⟨d,hd⟩,.ret _⟩
  | succ m ih=>
   intro x d hx hm hd;refine Az (show Cm g sh q (.l1 d x)=H6 g sh q d x from rfl) ?_;unfold H6;refine Bn (fun h=>?_) fun _=>⟨⟨d,hd⟩,.ret _⟩
   exact e2 x hx (by simp only[iN] at h;omega) (fun d hd=>ih (x+1) d (by omega) (by omega) hd) g.length 0 d (VL _) hd
 have hlow:∀(d:List Int),d.length=g.length->(∀v,v<g.length->d.getD v 0 = -1\/v=q/\d.getD v 0=0)->DsP g q d:=fun d hd h=>by refine⟨hd,fun v hv=>?_,fun v hv hp=>?_,fun v hv hp=>?_⟩<;>rcases h v hv with h1 | ⟨h1,h2⟩<;>first | omega | exact h1
 have e0:∀(m i:Nat) (d:List Int),i+m=g.length->d.length=g.length->(∀v,v<i->d.getD v 0 = -1)->∃d':{d:List Int // DsP g q d},Ac (Cm g sh q) (some (.inl (.l0 d (i:Int)))) (([],lI d'.1):Ret):=by
  intro m;induction m with
  | zero=>
   intro i d hi hd hf;refine Az (show Cm g sh q (.l0 d i)=GV g sh q d i from rfl) ?_;unfold GV;rw[Ad (VA (by simp only[iN];omega)),Ab (by omega),VE,Al (Ay false (show q<sh.length by omega))];refine Ak (fun _=>⟨⟨d,hlow d hd fun v hv=>.inl (hf v (by omega))⟩,.ret _⟩) fun _=>?_
   rw[Ab (by simp only[iN];omega),Ab (show Nat.le _ _ from by show 0+q+1<=_;simp only[Vy];omega),VL];refine e1 g.length 1 _ (VH _) (by omega) (hlow _ (by rw[V4];exact hd) fun v hv=>?_);rw[DJ (by omega)];split
   .rename_i e;exact .inr ⟨e.symm,rfl⟩
   .exact .inl (hf v (by omega))
  | succ m ih=>
   intro i d hi hd hf;refine Az (show Cm g sh q (.l0 d i)=GV g sh q d i from rfl) ?_;unfold GV;rw[Ah (VB (by simp only[iN];omega)),Ab (by omega),Ab (by simp only[iN];omega),Ab (show Nat.le _ _ from by show 0+(i:Int).toNat+1<=_;simp only[Vy];omega),zW i (by omega),VL,VE];refine ih (i+1) _ (by omega) (by rw[V4];exact hd) fun v hv=>?_
   rw[DJ (by omega)];split
   .rfl
   .exact hf v (by omega)
 unfold KY;exact Ag (by simp only[iN];omega) (Ag (by simp only[iN];omega) (e0 g.length 0 _ (VL _) (by rw[VQ,hgl]) fun v hv=>by omega))
theorem MP(g:List (List Int))(sh:List Bool)(q:Int):∃d:List Int,OkG g sh->0<=q->q<(g.length:Int)->DsP g q.toNat d/\CT Wu 159 [] [.lst (gL g),.lst (boL sh),.int .i64 q] [] (lI d):=by
 by_cases h:OkG g sh/\0<=q/\q<(g.length:Int)
 .obtain⟨d,hd⟩:=dst_ex h.1 (q:=q.toNat) (by omega);rw[VW h.2.1] at hd;exact⟨d.1,fun _ _ _=>⟨d.2,dst_ct g sh q _ hd⟩⟩
 .exact⟨[],fun a b c=>absurd ⟨a,b,c⟩ h⟩
@[irreducible] def dsL(g:List (List Int))(sh:List Bool)(q:Int):List Int:=Classical.choose (MP g sh q)
theorem ds_p{g:List (List Int)}{sh:List Bool}{q:Int}(hg:OkG g sh)(h0:0<=q)(h1:q<(g.length:Int)):DsP g q.toNat (dsL g sh q):=by unfold dsL;exact(V8 (MP g sh q) hg h0 h1).1
theorem ds_c(g:List (List Int))(sh:List Bool)(q:Int)(hg:OkG g sh)(h0:0<=q)(h1:q<(g.length:Int)):CT Wu 159 [] [.lst (gL g),.lst (boL sh),.int .i64 q] [] (lI (dsL g sh q)):=by unfold dsL;exact(V8 (MP g sh q) hg h0 h1).2
inductive FJ where | l0 (v0:List Int) (v1:Int) | l1 (v0:List Int) (v1 v2:Int)
def FP(g:List (List Int))(sh:List Bool)(q:Int):FJ->St | .l0 v0 v1=>St.mk 67 [(0,Wt (gL g)),(7,Wt (Wn iv (dsL g sh q))),(8,AV.sl 0 0 v0.length),(9,iv v1)] [some (bK (Wn iv v0) 1)] | .l1 v0 v1 v2=>St.mk 67 [(0,Wt (gL g)),(7,Wt (Wn iv (dsL g sh q))),(8,AV.sl 0 0 v0.length),(9,iv v1),(10,iv v2)] [some (bK (Wn iv v0) 1)]
def LZ(g:List (List Int))(sh:List Bool)(q:Int):Option (FJ⊕Ret):=gu (OkG g sh) <|gu (0<=q) <|gu (q<iN g.length) <|gu (8 * iN (gL g).length<=281474976710656) <|gu (iN (gL g).length<=9223372036854775807) <|some (.inl (.l0 (Wo (gL g).length 0) ((0:Int))))
def Hv(g:List (List Int))(sh:List Bool)(q:Int)(v0:List Int)(v1:Int):Option (FJ⊕Ret):=br (decide (v1<iN (gL g).length)) (gu (0<=v1) <|gu (v1<iN v0.length) <|gu ((0+v1.toNat).succ.le (Wn iV v0).length) <|el g (v1.toNat) fun(x30:List Int)=>some (.inl (.l1 (v0.set (0+v1.toNat) (-1)) v1 (i64.wrap (iN (Wn iV x30).length-1))))) (some (.inr ([],Wt (Wn iV v0))))
def GJ(g:List (List Int))(sh:List Bool)(q:Int)(v0:List Int)(v1 v2:Int):Option (FJ⊕Ret):=br (decide (0<=v2)) (gu (0<=v1) <|el (dsL g sh q) (v1.toNat) fun(x39:Int)=>br (decide (0<x39)) (el g (v1.toNat) fun(x47:List Int)=>gu (0<=v2) <|el x47 (v2.toNat) fun(x50:Int)=>gu (0<=x50) <|el (dsL g sh q) (x50.toNat) fun(x54:Int)=>el (dsL g sh q) (v1.toNat) fun(x58:Int)=>br (x54==i64.wrap (x58-1)) (gu (v1<iN v0.length) <|gu ((0+v1.toNat).succ.le (Wn iV v0).length) <|some (.inl (.l1 (v0.set (0+v1.toNat) x50) v1 (i64.wrap (v2-1))))) (some (.inl (.l1 v0 v1 (i64.wrap (v2-1)))))) (some (.inl (.l0 v0 (i64.wrap (v1+1)))))) (some (.inl (.l0 v0 (i64.wrap (v1+1)))))
def DM(g:List (List Int))(sh:List Bool)(q:Int):FJ->Option (FJ⊕Ret) | .l0 v0 v1=>Hv g sh q v0 v1 | .l1 v0 v1 v2=>GJ g sh q v0 v1 v2
theorem hop_ct(g:List (List Int))(sh:List Bool)(q:Int)(r:Ret)(h:Ac (DM g sh q) (LZ g sh q) r):CT Wu 164 ([]) ([.lst (gL g),.lst (boL sh),.int .i64 q]) r.1 r.2:=CT.mach (fn:=Tryz.f164) (c:=zB Tryz.f164) (S:=(FP g sh q)) (hd:=FJ.ctorIdx) Tryz.func164 (by kernel_rfl) (nL rfl) (fun s o ho=>match s,ho with | .l0 v0 v1,ho=>Scr.ok (X:=Hv g sh q v0 v1) ho mix (.ra cF <|.br (fun a0=>.gu fun a1=>.gu fun a2=>.gu fun a3=>.rb [45] (af a0 (cD (an a1 a2) (ak a3))) <|.el fun x30 a4=>.lq [] [(30,lI x30)] [] [] [] [0] [0,7,8,9,10] (up [(8,AV.sl 0 0 v0.length)] [(0,(Wn iv v0).set (0+v1.toNat) (iv (-1)))] (FP g sh q (.l1 (v0.set (0+v1.toNat) (-1)) v1 (i64.wrap (iN (Wn iv x30).length-1))))) (aj (aR (aB a1 (Ae (f:=lI) a4) (am s2))) t7) (by simp[up,upF,upV,upH,upB,FP,gL,boL,lI])) (fun a0=>.tc [44] [] [0] (aJ a0 aw (show v0.length=(Wn iv v0).length by simp)))) (by kernel_rfl) | .l1 v0 v1 v2,ho=>Scr.ok (X:=GJ g sh q v0 v1 v2) ho mix (.br (fun a0=>.gu fun a1=>.el fun x39 a2=>.rd [73] [(39,iv x39)] [] (aL (ai a0 (cJ a0 (an a1 (Ae (f:=iv) a2)) (bE a0)))) <|.br (fun a3=>.el fun x47 a4=>.gu fun a5=>.el fun x50 a6=>.rd [73,85] [(47,lI x47),(50,iv x50)] [] (af a3 (bN a1 (Ae (f:=lI) a4) (bN a5 (Ae (f:=iv) a6) aw))) <|.gu fun a7=>.el fun x54 a8=>.el fun x58 a9=>.rd [73] [(54,iv x54),(58,iv x58)] [] (aR (aB a7 (Ae (f:=iv) a8) (cH a1 (Ae (f:=iv) a9) cM))) <|.br (fun a10=>.gu fun a11=>.gu fun a12=>.lq [73,123] [] [] [] [] [0] [0,7,8,9,10] (up [(8,AV.sl 0 0 v0.length)] [(0,(Wn iv v0).set (0+v1.toNat) (iv x50))] (FP g sh q (.l1 (v0.set (0+v1.toNat) x50) v1 (i64.wrap (v2-1))))) (bm a10 (am (af (an a1 a11) (k2 a12))) aE t7) (by simp[up,upF,upV,upH,upB,FP,gL,boL,lI])) (fun a10=>.pa [73,122] [0] [0,7,8,9,10] (b4 a10 t7))) (fun a3=>.pa [73,84] [0] [0,7,8,9] (b4 a3 t6))) (fun a0=>.pa [72] [0] [0,7,8,9] (bI (bb a0 (aC a0 (bW a0))) aE t6))) (by kernel_rfl)) (fun o ho=>Scr.ok (X:=LZ g sh q) ho mix (.ra s2 <|.gu fun a0=>.gu fun a1=>.gu fun a2=>have c0:=ds_c g (sh) q a0 a1 a2;.rc [(15,hK c0 [] [])] (aL (aj (bL (al (c0))) s2)) <|.gu fun a3=>.gu fun a4=>.lq [] [] [] [] [] [0] [0,7,8,9] (up [(8,AV.sl 0 0 (gL g).length)] [(0,Wo (gL g).length (iv 0))] (FP g sh q (.l0 (Wo (gL g).length 0) ((0:Int))))) (cO (bN (show 0<=iN (gL g).length from(Int.natCast_nonneg _)) (ab (show iN (gL g).length<=iN (gL g).length by omega) a3 a4) s2) t6) (by simp[up,upF,upV,upH,upB,FP,gL,boL,lI])) (by kernel_rfl)) h
inductive Eb where | l0 (v0:Int) | l1 (v0 v1:Int)
def vldSt(g:List (List Int)):Eb->St | .l0 v0=>St.mk 60 [(0,Wt (gL g)),(3,iv v0)] [] | .l1 v0 v1=>St.mk 60 [(0,Wt (gL g)),(3,iv v0),(4,iv v1)] []
def P6(g:List (List Int)):Option (Eb⊕Ret):=br (decide (24<iN (gL g).length)) (none) (some (.inl (.l0 ((0:Int)))))
def Hm(g:List (List Int))(v0:Int):Option (Eb⊕Ret):=br (decide (v0<iN (gL g).length)) (some (.inl (.l1 v0 ((0:Int))))) (some (.inr ([],bV true)))
def HI(g:List (List Int))(v0 v1:Int):Option (Eb⊕Ret):=gu (0<=v0) <|el g (v0.toNat) fun(x18:List Int)=>br (decide (v1<iN (Wn iV x18).length)) (el g (v0.toNat) fun(x26:List Int)=>gu (0<=v1) <|el x26 (v1.toNat) fun(x29:Int)=>br (decide (x29<0)) (none) (br (decide (iN (gL g).length<=x29)) (none) (br (x29==v0) (none) (br (decide (0<v1)) (el g (v0.toNat) fun(x51:List Int)=>gu (0<=i64.wrap (v1-1)) <|el x51 ((i64.wrap (v1-1)).toNat) fun(x55:Int)=>br (decide (x29<=x55)) (none) (some (.inl (.l1 v0 (i64.wrap (v1+1)))))) (some (.inl (.l1 v0 (i64.wrap (v1+1))))))))) (some (.inl (.l0 (i64.wrap (v0+1)))))
def vldStep(g:List (List Int)):Eb->Option (Eb⊕Ret) | .l0 v0=>Hm g v0 | .l1 v0 v1=>HI g v0 v1
theorem vld_ct(g:List (List Int))(r:Ret)(h:Ac (vldStep g) (P6 g) r):CT Wu 158 ([]) ([.lst (gL g)]) r.1 r.2:=CT.mach (fn:=Tryz.f158) (c:=zB Tryz.f158) (S:=(vldSt g)) (hd:=Eb.ctorIdx) Tryz.func158 (by kernel_rfl) (nL rfl) (fun s o ho=>match s,ho with | .l0 v0,ho=>Scr.ok (X:=Hm g v0) ho mix (.ra cF <|.br (fun a0=>.pa [25] [] [0,3,4] (cO a0 t4)) (fun a0=>.ta [24] (bO a0))) (by kernel_rfl) | .l1 v0 v1,ho=>Scr.ok (X:=HI g v0 v1) ho mix (.gu fun a0=>.el fun x18 a1=>.rd [] [(18,lI x18)] [] (aL (aB a0 (Ae (f:=lI) a1) cM)) <|.br (fun a2=>.el fun x26 a3=>.gu fun a4=>.el fun x29 a5=>.rd [43] [(26,lI x26),(29,iv x29)] [] (af a2 (bN a0 (Ae (f:=lI) a3) (bN a4 (Ae (f:=iv) a5) aw))) <|.br (fun a6=>.no) (fun a6=>.br (fun a7=>.no) (fun a7=>.br (fun a8=>.no) (fun a8=>.br (fun a9=>.el fun x51 a10=>.gu fun a11=>.el fun x55 a12=>.rd [66,78,88,95] [(51,lI x51),(55,iv x55)] [] (aL (bt a6 (aW a6 t3 (cP a7 (aW a7 t3 (cP a8 (ae a8 a9 (ai a9 (cn a9 a0 (Ae (f:=lI) a10) (ai a9 (cn a9 a11 (Ae (f:=iv) a12) (aV (aj a9 t3) (bq a8 a9) a8)))))))))))) <|.br (fun a13=>.no) (fun a13=>.pa [66,78,88,95,118] [] [0,3,4] (b4 a13 t4))) (fun a9=>.pa [66,78,88,94] [] [0,3,4] (bI (am (bt a6 (aW a6 t3 (cP a7 (aW a7 t3 (u2 (bt a8 (aj a9 (aZ a9 (aZ a9 (aV a9 (bq a8 a9) a8))))))))))) aE t4)))))) (fun a2=>.pa [42] [] [0,3] (b4 a2 t3))) (by kernel_rfl)) (fun o ho=>Scr.ok (X:=P6 g) ho mix (.rv 1 [] [] [] (bo aE) <|.br (fun a0=>.no) (fun a0=>.pa [16] [] [0,3] (cO a0 t3))) (by kernel_rfl)) h
structure VG(g:List (List Int)):Prop where
 len:g.length<=24
 row:∀v:Nat,v<g.length->nxB (g.getD v []) v g.length=true
theorem Om{r:List Int}{i m:Int}(h:nxB r i m=true):∀k,k<r.length->0<=r.getD k 0 | 0,hk=>by have:=((Da h).2 0 hk).1;unfold Bo at this;rw[Vt rfl] at this;omega | k+1,hk=>by have:=((Da h).2 (k+1) hk).1;have ih:=Om h k (by omega);unfold Bo at this;rw[Vu (by omega),Vg] at this;omega
theorem Fg{l:List Int}{k:Nat}(h:k<l.length):l.getD k 0=l[k]:=by rw[Vw,Vv h];rfl
theorem VG.ok{g:List (List Int)}(h:VG g){sh:List Bool}(hs:sh.length=g.length):OkG g sh:=⟨h.len,fun v hv=>by
 have hr:=Da (h.row v hv);refine⟨by have:=hr.1;omega,fun w hw=>?_⟩;obtain⟨k,hk,rfl⟩:=V7.1 hw;have e:(g.getD v [])[k]=(g.getD v []).getD k 0:=by exact(Fg hk).symm
 have h1:=hr.2 k hk;have h2:=Om (h.row v hv) k hk;rw[e];omega,hs⟩
theorem vld_v{g:List (List Int)}(h:VG g):CT Wu 158 [] [.lst (gL g)] [] (.bool true):=by
 have hgl:=B4 g;have hl:=h.len;refine vld_ct g ([],_) ?_;unfold P6;rw[Ad (VA (by simp only[iN];omega))];refine Bb (fun i=>Eb.l0 (i:Int)) g.length (fun i hi hx=>.to (show Hm g i=some (.inl (.l1 i 0)) from ?_) ?_) (.to (show Hm g g.length=_ from ?_) (.ret _))
 .unfold Hm;rw[Ah (VB (by simp only[iN];omega))]
 .have hr:=Da (h.row i hi);have er:=Ay [] hi;refine Bb (fun k=>Eb.l1 (i:Int) (k:Int)) (g.getD i []).length (fun k hk hh=>.to (show HI g i k=_ from ?_) hh) (.to (show HI g i (g.getD i []).length=_ from ?_) hx)
  .have ek:=Ay 0 hk;have h1:=hr.2 k hk;have h0:=Om (h.row i hi) k hk;unfold HI;rw[Ab (by omega),VE,Al er,Ah (VB (by simp only[iN,Vy];omega)),Al er,Ab (by omega),VE,Al ek,Ad (VA (by omega)),Ad (VA (by simp only[iN];omega)),Ad (V6.2 h1.2.2),zW k (by omega)];by_cases hz:k=0
   .rw[Ad (VA (by omega))]
   .rw[Ah (VB (by omega)),Al er,Qk k (by omega) (by omega),Ab (by omega),VE,Al (Ay 0 (show k-1<_ by omega)),Ad (VA (by have:=h1.1;unfold Bo at this;rw[Vu hz] at this;omega))]
  .unfold HI;rw[Ab (by omega),VE,Al er,Ad (VA (by simp only[iN,Vy];omega)),zW i (by omega)]
 .unfold Hm;rw[Ad (VA (by simp only[iN];omega))]
def hpG(m:Nat)(d h:List Int)(v:Nat):Prop:=0<d.getD v 0->0<=h.getD v 0/\h.getD v 0<m/\d.getD (h.getD v 0).toNat 0=d.getD v 0-1
def HpP(m:Nat)(d h:List Int):Prop:=h.length=m/\∀v,v<m->hpG m d h v
theorem hop_ex{g:List (List Int)}{sh:List Bool}(hg:OkG g sh){q:Int}(h0:0<=q)(h1:q<(g.length:Int)):∃p:{h:List Int // HpP g.length (dsL g sh q) h},Ac (DM g sh q) (LZ g sh q) (([],lI p.1):Ret):=by
 have hgl:=B4 g;have hl:=hg.len;have hd:=ds_p hg h0 h1;have hdl:=hd.len;unfold LZ;generalize he:dsL g sh q=d at hd hdl;have keep:∀{h:List Int} {v u:Nat} {x:Int},h.length=g.length->v<g.length->u≠v->hpG g.length d h u->hpG g.length d (h.set v x) u:=fun {h v u x} hh hv hn hp=>by
  unfold hpG at hp ⊢
  rw[DJ (by omega),Vu (fun e=>hn e.symm)];exact hp
 have e1:∀(v:Nat),v<g.length->(∀h,h.length=g.length->(∀u,u<v+1->hpG g.length d h u)->∃p:{h:List Int // HpP g.length d h},Ac (DM g sh q) (some (.inl (.l0 h ((v+1:Nat):Int)))) (([],lI p.1):Ret))->
   ∀(j:Nat) (h:List Int),j<=(g.getD v []).length->h.length=g.length->(∀u,u<v->hpG g.length d h u)->(hpG g.length d h v\/∃k,k<j/\d.getD ((g.getD v []).getD k 0).toNat 0=d.getD v 0-1)->∃p:{h:List Int // HpP g.length d h},Ac (DM g sh q) (some (.inl (.l1 h (v:Int) ((j:Int)-1)))) (([],lI p.1):Ret):=by
  intro v hv nx j;have hrow:=(hg.row v hv).1;have er:=Ay [] hv;have edv:=Ay 0 (show v<d.length by omega);have hrv:=hd.rng v hv;induction j with
  | zero=>
   intro h _ hh hu hx;refine Az (show DM g sh q (.l1 h v _)=GJ g sh q h v _ from rfl) ?_;unfold GJ;rw[Ad (VA (by omega)),zW v (by omega)];refine nx h hh fun u hu1=>?_
   by_cases e:u=v
   .subst e;rcases hx with hx | ⟨k,hk,_⟩
    .exact hx
    .omega
   .exact hu u (by omega)
  | succ j ih=>
   intro h hj hh hu hx;rw[show ((j+1:Nat):Int)-1=(j:Int) by omega];obtain⟨w,hw1,hw2,_⟩:=J0 hg hv (i:=j) (by omega);have ew:=Ay 0 (show j<(g.getD v []).length by omega);rw[hw1] at ew;refine Az (show DM g sh q (.l1 h v j)=GJ g sh q h v j from rfl) ?_;unfold GJ;rw[Ah (VB (by omega)),Ab (by omega),VE,he,Al edv];refine Bn (fun hp=>?_) fun hp=>?_
   .rw[Al er,Ab (by omega),VE,Al ew,Ab (by omega),VE,Al (Ay 0 (show w<d.length by omega)),Al edv,A3 (d.getD v 0-1) (by omega) (by omega)];have wj:i64.wrap ((j:Int)-1)=(j:Int)-1:=Dt (by omega) (by omega);refine Ak (fun hb=>?_) fun hb=>?_
    .rw[Ab (by simp only[iN];omega),Ab (show Nat.le _ _ from by show 0+v+1<=_;simp only[Vy];omega),VL,wj];refine ih _ (by omega) (by rw[V4];exact hh) (fun u hu1=>keep hh hv (by omega) (hu u hu1)) (.inl fun _=>?_);rw[DJ (by omega),Vt rfl,VE];exact⟨by omega,by omega,beq_iff_eq.1 hb⟩
    .rw[wj];refine ih h (by omega) hh hu (hx.imp id fun⟨k,hk1,hk2⟩=>⟨k,?_,hk2⟩);by_cases e:k=j
     .subst e;rw[hw1,VE] at hk2;exact absurd hk2 (V6.1 hb)
     .omega
   .rw[zW v (by omega)];refine nx h hh fun u hu1=>?_
    by_cases e:u=v
    .subst e;exact fun h=>absurd h hp
    .exact hu u (by omega)
 have e0:∀(m i:Nat) (h:List Int),i+m=g.length->h.length=g.length->(∀u,u<i->hpG g.length d h u)->∃p:{h:List Int // HpP g.length d h},Ac (DM g sh q) (some (.inl (.l0 h (i:Int)))) (([],lI p.1):Ret):=by
  intro m;induction m with
  | zero=>intro i h hi hh hu;refine Az (show DM g sh q (.l0 h i)=Hv g sh q h i from rfl) ?_;unfold Hv;rw[Ad (VA (by simp only[iN];omega))];exact⟨⟨h,hh,fun u hu1=>hu u (by omega)⟩,.ret _⟩
  | succ m ih=>
   intro i h hi hh hu;have hrow:=(hg.row i (by omega)).1;refine Az (show DM g sh q (.l0 h i)=Hv g sh q h i from rfl) ?_;unfold Hv;rw[Ah (VB (by simp only[iN];omega)),Ab (by omega),Ab (by simp only[iN];omega),Ab (show Nat.le _ _ from by show 0+(i:Int).toNat+1<=_;simp only[Vy];omega),VE,Al (Ay [] (show i<g.length by omega)),VL,Vy,Dt (x:=iN (g.getD i []).length-1) (by simp only[iN];omega) (by simp only[iN];omega)];refine e1 i (by omega) (fun h hh hu=>ih (i+1) h (by omega) hh hu) (g.getD i []).length _ (VH _) (by rw[V4];exact hh) (fun u hu1=>keep hh (by omega) (by omega) (hu u hu1)) ?_;by_cases hp:0<d.getD i 0
   .obtain⟨w,hw1,hw2,hw3⟩:=hd.stp i (by omega) hp;obtain⟨k,hk,hkw⟩:=V7.1 hw1;refine .inr ⟨k,hk,?_⟩;rw[show (g.getD i []).getD k 0=(g.getD i [])[k] from Fg hk,hkw,VE,hw3]
   .exact .inl fun h=>absurd h hp
 exact Ag hg (Ag h0 (Ag h1 (Ag (by simp only[iN];omega) (Ag (by simp only[iN];omega) (e0 g.length 0 _ (VL _) (by rw[VQ,hgl]) fun v hv=>by omega)))))
theorem PT(g:List (List Int))(sh:List Bool)(q:Int):∃h:List Int,OkG g sh->0<=q->q<(g.length:Int)->HpP g.length (dsL g sh q) h/\CT Wu 164 [] [.lst (gL g),.lst (boL sh),.int .i64 q] [] (lI h):=by
 by_cases h:OkG g sh/\0<=q/\q<(g.length:Int)
 .obtain⟨d,hd⟩:=hop_ex h.1 h.2.1 h.2.2;exact⟨d.1,fun _ _ _=>⟨d.2,hop_ct g sh q _ hd⟩⟩
 .exact⟨[],fun a b c=>absurd ⟨a,b,c⟩ h⟩
@[irreducible] def hpL(g:List (List Int))(sh:List Bool)(q:Int):List Int:=Classical.choose (PT g sh q)
theorem hp_p{g:List (List Int)}{sh:List Bool}{q:Int}(hg:OkG g sh)(h0:0<=q)(h1:q<(g.length:Int)):HpP g.length (dsL g sh q) (hpL g sh q):=by unfold hpL;exact(V8 (PT g sh q) hg h0 h1).1
theorem hp_c(g:List (List Int))(sh:List Bool)(q:Int)(hg:OkG g sh)(h0:0<=q)(h1:q<(g.length:Int)):CT Wu 164 [] [.lst (gL g),.lst (boL sh),.int .i64 q] [] (lI (hpL g sh q)):=by unfold hpL;exact(V8 (PT g sh q) hg h0 h1).2
inductive Jh where | l0 (v0:Int) (v1:List Int)
def MU(g:List (List Int))(sh:List Bool)(p q:Int):Jh->St | .l0 v0 v1=>St.mk 37 [(2,iv v0),(3,iv q),(9,Wt (Wn iv (hpL g sh q))),(10,AV.sl 0 0 v1.length)] [some (bK (Wn iv v1) 1)]
def LK(g:List (List Int))(sh:List Bool)(p q:Int):Option (Jh⊕Ret):=gu (OkG g sh) <|gu (0<=q) <|gu (q<iN g.length) <|gu (0<=p) <|el (dsL g sh q) (p.toNat) fun(x16:Int)=>br (decide (x16<0)) (none) (some (.inl (.l0 p ([p]))))
def G1(g:List (List Int))(sh:List Bool)(p q:Int)(v0:Int)(v1:List Int):Option (Jh⊕Ret):=br (v0 != q) (gu (0<=v0) <|el (hpL g sh q) (v0.toNat) fun(x30:Int)=>gu ((Wn iV v1).length+[iV x30].length<=9223372036854775807) <|gu (((Wn iV v1).length+[iV x30].length) * 8<=140737488355328) <|some (.inl (.l0 x30 (v1++[x30])))) (some (.inr ([],Wt (Wn iV v1))))
def J8(g:List (List Int))(sh:List Bool)(p q:Int):Jh->Option (Jh⊕Ret) | .l0 v0 v1=>G1 g sh p q v0 v1
theorem frt_ct(g:List (List Int))(sh:List Bool)(p q:Int)(r:Ret)(h:Ac (J8 g sh p q) (LK g sh p q) r):CT Wu 160 ([]) ([.lst (gL g),.lst (boL sh),.int .i64 p,.int .i64 q]) r.1 r.2:=CT.mach (fn:=Tryz.f160) (c:=zB Tryz.f160) (S:=(MU g sh p q)) (hd:=Jh.ctorIdx) Tryz.func160 (by kernel_rfl) (nL rfl) (fun s o ho=>match s,ho with | .l0 v0 v1,ho=>Scr.ok (X:=G1 g sh p q v0 v1) ho mix (.ra (aR aD) <|.br (fun a0=>.gu fun a1=>.el fun x30 a2=>.rd [55] [(30,iv x30)] [] (af a0 (bN a1 (Ae (f:=iv) a2) aw)) <|.gu fun a3=>.gu fun a4=>.lq [] [] [] [] [] [2] [2,3,9,10] (up [(10,AV.sl 0 0 ((Wn iv v1).length+[iv x30].length))] [(0,Wn iv v1++[iv x30])] (MU g sh p q (.l0 x30 (v1++[x30])))) (aj (aL (aB (show(Wn iv v1).length=v1.length by simp) (bv (show nat_lit 1=nat_lit 1 from rfl) (show 1<=[iv x30].length by simp) a3 a4) s2)) t6) (by simp[up,upF,upV,upH,upB,MU,gL,boL,lI])) (fun a0=>.tc [54] [] [0] (aJ a0 aw (show v1.length=(Wn iv v1).length by simp)))) (by kernel_rfl)) (fun o ho=>Scr.ok (X:=LK g sh p q) ho mix (.ra s2 <|.gu fun a0=>.gu fun a1=>.gu fun a2=>.gu fun a3=>.el fun x16 a4=>have c0:=ds_c g (sh) q a0 a1 a2;.rd [] [(16,iv x16)] [(14,hK c0 [] [])] (aL (aO (bL (al (c0))) (aB a3 (Ae (f:=iv) a4) aw))) <|.br (fun a5=>.no) (fun a5=>have c1:=hp_c g (sh) q a0 a1 a2;.pb [36] [] [(22,hK c1 [] [])] [] [0] [2,3,9,10] (bm a5 (bb (bL (al (c1))) s2) aE t6))) (by kernel_rfl)) h
def OY(g:List (List Int))(sh:List Bool):Option (Empty⊕Ret):=gu (VG g) <|br (iN (boL sh).length != iN (gL g).length) (none) (some (.inr ([],iV 0)))
theorem chq_ct(g:List (List Int))(sh:List Bool)(r:Ret)(h:Ac emT (OY g sh) r):CT Wu 145 ([]) ([.lst (gL g),.lst (boL sh)]) r.1 r.2:=CT.mach (fn:=Tryz.f145) (c:=zB Tryz.f145) (S:=emS) (hd:=emH) Tryz.func145 (by kernel_rfl) (nL rfl) (fun s o ho=>match s,ho with | x,_=>x.elim) (fun o ho=>Scr.ok (X:=OY g sh) ho mix (.ra s2 <|.gu fun a0=>have c0:=vld_v a0;.rv 1 [] [] [(6,hK c0 [] [])] (cE (cC (c0) s2) (ah aD)) <|.br (fun a1=>.no) (fun a1=>.ta [24] (bO a1))) (by kernel_rfl)) h
theorem frt_ex{g:List (List Int)}{sh:List Bool}(hg:OkG g sh){q:Int}(h0:0<=q)(h1:q<(g.length:Int)){v:Nat}(hv:v<g.length)(hp:0<=(dsL g sh q).getD v 0):∃p:{l:List Int // 0<l.length/\l.length<=50},Ac (J8 g sh v q) (LK g sh v q) (([],lI p.1):Ret):=by
 have hl:=hg.len;have hd:=ds_p hg h0 h1;have hh:=hp_p hg h0 h1;have hdl:=hd.len;have hhl:=hh.1;have e0:∀(m u:Nat) (l:List Int),u<g.length->(dsL g sh q).getD u 0=m->0<l.length->l.length+m<=50->∃p:{l:List Int // 0<l.length/\l.length<=50},Ac (J8 g sh v q) (some (.inl (.l0 (u:Int) l))) (([],lI p.1):Ret):=by
  intro m;induction m with
  | zero=>intro u l hu hm hp1 hp2;refine Az (show J8 g sh v q (.l0 u l)=G1 g sh v q u l from rfl) ?_;have e:=hd.zer u hu hm;unfold G1;rw[Ad (by simp;omega)];exact⟨⟨l,hp1,hp2⟩,.ret _⟩
  | succ m ih=>
   intro u l hu hm hp1 hp2;refine Az (show J8 g sh v q (.l0 u l)=G1 g sh v q u l from rfl) ?_;have e:=hh.2 u hu (by omega);unfold G1;refine Ak (fun _=>?_) fun _=>⟨⟨l,hp1,by omega⟩,.ret _⟩
   rw[Ab (by omega),VE,Al (Ay 0 (show u<(hpL g sh q).length by omega)),Ab (by simp only[Vy,V9];omega),Ab (by simp only[Vy,V9];omega)];obtain⟨w,hw⟩:∃w:Nat,(hpL g sh q).getD u 0=(w:Int):=⟨((hpL g sh q).getD u 0).toNat,by omega⟩;rw[hw] at e ⊢
   rw[VE] at e;exact ih w _ (by omega) (by omega) (by simp) (by simp only[VP,V9];omega)
 have hr:=hd.rng v hv;unfold LK;refine Ag hg (Ag h0 (Ag h1 (Ag (by omega) ?_)));rw[VE,Al (Ay 0 (show v<(dsL g sh q).length by omega)),Ad (VA (by omega))];exact e0 ((dsL g sh q).getD v 0).toNat v [(v:Int)] hv (by omega) (by simp) (by simp only[V9];omega)
theorem Ph(g:List (List Int))(sh:List Bool)(p q:Int):∃l:List Int,OkG g sh->0<=q->q<(g.length:Int)->0<=p->p<(g.length:Int)->0<=(dsL g sh q).getD p.toNat 0->(0<l.length/\l.length<=50)/\CT Wu 160 [] [.lst (gL g),.lst (boL sh),.int .i64 p,.int .i64 q] [] (lI l):=by
 by_cases h:OkG g sh/\0<=q/\q<(g.length:Int)/\0<=p/\p<(g.length:Int)/\0<=(dsL g sh q).getD p.toNat 0
 .obtain⟨a,b,c,d,e,f⟩:=h;obtain⟨l,hd⟩:=frt_ex a b c (v:=p.toNat) (by omega) f;rw[VW d] at hd;exact⟨l.1,fun _ _ _ _ _ _=>⟨l.2,frt_ct g sh p q _ hd⟩⟩
 .exact⟨[],fun a b c d e f=>absurd ⟨a,b,c,d,e,f⟩ h⟩
@[irreducible] def frL(g:List (List Int))(sh:List Bool)(p q:Int):List Int:=Classical.choose (Ph g sh p q)
theorem fr_p{g:List (List Int)}{sh:List Bool}{p q:Int}(hg:OkG g sh)(h0:0<=q)(h1:q<(g.length:Int))(h2:0<=p)(h3:p<(g.length:Int))(h4:0<=(dsL g sh q).getD p.toNat 0):0<(frL g sh p q).length/\(frL g sh p q).length<=50:=by unfold frL;exact(V8 (Ph g sh p q) hg h0 h1 h2 h3 h4).1
theorem fr_c(g:List (List Int))(sh:List Bool)(p q:Int)(hg:OkG g sh)(h0:0<=q)(h1:q<(g.length:Int))(h2:0<=p)(h3:p<(g.length:Int))(h4:0<=(dsL g sh q).getD p.toNat 0):CT Wu 160 [] [.lst (gL g),.lst (boL sh),.int .i64 p,.int .i64 q] [] (lI (frL g sh p q)):=by unfold frL;exact(V8 (Ph g sh p q) hg h0 h1 h2 h3 h4).2
theorem chq_v{g:List (List Int)}(h:VG g){sh:List Bool}(hs:sh.length=g.length):CT Wu 145 [] [.lst (gL g),.lst (boL sh)] [] (.int .i64 0):=by refine chq_ct g sh ([],_) (.val ?_);unfold OY;rw[Ab h,Ad (by simp only[iN,A5,B4,hs];simp)]
inductive IM where | l0 (v0 v1:Int)
def thrSt(g:List (List Int))(sh:List Bool)(q:Int):IM->St | .l0 v0 v1=>St.mk 72 [(0,Wt (gL g)),(1,Wt (boL sh)),(2,iv q),(7,Wt (Wn iv (dsL g sh q))),(8,iv v0),(9,iv v1)] []
def LO(g:List (List Int))(sh:List Bool)(q:Int):Option (IM⊕Ret):=gu (0<=q) <|el (sh) (q.toNat) fun(x14:Bool)=>br x14 (some (.inr ([],AV.nils))) (gu (OkG g sh) <|gu (q<iN g.length) <|some (.inl (.l0 ((-1:Int)) ((0:Int)))))
def Ig(g:List (List Int))(sh:List Bool)(q v0 v1:Int):Option (IM⊕Ret):=gu (0<=q) <|el g (q.toNat) fun(x23:List Int)=>br (decide (v1<iN (Wn iV x23).length)) (el g (q.toNat) fun(x31:List Int)=>gu (0<=v1) <|el x31 (v1.toNat) fun(x34:Int)=>gu (0<=x34) <|el (dsL g sh q) (x34.toNat) fun(x38:Int)=>br (decide (0<=x38)) (br (decide (v0<0)) (some (.inl (.l0 x34 (i64.wrap (v1+1))))) (el (dsL g sh q) (x34.toNat) fun(x47:Int)=>gu (0<=v0) <|el (dsL g sh q) (v0.toNat) fun(x51:Int)=>br (decide (x47<x51)) (some (.inl (.l0 x34 (i64.wrap (v1+1))))) (some (.inl (.l0 v0 (i64.wrap (v1+1))))))) (some (.inl (.l0 v0 (i64.wrap (v1+1)))))) (br (decide (v0<0)) (some (.inr ([],AV.nils))) (gu (OkG g sh) <|gu (q<iN g.length) <|gu (0<=v0) <|gu (v0<iN g.length) <|gu (0<=(dsL g sh q).getD v0.toNat 0) <|gu (∀(e:AV),e∈Wn iV (frL g sh v0 q)->e.cells.length=1) <|gu (0<=i64.wrap (iN (Wn iV (frL g sh v0 q)).length-1)) <|gu (i64.wrap (iN (Wn iV (frL g sh v0 q)).length-1)<=iN (Wn iV (frL g sh v0 q)).length) <|gu (∀(e:AV),e∈Wq ((i64.wrap (iN (Wn iV (frL g sh v0 q)).length-1)).toNat-Ws 0) (Wp (Ws 0) (Wn iV (frL g sh v0 q)))->e.cells.length=1) <|gu ([iV q].length+(Wq ((i64.wrap (iN (Wn iV (frL g sh v0 q)).length-1)).toNat-Ws 0) (Wp (Ws 0) (Wn iV (frL g sh v0 q)))).length<=9223372036854775807) <|gu (([iV q].length+(Wq ((i64.wrap (iN (Wn iV (frL g sh v0 q)).length-1)).toNat-Ws 0) (Wp (Ws 0) (Wn iV (frL g sh v0 q)))).length) * 8<=140737488355328) <|gu ([iV q].length+(Wq ((i64.wrap (iN (Wn iV (frL g sh v0 q)).length-1)).toNat-Ws 0) (Wp (Ws 0) (Wn iV (frL g sh v0 q)))).length=(iV q::List.append._f [] PUnit.unit (Wq ((i64.wrap (iN (Wn iV (frL g sh v0 q)).length-1)).toNat-Ws 0) (Wp (Ws 0) (Wn iV (frL g sh v0 q))))).length) <|some (.inr ([],Wt (iV q::List.append._f [] PUnit.unit (Wq ((i64.wrap (iN (Wn iV (frL g sh v0 q)).length-1)).toNat-Ws 0) (Wp (Ws 0) (Wn iV (frL g sh v0 q)))))))))
def Jr(g:List (List Int))(sh:List Bool)(q:Int):IM->Option (IM⊕Ret) | .l0 v0 v1=>Ig g sh q v0 v1
theorem QZ(g:List (List Int))(sh:List Bool)(q:Int)(r:Ret)(h:Ac (Jr g sh q) (LO g sh q) r):CT Wu 146 ([]) ([.lst (gL g),.lst (boL sh),.int .i64 q]) r.1 r.2:=CT.mach (fn:=Tryz.f146) (c:=zB Tryz.f146) (S:=(thrSt g sh q)) (hd:=IM.ctorIdx) Tryz.func146 (by kernel_rfl) (nL rfl) (fun s o ho=>match s,ho with | .l0 v0 v1,ho=>Scr.ok (X:=Ig g sh q v0 v1) ho mix (.gu fun a0=>.el fun x23 a1=>.rd [] [(23,lI x23)] [] (aL (aB a0 (Ae (f:=lI) a1) cM)) <|.br (fun a2=>.el fun x31 a3=>.gu fun a4=>.el fun x34 a5=>.rd [53] [(31,lI x31),(34,iv x34)] [] (af a2 (bN a0 (Ae (f:=lI) a3) (bN a4 (Ae (f:=iv) a5) aw))) <|.gu fun a6=>.el fun x38 a7=>.br (fun a8=>.br (fun a9=>.pb [83,89] [(38,iv x38)] [] [] [] [0,1,2,7,8,9] (ar (bN a6 (Ae (f:=iv) a7) (am (bt a8 (aZ a9 (aZ a9 (aV a9 (bq a8 a9) a8)))))) (bc aw aE) t7)) (fun a9=>.el fun x47 a10=>.gu fun a11=>.el fun x51 a12=>.rd [83,88] [(38,iv x38),(47,iv x47),(51,iv x51)] [] (aR (aB a6 (Ae (f:=iv) a7) (am (ag a8 (aA a8 a9 (cn a9 a6 (Ae (f:=iv) a10) (ai a9 (cn a9 a11 (Ae (f:=iv) a12) (aV (aj a9 t3) (bq a8 a9) a8))))))))) <|.br (fun a13=>.pa [83,88,111] [] [0,1,2,7,8,9] (bm a13 aw aE t7)) (fun a13=>.pa [83,88,110] [] [0,1,2,7,8,9] (b4 a13 t7)))) (fun a8=>.pb [82] [(38,iv x38)] [] [] [] [0,1,2,7,8,9] (bI (bN a6 (Ae (f:=iv) a7) (bb a8 (aC a8 (aN (k5 (be a8 a8)))))) aE t7))) (fun a2=>.rb [52] (bx a2) <|.br (fun a3=>.ta [117] (bO a3)) (fun a3=>.gu fun a4=>.gu fun a5=>.gu fun a6=>.gu fun a7=>.gu fun a8=>have c0:=fr_c g (sh) v0 q a4 a0 a5 a6 a7 a8;.rd [116] [] [(63,hK c0 [] [])] (af a3 (bP (k3 (cm (c0))) s2)) <|.gu fun a9=>.gu fun a10=>.gu fun a11=>.gu fun a12=>.gu fun a13=>.gu fun a14=>.ra (aR (ah (ab (k2 (ab a9 (Int.le_refl 0) (ab a10 a11 (show iN (Wn iv (frL g sh v0 q)).length<=iN (Wn iv (frL g sh v0 q)).length by omega)))) (an (show [iv q].length=1 by simp) (ab a12 a13 a14)) s2))) <|.gu fun a15=>.tc [] [] [1] (ay a15)))) (by kernel_rfl)) (fun o ho=>Scr.ok (X:=LO g sh q) ho mix (.ra s2 <|.gu fun a0=>.el fun x14 a1=>.rd [] [(14,bV x14)] [] (aR (aB a0 (Ae (f:=bV) a1) s2)) <|.br (fun a2=>.ta [31] (bO a2)) (fun a2=>.gu fun a3=>.gu fun a4=>have c0:=ds_c g (sh) q a3 a0 a4;.pb [30] [] [(19,hK c0 [] [])] [] [] [0,1,2,7,8,9] (aj (ab a2 (bb (bL (al (c0))) s2) aw) t7))) (by kernel_rfl)) h
abbrev OL:={o:Option (List Int) // ∀l,o=some l->l.length<=60}
def olR(o:OL):Ret:=([],match o.1 with | none=>.nils | some l=>lI l)
theorem K1{σ:Type}{step:σ->Option (σ⊕Ret)}:∃o:OL,Ac step (some (.inr ([],.nils))) (olR o):=⟨⟨none,fun _ h=>by cases h⟩,.ret _⟩
theorem thr_ex{g:List (List Int)}{sh:List Bool}(hg:OkG g sh){v:Nat}(hv:v<g.length):∃o:OL,Ac (Jr g sh v) (LO g sh v) (olR o):=by
 have hl:=hg.len;have hsh:=hg.sh;have h1:(v:Int)<(g.length:Int):=by omega
 have hd:=ds_p hg (Int.natCast_nonneg v) h1;have hdl:=hd.len;have er:=Ay [] hv;have hrow:=(hg.row v hv).1;have e0:∀(m k:Nat) (b:Int),k+m=(g.getD v []).length->(b<0\/b<g.length/\0<=(dsL g sh v).getD b.toNat 0)->∃o:OL,Ac (Jr g sh v) (some (.inl (.l0 b (k:Int)))) (olR o):=by
  intro m;induction m with
  | zero=>
   intro k b hk hb;refine Az (show Jr g sh v (.l0 b k)=Ig g sh v b k from rfl) ?_;unfold Ig;rw[Ab (by omega),VE,Al er,Ad (VA (by simp only[iN,Vy];omega))];refine Bn (fun _=>K1) fun hb0=>?_
   have hb:b<g.length/\0<=(dsL g sh v).getD b.toNat 0:=hb.resolve_left hb0;have hf:=fr_p hg (Int.natCast_nonneg v) h1 (show 0<=b by omega) hb.1 hb.2;have one:∀e∈Wn (AV.int .i64) (frL g sh b v),e.cells.length=1:=fun e he=>by obtain⟨x,_,rfl⟩:=V0.1 he;rfl
   have hw:i64.wrap (iN (Wn (AV.int .i64) (frL g sh b v)).length-1)=((frL g sh b v).length:Int)-1:=by rw[Vy];exact Dt (by simp only[iN];omega) (by simp only[iN];omega)
   rw[hw];refine Ag hg (Ag h1 (Ag (by omega) (Ag hb.1 (Ag hb.2 (Ag one (Ag (by omega) (Ag (by simp only[iN,Vy];omega) (Ag (fun e he=>one e (List.drop_subset _ _ (List.take_subset _ _ he))) ?_))))))));have hX:Wq ((((frL g sh b v).length:Int)-1).toNat-Ws 0) (Wp (Ws 0) (Wn (AV.int .i64) (frL g sh b v)))=Wn (AV.int .i64) ((frL g sh b v).take (((frL g sh b v).length:Int)-1).toNat):=by rw[show Ws 0=0 from rfl,List.drop_zero,Nat.sub_zero,List.map_take]
   rw[hX];have hL:((frL g sh b v).take (((frL g sh b v).length:Int)-1).toNat).length<=50:=by rw[VX];omega
   generalize (frL g sh b v).take (((frL g sh b v).length:Int)-1).toNat=X at hL;refine Ag (by rw[Vy,V9];omega) (Ag (by rw[Vy,V9];omega) (Ag (show 1+(Wn (AV.int .i64) X).length=(Wn (AV.int .i64) X).length+1 by omega) ⟨⟨some (v::X),fun l h=>by cases h;simp only[Wa];omega⟩,.ret _⟩))
  | succ m ih=>
   intro k b hk hb;obtain⟨w,hw1,hw2,_⟩:=J0 hg hv (i:=k) (by omega);have ew:=Ay 0 (show k<(g.getD v []).length by omega);rw[hw1] at ew;have edw:=Ay 0 (show w<(dsL g sh v).length by omega);refine Az (show Jr g sh v (.l0 b k)=Ig g sh v b k from rfl) ?_;unfold Ig;rw[Ab (by omega),VE,Al er,Ah (VB (by simp only[iN,Vy];omega)),Al er,Ab (by omega),VE,Al ew,Ab (by omega),VE,Al edw,zW k (by omega)];refine Bn (fun h=>Bn (fun _=>ih (k+1) _ (by omega) (.inr ⟨by omega,by rw[VE];exact h⟩)) fun hb0=>?_) fun _=>ih (k+1) b (by omega) hb
   have hb1:=hb.resolve_left hb0;rw[Al edw,Ab (by omega),Al (Ay 0 (show b.toNat<(dsL g sh v).length by omega))];exact Ak (fun _=>ih (k+1) _ (by omega) (.inr ⟨by omega,by rw[VE];exact h⟩)) fun _=>ih (k+1) b (by omega) hb
 unfold LO;refine Ag (by omega) ?_;rw[VE,Al (Ay false (show v<sh.length by omega))];exact Ak (fun _=>K1) fun _=>Ag hg (Ag h1 (e0 (g.getD v []).length 0 (-1) (VL _) (.inl (by omega))))
theorem Ow(g:List (List Int))(sh:List Bool)(q:Int):∃l:List Int,OkG g sh->0<=q->q<(g.length:Int)->l.length<=60/\CT Wu 146 [] [.lst (gL g),.lst (boL sh),.int .i64 q] [] (lI l):=by
 by_cases h:OkG g sh/\0<=q/\q<(g.length:Int)
 .obtain⟨a,b,c⟩:=h;obtain⟨⟨o,ho⟩,hd⟩:=thr_ex a (v:=q.toNat) (by omega);rw[VW b] at hd;cases o with
  | none=>exact⟨[],fun _ _ _=>⟨VI _,(QZ g sh q ([],.nils) hd).to rfl rfl⟩⟩
  | some l=>exact⟨l,fun _ _ _=>⟨ho l rfl,QZ g sh q _ hd⟩⟩
 .exact⟨[],fun a b c=>absurd ⟨a,b,c⟩ h⟩
@[irreducible] def thL(g:List (List Int))(sh:List Bool)(q:Int):List Int:=Classical.choose (Ow g sh q)
theorem th_p{g:List (List Int)}{sh:List Bool}{q:Int}(hg:OkG g sh)(h0:0<=q)(h1:q<(g.length:Int)):(thL g sh q).length<=60:=by unfold thL;exact(V8 (Ow g sh q) hg h0 h1).1
theorem th_c(g:List (List Int))(sh:List Bool)(q:Int)(hg:OkG g sh)(h0:0<=q)(h1:q<(g.length:Int)):CT Wu 146 [] [.lst (gL g),.lst (boL sh),.int .i64 q] [] (lI (thL g sh q)):=by unfold thL;exact(V8 (Ow g sh q) hg h0 h1).2
inductive IE where | l0 (v0:Int) (v1:Au)
def ropSt(n:Aa)(sh:List Bool)(q:Int):IE->St | .l0 v0 v1=>St.mk 41 [(1,Wt (boL sh)),(7,AV.ptr 0 0 0),(8,iv v0)] [some (bK [sA v1] 6)]
def NW(n:Aa)(sh:List Bool)(q:Int):Option (IE⊕Ret):=gu (0<=q) <|el (n.ss) (q.toNat) fun(x12:Au)=>gu (0<=x12.i) <|el (sh) (x12.i.toNat) fun(x17:Bool)=>br x17 (some (.inr ([],bV false))) (gu (0<=x12.o) <|el (sh) (x12.o.toNat) fun(x23:Bool)=>br x23 (some (.inr ([],bV false))) (some (.inl (.l0 (x12.b) x12))))
def IQ(n:Aa)(sh:List Bool)(q v0:Int)(v1:Au):Option (IE⊕Ret):=br (decide (v0<i64.wrap (v1.b+v1.k))) (gu (0<=v0) <|el (sh) (v0.toNat) fun(x39:Bool)=>br x39 (some (.inr ([],bV false))) (some (.inl (.l0 (i64.wrap (v0+1)) v1)))) (some (.inr ([],bV true)))
def Rk(n:Aa)(sh:List Bool)(q:Int):IE->Option (IE⊕Ret) | .l0 v0 v1=>IQ n sh q v0 v1
theorem rop_ct(n:Aa)(sh:List Bool)(q:Int)(r:Ret)(h:Ac (Rk n sh q) (NW n sh q) r):CT Wu 109 ([]) ([Ai n,.lst (boL sh),.int .i64 q]) r.1 r.2:=CT.mach (fn:=Tryz.f109) (c:=zB Tryz.f109) (S:=(ropSt n sh q)) (hd:=IE.ctorIdx) Tryz.func109 (by kernel_rfl) (nL rfl) (fun s o ho=>match s,ho with | .l0 v0 v1,ho=>Scr.ok (X:=IQ n sh q v0 v1) ho mix (.ra (bz (ah (cw t3))) <|.br (fun a0=>.gu fun a1=>.el fun x39 a2=>.rd [69] [(39,bV x39)] [] (af a0 (bN a1 (Ae (f:=bV) a2) s2)) <|.br (fun a3=>.ta [81] (bO a3)) (fun a3=>.pa [80] [0] [1,7,8] (b4 a3 t5))) (fun a0=>.ta [68] (bO a0))) (by kernel_rfl)) (fun o ho=>Scr.ok (X:=NW n sh q) ho mix (.ra bR <|.gu fun a0=>.el fun x12 a1=>.rd [] [(12,sA x12)] [] (aL (bH a0 (Ae (f:=sA) a1) aS)) <|.gu fun a2=>.el fun x17 a3=>.br (fun a4=>.tb [39] [(17,bV x17)] [] [] [] (cB (cH a2 (Ae (f:=bV) a3) (bg a4 (aC a4 (bW a4)))))) (fun a4=>.gu fun a5=>.el fun x23 a6=>.rd [38] [(17,bV x17),(23,bV x23)] [] (aL (aB a2 (Ae (f:=bV) a3) (aa (bt a4 (cn a4 a5 (Ae (f:=bV) a6) (bE a4)))))) <|.br (fun a7=>.ta [38,51] (bO a7)) (fun a7=>.pa [38,50] [1] [1,7,8] (b4 a7 t5)))) (by kernel_rfl)) h
inductive F6 where | l0 (v0:Int) (v1:ByteArray)
def dgtSt(q:Int):F6->St | .l0 v0 v1=>St.mk 23 [(0,iv v0),(3,AV.str v1)] []
def O0(q:Int):Option (F6⊕Ret):=br (decide (q<0)) (none) (some (.inl (.l0 q (ByteArray.mk #[]))))
def LD(q v0:Int)(v1:ByteArray):Option (F6⊕Ret):=
 br ([AV.int IntKind.u8 (IntKind.u8.wrap (i64.wrap (48+v0.tmod 10)))].all fun x=>
 match x with
 | AV.int IntKind.u8 n=>decide (0<=n)&&decide (n<256)
 | x=>false)
 (gu (((DD [AV.int IntKind.u8 (IntKind.u8.wrap (i64.wrap (48+v0.tmod 10)))]).size+v1.size).le 9223372036854775807) <|
  br (i64.wrap (v0.tdiv 10)==0)
  (some (.inr ([],AV.str (DD (bK [AV.int IntKind.u8 (IntKind.u8.wrap (i64.wrap (48+v0.tmod 10)))] 1).es++v1))))
  (some (.inl (.l0 (i64.wrap (v0.tdiv 10)) (DD (bK [AV.int IntKind.u8 (IntKind.u8.wrap (i64.wrap (48+v0.tmod 10)))] 1).es++v1)))))
 (none)
def Sg(q:Int):F6->Option (F6⊕Ret) | .l0 v0 v1=>LD q v0 v1
theorem dgt_ct(q:Int)(r:Ret)(h:Ac (Sg q) (O0 q) r):CT Wu 41 ([]) ([.int .i64 q]) r.1 r.2:=CT.mach (fn:=Tryz.f41) (c:=zB Tryz.f41) (S:=(dgtSt q)) (hd:=F6.ctorIdx) Tryz.func41 (by kernel_rfl) (nL rfl) (fun s o ho=>match s,ho with | .l0 v0 v1,ho=>Scr.ok (X:=LD q v0 v1) ho mix (.br (fun a0=>.gu fun a1=>.rv 2 [] [] [] (ax (aG (ak (show(10:Int)=(0:Int)->False from(by first | decide | exact Vb _))) (bb (cL (show [AV.int IntKind.u8 (IntKind.u8.wrap (i64.wrap (48+v0.tmod 10)))].length=1 by simp) (show nat_lit 1≠nat_lit 0 from(by first | decide | exact Vb _)) a0) (aG (k2 a1) s2))) (aG (ak (show(10:Int)=(0:Int)->False from(by first | decide | exact Vb _))) s2) aw) <|.br (fun a2=>.ta [43] (az (bx a2))) (fun a2=>.pa [42] [] [0,3] (aj (al a2) t3))) (fun a0=>.no)) (by kernel_rfl)) (fun o ho=>Scr.ok (X:=O0 q) ho mix (.rv 1 [] [] [] (bo aw) <|.br (fun a0=>.no) (fun a0=>.pa [10] [] [0,3] (cO a0 t3))) (by kernel_rfl)) h
def JT(sh:List Bool)(s:Au):Bool:= !(sh.getD s.i.toNat false)&&!(sh.getD s.o.toNat false)&&!(fnd (fun j=>sh.getD (s.b+(j:Int)).toNat false) 0 s.k.toNat).isSome
def opB(n:Aa)(sh:List Bool)(sp:Int):Bool:=match n.ss[sp.toNat]? with | some s=>JT sh s | none=>false
theorem JW(n:Aa)(sh:List Bool)(sp:Int)(hv:An n)(hsh:sh.length=Am n)(hi:0<=sp/\sp<n.ss.length):CT Wu 109 [] [Ai n,.lst (boL sh),.int .i64 sp] [] (.bool (opB n sh sp)):=by
 have hil:sp.toNat<n.ss.length:=by omega
 have hs:n.ss[sp.toNat]?=some n.ss[sp.toNat]:=Vv hil;refine rop_ct n sh sp ([],_) ?_;unfold NW opB;simp only[hs];generalize n.ss[sp.toNat]=s at hs;have g:=hv.spu _ s hs;have g1:=Bm.1 g.hi;have g2:=Bm.1 g.ho;have g3:=Bm.1 g.hk;have hc:=hv.cel;have hbd:=hv.bd sp.toNat;have hm:=KO hv (i:=sp.toNat+1) (j:=n.ss.length) (by omega) (VH _);rw[C1 hs,<-g.hb] at hm;rw[<-g.hb] at hbd;have hnb:=hv.nb24;rw[Ab hi.1,Al hs,Ab (by omega),Al (Ay false (show s.i.toNat<sh.length by omega))];unfold JT;cases h1:sh.getD s.i.toNat false with
 | true=>rw[Ah rfl];exact .ret _
 | false=>
  rw[Ad rfl,Ab (by omega),Al (Ay false (show s.o.toNat<sh.length by omega))];cases h2:sh.getD s.o.toNat false with
  | true=>rw[Ah rfl];exact .ret _
  | false=>
   rw[Ad rfl];have e0:∀(m k:Nat),k+m=s.k.toNat->Ac (Rk n sh sp) (some (.inl (.l0 (s.b+(k:Int)) s))) (([],.bool (!(fnd (fun j=>sh.getD (s.b+(j:Int)).toNat false) k m).isSome)):Ret):=by
    intro m;induction m with
    | zero=>intro k hk;refine .to (show IQ n sh sp (s.b+(k:Int)) s=_ from ?_) (.ret _);unfold IQ;rw[A3 _ (by omega) (by omega),Ad (VA (by omega))];rfl
    | succ m ih=>
     intro k hk;refine .to (show IQ n sh sp (s.b+(k:Int)) s=_ from rfl) ?_;unfold IQ;rw[A3 (s.b+s.k) (by omega) (by omega),Ah (VB (by omega)),Ab (by omega),Al (Ay false (show(s.b+(k:Int)).toNat<sh.length by omega)),fnd];cases sh.getD (s.b+(k:Int)).toNat false with
     | true=>rw[Ah rfl];exact .ret _
     | false=>rw[Ad rfl,A3 _ (by omega) (by omega),show s.b+(k:Int)+1=s.b+((k+1:Nat):Int) by omega];exact ih (k+1) (by omega)
   have:=e0 s.k.toNat 0 (VL _);rw[show s.b+((0:Nat):Int)=s.b by omega] at this;simpa using this
def AO(n:Nat):ByteArray:=if n<10 then ⟨#[UInt8.ofNat (48+n)]⟩ else ⟨#[UInt8.ofNat (48+n / 10),UInt8.ofNat (48+n % 10)]⟩
theorem dig_w(c:Nat)(h:c<100):IntKind.u8.wrap (i64.wrap (48+(c:Int).tmod 10))=((48+c % 10:Nat):Int):=by
 have:∀c:Nat,c<100->IntKind.u8.wrap (i64.wrap (48+(c:Int).tmod 10))=((48+c % 10:Nat):Int):=by decide +kernel
 exact this c h
theorem dig_q(c:Nat)(h:c<100):i64.wrap ((c:Int).tdiv 10)=((c / 10:Nat):Int):=by
 have:∀c:Nat,c<100->i64.wrap ((c:Int).tdiv 10)=((c / 10:Nat):Int):=by decide +kernel
 exact this c h
theorem dig1{n:Int}(c:Nat)(h:c<100)(u:ByteArray)(hu:u.size<=2):Sg n (.l0 (c:Int) u)=(if c / 10=0 then some (.inr ([],.str (⟨#[UInt8.ofNat (48+c % 10)]⟩++u))) else some (.inl (.l0 ((c / 10:Nat):Int) (⟨#[UInt8.ofNat (48+c % 10)]⟩++u)))):=by
 have e:DD [AV.int .u8 ((48+c % 10:Nat):Int)]=⟨#[UInt8.ofNat (48+c % 10)]⟩:=by unfold DD;rfl
 show LD n (c:Int) u=_;unfold LD;rw[dig_w c h,dig_q c h,Ah (by simp;omega),Ab (by rw[e];exact Wd (show 1+u.size<=3 by omega) (by decide))];by_cases hq:c / 10=0
 .rw[Vt hq,Ah (by rw[hq];rfl)];exact congrArg (fun x=>some (Sum.inr ([],AV.str (x++u)))) e
 .rw[Vu hq,Ad (V6.2 (by omega))];exact congrArg (fun x=>some (Sum.inl (F6.l0 _ (x++u)))) e
theorem J3(n:Nat)(h:n<100):CT Wu 41 [] [.int .i64 (iN n)] [] (.str (AO n)):=by
 refine dgt_ct (n:Int) ([],_) ?_;unfold O0 AO;rw[Ad (VA (by omega))];refine .to (dig1 n h _ (VI _)) ?_;by_cases h10:n<10
 .rw[Vt (by omega),Vt h10,Vo h10];exact .ret _
 .rw[Vu (by omega),Vu h10];refine .to (dig1 (n / 10) (by omega) _ (Nat.le_succ 1)) ?_;rw[Vt (by omega),Vo (show n / 10<10 by omega)];exact .ret _
def Ku(i:Nat):ByteArray:=⟨#[98]⟩++AO i
def JU(i:Nat):ByteArray:=⟨#[115]⟩++AO i
theorem nmBk_ok:∀i,i<24->nmB (Ku i)=true:=by decide +kernel
theorem nmSp_ok:∀i,i<6->nmB (JU i)=true:=by decide +kernel
theorem nmBk_inj:∀i,i<24->∀j,j<24->Ku i=Ku j->i=j:=by decide +kernel
theorem nmSp_inj:∀i,i<6->∀j,j<6->JU i=JU j->i=j:=by decide +kernel
theorem nm_dis:∀i,i<24->∀j,j<6->Ku i≠JU j:=by decide +kernel
inductive Ht where | l0 (v0:List Int) (v1:Int)
def girSt(g:List (List Int))(sh:List Bool):Ht->St | .l0 v0 v1=>St.mk 46 [(0,Wt (gL g)),(1,Wt (boL sh)),(8,Wt (Wn iv v0)),(9,iv v1)] []
def KD(g:List (List Int))(sh:List Bool):Option (Ht⊕Ret):=gu (VG g) <|gu (sh.length=g.length) <|some (.inl (.l0 ([]) ((0:Int))))
def Ip(g:List (List Int))(sh:List Bool)(v0:List Int)(v1:Int):Option (Ht⊕Ret):=br (decide (v1<iN (gL g).length)) (gu (OkG g sh) <|gu (0<=v1) <|gu (v1<iN g.length) <|br (decide (0<iN (Wn iV (thL g sh v1)).length)) (br (iN (Wn iV v0).length==0) (some (.inl (.l0 (thL g sh v1) (i64.wrap (v1+1))))) (br (decide (iN (Wn iV (thL g sh v1)).length<iN (Wn iV v0).length)) (some (.inl (.l0 (thL g sh v1) (i64.wrap (v1+1))))) (some (.inl (.l0 v0 (i64.wrap (v1+1))))))) (some (.inl (.l0 v0 (i64.wrap (v1+1)))))) (some (.inr ([],AV.tup [iV (iN (Wn iV v0).length),Wt (Wn iV v0),iV 0])))
def Kj(g:List (List Int))(sh:List Bool):Ht->Option (Ht⊕Ret) | .l0 v0 v1=>Ip g sh v0 v1
theorem gir_ct(g:List (List Int))(sh:List Bool)(r:Ret)(h:Ac (Kj g sh) (KD g sh) r):CT Wu 104 ([]) ([.lst (gL g),.lst (boL sh)]) r.1 r.2:=CT.mach (fn:=Tryz.f104) (c:=zB Tryz.f104) (S:=(girSt g sh)) (hd:=Ht.ctorIdx) Tryz.func104 (by kernel_rfl) (nL rfl) (fun s o ho=>match s,ho with | .l0 v0 v1,ho=>Scr.ok (X:=Ip g sh v0 v1) ho mix (.ra cF <|.br (fun a0=>.gu fun a1=>.gu fun a2=>.gu fun a3=>have c0:=th_c g (sh) v1 a1 a2 a3;.rd [41] [] [(26,hK c0 [] [])] (af a0 (bb (bL (al (c0))) s2)) <|.br (fun a4=>.br (fun a5=>.pa [61,69] [] [0,1,8,9] (ar (ah (aI a4 (aZ a5 (aV a5 (bq a4 a5) a4)))) (bc aw aE) t5)) (fun a5=>.rb [61,68] (bC (aI a4 (aI a5 (aV (aj a5 t3) (bq a4 a5) a4)))) <|.br (fun a6=>.pa [61,68,83] [] [0,1,8,9] (bm a6 aw aE t5)) (fun a6=>.pa [61,68,82] [] [0,1,8,9] (b4 a6 t5)))) (fun a4=>.pa [60] [] [0,1,8,9] (bI (ah (aZ a4 (k5 (be a4 a4)))) aE t5))) (fun a0=>.ta [40] (aJ a0 (cb t2) t4))) (by kernel_rfl)) (fun o ho=>Scr.ok (X:=KD g sh) ho mix (.ra (al t4) <|.gu fun a0=>.gu fun a1=>have c0:=chq_v a0 a1;.pb [] [] [(13,hK c0 [] [])] [(8,1000)] [] [0,1,8,9] (aj (ab (bg (bu (c0)) s2) aw (ak aw)) t5)) (by kernel_rfl)) h
inductive Ev where | l0 (v0 v1:Int)
def rslSt(n:Aa)(sh:List Bool):Ev->St | .l0 v0 v1=>St.mk 35 [(1,Wt (boL sh)),(2,AV.ptr 0 0 0),(5,iv v0),(6,iv v1)] [some (bK [Ai n] 8)]
def Mu(n:Aa)(sh:List Bool):Option (Ev⊕Ret):=some (.inl (.l0 ((0:Int)) ((0:Int))))
def Ha(n:Aa)(sh:List Bool)(v0 v1:Int):Option (Ev⊕Ret):=br (decide (v1<iN (Wn sA n.ss).length)) (gu (0<=v1) <|el (n.ss) (v1.toNat) fun(x17:Au)=>br (x17.dep) (gu (An n) <|gu (sh.length=Am n) <|gu (0<=v1/\v1<iN n.ss.length) <|br (opB n sh v1) (el (n.ss) (v1.toNat) fun(x30:Au)=>some (.inl (.l0 (i64.wrap (v0+x30.k)) (i64.wrap (v1+1))))) (some (.inl (.l0 v0 (i64.wrap (v1+1)))))) (some (.inl (.l0 v0 (i64.wrap (v1+1)))))) (some (.inr ([],iV v0)))
def rslStep(n:Aa)(sh:List Bool):Ev->Option (Ev⊕Ret) | .l0 v0 v1=>Ha n sh v0 v1
theorem rsl_ct(n:Aa)(sh:List Bool)(r:Ret)(h:Ac (rslStep n sh) (Mu n sh) r):CT Wu 105 ([]) ([Ai n,.lst (boL sh)]) r.1 r.2:=CT.mach (fn:=Tryz.f105) (c:=zB Tryz.f105) (S:=(rslSt n sh)) (hd:=Ev.ctorIdx) Tryz.func105 (by kernel_rfl) (nL rfl) (fun s o ho=>match s,ho with | .l0 v0 v1,ho=>Scr.ok (X:=Ha n sh v0 v1) ho mix (.ra cR <|.br (fun a0=>.gu fun a1=>.el fun x17 a2=>.br (fun a3=>.gu fun a4=>.gu fun a5=>.gu fun a6=>have c0:=JW n (sh) v1 a4 a5 a6;.rd [23,41] [(17,sA x17)] [(24,hK c0 [] [])] (bX a0 (aB a1 (Ae (f:=sA) a2) (am (bt a3 (bT a3 (bB t9 (aM (c0))) a3))))) <|.br (fun a7=>.el fun x30 a8=>.pb [41,51] [(30,sA x30)] [] [] [0] [1,2,5,6] (bm a7 (ah (aB a1 (Ae (f:=sA) a8) (bg t3 s2))) aE t6)) (fun a7=>.pa [41,50] [0] [1,2,5,6] (b4 a7 t6))) (fun a3=>.pb [23,40] [(17,sA x17)] [] [] [0] [1,2,5,6] (aj (cf a0 (cH a1 (Ae (f:=sA) a2) (am (aC a3 (bW a3)))) aE) t6))) (fun a0=>.ta [22] (az (bx a0)))) (by kernel_rfl)) (fun o ho=>Scr.ok (X:=Mu n sh) ho mix (.pa [] [0] [1,2,5,6] (aj (ag t2 aw) t6)) (by kernel_rfl)) h
theorem gir_ex{g:List (List Int)}(hg:VG g){sh:List Bool}(hs:sh.length=g.length):∃p:{l:List Int // l.length<=60},Ac (Kj g sh) (KD g sh) (([],.tup [.int .i64 (iN p.1.length),lI p.1,.int .i64 0]):Ret):=by
 have hl:=hg.len;have hgl:=B4 g;have e0:∀(m i:Nat) (l:List Int),i+m=g.length->l.length<=60->∃p:{l:List Int // l.length<=60},Ac (Kj g sh) (some (.inl (.l0 l (i:Int)))) (([],.tup [.int .i64 (iN p.1.length),lI p.1,.int .i64 0]):Ret):=by
  intro m;induction m with
  | zero=>intro i l hi hll;refine Az (show Kj g sh (.l0 l i)=Ip g sh l i from rfl) ?_;unfold Ip;rw[Ad (VA (by simp only[iN];omega)),Vy];exact⟨⟨l,hll⟩,.ret _⟩
  | succ m ih=>intro i l hi hll;refine Az (show Kj g sh (.l0 l i)=Ip g sh l i from rfl) ?_;have ht:=th_p (hg.ok hs) (Int.natCast_nonneg i) (by omega);unfold Ip;rw[Ah (VB (by simp only[iN];omega)),Ab (hg.ok hs),Ab (by omega),Ab (by simp only[iN];omega),zW i (by omega)];exact Ak (fun _=>Ak (fun _=>ih (i+1) _ (by omega) ht) fun _=>Ak (fun _=>ih (i+1) _ (by omega) ht) fun _=>ih (i+1) _ (by omega) hll) fun _=>ih (i+1) _ (by omega) hll
 unfold KD;exact Ag hg (Ag hs (e0 g.length 0 [] (VL _) (VI _)))
theorem R8(g:List (List Int))(sh:List Bool):∃l:List Int,VG g->sh.length=g.length->l.length<=60/\CT Wu 104 [] [.lst (gL g),.lst (boL sh)] [] (.tup [.int .i64 (iN l.length),lI l,.int .i64 0]):=by
 by_cases h:VG g/\sh.length=g.length
 .obtain⟨l,hd⟩:=gir_ex h.1 h.2;exact⟨l.1,fun _ _=>⟨l.2,gir_ct g sh _ hd⟩⟩
 .exact⟨[],fun a b=>absurd ⟨a,b⟩ h⟩
@[irreducible] def giL(g:List (List Int))(sh:List Bool):List Int:=Classical.choose (R8 g sh)
theorem CT.any1{f:FuncId}{hin hout:List (Option Blk)}{args L:List AV}{a c:AV}(h:CT Wu f hin args hout (.tup [a,.lst L,c])):CT Wu f hin args hout (.tup [a,.any,c]):=h.less fun φ A w v hv=>by
 cases hv with
 | imm _ _ h=>cases h
 | tup cs vs hl hh=>
  refine .tup _ vs (by simpa using hl) fun i c u hc hu=>?_
  match i,hc with
  | 0,hc=>exact hh 0 c u hc hu
  | 1,hc=>simp at hc;subst hc;exact(show B5 (.lst L) .any from .any rfl).2 _ _ _ _ (hh 1 _ u rfl hu)
  | 2,hc=>exact hh 2 c u hc hu
  | i+3,hc=>simp at hc
theorem gi_c{g:List (List Int)}(h:VG g){sh:List Bool}(hs:sh.length=g.length):CT Wu 104 [] [.lst (gL g),.lst (boL sh)] [] (.tup [.int .i64 (iN (giL g sh).length),.any,.int .i64 0]):=by unfold giL;exact CT.any1 (V8 (R8 g sh) h hs).2
def slT(n:Aa)(sh:List Bool)(i:Nat):Int:=if (n.ss.getD i s0).dep=true/\opB n sh (i:Int)=true then (n.ss.getD i s0).k else 0
def slI(n:Aa)(sh:List Bool):Nat->Int | 0=>0 | i+1=>slI n sh i+slT n sh i
def slS(n:Aa)(sh:List Bool):Int:=slI n sh n.ss.length
theorem Pa{n:Aa}(hv:An n)(sh:List Bool){i:Nat}(hi:i<n.ss.length):0<=slT n sh i/\slT n sh i<=1000:=by have hk:=Bm.1 (hv.spu i _ (Ay s0 hi)).hk;unfold slT;split<;>omega
theorem SZ{n:Aa}(hv:An n)(sh:List Bool):∀i,i<=n.ss.length->0<=slI n sh i/\slI n sh i<=1000 * i:=by
 intro i;induction i with
 | zero=>intro _;exact⟨Int.le_refl _,Int.le_refl _⟩
 | succ i ih=>intro hi;have h1:=ih (by omega);have h2:=Pa hv sh (i:=i) (by omega);show 0<=slI n sh i+slT n sh i/\slI n sh i+slT n sh i<=_;omega
theorem rsl_c{n:Aa}(hv:An n){sh:List Bool}(hl:sh.length=Am n):CT Wu 105 [] [Ai n,.lst (boL sh)] [] (.int .i64 (slS n sh)):=by
 refine rsl_ct n sh ([],_) ?_;have hn:(Wn sA n.ss).length=n.ss.length:=Vy _;have hss:n.ss.length<=100000:=by have:=hv.ns;omega
 unfold Mu;refine Bb (fun j=>Ev.l0 (slI n sh j) (j:Int)) n.ss.length (fun j hj hr=>.to ?_ hr) (.to ?_ (.ret _))
 .show Ha n sh (slI n sh j) j=_;have hs:=Ay s0 hj;have hb:=SZ hv sh j (by omega);have ht:=Pa hv sh hj;unfold Ha;rw[Ah (VB (by rw[hn];simp only[iN];omega)),Ab (by omega),VE,Al hs,zW j (by omega)];show _=some (Sum.inl (Ev.l0 (slI n sh j+slT n sh j) ((j+1:Nat):Int)));unfold slT at ht ⊢
  cases hd:(n.ss.getD j s0).dep with
  | false=>rw[Ad rfl,Vu (fun h=>by cases h.1),Int.add_zero]
  | true=>
   rw[Ah rfl,Ab hv,Ab hl,Ab ⟨by omega,by simp only[iN];omega⟩];cases ho:opB n sh (j:Int) with
   | false=>rw[Ad rfl,Vu (fun h=>by cases h.2),Int.add_zero]
   | true=>rw[hd,ho,Vt ⟨rfl,rfl⟩] at ht;rw[Ah rfl,Al hs,Vt ⟨rfl,rfl⟩,Dt (by omega) (by omega)]
 .show Ha n sh (slI n sh n.ss.length) n.ss.length=_;unfold Ha;rw[Ad (VA (by rw[hn];simp only[iN];omega))];rfl
def bsB(bs:List AD):Blk:={es:=bs.map bA,z:=3}
def gB(g:List (List Int)):Blk:={es:=gL g,z:=1}
def nJ(bs:List AD)(g:List (List Int)):Blk:={es:=[.agg [.sl 2 0 bs.length,.sl 3 0 g.length,.nils,.nils,.int .i64 0,.int .i64 0,.int .i64 0,.int .i64 0]],z:=8,flat:=false}
def Lg(n:Aa):Option (Empty⊕Ret):=gu (Rows n.nx) <|gu (An n) <|gu (1 * iN (Wn bA n.bs).length<=281474976710656) <|gu (iN (Wn bA n.bs).length<=9223372036854775807) <|gu (VG n.nx) <|gu ((Wo (Wn bA n.bs).length false).length=n.nx.length) <|gu (1 * iN (Am n)<=281474976710656) <|gu (iN (Am n)<=9223372036854775807) <|br (decide (0<iN (giL n.nx (Wo (Wn bA n.bs).length false)).length)) (some (.inr ([],AV.tup [AV.agg [iV (iN (giL n.nx (Wo (Wn bA n.bs).length false)).length),AV.any,iV (slS n (Wo (iN (Am n)).toNat false)),iV (if slS n (Wo (iN (Am n)).toNat false)<i64.wrap (iN (giL n.nx (Wo (Wn bA n.bs).length false)).length-1) then slS n (Wo (iN (Am n)).toNat false) else i64.wrap (iN (giL n.nx (Wo (Wn bA n.bs).length false)).length-1))],iV 0]))) (some (.inr ([],AV.tup [AV.agg [iV (iN (giL n.nx (Wo (Wn bA n.bs).length false)).length),AV.any,iV (slS n (Wo (iN (Am n)).toNat false)),iV (slS n (Wo (iN (Am n)).toNat false))],iV 0])))
theorem flt_ct(n:Aa)(r:Ret)(h:Ac emT (Lg n) r):CT Wu 52 ([]) ([Ai n]) r.1 r.2:=CT.mach (fn:=Tryz.f52) (c:=zB Tryz.f52) (S:=emS) (hd:=emH) Tryz.func52 (by kernel_rfl) (nL rfl) (fun s o ho=>match s,ho with | x,_=>x.elim) (fun o ho=>Scr.ok (X:=Lg n) ho mix (.ra (bz t3) <|.gu fun a0=>.gu fun a1=>have c0:=Sn a0 a1;.rc [(9,hK c0 [] [])] (al (cQ t9 (c0) s2)) <|.gu fun a2=>.gu fun a3=>.gu fun a4=>.gu fun a5=>have c1:=gi_c a4 a5;.rc [(19,hK c1 [] [2])] (ay (cb (ab (an (show 0<=iN (Wn bA n.bs).length from(Int.natCast_nonneg _)) (ab (show iN (Wn bA n.bs).length<=iN (Wn bA n.bs).length by omega) a2 a3)) (k3 (ab (show(Wn bA n.bs).length=(Wo (Wn bA n.bs).length (bV false)).length by simp) (show CT Wu 104 [] [Wt (gL n.nx),Wt (Wo (Wn bA n.bs).length (bV false))] [] (AV.tup [iv (iN (giL n.nx (Wo (Wn bA n.bs).length false)).length),AV.any,iv 0]) from CT.eqs (c1) (by first | (simp only[boL,VJ,Wj,List.map_take,List.map_drop,List.map_replicate,List.nil_append]<;>rfl) | (simp[gL,boL,lI,sA,bA]<;>rfl)) (by first | (simp only[boL,VJ,Wj,List.map_take,List.map_drop,List.map_replicate,List.nil_append]<;>rfl) | (simp[gL,boL,lI,sA,bA]<;>rfl))) (show ∀(blk:Blk),blk∈[]->AY blk from(by intro _ h;cases h)))) (aa ba)))) <|.gu fun a6=>.gu fun a7=>have c2:=Gb a1;have c3:=rsl_c a1 (show(Wo (iN (Am n)).toNat false).length=Am n by simp);.rv 2 [] [] [(27,hK c2 [] []),(29,hK c3 [] [3])] (ax (ah (ab (bc t9 (c2)) (an (show 0<=iN (Am n) by simp) (ab (show iN (Am n)<=iN (Am n) by omega) a6 a7)) (ab (an t9 (ab (show(iN (Am n)).toNat=(Wo (iN (Am n)).toNat (bV false)).length by simp) (show CT Wu 105 [] [AV.agg [Wt (Wn bA n.bs),Wt (gL n.nx),Wt (Wn sA n.ss),Wt (Wn iv n.rs),iv n.q,iv n.a,iv n.d,iv n.p],Wt (Wo (iN (Am n)).toNat (bV false))] [] (iv (slS n (Wo (iN (Am n)).toNat false))) from CT.eqs (c3) (by first | (simp only[boL,VJ,Wj,List.map_take,List.map_drop,List.map_replicate,List.nil_append]<;>rfl) | (simp[gL,boL,lI,sA,bA]<;>rfl)) (by first | (simp only[boL,VJ,Wj,List.map_take,List.map_drop,List.map_replicate,List.nil_append]<;>rfl) | (simp[gL,boL,lI,sA,bA]<;>rfl))) (show ∀(blk:Blk),blk∈[]->AY blk from(by intro _ h;cases h)))) t4 aS))) (am aD) aw) <|.br (fun a8=>.ta [71] (be (ax a8 (ah (bD aD)) ca) t5)) (fun a8=>.ta [70] (bF a8 ca t5))) (by kernel_rfl)) h
inductive II where | l0 (v0:List Int) (v1:Bool) (v2:Int)
def FE(l:List Int)(x:Int):II->St | .l0 v0 v1 v2=>St.mk 42 [(0,Wt (Wn iv l)),(1,iv x),(5,AV.sl 0 0 v0.length),(6,bV v1),(7,iv v2)] [some (bK (Wn iv v0) 1)]
def Nh(l:List Int)(x:Int):Option (II⊕Ret):=some (.inl (.l0 ([]) (false) ((0:Int))))
def Hu(l:List Int)(x:Int)(v0:List Int)(v1:Bool)(v2:Int):Option (II⊕Ret):=br (decide (v2<iN (Wn iV l).length)) (br (!v1) (gu (0<=v2) <|el l (v2.toNat) fun(x19:Int)=>br (decide (x<x19)) (gu ((Wn iV v0).length+[iV x].length<=9223372036854775807) <|gu (((Wn iV v0).length+[iV x].length) * 8<=140737488355328) <|el l (v2.toNat) fun(x31:Int)=>gu ((Wn iV v0++[iV x]).length+[iV x31].length<=9223372036854775807) <|gu (((Wn iV v0++[iV x]).length+[iV x31].length) * 8<=140737488355328) <|some (.inl (.l0 (v0++[x]++[x31]) (true) (i64.wrap (v2+1))))) (el l (v2.toNat) fun(x31:Int)=>gu ((Wn iV v0).length+[iV x31].length<=9223372036854775807) <|gu (((Wn iV v0).length+[iV x31].length) * 8<=140737488355328) <|some (.inl (.l0 (v0++[x31]) v1 (i64.wrap (v2+1)))))) (gu (0<=v2) <|el l (v2.toNat) fun(x31:Int)=>gu ((Wn iV v0).length+[iV x31].length<=9223372036854775807) <|gu (((Wn iV v0).length+[iV x31].length) * 8<=140737488355328) <|some (.inl (.l0 (v0++[x31]) v1 (i64.wrap (v2+1)))))) (br (!v1) (gu ((Wn iV v0).length+[iV x].length<=9223372036854775807) <|gu (((Wn iV v0).length+[iV x].length) * 8<=140737488355328) <|some (.inr ([],Wt (Wn iV v0++[iV x])))) (some (.inr ([],Wt (Wn iV v0)))))
def RW(l:List Int)(x:Int):II->Option (II⊕Ret) | .l0 v0 v1 v2=>Hu l x v0 v1 v2
theorem ins_ct(l:List Int)(x:Int)(r:Ret)(h:Ac (RW l x) (Nh l x) r):CT Wu 102 ([]) ([lI l,.int .i64 x]) r.1 r.2:=CT.mach (fn:=Tryz.f102) (c:=zB Tryz.f102) (S:=(FE l x)) (hd:=II.ctorIdx) Tryz.func102 (by kernel_rfl) (nL rfl) (fun s o ho=>match s,ho with | .l0 v0 v1 v2,ho=>Scr.ok (X:=Hu l x v0 v1 v2) ho mix (.ra cF <|.br (fun a0=>.br (fun a1=>.gu fun a2=>.el fun x19 a3=>.rd [23,33] [(19,iv x19)] [] (bX a0 (ai a1 (cJ a1 (an a2 (Ae (f:=iv) a3)) (bT a1 t3 a1)))) <|.br (fun a4=>.gu fun a5=>.gu fun a6=>.rb [33,47] (bX a4 (bH (show(Wn iv v0).length=v0.length by simp) (bv (show nat_lit 1=nat_lit 1 from rfl) (show 1<=[iv x].length by simp) a5 a6) t2)) <|.el fun x31 a7=>.gu fun a8=>.gu fun a9=>.lq [33] [(31,iv x31)] [] [] [] [4] [0,1,5,6,7] (up [(5,AV.sl 0 0 ((Wn iv v0++[iv x]).length+[iv x31].length))] [(0,Wn iv v0++[iv x]++[iv x31])] (FE l x (.l0 (v0++[x]++[x31]) (true) (i64.wrap (v2+1))))) (b4 (cH a2 (Ae (f:=iv) a7) (bN (show(Wn iv v0++[iv x]).length=(Wn iv v0).length+[iv x].length by simp) (bv (show nat_lit 1=nat_lit 1 from rfl) (show 1<=[iv x31].length by simp) a8 a9) s2)) t7) (by simp[up,upF,upV,upH,upB,FE,gL,boL,lI])) (fun a4=>.el fun x31 a5=>.gu fun a6=>.gu fun a7=>.lq [33,46] [(31,iv x31)] [] [] [] [2] [0,1,5,6,7] (up [(5,AV.sl 0 0 ((Wn iv v0).length+[iv x31].length))] [(0,Wn iv v0++[iv x31])] (FE l x (.l0 (v0++[x31]) v1 (i64.wrap (v2+1))))) (bm a4 (cH a2 (Ae (f:=iv) a5) (bN (show(Wn iv v0).length=v0.length by simp) (bv (show nat_lit 1=nat_lit 1 from rfl) (show 1<=[iv x31].length by simp) a6 a7) s2)) aE t7) (by simp[up,upF,upV,upH,upB,FE,gL,boL,lI]))) (fun a1=>.rb [23,32] (bX a0 (aZ a1 (bW a1))) <|.gu fun a2=>.el fun x31 a3=>.gu fun a4=>.gu fun a5=>.lq [32] [(31,iv x31)] [] [] [] [2] [0,1,5,6,7] (up [(5,AV.sl 0 0 ((Wn iv v0).length+[iv x31].length))] [(0,Wn iv v0++[iv x31])] (FE l x (.l0 (v0++[x31]) v1 (i64.wrap (v2+1))))) (aj (bc (cH a2 (Ae (f:=iv) a3) (bN (show(Wn iv v0).length=v0.length by simp) (bv (show nat_lit 1=nat_lit 1 from rfl) (show 1<=[iv x31].length by simp) a4 a5) s2)) aE) t7) (by simp[up,upF,upV,upH,upB,FE,gL,boL,lI]))) (fun a0=>.rb [22] (bx a0) <|.br (fun a1=>.gu fun a2=>.gu fun a3=>.tc [73] [] [2] (af (ax a1 (cH (show(Wn iv v0).length=v0.length by simp) (bv (show nat_lit 1=nat_lit 1 from rfl) (show 1<=[iv x].length by simp) a2 a3) s2) aw) (show(Wn iv v0).length+[iv x].length=(Wn iv v0++[iv x]).length by simp))) (fun a1=>.tc [72] [] [0] (aJ a1 aw (show v0.length=(Wn iv v0).length by simp))))) (by kernel_rfl)) (fun o ho=>Scr.ok (X:=Nh l x) ho mix (.pb [] [] [] [(5,1)] [0] [0,1,5,6,7] (aj (am s2) t7)) (by kernel_rfl)) h
def flN(bs:List AD)(g:List (List Int))(ss:List Au)(q a d p:Int):Aa:=⟨bs,g,ss,[],q,a,d,p⟩
theorem An.vg{n:Aa}(hv:An n):VG n.nx:=by have h1:=hv.nb24;have h2:=hv.nx;refine⟨by omega,fun v hlt=>?_⟩;rw[h2];exact(hv.blk v _ (Vv (show v<n.bs.length by omega))).nx
theorem IC(n:Aa):∃t:Int×Int×Int,An n->Rows n.nx->t.2.2<=slS n (Wo (Am n) false)/\CT Wu 52 [] [Ai n] [] (.tup [.agg [.int .i64 t.1,.any,.int .i64 t.2.1,.int .i64 t.2.2],.int .i64 0]):=by
 by_cases hh:An n/\Rows n.nx
 .obtain⟨hv,hr⟩:=hh;have h1:=hv.nb24;have hc:=hv.cel;have hs:(Wo (Wn bA n.bs).length false).length=n.nx.length:=by rw[VQ,Vy,hv.nx]
  have key:∃t:{t:Int×Int×Int // t.2.2<=slS n (Wo (Am n) false)},Ac emT (Lg n) (([],.tup [.agg [.int .i64 t.1.1,.any,.int .i64 t.1.2.1,.int .i64 t.1.2.2],.int .i64 0]):Ret):=by
   unfold Lg;rw[show (iN (Am n)).toNat=Am n from rfl];refine Ag hr (Ag hv (Ag (by simp only[iN,Vy];omega) (Ag (by simp only[iN,Vy];omega) (Ag hv.vg (Ag hs (Ag (by simp only[iN];omega) (Ag (by simp only[iN];omega) (Ak (fun _=>?_) fun _=>⟨⟨(_,_,_),Int.le_refl _⟩,.ret _⟩))))))));have mn:∀a b:Int,(if a<b then a else b)<=a:=fun a b=>by split<;>omega
   exact⟨⟨(_,_,_),mn _ _⟩,.ret _⟩
  obtain⟨t,ht⟩:=key;exact⟨t.1,fun _ _=>⟨t.2,flt_ct n _ ht⟩⟩
 .exact⟨(0,0,0),fun a b=>absurd ⟨a,b⟩ hh⟩
@[irreducible] def flE(n:Aa):Int:=(Classical.choose (IC n)).1
@[irreducible] def flS(n:Aa):Int:=(Classical.choose (IC n)).2.1
@[irreducible] def flC(n:Aa):Int:=(Classical.choose (IC n)).2.2
theorem fl_p{n:Aa}(hv:An n)(hr:Rows n.nx):flC n<=slS n (Wo (Am n) false):=by unfold flC;exact(V8 (IC n) hv hr).1
theorem fl_c(bs:List AD)(g:List (List Int))(ss:List Au)(q a d p:Int)(hv:An (flN bs g ss q a d p))(hr:Rows g):CT Wu 52 [] [.agg [.lst (bs.map bA),.lst (gL g),.lst (ss.map sA),.nils,.int .i64 q,.int .i64 a,.int .i64 d,.int .i64 p]] [] (.tup [.agg [.int .i64 (flE (flN bs g ss q a d p)),.any,.int .i64 (flS (flN bs g ss q a d p)),.int .i64 (flC (flN bs g ss q a d p))],.int .i64 0]):=by
 have h:=(V8 (IC (flN bs g ss q a d p)) hv hr).2;unfold flE flS flC;refine CT.lessArgs h rfl fun i a' ha=>?_
 match i,ha with
 | 0,ha=>
  simp at ha;subst ha;refine⟨_,rfl,B5.agg rfl fun j c' hj=>?_⟩;match j,hj with
  | 0,hj=>simp at hj;subst hj;exact⟨_,rfl,.refl _⟩
  | 1,hj=>simp at hj;subst hj;exact⟨_,rfl,.refl _⟩
  | 2,hj=>simp at hj;subst hj;exact⟨_,rfl,.refl _⟩
  | 3,hj=>simp at hj;subst hj;exact⟨.nils,rfl,.nilL⟩
  | 4,hj=>simp at hj;subst hj;exact⟨_,rfl,.refl _⟩
  | 5,hj=>simp at hj;subst hj;exact⟨_,rfl,.refl _⟩
  | 6,hj=>simp at hj;subst hj;exact⟨_,rfl,.refl _⟩
  | 7,hj=>simp at hj;subst hj;exact⟨_,rfl,.refl _⟩
  | j+8,hj=>simp at hj
 | i+1,ha=>simp at ha
def Bq(x:Int):List Int->List Int | []=>[x] | y::t=>if x<y then x::y::t else y::Bq x t
theorem RI(x:Int):∀l,(Bq x l).length=l.length+1 | []=>rfl | y::t=>by unfold Bq;split<;>simp[RI x t]
theorem Qa(x:Int){w:Int}:∀{l},w∈Bq x l->w=x\/w∈l
 | [],h=>.inl (by simpa [Bq] using h)
 | y::t,h=>by
  unfold Bq at h;split at h
  .simpa using h
  .rcases VY.1 h with h | h
   .exact .inr (by simp[h])
   .exact(Qa x h).imp id fun h=>VN _ h
theorem QP(x:Int):∀{l},l.Pairwise (· < ·)->x∉l->(Bq x l).Pairwise (· < ·)
 | [],_,_=>by simp[Bq]
 | y::t,h,hx=>by
  have h1:=List.pairwise_cons.1 h;unfold Bq;split
  .rename_i hlt;exact List.pairwise_cons.2 ⟨fun z hz=>(VY.1 hz).elim (fun e=>e ▸ hlt) fun e=>Int.lt_trans hlt (h1.1 z e),h⟩
  .refine List.pairwise_cons.2 ⟨fun z hz=>?_,QP x h1.2 fun hm=>hx (VN _ hm)⟩;rcases Qa x hz with e | e
   .subst e;have:z≠y:=fun e=>hx (by simp[e])
    omega
   .exact h1.1 z e
theorem ins_c(l:List Int)(x:Int)(hl:l.length<=1000):CT Wu 102 [] [lI l,.int .i64 x] [] (lI (Bq x l)):=by
 refine ins_ct l x ([],_) ?_;have key:∀(m i:Nat) (o:List Int) (b:Bool),i+m=l.length->o.length<=i+b.toNat->(if b=true then o++l.drop i else o++Bq x (l.drop i))=Bq x l->Ac (RW l x) (some (.inl (.l0 o b (i:Int)))) (([],lI (Bq x l)):Ret):=by
  intro m;induction m with
  | zero=>
   intro i o b hi ho he;rw[List.drop_of_length_le (by omega)] at he;refine .to (show Hu l x o b i=some (.inr ([],lI (Bq x l))) from ?_) (.ret _);unfold Hu;rw[Ad (VA (by simp only[iN,Vy];omega)),<-he];cases b with
   | true=>rw[Ad (show(!true)=false from rfl),Vt rfl,List.append_nil];rfl
   | false=>rw[show false.toNat=0 from rfl] at ho;rw[Ah (show(!false)=true from rfl),Vu (by decide),Ab (by simp only[Vy,V9];omega),Ab (by simp only[Vy,V9];omega)];simp[lI,Bq]
  | succ m ih=>
   intro i o b hi ho he;have e:=Ay 0 (show i<l.length by omega);have hd:l.drop i=l.getD i 0::l.drop (i+1):=by rw[Fg (show i<l.length by omega)];exact Wg (by omega)
   rw[hd] at he;refine .to (show Hu l x o b i=_ from rfl) ?_;unfold Hu;rw[Ah (VB (by simp only[iN,Vy];omega))];cases b with
   | true=>
    rw[show true.toNat=1 from rfl] at ho;rw[Ad (show(!true)=false from rfl),Ab (by omega),VE,Al e,Ab (by simp only[Vy,V9];omega),Ab (by simp only[Vy,V9];omega),zW i (by omega)];refine ih (i+1) _ true (by omega) (by simp;omega) ?_;rw[Vt rfl] at he ⊢
    rw[<-he];simp
   | false=>
    rw[Vu (by decide)] at he;rw[show false.toNat=0 from rfl] at ho;rw[Ah (show(!false)=true from rfl),Ab (by omega),VE,Al e,zW i (by omega)];rw[show Bq x (l.getD i 0::l.drop (i+1))=if x<l.getD i 0 then x::l.getD i 0::l.drop (i+1) else l.getD i 0::Bq x (l.drop (i+1)) from rfl] at he;by_cases hlt:x<l.getD i 0
    .rw[Ah (VB hlt),Ab (by simp only[Vy,V9];omega),Ab (by simp only[Vy,V9];omega),Al e,Ab (by simp only[VP,Vy,V9];omega),Ab (by simp only[VP,Vy,V9];omega)];refine ih (i+1) _ true (by omega) (by simp;omega) ?_;rw[Vt hlt] at he;rw[Vt rfl,<-he];simp
    .rw[Ad (VA hlt),Al e,Ab (by simp only[Vy,V9];omega),Ab (by simp only[Vy,V9];omega)];refine ih (i+1) _ false (by omega) (by simp;omega) ?_;rw[Vu hlt] at he;rw[Vu (by decide),<-he];simp
 unfold Nh;exact key l.length 0 [] false (VL _) (VI _) (by simp)
inductive Fv where | l0 (v0:Int) (v1:List (List Int)) | l1 (v0:Int) (v1:Nat) (v2:List (List Int))
def FL(L:List Int)(kk:Nat)(bs:List AD)(g:List (List Int)):Fv->St | .l0 v0 v1=>St.mk 98 [(0,AV.ptr 0 0 0),(1,AV.ptr 1 0 0),(4,iv (iN bs.length)),(5,iv v0)] [some (AE L kk),some (Blk.mk [AV.agg [AV.sl 2 0 bs.length,AV.sl 3 0 v1.length,AV.nils,AV.nils,iv 0,iv 0,iv 0,iv 0]] 8 false true none),some (bK (Wn bA bs) 3),some (bK (Wn lI v1) 1)] | .l1 v0 v1 v2=>St.mk 98 [(0,AV.ptr 0 0 0),(1,AV.ptr 1 0 0),(4,iv (iN bs.length)),(6,iv v0)] [some (AE L v1),some (Blk.mk [AV.agg [AV.sl 2 0 bs.length,AV.sl 3 0 v2.length,AV.nils,AV.nils,iv 0,iv 0,iv 0,iv 0]] 8 false true none),some (bK (Wn bA bs) 3),some (bK (Wn lI v2) 1)]
def Ng(L:List Int)(kk:Nat)(bs:List AD)(g:List (List Int)):Option (Fv⊕Ret):=some (.inl (.l0 ((0:Int)) g))
def Ir(L:List Int)(kk:Nat)(bs:List AD)(g:List (List Int))(v0:Int)(v1:List (List Int)):Option (Fv⊕Ret):=br (decide (v0<iN bs.length)) (br (decide (1<iN bs.length)) (gu (iN bs.length=0->False) <|gu (0<=v0) <|gu (v0<iN v1.length) <|gu ((0+v0.toNat).succ.le (Wn lI v1).length) <|some (.inl (.l0 (i64.wrap (v0+1)) (v1.set (0+v0.toNat) [(i64.wrap (v0+1)).tmod (iN bs.length)])))) (gu (kk<9223372036854775807) <|some (.inl (.l1 (Af L kk 4) (kk+1) v1)))) (gu (kk<9223372036854775807) <|some (.inl (.l1 (Af L kk 4) (kk+1) v1)))
def I6(L:List Int)(kk:Nat)(bs:List AD)(g:List (List Int))(v0:Int)(v1:Nat)(v2:List (List Int)):Option (Fv⊕Ret):=br (decide (0<v0)) (br (decide (2<iN bs.length)) (gu (v1<9223372036854775807) <|gu (v1+1<9223372036854775807) <|gu (v1+1+1<9223372036854775807) <|br (decide (0<Af L (v1+1+1) 3)) (gu (iN bs.length=0->False) <|br (Af L v1 (iN bs.length) != (i64.wrap (Af L v1 (iN bs.length)+2)).tmod (iN bs.length)) (gu (0<=Af L v1 (iN bs.length)) <|gu (Af L v1 (iN bs.length)<iN v2.length) <|el v2 (0+(Af L v1 (iN bs.length)).toNat) fun(x67:List Int)=>gu (x67.length<=9223372036854775807) <|br (!AS x67 ((i64.wrap (Af L v1 (iN bs.length)+2)).tmod (iN bs.length))) (el v2 (0+(Af L v1 (iN bs.length)).toNat) fun(x79:List Int)=>br (decide (iN (Wn iV x79).length<4)) (el v2 (0+(Af L v1 (iN bs.length)).toNat) fun(x94:List Int)=>gu (x94.length<=1000) <|gu ((0+(Af L v1 (iN bs.length)).toNat).succ.le (Wn lI v2).length) <|some (.inl (.l1 (i64.wrap (v0-1)) (v1+1+1+1) (v2.set (0+(Af L v1 (iN bs.length)).toNat) (Bq ((i64.wrap (Af L v1 (iN bs.length)+2)).tmod (iN bs.length)) x94))))) (some (.inl (.l1 (i64.wrap (v0-1)) (v1+1+1+1) v2)))) (some (.inl (.l1 (i64.wrap (v0-1)) (v1+1+1+1) v2)))) (some (.inl (.l1 (i64.wrap (v0-1)) (v1+1+1+1) v2)))) (br (Af L v1 (iN bs.length) != Af L (v1+1) (iN bs.length)) (gu (0<=Af L v1 (iN bs.length)) <|gu (Af L v1 (iN bs.length)<iN v2.length) <|el v2 (0+(Af L v1 (iN bs.length)).toNat) fun(x67:List Int)=>gu (x67.length<=9223372036854775807) <|br (!AS x67 (Af L (v1+1) (iN bs.length))) (el v2 (0+(Af L v1 (iN bs.length)).toNat) fun(x79:List Int)=>br (decide (iN (Wn iV x79).length<4)) (el v2 (0+(Af L v1 (iN bs.length)).toNat) fun(x94:List Int)=>gu (x94.length<=1000) <|gu ((0+(Af L v1 (iN bs.length)).toNat).succ.le (Wn lI v2).length) <|some (.inl (.l1 (i64.wrap (v0-1)) (v1+1+1+1) (v2.set (0+(Af L v1 (iN bs.length)).toNat) (Bq (Af L (v1+1) (iN bs.length)) x94))))) (some (.inl (.l1 (i64.wrap (v0-1)) (v1+1+1+1) v2)))) (some (.inl (.l1 (i64.wrap (v0-1)) (v1+1+1+1) v2)))) (some (.inl (.l1 (i64.wrap (v0-1)) (v1+1+1+1) v2))))) (some (.inr ([some (bK [AV.agg [Wt (Wn iV L),iV (iN v1)]] 2),some (Blk.mk [AV.agg [AV.sl 2 0 bs.length,AV.sl 3 0 v2.length,AV.nils,AV.nils,iV 0,iV 0,iV 0,iV 0]] 8 false true none),some (bK (Wn bA bs) 3),some (bK (Wn lI v2) 1)],AV.tup [])))) (some (.inr ([some (bK [AV.agg [Wt (Wn iV L),iV (iN v1)]] 2),some (Blk.mk [AV.agg [AV.sl 2 0 bs.length,AV.sl 3 0 v2.length,AV.nils,AV.nils,iV 0,iV 0,iV 0,iV 0]] 8 false true none),some (bK (Wn bA bs) 3),some (bK (Wn lI v2) 1)],AV.tup [])))
def CW(L:List Int)(kk:Nat)(bs:List AD)(g:List (List Int)):Fv->Option (Fv⊕Ret) | .l0 v0 v1=>Ir L kk bs g v0 v1 | .l1 v0 v1 v2=>I6 L kk bs g v0 v1 v2
theorem rin_ct(L:List Int)(kk:Nat)(bs:List AD)(g:List (List Int))(r:Ret)(h:Ac (CW L kk bs g) (Ng L kk bs g) r):CT Wu 51 ([some (AE L kk),some (nJ bs g),some (bsB bs),some (gB g)]) ([.ptr 0 0 0,.ptr 1 0 0]) r.1 r.2:=CT.mach (fn:=Tryz.f51) (c:=zB Tryz.f51) (S:=(FL L kk bs g)) (hd:=Fv.ctorIdx) Tryz.func51 (by kernel_rfl) (nL rfl) (fun s o ho=>match s,ho with | .l0 v0 v1,ho=>Scr.ok (X:=Ir L kk bs g v0 v1) ho mix (.br (fun a0=>.rb [35] (aR (bD (ai a0 (bE a0)))) <|.br (fun a1=>.gu fun a2=>.gu fun a3=>.gu fun a4=>.gu fun a5=>.lq [35,41] [(32,Wt [])] [] [] [] [0,1,2,3] [0,1,4,5] (up [] [(1,[AV.agg [AV.sl 2 0 bs.length,AV.sl 3 0 v1.length,AV.nils,AV.nils,iv 0,iv 0,iv 0,iv 0]]),(3,(Wn lI v1).set (0+v0.toNat) (Wt [iv ((i64.wrap (v0+1)).tmod (iN bs.length))]))] (FL L kk bs g (.l0 (i64.wrap (v0+1)) (v1.set (0+v0.toNat) [(i64.wrap (v0+1)).tmod (iN bs.length)])))) (bm a1 (ah (ah (aO (k2 a2) (af (an a3 a4) (k2 a5))))) aE (bp co t3)) (by simp[up,upF,upV,upH,upB,FL,gL,boL,lI,bA])) (fun a1=>.gu fun a2=>have c0:=AI (L) (kk) (4) a2;.pb [35,40] [] [(35,hK c0 [0] [])] [] [0,1,2,3] [0,1,4,6] (aF a1 (aG (bu (c0)) s2) (bp co t3)))) (fun a0=>.rb [34] (aR (bD (bW a0))) <|.gu fun a1=>have c0:=AI (L) (kk) (4) a1;.pb [34] [] [(35,hK c0 [0] [])] [] [0,1,2,3] [0,1,4,6] (aj (ay (aG (bu (c0)) s2)) (bp co t3)))) (by kernel_rfl) | .l1 v0 v1 v2,ho=>Scr.ok (X:=I6 L kk bs g v0 v1 v2) ho mix (.br (fun a0=>.rb [77] (aL (ai a0 (bE a0))) <|.br (fun a1=>.gu fun a2=>.gu fun a3=>have c0:=AI (L) v1 (iN bs.length) a2;have c1:=AI (L) (v1+1) (iN bs.length) a3;.rd [77,83] [] [(46,hK c0 [0] []),(49,hK c1 [0] [])] (af a1 (bg (cm (c0)) (bg (cm (c1)) aw))) <|.gu fun a4=>have c2:=AI (L) (v1+1+1) (3) a4;.rd [77] [] [(51,hK c2 [0] [])] (al (aG (bu (c2)) s2)) <|.br (fun a5=>.gu fun a6=>.rb [77,105] (af a5 (bb (k2 a6) s2)) <|.br (fun a7=>.gu fun a8=>.gu fun a9=>.el fun x67 a10=>.gu fun a11=>.br (fun a12=>.el fun x79 a13=>have c3:=EP x67 ((i64.wrap (Af L v1 (iN bs.length)+2)).tmod (iN bs.length)) a11;.rd [77,121,145] [(67,lI x67),(79,lI x79)] [(69,hK c3 [] [])] (aR (bD (ag a7 (aI a7 (bv a7 (an a8 a9) (aj a7 (ak (Ae (f:=lI) a10))) (ag a7 (cJ a7 (bu (c3)) (u2 (ag a12 (aI a12 (bv a12 (an a8 a9) (aj a12 (ak (Ae (f:=lI) a13))) (ai a12 (bE a12))))))))))))) <|.br (fun a14=>.el fun x94 a15=>.gu fun a16=>.gu fun a17=>have c4:=ins_c x94 ((i64.wrap (Af L v1 (iN bs.length)+2)).tmod (iN bs.length)) a16;.lq [77,121,145,165] [(94,lI x94)] [(96,hK c4 [] [])] [] [] [0,1,2,3] [0,1,4,6] (up [] [(1,[AV.agg [AV.sl 2 0 bs.length,AV.sl 3 0 v2.length,AV.nils,AV.nils,iv 0,iv 0,iv 0,iv 0]]),(3,(Wn lI v2).set (0+(Af L v1 (iN bs.length)).toNat) (Wt (Wn iv (Bq ((i64.wrap (Af L v1 (iN bs.length)+2)).tmod (iN bs.length)) x94))))] (FL L kk bs g (.l1 (i64.wrap (v0-1)) (v1+1+1+1) (v2.set (0+(Af L v1 (iN bs.length)).toNat) (Bq ((i64.wrap (Af L v1 (iN bs.length)+2)).tmod (iN bs.length)) x94))))) (bm a14 (aa (ah (ah (b7 (an a8 a9) (Ae (f:=lI) a15) (u2 (ax (bu (c4)) (an a8 a9) (k2 a17))))))) aE (bp co t3)) (by simp[up,upF,upV,upH,upB,FL,gL,boL,lI,bA])) (fun a14=>.pa [77,121,145,164] [0,1,2,3] [0,1,4,6] (b4 a14 (bp co t3)))) (fun a12=>have c3:=EP x67 ((i64.wrap (Af L v1 (iN bs.length)+2)).tmod (iN bs.length)) a11;.pb [77,121,144] [(67,lI x67)] [(69,hK c3 [] [])] [] [0,1,2,3] [0,1,4,6] (bI (aa (bD (ag a7 (aI a7 (bv a7 (an a8 a9) (aj a7 (ak (Ae (f:=lI) a10))) (ag a7 (cJ a7 (bu (c3)) (aG a12 (cA a12 (bW a12)))))))))) aE (bp co t3)))) (fun a7=>.pa [77,120] [0,1,2,3] [0,1,4,6] (bI (aa (bD (cA a7 (aZ a7 (bj a7 (aN cq)))))) aE (bp co t3)))) (fun a5=>.br (fun a6=>.gu fun a7=>.gu fun a8=>.el fun x67 a9=>.gu fun a10=>.br (fun a11=>.el fun x79 a12=>have c3:=EP x67 (Af L (v1+1) (iN bs.length)) a10;.rd [77,104,121,145] [(67,lI x67),(79,lI x79)] [(69,hK c3 [] [])] (af a5 (aa (bD (ag a6 (aI a6 (bv a6 (an a7 a8) (aj a6 (ak (Ae (f:=lI) a9))) (ag a6 (cJ a6 (bu (c3)) (u2 (ag a11 (aI a11 (bv a11 (an a7 a8) (aj a11 (ak (Ae (f:=lI) a12))) (ai a11 (bE a11)))))))))))))) <|.br (fun a13=>.el fun x94 a14=>.gu fun a15=>.gu fun a16=>have c4:=ins_c x94 (Af L (v1+1) (iN bs.length)) a15;.lq [77,121,145,165] [(94,lI x94)] [(96,hK c4 [] [])] [] [] [0,1,2,3] [0,1,4,6] (up [] [(1,[AV.agg [AV.sl 2 0 bs.length,AV.sl 3 0 v2.length,AV.nils,AV.nils,iv 0,iv 0,iv 0,iv 0]]),(3,(Wn lI v2).set (0+(Af L v1 (iN bs.length)).toNat) (Wt (Wn iv (Bq (Af L (v1+1) (iN bs.length)) x94))))] (FL L kk bs g (.l1 (i64.wrap (v0-1)) (v1+1+1+1) (v2.set (0+(Af L v1 (iN bs.length)).toNat) (Bq (Af L (v1+1) (iN bs.length)) x94))))) (bm a13 (aa (ah (ah (b7 (an a7 a8) (Ae (f:=lI) a14) (u2 (ax (bu (c4)) (an a7 a8) (k2 a16))))))) aE (bp co t3)) (by simp[up,upF,upV,upH,upB,FL,gL,boL,lI,bA])) (fun a13=>.pa [77,121,145,164] [0,1,2,3] [0,1,4,6] (b4 a13 (bp co t3)))) (fun a11=>have c3:=EP x67 (Af L (v1+1) (iN bs.length)) a10;.pb [77,104,121,144] [(67,lI x67)] [(69,hK c3 [] [])] [] [0,1,2,3] [0,1,4,6] (aj (cf a5 (aa (bD (ag a6 (aI a6 (bv a6 (an a7 a8) (aj a6 (ak (Ae (f:=lI) a9))) (ag a6 (cJ a6 (bu (c3)) (aG a11 (cA a11 (bW a11)))))))))) aE) (bp co t3)))) (fun a6=>.pa [77,104,120] [0,1,2,3] [0,1,4,6] (aj (cf a5 (aa (bD (cA a6 (aZ a6 (bj a6 (aN cq)))))) aE) (bp co t3))))) (fun a1=>.tc [77,82] [0,1,2,3] [] (aj (al a1) (an co t3)))) (fun a0=>.tc [76] [0,1,2,3] [] (ag (am (bW a0)) (an co t3)))) (by kernel_rfl)) (fun o ho=>Scr.ok (X:=Ng L kk bs g) ho mix (.pa [] [0,1,2,3] [0,1,4,5] (cO (u2 ba) (bp co t3))) (by kernel_rfl)) h
theorem BE(L:List Int)(k:Nat)(n:Int)(h1:1<=n)(h2:n<=100000):0<=Af L k n/\Af L k n<n:=by
 unfold Af D6;split
 .omega
 .have ha:=Int.tmod_lt_of_pos (Lc L k) (show 0<n by omega);have hb:=Int.lt_tmod_of_pos (Lc L k) (show 0<n by omega);split
  .rw[A3 _ (by omega) (by omega)];omega
  .omega
structure GT(b v:Nat)(l:List Int):Prop where
 el:∀w∈l,0<=w/\w<(b:Int)/\w≠(v:Int)
 asc:l.Pairwise (· < ·)
 len:l.length<=4
structure GK(b:Nat)(g:List (List Int)):Prop where
 len:g.length=b
 row:∀v,v<b->GT b v (g.getD v [])
theorem UV{l:List (List Int)}{i j:Nat}{x:List Int}(hi:i<l.length):(l.set i x).getD j []=if i=j then x else l.getD j []:=by
 rw[Vw,Wk];by_cases h:i=j
 .subst h;rw[Vt rfl,Vt hi,Vt rfl];rfl
 .rw[Vu h,Vu h,Vw]
theorem GK.set{b:Nat}{g:List (List Int)}(h:GK b g){i:Nat}{l:List Int}(hi:i<b)(hl:GT b i l):GK b (g.set i l):=by
 have hg:=h.len;refine⟨by rw[V4];exact hg,fun v hv=>?_⟩;rw[UV (by omega)];split
 .rename_i e;exact e ▸ hl
 .exact h.row v hv
theorem GT.ins{b v:Nat}{l:List Int}{x:Int}(h:GT b v l)(hx:0<=x/\x<(b:Int)/\x≠(v:Int))(hn:x∉l)(hl:l.length<4):GT b v (Bq x l):=⟨fun w hw=>(Qa x hw).elim (fun e=>e ▸ hx) (h.el w),QP x h.asc hn,by rw[RI];omega⟩
theorem RX{x b:Int}(h:0<=x)(hb:1<=b):0<=x.tmod b/\x.tmod b<b:=⟨Int.tmod_nonneg _ h,Int.tmod_lt_of_pos _ (by omega)⟩
abbrev EB(b kk:Nat):={p:Nat×List (List Int) // GK b p.2/\kk<=p.1/\p.1<=kk+20}
def ER(L:List Int)(bs:List AD){b kk:Nat}(p:EB b kk):Ret:=([some (AE L p.1.1),some (nJ bs p.1.2),some (bsB bs),some (gB p.1.2)],.tup [])
theorem rin_ex(L:List Int){kk:Nat}(bs:List AD){g:List (List Int)}(hb:1<=bs.length/\bs.length<=24)(hk:kk<=90000)(hg:GK bs.length g):∃p:EB bs.length kk,Ac (CW L kk bs g) (Ng L kk bs g) (ER L bs p):=by
 have e1:∀(m k:Nat) (h:List (List Int)),m<=4->GK bs.length h->kk<=k->k+3 * m<=kk+13->∃p:EB bs.length kk,Ac (CW L kk bs g) (some (.inl (.l1 (m:Int) k h))) (ER L bs p):=by
  intro m;have done:∀{k:Nat} {h:List (List Int)},GK bs.length h->kk<=k->k<=kk+13->∃p:EB bs.length kk,Ac (CW L kk bs g) (some (.inr (ER L bs p))) (ER L bs p):=fun {k h} h1 h2 h3=>⟨⟨(k,h),h1,h2,by omega⟩,.ret _⟩
  induction m with
  | zero=>intro k h _ hh hk1 hk2;refine Az (show CW L kk bs g (.l1 (0:Nat) k h)=I6 L kk bs g (0:Nat) k h from rfl) ?_;unfold I6;rw[Ad (VA (by omega))];exact⟨⟨(k,h),hh,hk1,by omega⟩,.ret _⟩
  | succ m ih=>
   intro k h hm hh hk1 hk2;refine Az (show CW L kk bs g (.l1 ((m+1:Nat):Int) k h)=I6 L kk bs g ((m+1:Nat):Int) k h from rfl) ?_;have r1:=BE L k bs.length (by omega) (by omega);have r2:=BE L (k+1) bs.length (by omega) (by omega);have hl:=hh.len;unfold I6;rw[Ah (VB (by omega)),A3 (((m+1:Nat):Int)-1) (by omega) (by omega),show((m+1:Nat):Int)-1=(m:Int) by omega];have nx:∀h',GK bs.length h'->∃p:EB bs.length kk,Ac (CW L kk bs g) (some (.inl (.l1 (m:Int) (k+1+1+1) h'))) (ER L bs p):=fun h' hg'=>ih (k+1+1+1) h' (by omega) hg' (by omega) (by omega)
   have step:∀x:Int,0<=x->x<bs.length->∃p:EB bs.length kk,Ac (CW L kk bs g)
     (br (Af L k (iN bs.length) != x)
      (gu (0<=Af L k (iN bs.length)) <| gu (Af L k (iN bs.length)<iN h.length) <| el h (0+(Af L k (iN bs.length)).toNat) fun x67=>gu (x67.length<=9223372036854775807) <|
       br (!AS x67 x) (el h (0+(Af L k (iN bs.length)).toNat) fun x79=>br (decide (iN (Wn (AV.int .i64) x79).length<4))
        (el h (0+(Af L k (iN bs.length)).toNat) fun x94=>gu (x94.length<=1000) <| gu ((0+(Af L k (iN bs.length)).toNat).succ.le (Wn lI h).length) <| some (.inl (.l1 (m:Int) (k+1+1+1) (h.set (0+(Af L k (iN bs.length)).toNat) (Bq x x94)))))
        (some (.inl (.l1 (m:Int) (k+1+1+1) h)))) (some (.inl (.l1 (m:Int) (k+1+1+1) h))))
      (some (.inl (.l1 (m:Int) (k+1+1+1) h)))) (ER L bs p):=by
    intro x hx0 hx1;generalize hp:Af L k (iN bs.length)=p;have r1:0<=p/\p<bs.length:=by rw[<-hp];exact r1
    have hi:p.toNat<bs.length:=by omega
    have er:=Ay [] (show p.toNat<h.length by omega);have ho:=hh.row p.toNat hi;have hol:=ho.len;refine Ak (fun hne=>?_) fun _=>nx h hh
    rw[Ab r1.1,Ab (by simp only[iN];omega),VL,Al er,Ab (by omega)];refine Ak (fun hnz=>?_) fun _=>nx h hh
    rw[Al er];refine Bn (fun h4=>?_) fun _=>nx h hh
    rw[Al er,Ab (by omega),Ab (show Nat.le _ _ from by show p.toNat+1<=_;simp only[Vy];omega)];refine nx _ (hh.set hi (ho.ins ⟨hx0,hx1,?_⟩ (L2 (by simpa using hnz)) (by simp only[iN,Vy] at h4;omega)));have:=Wi.1 hne;omega
   refine Bn (fun h2=>?_) fun _=>⟨⟨(k,h),hh,hk1,by omega⟩,.ret _⟩
   rw[Ab (by omega),Ab (by omega),Ab (by omega)];refine Ak (fun _=>?_) fun _=>step _ r2.1 r2.2
   rw[Ab (by simp only[iN];omega),A3 _ (by simp only[iN];omega) (by simp only[iN];omega)];have:=RX (x:=Af L k (iN bs.length)+2) (b:=(bs.length:Int)) (by simp only[iN];omega) (by omega);exact step _ this.1 this.2
 have r4:=BE L kk 4 (by omega) (by omega);have e1':∀h,GK bs.length h->∃p:EB bs.length kk,Ac (CW L kk bs g) (some (.inl (.l1 (Af L kk 4) (kk+1) h))) (ER L bs p):=fun h hh=>by
  have:=e1 (Af L kk 4).toNat (kk+1) h (by omega) hh (by omega) (by omega)
  rwa [VW r4.1] at this
 have e0:∀(m i:Nat) (h:List (List Int)),i+m=bs.length->GK bs.length h->∃p:EB bs.length kk,Ac (CW L kk bs g) (some (.inl (.l0 (i:Int) h))) (ER L bs p):=by
  intro m;induction m with
  | zero=>intro i h hi hh;refine Az (show CW L kk bs g (.l0 (i:Int) h)=Ir L kk bs g i h from rfl) ?_;unfold Ir;rw[Ad (VA (by simp only[iN];omega)),Ab (by omega)];exact e1' h hh
  | succ m ih=>
   intro i h hi hh;have hl:=hh.len;refine Az (show CW L kk bs g (.l0 (i:Int) h)=Ir L kk bs g i h from rfl) ?_;unfold Ir;rw[Ah (VB (by simp only[iN];omega))];refine Bn (fun hb1=>?_) fun _=>Ag (by omega) (e1' h hh)
   rw[Ab (by simp only[iN];omega),Ab (by omega),Ab (by simp only[iN];omega),Ab (show Nat.le _ _ from by show 0+(i:Int).toNat+1<=_;simp only[Vy];omega),zW i (by omega),VL,VE];have ht:=RX (x:=((i+1:Nat):Int)) (b:=(bs.length:Int)) (by omega) (by omega);refine ih (i+1) _ (by omega) (hh.set (by omega) ⟨fun w hw=>?_,List.pairwise_singleton _ _,by simp⟩);rw[Vn.1 hw];refine⟨ht.1,ht.2,fun e=>?_⟩;have hb1:1<bs.length:=by simp only[iN] at hb1;omega
   have e:((i+1:Nat):Int).tmod (bs.length:Int)=(i:Int):=e;by_cases hq:i+1=bs.length
   .rw[hq,Int.tmod_self] at e;omega
   .rw[Int.tmod_eq_of_lt (by omega) (by omega)] at e;omega
 exact e0 bs.length 0 g (VL _) hg
theorem KF(L:List Int)(kk:Nat)(bs:List AD)(g:List (List Int)):∃p:Nat×List (List Int),1<=bs.length/\bs.length<=24->kk<=90000->GK bs.length g->(GK bs.length p.2/\kk<=p.1/\p.1<=kk+20)/\CT Wu 51 [some (AE L kk),some (nJ bs g),some (bsB bs),some (gB g)] [.ptr 0 0 0,.ptr 1 0 0] [some (AE L p.1),some (nJ bs p.2),some (bsB bs),some (gB p.2)] (.tup []):=by
 by_cases h:(1<=bs.length/\bs.length<=24)/\kk<=90000/\GK bs.length g
 .obtain⟨p,hp⟩:=rin_ex L bs h.1 h.2.1 h.2.2;exact⟨p.1,fun _ _ _=>⟨p.2,rin_ct L kk bs g _ hp⟩⟩
 .exact⟨(0,[]),fun a b c=>absurd ⟨a,b,c⟩ h⟩
@[irreducible] def rgK(L:List Int)(kk:Nat)(bs:List AD)(g:List (List Int)):Nat:=(Classical.choose (KF L kk bs g)).1
@[irreducible] def rgG(L:List Int)(kk:Nat)(bs:List AD)(g:List (List Int)):List (List Int):=(Classical.choose (KF L kk bs g)).2
theorem rg_p{L:List Int}{kk:Nat}{bs:List AD}{g:List (List Int)}(a:1<=bs.length/\bs.length<=24)(b:kk<=90000)(c:GK bs.length g):GK bs.length (rgG L kk bs g)/\kk<=rgK L kk bs g/\rgK L kk bs g<=kk+20:=by unfold rgG rgK;exact(V8 (KF L kk bs g) a b c).1
theorem rg_c(L:List Int)(kk:Nat)(bs:List AD)(g:List (List Int))(a:1<=bs.length/\bs.length<=24)(b:kk<=90000)(c:GK bs.length g):CT Wu 51 [some (AE L kk),some (nJ bs g),some (bsB bs),some (gB g)] [.ptr 0 0 0,.ptr 1 0 0] [some (AE L (rgK L kk bs g)),some (nJ bs (rgG L kk bs g)),some (bsB bs),some (gB (rgG L kk bs g))] (.tup []):=by unfold rgG rgK;exact(V8 (KF L kk bs g) a b c).2
inductive Ds where | l0 (v0:Int) (v1:Nat) (v2:List AD) (v3:List (List Int)) | l1 (v0 v1:Int) (v2:Nat) (v3:List AD) (v4:List (List Int)) (v5:List Au) | l2 (v0:Int) (v1:Nat) (v2:List AD) (v3:List (List Int)) (v4:List Au) (v5:List Int) (v6 v7 v8 v9 v10 v11 v12:Int) | l3 (v0:Int) (v1:List Int) (v2:Int) (v3:Nat) (v4:List AD) (v5:List (List Int)) (v6:List Au) (v7:List Int) (v8 v9 v10 v11 v12 v13 v14:Int) | l4 (v0:Int) (v1:List Int) (v2 v3:Int) (v4:Nat) (v5:List AD) (v6:List (List Int)) (v7:List Au) (v8:List Int) (v9 v10 v11 v12 v13 v14 v15:Int)
def CH(L:List Int)(kk:Nat)(most:Int):Ds->St | .l0 v0 v1 v2 v3=>St.mk 191 [(0,AV.ptr 0 0 0),(4,AV.ptr 1 0 0),(5,AV.ptr 2 0 0),(6,iv v0)] [some (AE L v1),some (bK [AV.agg [AV.nils,AV.nils,AV.nils,AV.nils,iv 0,iv 0,iv 0,iv 0]] 8),some (Blk.mk [AV.agg [AV.sl 3 0 v2.length,AV.sl 4 0 v3.length,AV.nils,AV.nils,iv 0,iv 0,iv 0,iv 0]] 8 false true none),some (bK (Wn bA v2) 3),some (bK (Wn lI v3) 1)] | .l1 v0 v1 v2 v3 v4 v5=>St.mk 191 [(0,AV.ptr 0 0 0),(4,AV.ptr 1 0 0),(5,AV.ptr 2 0 0),(8,iv v0),(9,iv v1)] [some (AE L v2),some (bK [AV.agg [AV.nils,AV.nils,AV.nils,AV.nils,iv 0,iv 0,iv 0,iv 0]] 8),some (Blk.mk [AV.agg [AV.sl 3 0 v3.length,AV.sl 4 0 v4.length,AV.sl 5 0 v5.length,AV.nils,iv 0,iv 0,iv 0,iv 0]] 8 false true none),some (bK (Wn bA v3) 3),some (bK (Wn lI v4) 1),some (bK (Wn sA v5) 6)] | .l2 v0 v1 v2 v3 v4 v5 v6 v7 v8 v9 v10 v11 v12=>St.mk 191 [(0,AV.ptr 0 0 0),(4,AV.ptr 1 0 0),(5,AV.ptr 2 0 0),(12,AV.ptr 3 0 0),(14,iv v0)] [some (AE L v1),some (bK [AV.agg [AV.nils,AV.nils,AV.nils,AV.nils,iv 0,iv 0,iv 0,iv 0]] 8),some (Blk.mk [AV.agg [AV.sl 4 0 v2.length,AV.sl 5 0 v3.length,AV.sl 6 0 v4.length,AV.sl 7 0 v5.length,iv v6,iv v7,iv v8,iv v9]] 8 false true none),some (bK [AV.agg [iv v10,AV.any,iv v11,iv v12]] 4),some (bK (Wn bA v2) 3),some (bK (Wn lI v3) 1),some (bK (Wn sA v4) 6),some (bK (Wn iv v5) 1)] | .l3 v0 v1 v2 v3 v4 v5 v6 v7 v8 v9 v10 v11 v12 v13 v14=>St.mk 191 [(0,AV.ptr 0 0 0),(4,AV.ptr 1 0 0),(5,AV.ptr 2 0 0),(12,AV.ptr 3 0 0),(14,iv v0),(15,AV.sl 4 0 v1.length),(16,iv v2)] [some (AE L v3),some (bK [AV.agg [AV.nils,AV.nils,AV.nils,AV.nils,iv 0,iv 0,iv 0,iv 0]] 8),some (Blk.mk [AV.agg [AV.sl 5 0 v4.length,AV.sl 6 0 v5.length,AV.sl 7 0 v6.length,AV.sl 8 0 v7.length,iv v8,iv v9,iv v10,iv v11]] 8 false true none),some (bK [AV.agg [iv v12,AV.any,iv v13,iv v14]] 4),some (bK (Wn iv v1) 1),some (bK (Wn bA v4) 3),some (bK (Wn lI v5) 1),some (bK (Wn sA v6) 6),some (bK (Wn iv v7) 1)] | .l4 v0 v1 v2 v3 v4 v5 v6 v7 v8 v9 v10 v11 v12 v13 v14 v15=>St.mk 191 [(0,AV.ptr 0 0 0),(4,AV.ptr 1 0 0),(5,AV.ptr 2 0 0),(12,AV.ptr 3 0 0),(14,iv v0),(15,AV.sl 4 0 v1.length),(16,iv v2),(17,iv v3)] [some (AE L v4),some (bK [AV.agg [AV.nils,AV.nils,AV.nils,AV.nils,iv 0,iv 0,iv 0,iv 0]] 8),some (Blk.mk [AV.agg [AV.sl 5 0 v5.length,AV.sl 6 0 v6.length,AV.sl 7 0 v7.length,AV.sl 8 0 v8.length,iv v9,iv v10,iv v11,iv v12]] 8 false true none),some (bK [AV.agg [iv v13,AV.any,iv v14,iv v15]] 4),some (bK (Wn iv v1) 1),some (bK (Wn bA v5) 3),some (bK (Wn lI v6) 1),some (bK (Wn sA v7) 6),some (bK (Wn iv v8) 1)]
def KL(L:List Int)(kk:Nat)(most:Int):Option (Ds⊕Ret):=gu (kk<9223372036854775807) <|some (.inl (.l0 (i64.wrap (1+Af L kk most)) (kk+1) ([]) ([])))
def Ji(L:List Int)(kk:Nat)(most v0:Int)(v1:Nat)(v2:List AD)(v3:List (List Int)):Option (Ds⊕Ret):=br (decide (0<v0)) (gu (v2.length<100) <|gu ((1+(AO v2.length).size).le 9223372036854775807) <|gu (v1<9223372036854775807) <|gu (v1+1<9223372036854775807) <|gu ((Wn bA v2).length+[AV.agg [AV.str (ByteArray.mk #[98]++AO v2.length),iV (i64.wrap (Af L v1 9-4)),iV (i64.wrap (Af L (v1+1) 9-4))]].length<=9223372036854775807) <|gu (((Wn bA v2).length+[AV.agg [AV.str (ByteArray.mk #[98]++AO v2.length),iV (i64.wrap (Af L v1 9-4)),iV (i64.wrap (Af L (v1+1) 9-4))]].length) * 32<=140737488355328) <|gu ((Wn lI v3).length+1<=9223372036854775807) <|gu (((Wn lI v3).length+1) * 24<=140737488355328) <|some (.inl (.l0 (i64.wrap (v0-1)) (v1+1+1) (v2++[AD.mk (ByteArray.mk #[98]++AO v2.length) (i64.wrap (Af L v1 9-4)) (i64.wrap (Af L (v1+1) 9-4))]) (v3++[[]])))) (gu (1<=v2.length/\v2.length<=24) <|gu (v1<=90000) <|gu (GK v2.length v3) <|gu (rgK L v1 v2 v3<9223372036854775807) <|some (.inl (.l1 (iN v2.length) (i64.wrap (3+Af L (rgK L v1 v2 v3) 3)) (rgK L v1 v2 v3+1) v2 (rgG L v1 v2 v3) ([]))))
def Jk(L:List Int)(kk:Nat)(most v0 v1:Int)(v2:Nat)(v3:List AD)(v4:List (List Int))(v5:List Au):Option (Ds⊕Ret):=br (decide (0<v1)) (gu (v5.length<100) <|gu ((1+(AO v5.length).size).le 9223372036854775807) <|br (iN v5.length==0) (gu (v2<9223372036854775807) <|gu (v2+1<9223372036854775807) <|gu (v2+1+1<9223372036854775807) <|gu ((Wn sA v5).length+[AV.agg [AV.str (ByteArray.mk #[115]++AO v5.length),bV true,iV (Af L v2 (iN v3.length)),iV (Af L (v2+1) (iN v3.length)),iV (i64.wrap (1+Af L (v2+1+1) 3)),iV v0]].length<=9223372036854775807) <|gu (((Wn sA v5).length+[AV.agg [AV.str (ByteArray.mk #[115]++AO v5.length),bV true,iV (Af L v2 (iN v3.length)),iV (Af L (v2+1) (iN v3.length)),iV (i64.wrap (1+Af L (v2+1+1) 3)),iV v0]].length) * 56<=140737488355328) <|some (.inl (.l1 (i64.wrap (v0+i64.wrap (1+Af L (v2+1+1) 3))) (i64.wrap (v1-1)) (v2+1+1+1) v3 v4 (v5++[Au.mk (ByteArray.mk #[115]++AO v5.length) true (Af L v2 (iN v3.length)) (Af L (v2+1) (iN v3.length)) (i64.wrap (1+Af L (v2+1+1) 3)) v0])))) (br (decide (2<iN v5.length)) (gu (v2<9223372036854775807) <|gu (v2+1<9223372036854775807) <|gu (v2+1+1<9223372036854775807) <|gu (v2+1+1+1<9223372036854775807) <|gu ((Wn sA v5).length+[AV.agg [AV.str (ByteArray.mk #[115]++AO v5.length),bV (Af L v2 2==0),iV (Af L (v2+1) (iN v3.length)),iV (Af L (v2+1+1) (iN v3.length)),iV (i64.wrap (1+Af L (v2+1+1+1) 3)),iV v0]].length<=9223372036854775807) <|gu (((Wn sA v5).length+[AV.agg [AV.str (ByteArray.mk #[115]++AO v5.length),bV (Af L v2 2==0),iV (Af L (v2+1) (iN v3.length)),iV (Af L (v2+1+1) (iN v3.length)),iV (i64.wrap (1+Af L (v2+1+1+1) 3)),iV v0]].length) * 56<=140737488355328) <|some (.inl (.l1 (i64.wrap (v0+i64.wrap (1+Af L (v2+1+1+1) 3))) (i64.wrap (v1-1)) (v2+1+1+1+1) v3 v4 (v5++[Au.mk (ByteArray.mk #[115]++AO v5.length) (Af L v2 2==0) (Af L (v2+1) (iN v3.length)) (Af L (v2+1+1) (iN v3.length)) (i64.wrap (1+Af L (v2+1+1+1) 3)) v0])))) (gu (v2<9223372036854775807) <|gu (v2+1<9223372036854775807) <|gu (v2+1+1<9223372036854775807) <|gu ((Wn sA v5).length+[AV.agg [AV.str (ByteArray.mk #[115]++AO v5.length),bV false,iV (Af L v2 (iN v3.length)),iV (Af L (v2+1) (iN v3.length)),iV (i64.wrap (1+Af L (v2+1+1) 3)),iV v0]].length<=9223372036854775807) <|gu (((Wn sA v5).length+[AV.agg [AV.str (ByteArray.mk #[115]++AO v5.length),bV false,iV (Af L v2 (iN v3.length)),iV (Af L (v2+1) (iN v3.length)),iV (i64.wrap (1+Af L (v2+1+1) 3)),iV v0]].length) * 56<=140737488355328) <|some (.inl (.l1 (i64.wrap (v0+i64.wrap (1+Af L (v2+1+1) 3))) (i64.wrap (v1-1)) (v2+1+1+1) v3 v4 (v5++[Au.mk (ByteArray.mk #[115]++AO v5.length) false (Af L v2 (iN v3.length)) (Af L (v2+1) (iN v3.length)) (i64.wrap (1+Af L (v2+1+1) 3)) v0])))))) (gu (v2<9223372036854775807) <|gu (v2+1<9223372036854775807) <|gu (v2+1+1<9223372036854775807) <|gu (v2+1+1+1<9223372036854775807) <|gu (An (flN v3 v4 v5 (i64.wrap (1+Af L v2 4)) (Af L (v2+1) 3) (Af L (v2+1+1) 3) (i64.wrap (1+Af L (v2+1+1+1) 8)))) <|gu (Rows v4) <|gu (v2+1+1+1+1<9223372036854775807) <|some (.inl (.l2 (i64.wrap (1+Af L (v2+1+1+1+1) 3)) (v2+1+1+1+1+1) v3 v4 v5 ([]) (i64.wrap (1+Af L v2 4)) (Af L (v2+1) 3) (Af L (v2+1+1) 3) (i64.wrap (1+Af L (v2+1+1+1) 8)) (flE (flN v3 v4 v5 (i64.wrap (1+Af L v2 4)) (Af L (v2+1) 3) (Af L (v2+1+1) 3) (i64.wrap (1+Af L (v2+1+1+1) 8)))) (flS (flN v3 v4 v5 (i64.wrap (1+Af L v2 4)) (Af L (v2+1) 3) (Af L (v2+1+1) 3) (i64.wrap (1+Af L (v2+1+1+1) 8)))) (flC (flN v3 v4 v5 (i64.wrap (1+Af L v2 4)) (Af L (v2+1) 3) (Af L (v2+1+1) 3) (i64.wrap (1+Af L (v2+1+1+1) 8)))))))
def GZ(L:List Int)(kk:Nat)(most v0:Int)(v1:Nat)(v2:List AD)(v3:List (List Int))(v4:List Au)(v5:List Int)(v6 v7 v8 v9 v10 v11 v12:Int):Option (Ds⊕Ret):=br (decide (0<v0)) (br (decide (iN v5.length<v12)) (some (.inl (.l3 v0 ([]) ((0:Int)) v1 v2 v3 v4 v5 v6 v7 v8 v9 v10 v11 v12))) (some (.inr ([some (bK [AV.agg [Wt (Wn iV L),iV (iN v1)]] 2)],AV.agg [Wt (Wn bA v2),Wt (Wn lI v3),Wt (Wn sA v4),Wt (Wn iV v5),iV v6,iV v7,iV v8,iV v9])))) (some (.inr ([some (bK [AV.agg [Wt (Wn iV L),iV (iN v1)]] 2)],AV.agg [Wt (Wn bA v2),Wt (Wn lI v3),Wt (Wn sA v4),Wt (Wn iV v5),iV v6,iV v7,iV v8,iV v9])))
def Hc(L:List Int)(kk:Nat)(most v0:Int)(v1:List Int)(v2:Int)(v3:Nat)(v4:List AD)(v5:List (List Int))(v6:List Au)(v7:List Int)(v8 v9 v10 v11 v12 v13 v14:Int):Option (Ds⊕Ret):=br (decide (v2<iN v6.length)) (some (.inl (.l4 v0 v1 v2 ((0:Int)) v3 v4 v5 v6 v7 v8 v9 v10 v11 v12 v13 v14))) (gu (v3<9223372036854775807) <|gu (0<=Af L v3 (iN v1.length)) <|gu (Af L v3 (iN v1.length)<iN v1.length) <|el v1 (0+(Af L v3 (iN v1.length)).toNat) fun(x186:Int)=>gu ((Wn iV v7).length+[iV x186].length<=9223372036854775807) <|gu (((Wn iV v7).length+[iV x186].length) * 8<=140737488355328) <|some (.inl (.l2 (i64.wrap (v0-1)) (v3+1) v4 v5 v6 (v7++[x186]) v8 v9 v10 v11 v12 v13 v14)))
def G8(L:List Int)(kk:Nat)(most v0:Int)(v1:List Int)(v2 v3:Int)(v4:Nat)(v5:List AD)(v6:List (List Int))(v7:List Au)(v8:List Int)(v9 v10 v11 v12 v13 v14 v15:Int):Option (Ds⊕Ret):=gu (0<=v2) <|gu (v2<iN v7.length) <|el v7 (0+v2.toNat) fun(x149:Au)=>br (decide (v3<x149.k)) (el v7 (0+v2.toNat) fun(x157:Au)=>br (x157.dep) (el v7 (0+v2.toNat) fun(x166:Au)=>gu (v8.length<=9223372036854775807) <|br (!AS v8 (i64.wrap (x166.b+v3))) (gu ((Wn iV v1).length+[iV (i64.wrap (x166.b+v3))].length<=9223372036854775807) <|gu (((Wn iV v1).length+[iV (i64.wrap (x166.b+v3))].length) * 8<=140737488355328) <|some (.inl (.l4 v0 (v1++[i64.wrap (x166.b+v3)]) v2 (i64.wrap (v3+1)) v4 v5 v6 v7 v8 v9 v10 v11 v12 v13 v14 v15))) (some (.inl (.l4 v0 v1 v2 (i64.wrap (v3+1)) v4 v5 v6 v7 v8 v9 v10 v11 v12 v13 v14 v15)))) (some (.inl (.l3 v0 v1 (i64.wrap (v2+1)) v4 v5 v6 v7 v8 v9 v10 v11 v12 v13 v14 v15)))) (some (.inl (.l3 v0 v1 (i64.wrap (v2+1)) v4 v5 v6 v7 v8 v9 v10 v11 v12 v13 v14 v15)))
def BU(L:List Int)(kk:Nat)(most:Int):Ds->Option (Ds⊕Ret) | .l0 v0 v1 v2 v3=>Ji L kk most v0 v1 v2 v3 | .l1 v0 v1 v2 v3 v4 v5=>Jk L kk most v0 v1 v2 v3 v4 v5 | .l2 v0 v1 v2 v3 v4 v5 v6 v7 v8 v9 v10 v11 v12=>GZ L kk most v0 v1 v2 v3 v4 v5 v6 v7 v8 v9 v10 v11 v12 | .l3 v0 v1 v2 v3 v4 v5 v6 v7 v8 v9 v10 v11 v12 v13 v14=>Hc L kk most v0 v1 v2 v3 v4 v5 v6 v7 v8 v9 v10 v11 v12 v13 v14 | .l4 v0 v1 v2 v3 v4 v5 v6 v7 v8 v9 v10 v11 v12 v13 v14 v15=>G8 L kk most v0 v1 v2 v3 v4 v5 v6 v7 v8 v9 v10 v11 v12 v13 v14 v15
theorem ntm_ct(L:List Int)(kk:Nat)(most:Int)(r:Ret)(h:Ac (BU L kk most) (KL L kk most) r):CT Wu 20 ([some (AE L kk)]) ([.ptr 0 0 0,.int .i64 most]) r.1 r.2:=CT.mach (fn:=Tryz.f20) (c:=zB Tryz.f20) (S:=(CH L kk most)) (hd:=Ds.ctorIdx) Tryz.func20 (by kernel_rfl) (nL rfl) (fun s o ho=>match s,ho with | .l0 v0 v1 v2 v3,ho=>Scr.ok (X:=Ji L kk most v0 v1 v2 v3) ho mix (.ra (al aw) <|.br (fun a0=>.rb [49] (bX a0 s2) <|.gu fun a1=>.gu fun a2=>.gu fun a3=>.gu fun a4=>.gu fun a5=>.gu fun a6=>have c0:=J3 (v2.length) a1;have c1:=AI (L) v1 (9) a3;have c2:=AI (L) (v1+1) (9) a4;.rc [(33,hK c0 [] []),(36,hK c1 [0] []),(39,hK c2 [0] [])] (aL (b7 (aM (c0)) a2 (aG (bu (c1)) (bg (bu (c2)) (aG t4 (u2 (bH (show(Wn bA v2).length=v2.length by simp) (bv (show nat_lit 3=nat_lit 3 from rfl) (show 1<=[AV.agg [AV.str (ByteArray.mk #[98]++AO v2.length),iv (i64.wrap (Af L v1 9-4)),iv (i64.wrap (Af L (v1+1) 9-4))]].length by simp) a5 a6) aD))))))) <|.gu fun a7=>.gu fun a8=>.lq [] [(47,AV.tup [])] [] [] [] [0,1,2,6,8] [0,4,5,6] (up [] [(2,[AV.agg [AV.sl 3 0 ((Wn bA v2).length+[AV.agg [AV.str (ByteArray.mk #[98]++AO v2.length),iv (i64.wrap (Af L v1 9-4)),iv (i64.wrap (Af L (v1+1) 9-4))]].length),AV.sl 4 0 ((Wn lI v3).length+1),AV.nils,AV.nils,iv 0,iv 0,iv 0,iv 0]]),(3,Wn bA v2++[AV.agg [AV.str (ByteArray.mk #[98]++AO v2.length),iv (i64.wrap (Af L v1 9-4)),iv (i64.wrap (Af L (v1+1) 9-4))]]),(4,Wn lI v3++[Wt []])] (CH L kk most (.l0 (i64.wrap (v0-1)) (v1+1+1) (v2++[AD.mk (ByteArray.mk #[98]++AO v2.length) (i64.wrap (Af L v1 9-4)) (i64.wrap (Af L (v1+1) 9-4))]) (v3++[[]])))) (b4 (aa (ak (bH (show(Wn lI v3).length=v3.length by simp) (bv (show nat_lit 1=nat_lit 1 from rfl) (show nat_lit 1<=nat_lit 1 from(by first | exact nL rfl | decide)) a7 a8) aD))) (ak (bp co t3))) (by simp[up,upF,upV,upH,upB,CH,gL,boL,lI,bA,sA])) (fun a0=>.gu fun a1=>.gu fun a2=>.gu fun a3=>have c0:=rg_c (L) v1 v2 v3 a1 a2 a3;.rv 1 [48] [] [(51,hK c0 [0,2,3,4] [])] (ax a0 (bo (bp co (aM (c0)))) (am s2)) <|.gu fun a4=>have c1:=AI (L) (rgK L v1 v2 v3) (3) a4;.pb [] [] [(56,hK c1 [0] [])] [(3005,6)] [0,1,2,3,4,5] [0,4,5,8,9] (aj (al (aG (bu (c1)) aw)) (k2 (bp co t4))))) (by kernel_rfl) | .l1 v0 v1 v2 v3 v4 v5,ho=>Scr.ok (X:=Jk L kk most v0 v1 v2 v3 v4 v5) ho mix (.ra (al aw) <|.br (fun a0=>.rb [119] (bX a0 s2) <|.gu fun a1=>.gu fun a2=>.br (fun a3=>.gu fun a4=>.gu fun a5=>.gu fun a6=>have c0:=J3 (v5.length) a1;have c1:=AI (L) v2 (iN v3.length) a4;have c2:=AI (L) (v2+1) (iN v3.length) a5;have c3:=AI (L) (v2+1+1) (3) a6;.rv 1 [141] [] [(66,hK c0 [] []),(83,hK c1 [0] []),(88,hK c2 [0] []),(90,hK c3 [0] [])] (af (u2 (b7 (aM (c0)) a2 (bb a3 (aC a3 (bB a3 (ag a3 (bP (cm (c1)) (bP (cm (c2)) (aG (bu (c3)) (bg t7 aS)))))))))) (bb t3 s2)) <|.gu fun a7=>.gu fun a8=>.lq [141] [] [] [] [] [0,1,2,3,4,8] [0,4,5,8,9] (up [] [(2,[AV.agg [AV.sl 3 0 v3.length,AV.sl 4 0 v4.length,AV.sl 5 0 ((Wn sA v5).length+[AV.agg [AV.str (ByteArray.mk #[115]++AO v5.length),bV true,iv (Af L v2 (iN v3.length)),iv (Af L (v2+1) (iN v3.length)),iv (i64.wrap (1+Af L (v2+1+1) 3)),iv v0]].length),AV.nils,iv 0,iv 0,iv 0,iv 0]]),(5,Wn sA v5++[AV.agg [AV.str (ByteArray.mk #[115]++AO v5.length),bV true,iv (Af L v2 (iN v3.length)),iv (Af L (v2+1) (iN v3.length)),iv (i64.wrap (1+Af L (v2+1+1) 3)),iv v0]])] (CH L kk most (.l1 (i64.wrap (v0+i64.wrap (1+Af L (v2+1+1) 3))) (i64.wrap (v1-1)) (v2+1+1+1) v3 v4 (v5++[Au.mk (ByteArray.mk #[115]++AO v5.length) true (Af L v2 (iN v3.length)) (Af L (v2+1) (iN v3.length)) (i64.wrap (1+Af L (v2+1+1) 3)) v0])))) (b4 (ah (bH (show(Wn sA v5).length=v5.length by simp) (bv (show nat_lit 6=nat_lit 6 from rfl) (show 1<=[AV.agg [AV.str (ByteArray.mk #[115]++AO v5.length),bV true,iv (Af L v2 (iN v3.length)),iv (Af L (v2+1) (iN v3.length)),iv (i64.wrap (1+Af L (v2+1+1) 3)),iv v0]].length by simp) a7 a8) aD)) (k2 (bp co t4))) (by simp[up,upF,upV,upH,upB,CH,gL,boL,lI,bA,sA])) (fun a3=>.br (fun a4=>.gu fun a5=>.gu fun a6=>.gu fun a7=>.gu fun a8=>have c0:=J3 (v5.length) a1;have c1:=AI (L) v2 (2) a5;have c2:=AI (L) (v2+1) (iN v3.length) a6;have c3:=AI (L) (v2+1+1) (iN v3.length) a7;have c4:=AI (L) (v2+1+1+1) (3) a8;.rv 1 [140,147] [] [(66,hK c0 [] []),(75,hK c1 [0] []),(83,hK c2 [0] []),(88,hK c3 [0] []),(90,hK c4 [0] [])] (af (u2 (b7 (aM (c0)) a2 (am (ai a3 (ae a3 a4 (aW a4 (bu (c1)) (aj (bq a3 a4) (ag a3 (bP (cm (c2)) (bP (cm (c3)) (aG (bu (c4)) (bg t7 aS)))))))))))) (bb t3 s2)) <|.gu fun a9=>.gu fun a10=>.lq [140,147] [] [] [] [] [0,1,2,3,4,8] [0,4,5,8,9] (up [] [(2,[AV.agg [AV.sl 3 0 v3.length,AV.sl 4 0 v4.length,AV.sl 5 0 ((Wn sA v5).length+[AV.agg [AV.str (ByteArray.mk #[115]++AO v5.length),bV (Af L v2 2==0),iv (Af L (v2+1) (iN v3.length)),iv (Af L (v2+1+1) (iN v3.length)),iv (i64.wrap (1+Af L (v2+1+1+1) 3)),iv v0]].length),AV.nils,iv 0,iv 0,iv 0,iv 0]]),(5,Wn sA v5++[AV.agg [AV.str (ByteArray.mk #[115]++AO v5.length),bV (Af L v2 2==0),iv (Af L (v2+1) (iN v3.length)),iv (Af L (v2+1+1) (iN v3.length)),iv (i64.wrap (1+Af L (v2+1+1+1) 3)),iv v0]])] (CH L kk most (.l1 (i64.wrap (v0+i64.wrap (1+Af L (v2+1+1+1) 3))) (i64.wrap (v1-1)) (v2+1+1+1+1) v3 v4 (v5++[Au.mk (ByteArray.mk #[115]++AO v5.length) (Af L v2 2==0) (Af L (v2+1) (iN v3.length)) (Af L (v2+1+1) (iN v3.length)) (i64.wrap (1+Af L (v2+1+1+1) 3)) v0])))) (b4 (ah (bH (show(Wn sA v5).length=v5.length by simp) (bv (show nat_lit 6=nat_lit 6 from rfl) (show 1<=[AV.agg [AV.str (ByteArray.mk #[115]++AO v5.length),bV (Af L v2 2==0),iv (Af L (v2+1) (iN v3.length)),iv (Af L (v2+1+1) (iN v3.length)),iv (i64.wrap (1+Af L (v2+1+1+1) 3)),iv v0]].length by simp) a9 a10) aD)) (k2 (bp co t4))) (by simp[up,upF,upV,upH,upB,CH,gL,boL,lI,bA,sA])) (fun a4=>.gu fun a5=>.gu fun a6=>.gu fun a7=>have c0:=J3 (v5.length) a1;have c1:=AI (L) v2 (iN v3.length) a5;have c2:=AI (L) (v2+1) (iN v3.length) a6;have c3:=AI (L) (v2+1+1) (3) a7;.rv 1 [140,146] [] [(66,hK c0 [] []),(83,hK c1 [0] []),(88,hK c2 [0] []),(90,hK c3 [0] [])] (af (u2 (b7 (aM (c0)) a2 (am (bt a3 (aC a4 (ab a4 (bq a3 a4) (ag a3 (bP (cm (c1)) (bP (cm (c2)) (aG (bu (c3)) (bg t7 aS))))))))))) (bb t3 s2)) <|.gu fun a8=>.gu fun a9=>.lq [140,146] [] [] [] [] [0,1,2,3,4,8] [0,4,5,8,9] (up [] [(2,[AV.agg [AV.sl 3 0 v3.length,AV.sl 4 0 v4.length,AV.sl 5 0 ((Wn sA v5).length+[AV.agg [AV.str (ByteArray.mk #[115]++AO v5.length),bV false,iv (Af L v2 (iN v3.length)),iv (Af L (v2+1) (iN v3.length)),iv (i64.wrap (1+Af L (v2+1+1) 3)),iv v0]].length),AV.nils,iv 0,iv 0,iv 0,iv 0]]),(5,Wn sA v5++[AV.agg [AV.str (ByteArray.mk #[115]++AO v5.length),bV false,iv (Af L v2 (iN v3.length)),iv (Af L (v2+1) (iN v3.length)),iv (i64.wrap (1+Af L (v2+1+1) 3)),iv v0]])] (CH L kk most (.l1 (i64.wrap (v0+i64.wrap (1+Af L (v2+1+1) 3))) (i64.wrap (v1-1)) (v2+1+1+1) v3 v4 (v5++[Au.mk (ByteArray.mk #[115]++AO v5.length) false (Af L v2 (iN v3.length)) (Af L (v2+1) (iN v3.length)) (i64.wrap (1+Af L (v2+1+1) 3)) v0])))) (b4 (ah (bH (show(Wn sA v5).length=v5.length by simp) (bv (show nat_lit 6=nat_lit 6 from rfl) (show 1<=[AV.agg [AV.str (ByteArray.mk #[115]++AO v5.length),bV false,iv (Af L v2 (iN v3.length)),iv (Af L (v2+1) (iN v3.length)),iv (i64.wrap (1+Af L (v2+1+1) 3)),iv v0]].length by simp) a8 a9) aD)) (k2 (bp co t4))) (by simp[up,upF,upV,upH,upB,CH,gL,boL,lI,bA,sA])))) (fun a0=>.gu fun a1=>.gu fun a2=>.gu fun a3=>.gu fun a4=>have c0:=AI (L) v2 (4) a1;have c1:=AI (L) (v2+1) (3) a2;have c2:=AI (L) (v2+1+1) (3) a3;have c3:=AI (L) (v2+1+1+1) (8) a4;.rd [118] [] [(105,hK c0 [0] []),(108,hK c1 [0] []),(110,hK c2 [0] []),(112,hK c3 [0] [])] (af a0 (aG (bu (c0)) (bg (bu (c1)) (aG (bu (c2)) (aG (bu (c3)) (aG t5 (u2 aD))))))) <|.gu fun a5=>.gu fun a6=>have c4:=fl_c v3 v4 v5 (i64.wrap (1+Af L v2 4)) (Af L (v2+1) 3) (Af L (v2+1+1) 3) (i64.wrap (1+Af L (v2+1+1+1) 8)) a5 a6;.rc [(118,hK c4 [] [3,4,5])] (al (aG (ak (bv (show v3.length=(Wn bA v3).length by simp) (ab (show v4.length=(Wn lI v4).length by simp) (show v5.length=(Wn sA v5).length by simp) t6) (c4) (show ∀(blk:Blk),blk∈[]->AY blk from(by intro _ h;cases h)))) (am (aU au s2)))) <|.gu fun a7=>have c5:=AI (L) (v2+1+1+1+1) (3) a7;.pb [] [] [(122,hK c5 [0] [])] [(4005,1)] [0,1,2,6,3,4,5,7] [0,4,5,12,14] (aj (al (aG (bu (c5)) aw)) (k2 (bp co t6))))) (by kernel_rfl) | .l2 v0 v1 v2 v3 v4 v5 v6 v7 v8 v9 v10 v11 v12,ho=>Scr.ok (X:=GZ L kk most v0 v1 v2 v3 v4 v5 v6 v7 v8 v9 v10 v11 v12) ho mix (.br (fun a0=>.rb [253] (aL (ag a0 (aI a0 (bT a0 t3 a0)))) <|.br (fun a1=>.pb [253,267] [] [] [(15,1)] [0,1,2,3,8,4,5,6,7] [0,4,5,12,14,15,16] (ar a1 aw (aN (bp co t7)))) (fun a1=>.tc [253,266] [0] [4,5,6,7] (bq (af a1 cu) (ab (show v2.length=(Wn bA v2).length by simp) (show v3.length=(Wn lI v3).length by simp) (ab (show v4.length=(Wn sA v4).length by simp) (show v5.length=(Wn iv v5).length by simp) t5))))) (fun a0=>.tc [252] [0] [4,5,6,7] (bq (cE (am (aZ a0 (bW a0))) cu) (ab (show v2.length=(Wn bA v2).length by simp) (show v3.length=(Wn lI v3).length by simp) (ab (show v4.length=(Wn sA v4).length by simp) (show v5.length=(Wn iv v5).length by simp) t5))))) (by kernel_rfl) | .l3 v0 v1 v2 v3 v4 v5 v6 v7 v8 v9 v10 v11 v12 v13 v14,ho=>Scr.ok (X:=Hc L kk most v0 v1 v2 v3 v4 v5 v6 v7 v8 v9 v10 v11 v12 v13 v14) ho mix (.ra cR <|.br (fun a0=>.pa [281] [0,1,2,3,4,5,6,7,8] [0,4,5,12,14,15,16,17] (cO a0 (k5 (bp co t7)))) (fun a0=>.gu fun a1=>.gu fun a2=>.gu fun a3=>.el fun x186 a4=>.gu fun a5=>.gu fun a6=>have c0:=AI (L) v3 (iN v1.length) a1;.lq [280] [(186,iv x186)] [(184,hK c0 [0] [])] [] [] [0,1,2,3,5,6,7,10] [0,4,5,12,14] (up [] [(2,[AV.agg [AV.sl 4 0 v4.length,AV.sl 5 0 v5.length,AV.sl 6 0 v6.length,AV.sl 7 0 ((Wn iv v7).length+[iv x186].length),iv v8,iv v9,iv v10,iv v11]]),(7,Wn iv v7++[iv x186])] (CH L kk most (.l2 (i64.wrap (v0-1)) (v3+1) v4 v5 v6 (v7++[x186]) v8 v9 v10 v11 v12 v13 v14))) (bm a0 (aa (bP (cm (c0)) (b7 (an a2 a3) (Ae (f:=iv) a4) (u2 (bH (show(Wn iv v7).length=v7.length by simp) (bv (show nat_lit 1=nat_lit 1 from rfl) (show 1<=[iv x186].length by simp) a5 a6) aD))))) aE (k2 (bp co t6))) (by simp[up,upF,upV,upH,upB,CH,gL,boL,lI,bA,sA]))) (by kernel_rfl) | .l4 v0 v1 v2 v3 v4 v5 v6 v7 v8 v9 v10 v11 v12 v13 v14 v15,ho=>Scr.ok (X:=G8 L kk most v0 v1 v2 v3 v4 v5 v6 v7 v8 v9 v10 v11 v12 v13 v14 v15) ho mix (.gu fun a0=>.gu fun a1=>.el fun x149 a2=>.br (fun a3=>.el fun x157 a4=>.rd [303] [(149,sA x149),(157,sA x157)] [] (bC (bH a0 a1 (ab (ak (Ae (f:=sA) a2)) t3 (u2 (bt a3 (cn a3 a0 a1 (bT a3 (ak (Ae (f:=sA) a4)) a3))))))) <|.br (fun a5=>.el fun x166 a6=>.rd [303,317] [(166,sA x166)] [] (bX a5 (aB a0 a1 (aG (ak (Ae (f:=sA) a6)) (aG t3 s2)))) <|.gu fun a7=>have c0:=EP v8 (i64.wrap (x166.b+v3)) a7;.rd [303] [] [(172,hK c0 [] [8])] (aL (aB (show v8.length=(Wn iv v8).length by simp) (aU (c0) (show ∀(blk:Blk),blk∈[]->AY blk from(by intro _ h;cases h))) s2)) <|.br (fun a8=>.gu fun a9=>.gu fun a10=>.lq [303,347] [] [] [] [] [0,1,2,3,10,5,6,7,8] [0,4,5,12,14,15,16,17] (up [(15,AV.sl 4 0 ((Wn iv v1).length+[iv (i64.wrap (x166.b+v3))].length))] [(4,Wn iv v1++[iv (i64.wrap (x166.b+v3))])] (CH L kk most (.l4 v0 (v1++[i64.wrap (x166.b+v3)]) v2 (i64.wrap (v3+1)) v4 v5 v6 v7 v8 v9 v10 v11 v12 v13 v14 v15))) (bm a8 (cH (show(Wn iv v1).length=v1.length by simp) (bv (show nat_lit 1=nat_lit 1 from rfl) (show 1<=[iv (i64.wrap (x166.b+v3))].length by simp) a9 a10) s2) aE (k5 (bp co t7))) (by simp[up,upF,upV,upH,upB,CH,gL,boL,lI,bA,sA])) (fun a8=>.pa [303,346] [0,1,2,3,4,5,6,7,8] [0,4,5,12,14,15,16,17] (b4 a8 (k5 (bp co t7))))) (fun a5=>.pa [303,316] [0,1,2,3,4,5,6,7,8] [0,4,5,12,14,15,16] (b4 a5 (aN (bp co t7))))) (fun a3=>.pb [302] [(149,sA x149)] [] [] [0,1,2,3,4,5,6,7,8] [0,4,5,12,14,15,16] (bI (ah (bH a0 a1 (ab (ak (Ae (f:=sA) a2)) t3 (u2 (aZ a3 (bW a3)))))) aE (aN (bp co t7))))) (by kernel_rfl)) (fun o ho=>Scr.ok (X:=KL L kk most) ho mix (.rv 1 [] [] [] aw <|.gu fun a0=>have c0:=AI (L) (kk) (most) a0;.pb [] [] [(21,hK c0 [0] [])] [(2005,1),(1005,3)] [0,1,2,4,3] [0,4,5,6] (aj (aR (aj (cm (c0)) aw)) (ak (bp co t3)))) (by kernel_rfl)) h
def BkI(bs:List AD):Prop:=∀(i:Nat) (b:AD),bs[i]?=some b->b.nm=Ku i/\-4<=b.x/\b.x<=4/\-4<=b.y/\b.y<=4
def bsS(K:Nat)(ss:List Au)(i:Nat):Int:=(K:Int)+((ss.take i).map (·.k)).sum
structure SpE(K:Nat)(ss:List Au)(i:Nat)(s:Au):Prop where
 nm:s.nm=JU i
 d0:i=0->s.dep=true
 d1:i=1\/i=2->s.dep=false
 hi:0<=s.i/\s.i<(K:Int)
 ho:0<=s.o/\s.o<(K:Int)
 hk:1<=s.k/\s.k<=3
 hb:s.b=bsS K ss i
def SpI(K:Nat)(ss:List Au):Prop:=∀(i:Nat) (s:Au),ss[i]?=some s->SpE K ss i s
theorem SpI.snoc{K:Nat}{ss:List Au}(h:SpI K ss){s:Au}(hs:SpE K ss ss.length s):SpI K (ss++[s])/\bsS K (ss++[s]) (ss.length+1)=bsS K ss ss.length+s.k:=by
 have e:∀i,i<=ss.length->bsS K (ss++[s]) i=bsS K ss i:=fun i hi=>by unfold bsS;rw[List.take_append_of_le_length hi]
 refine⟨fun i t ht=>?_,?_⟩
 .by_cases hi:i<ss.length
  .rw[List.getElem?_append_left hi] at ht;have g:=h i t ht;exact⟨g.nm,g.d0,g.d1,g.hi,g.ho,g.hk,by rw[e i (by omega)];exact g.hb⟩
  .have hl:=(Vx.1 ht).1;rw[VP,V9] at hl;obtain rfl:i=ss.length:=by omega
   rw[List.getElem?_append_right (VH _),Vf] at ht;obtain rfl:s=t:=by simpa using ht
   exact⟨hs.nm,hs.d0,hs.d1,hs.hi,hs.ho,hs.hk,by rw[e _ (VH _)];exact hs.hb⟩
 .unfold bsS;rw[List.take_of_length_le (by simp),List.take_length];simp;omega
theorem row_ok{b v:Nat}{r:List Int}(h:GT b v r):nxB r v b=true:=by
 have hf:fnd (nxE r v b) 0 r.length=none:=Mp fun k _ hk=>by
  have hk:k<r.length:=by omega
  have hm:r.getD k 0∈r:=by rw[Fg hk];exact V2 hk
  obtain⟨h1,h2,h3⟩:=h.el _ hm;have h4:Bo r k<r.getD k 0:=by
   unfold Bo;split
   .omega
   .rw[Fg hk,Fg (show k-1<r.length by omega)];exact List.pairwise_iff_getElem.1 h.asc _ _ _ _ (by omega)
  unfold nxE;simp only[Bool.or_eq_false_iff,decide_eq_false_iff_not,V6];exact⟨⟨by omega,by omega⟩,h3⟩
 unfold nxB;rw[hf];simp[h.len]
theorem PW{bs:List AD}{g:List (List Int)}{ss:List Au}{rs:List Int}{q a d p:Int}(hK:1<=bs.length/\bs.length<=24)(hb:BkI bs)(hg:GK bs.length g)(hs:SpI bs.length ss)(hl:3<=ss.length/\ss.length<=5)(hq:1<=q/\q<=4)(ha:0<=a/\a<=2)(hd:0<=d/\d<=2)(hp:1<=p/\p<=8)
  (hr:rs.length<=8) (hrs:∀(i:Nat) c,rs[i]?=some c->CA ⟨bs,g,ss,rs,q,a,d,p⟩ ss.length c/\c∉rs.take i):An ⟨bs,g,ss,rs,q,a,d,p⟩:=by
 have hi6:∀{i:Nat} {s:Au},ss[i]?=some s->i<6:=fun h=>by have:=(Vx.1 h).1;omega
 have hi24:∀{i:Nat} {b:AD},bs[i]?=some b->i<24:=fun h=>by have:=(Vx.1 h).1;omega
 refine⟨Bm.2 (by simp only;omega),hg.len,by simp only;omega,hr,?_,fun i b h=>?_,fun i s h=>?_,?_,?_,hrs⟩
 .unfold CY;simp only[VD,Bm];omega
 .obtain⟨h1,h2⟩:=hb i b h;exact⟨by rw[h1];exact nmBk_ok i (hi24 h),Bm.2 (by omega),Bm.2 (by omega),row_ok (hg.row i (Vx.1 h).1)⟩
 .have e:=hs i s h;have e1:=e.hi;have e2:=e.ho;have e3:=e.hk;exact⟨by rw[e.nm];exact nmSp_ok i (hi6 h),Bm.2 (by simp only;omega),Bm.2 (by simp only;omega),Bm.2 (by omega),e.hb⟩
 .unfold Be;rw[List.nodup_append];refine⟨?_,?_,?_⟩
  .rw[List.nodup_iff_pairwise_ne,List.pairwise_iff_getElem];intro i j ha hb' hab he;simp only[List.getElem_map] at he;have ga:=Vv (l:=bs) (i:=i) (by simpa using ha);have gb:=Vv (l:=bs) (i:=j) (by simpa using hb');rw[(hb i _ ga).1,(hb j _ gb).1] at he;have:=nmBk_inj i (hi24 ga) j (hi24 gb) he;omega
  .rw[List.nodup_iff_pairwise_ne,List.pairwise_iff_getElem];intro i j ha hb' hab he;simp only[List.getElem_map] at he;have ga:=Vv (l:=ss) (i:=i) (by simpa using ha);have gb:=Vv (l:=ss) (i:=j) (by simpa using hb');rw[(hs i _ ga).nm,(hs j _ gb).nm] at he;have:=nmSp_inj i (hi6 ga) j (hi6 gb) he;omega
  .intro a ha b' hb' he;obtain⟨s,hs',rfl⟩:=V0.1 ha;obtain⟨t,ht,rfl⟩:=V0.1 hb';obtain⟨i,hi⟩:=List.mem_iff_getElem?.1 hs';obtain⟨j,hj⟩:=List.mem_iff_getElem?.1 ht;rw[(hb i s hi).1,(hs j t hj).nm] at he;exact nm_dis i (hi24 hi) j (hi6 hj) he
 .obtain⟨s,h⟩:∃s,ss[0]?=some s:=⟨_,Vv (by omega)⟩;have e:=hs 0 s h;have e3:=e.hk;refine⟨s.b,s,?_,e.d0 rfl,by omega,by omega⟩;rw[List.take_length];exact Vz h
structure JA(n:Aa):Prop where
 v:An n
 ln:3<=n.ss.length/\n.ss.length<=5
 d0:∀s,n.ss[0]?=some s->s.dep=true
 d1:∀s,n.ss[1]?=some s->s.dep=false
 d2:∀s,n.ss[2]?=some s->s.dep=false
 rows:Rows n.nx
abbrev Ek(kk:Nat):={p:Aa×Nat // JA p.1/\p.2<=kk+200}
def EH(L:List Int){kk:Nat}(p:Ek kk):Ret:=([some (AE L p.1.2)],Ai p.1.1)
theorem PU{l:List Int}{x y:Int}(h:x<=y):l.countP (fun z=>decide (z<x))<=l.countP (fun z=>decide (z<y)):=List.countP_mono_left fun z _ hz=>by simp only[decide_eq_true_eq] at hz ⊢;omega
theorem RB{x:Int}:∀{l:List Int},x∈l->l.countP (fun z=>decide (z<x))+1<=l.countP (fun z=>decide (z<x+1))
 | y::t,h=>by
  rw[List.countP_cons,List.countP_cons];have m:=PU (l:=t) (show x<=x+1 by omega);rcases VY.1 h with e | h
  .subst e;rw[Vu (by simp),Vt (by simp;omega)];omega
  .have ih:=RB h;by_cases hy:y<x
   .rw[Vt (by simpa using hy),Vt (by simp;omega)];omega
   .rw[Vu (by simpa using hy)];split<;>omega
theorem rep_f(c j:Nat):(Wo c false).getD j false=false:=by rw[Vw,VV];split<;>rfl
theorem slT_all{n:Aa}{c i:Nat}{s:Au}(hs:n.ss[i]?=some s):slT n (Wo c false) i=if s.dep=true then s.k else 0:=by
 have ho:opB n (Wo c false) (i:Int)=true:=by unfold opB;rw[VE,hs];unfold JT;simp only[rep_f];rw[Mp fun _ _ _=>rfl];rfl
 unfold slT;rw[ho,Vw,hs];simp
def RbI(n:Aa)(rs:List Int):Prop:=∀(i:Nat) c,rs[i]?=some c->CA n n.ss.length c/\c∉rs.take i
theorem RbI.snoc{n:Aa}{rs:List Int}(h:RbI n rs){x:Int}(hd:CA n n.ss.length x)(hx:x∉rs):RbI n (rs++[x]):=fun i c hc=>by
 by_cases hi:i<rs.length
 .rw[List.getElem?_append_left hi] at hc;rw[List.take_append_of_le_length (by omega)];exact h i c hc
 .have hl:=(Vx.1 hc).1;rw[VP,V9] at hl;obtain rfl:i=rs.length:=by omega
  rw[List.getElem?_append_right (VH _),Vf] at hc;obtain rfl:x=c:=by simpa using hc
  rw[List.take_append_of_le_length (VH _),List.take_length];exact⟨hd,hx⟩
theorem GK.rows{b:Nat}{g:List (List Int)}(h:GK b g):Rows g:=fun v hv=>by have:=(h.row v (by rw[<-h.len];exact hv)).len;omega
theorem net2_ex{L:List Int}{kk:Nat}{most:Int}{bs:List AD}{g:List (List Int)}{ss:List Au}{q a d p e z c:Int}(hK:1<=bs.length/\bs.length<=24)(hb:BkI bs)(hg:GK bs.length g)(hs:SpI bs.length ss)(hl:3<=ss.length/\ss.length<=5)(hq:1<=q/\q<=4)(ha:0<=a/\a<=2)(hd:0<=d/\d<=2)(hp:1<=p/\p<=8)(hkk:kk<=5000)
  (hc:c<=slS (flN bs g ss q a d p) (Wo (Am (flN bs g ss q a d p)) false)):∀(m t:Nat) (rs:List Int),rs.length+m<=3->t+m<=kk+200->RbI (flN bs g ss q a d p) rs->∃w:Ek kk,Ac (BU L kk most) (some (.inl (.l2 (m:Int) t bs g ss rs q a d p e z c))) (EH L w):=by
 have fin:∀{t:Nat} {rs:List Int},rs.length<=3->t<=kk+200->RbI (flN bs g ss q a d p) rs->∃w:Ek kk,Ac (BU L kk most) (some (.inr ([some (Blk.mk [AV.agg [Wt (Wn (AV.int .i64) L),.int .i64 (iN t)]] 2 true true none)],AV.agg [Wt (Wn bA bs),Wt (Wn lI g),Wt (Wn sA ss),Wt (Wn (AV.int .i64) rs),.int .i64 q,.int .i64 a,.int .i64 d,.int .i64 p]))) (EH L w):=fun {t rs} h1 h2 h3=>
  ⟨⟨(⟨bs,g,ss,rs,q,a,d,p⟩,t),⟨PW hK hb hg hs hl hq ha hd hp (by omega) h3,hl,fun s h=>(hs 0 s h).d0 rfl,fun s h=>(hs 1 s h).d1 (.inl rfl),fun s h=>(hs 2 s h).d1 (.inr rfl),hg.rows⟩,h2⟩,.ret _⟩
 generalize hn:flN bs g ss q a d p=n at hc fin;have hnss:n.ss=ss:=by rw[<-hn];rfl
 have hnb:∀i s,ss[i]?=some s->s.b=AQ n i:=fun i s h=>by rw[<-hn];exact(hs i s h).hb
 have hv:An n:=by rw[<-hn];exact PW hK hb hg hs hl hq ha hd hp (VI _) fun i c h=>by simp at h
 have hnl:n.bs.length=bs.length:=by rw[<-hn];rfl
 generalize Am n=cel at hc;intro m;induction m with
 | zero=>intro t rs h1 h2 h3;refine Az (show BU L kk most (.l2 (0:Nat) t bs g ss rs q a d p e z c)=GZ L kk most (0:Nat) t bs g ss rs q a d p e z c from rfl) ?_;unfold GZ;rw[Ad (VA (by omega))];exact fin (by omega) (by omega) h3
 | succ m ih=>
  intro t rs h1 h2 h3;refine Az (show BU L kk most (.l2 ((m+1:Nat):Int) t bs g ss rs q a d p e z c)=GZ L kk most ((m+1:Nat):Int) t bs g ss rs q a d p e z c from rfl) ?_;unfold GZ;rw[Ah (VB (by omega))];refine Bn (fun hlt=>?_) fun _=>fin (by omega) (by omega) h3
  have e3:∀(j i:Nat) (fr:List Int),i+j=ss.length->(∀y∈fr,CA n n.ss.length y/\y∉rs)->slI n (Wo cel false) i<=fr.length+rs.countP (fun z=>decide (z<AQ n i))->fr.length<=4 * i->∃w:Ek kk,Ac (BU L kk most) (some (.inl (.l3 ((m+1:Nat):Int) fr (i:Int) t bs g ss rs q a d p e z c))) (EH L w):=by
   intro j;induction j with
   | zero=>
    intro i fr hi hf hcnt hfl;obtain rfl:i=ss.length:=by omega
    refine Az (show BU L kk most (.l3 ((m+1:Nat):Int) fr (ss.length:Int) t bs g ss rs q a d p e z c)=Hc L kk most ((m+1:Nat):Int) fr (ss.length:Int) t bs g ss rs q a d p e z c from rfl) ?_;have hpos:1<=fr.length:=by have:=List.countP_le_length (p:=fun z=>decide (z<AQ n ss.length)) (l:=rs);unfold slS at hc;rw[hnss] at hc;simp only[iN] at hlt;omega
    have r:=BE L t (iN fr.length) (by simp only[iN];omega) (by simp only[iN];omega);unfold Hc;rw[Ad (VA (by simp only[iN];omega)),Ab (by omega),Ab r.1,Ab r.2,VL];simp only[iN] at r;have hx:=Vv (l:=fr) (i:=(Af L t (iN fr.length)).toNat) (by simp only[iN];omega);rw[Al hx,Ab (by simp only[Vy,V9];omega),Ab (by simp only[Vy,V9];omega),A3 _ (by omega) (by omega),show((m+1:Nat):Int)-1=(m:Int) by omega];have hm:=hf _ (Vz hx);exact ih (t+1) _ (by simp;omega) (by omega) (h3.snoc hm.1 hm.2)
   | succ j ih3=>
    intro i fr hi hf hcnt hfl;have hsi:ss[i]?=some ss[i]:=Vv (by omega);have hsn:n.ss[i]?=some ss[i]:=by rw[hnss];exact hsi
    have hSe:=hs i _ hsi;have hb0:=hnb i _ hsi;have hbd:=hv.bd i;have hS1:slI n (Wo cel false) (i+1)=slI n (Wo cel false) i+if ss[i].dep=true then ss[i].k else 0:=by rw[<-slT_all (c:=cel) hsn];rfl
    have hB1:=C1 hsn;refine Az (show BU L kk most (.l3 ((m+1:Nat):Int) fr (i:Int) t bs g ss rs q a d p e z c)=Hc L kk most ((m+1:Nat):Int) fr (i:Int) t bs g ss rs q a d p e z c from rfl) ?_;unfold Hc;rw[Ah (VB (by simp only[iN];omega))];generalize ss[i]=s at hsi hsn hSe hb0 hS1 hB1;have hk:=hSe.hk;have e4:∀(j k:Nat) (fr:List Int),(k:Int)+j=s.k->(∀y∈fr,CA n n.ss.length y/\y∉rs)->slI n (Wo cel false) i+(if s.dep=true then (k:Int) else 0)<=fr.length+rs.countP (fun z=>decide (z<s.b+k))->fr.length<=4 * i+k->∃w:Ek kk,Ac (BU L kk most) (some (.inl (.l4 ((m+1:Nat):Int) fr (i:Int) (k:Int) t bs g ss rs q a d p e z c))) (EH L w):=by
     intro j;induction j with
     | zero=>intro k fr hk1 hf hcnt hfl;refine Az (show BU L kk most (.l4 ((m+1:Nat):Int) fr (i:Int) (k:Int) t bs g ss rs q a d p e z c)=G8 L kk most ((m+1:Nat):Int) fr (i:Int) (k:Int) t bs g ss rs q a d p e z c from rfl) ?_;unfold G8;rw[Ab (by omega),Ab (by simp only[iN];omega),VL,VE,Al hsi,Ad (VA (by omega)),zW i (by omega)];refine ih3 (i+1) fr (by omega) hf ?_ (by omega);rw[hS1,hB1,<-hb0];rw[show (k:Int)=s.k by omega] at hcnt;exact hcnt
     | succ j ih4=>
      intro k fr hk1 hf hcnt hfl;refine Az (show BU L kk most (.l4 ((m+1:Nat):Int) fr (i:Int) (k:Int) t bs g ss rs q a d p e z c)=G8 L kk most ((m+1:Nat):Int) fr (i:Int) (k:Int) t bs g ss rs q a d p e z c from rfl) ?_;unfold G8;rw[Ab (by omega),Ab (by simp only[iN];omega),VL,VE,Al hsi,Ah (VB (by omega)),Al hsi];cases hdp:s.dep with
      | false=>
       rw[Ad rfl,zW i (by omega)];refine ih3 (i+1) fr (by omega) hf ?_ (by omega);have:=PU (l:=rs) (show s.b+(k:Int)<=s.b+s.k by omega);rw[hdp] at hcnt hS1;rw[hS1,hB1,<-hb0];simp only[Bool.false_eq_true,if_false] at hcnt ⊢
       omega
      | true=>
       rw[hdp] at hcnt;rw[Ah rfl,Al hsi,Ab (by omega),A3 _ (by omega) (by omega),zW k (by omega)];have hmo:=PU (l:=rs) (show s.b+(k:Int)<=s.b+(k:Int)+1 by omega);simp only[if_true] at hcnt;refine Ak (fun hz=>?_) fun hz=>?_
       .rw[Ab (by simp only[Vy,V9];omega),Ab (by simp only[Vy,V9];omega)];refine ih4 (k+1) _ (by omega) (fun y hy=>?_) ?_ (by simp;omega)
        .rcases VZ.1 hy with hy | hy
         .exact hf y hy
         .rw[Vn.1 hy];refine⟨⟨s,?_,hdp,by omega,by omega⟩,L2 (by simpa using hz)⟩;rw[List.take_length];exact Vz hsn
        .rw[hdp,Vt rfl,show s.b+((k+1:Nat):Int)=s.b+(k:Int)+1 by omega,VP,V9];omega
       .refine ih4 (k+1) fr (by omega) hf ?_ (by omega);have:=RB (FD.1 (show AS rs (s.b+(k:Int))=true by simpa using hz));rw[hdp,Vt rfl,show s.b+((k+1:Nat):Int)=s.b+(k:Int)+1 by omega];omega
    refine e4 s.k.toNat 0 fr (by omega) hf ?_ (by omega);rw[show s.b+((0:Nat):Int)=AQ n i by rw[<-hb0];omega];split<;>simpa using hcnt
  exact e3 ss.length 0 [] (VL _) (fun y hy=>by cases hy) (by simp[slI]) (VI _)
theorem R9(n:Nat):(AO n).size<=2:=by unfold AO;split<;>exact nL rfl
theorem net_ex(L:List Int)(kk:Nat)(hkk:kk<=5000)(most:Int)(hmo:1<=most/\most<=20):∃w:Ek kk,Ac (BU L kk most) (KL L kk most) (EH L w):=by
 have r0:=BE L kk most (by omega) (by omega);have e1:∀(bs:List AD) (g:List (List Int)),1<=bs.length/\bs.length<=24->BkI bs->GK bs.length g->∀(m t:Nat) (ss:List Au),3<=ss.length+m->ss.length+m<=5->t+4 * m<=kk+90->SpI bs.length ss->∃w:Ek kk,Ac (BU L kk most) (some (.inl (.l1 (bsS bs.length ss ss.length) (m:Int) t bs g ss))) (EH L w):=by
  intro bs g hK hb hg m;induction m with
  | zero=>
   intro t ss h1 h2 h3 hs;refine Az (show BU L kk most (.l1 _ (0:Nat) t bs g ss)=Jk L kk most _ (0:Nat) t bs g ss from rfl) ?_;have a1:=BE L t 4 (by omega) (by omega);have a2:=BE L (t+1) 3 (by omega) (by omega);have a3:=BE L (t+1+1) 3 (by omega) (by omega);have a4:=BE L (t+1+1+1) 8 (by omega) (by omega);have a5:=BE L (t+1+1+1+1) 3 (by omega) (by omega);unfold Jk;rw[Ad (VA (by omega)),A3 (1+Af L t 4) (by omega) (by omega),A3 (1+Af L (t+1+1+1) 8) (by omega) (by omega),A3 (1+Af L (t+1+1+1+1) 3) (by omega) (by omega)];have hv:An (flN bs g ss (1+Af L t 4) (Af L (t+1) 3) (Af L (t+1+1) 3) (1+Af L (t+1+1+1) 8)):=PW hK hb hg hs ⟨by omega,by omega⟩ (by omega) (by omega) (by omega) (by omega) (VI _) fun i c h=>by simp at h
   rw[Ab (by omega),Ab (by omega),Ab (by omega),Ab (by omega),Ab hv,Ab hg.rows,Ab (by omega)];obtain⟨k,hk⟩:∃k:Nat,(k:Int)=1+Af L (t+1+1+1+1) 3:=⟨(1+Af L (t+1+1+1+1) 3).toNat,by omega⟩;rw[<-hk];exact net2_ex hK hb hg hs ⟨by omega,by omega⟩ (by omega) (by omega) (by omega) (by omega) hkk (fl_p hv hg.rows) k _ [] (by simp only[Wb];omega) (by omega) fun i c h=>by simp at h
  | succ m ih=>
   intro t ss h1 h2 h3 hs;have hz:=R9 ss.length
   have step:∀(t':Nat) (dp:Bool) (x y w:Int),t'<=t+4->(ss.length=0->dp=true)->(ss.length=1\/ss.length=2->dp=false)->0<=x/\x<(bs.length:Int)->0<=y/\y<(bs.length:Int)->0<=w/\w<3->∃p:Ek kk,Ac (BU L kk most)
     (some (.inl (.l1 (i64.wrap (bsS bs.length ss ss.length+i64.wrap (1+w))) (i64.wrap (((m+1:Nat):Int)-1)) t' bs g (ss++[Au.mk (ByteArray.mk #[115]++AO ss.length) dp x y (i64.wrap (1+w)) (bsS bs.length ss ss.length)])))) (EH L p):=by
    intro t' dp x y w ht d0 d1 hx hy hw;rw[A3 (1+w) (by omega) (by omega)];have hS:=hs.snoc (s:=Au.mk (ByteArray.mk #[115]++AO ss.length) dp x y (1+w) (bsS bs.length ss ss.length)) ⟨rfl,d0,d1,hx,hy,by simp only;omega,rfl⟩;have hbd : -1000<=bsS bs.length ss ss.length/\bsS bs.length ss ss.length<=1000:=by
     have key:∀i,i<=ss.length->0<=bsS bs.length ss i/\bsS bs.length ss i<=24+3 * i:=by
      intro i;induction i with
      | zero=>intro _;unfold bsS;simp;omega
      | succ i ih=>intro hi;have g:=ih (by omega);have e:=Ay s0 (show i<ss.length by omega);have hk:=(hs i _ e).hk;have:bsS bs.length ss (i+1)=bsS bs.length ss i+(ss.getD i s0).k:=C1 (n:=flN bs [] ss 0 0 0 0) e;omega
     have:=key ss.length (VH _);omega
    rw[A3 (bsS bs.length ss ss.length+(1+w)) (by omega) (by omega),A3 (((m+1:Nat):Int)-1) (by omega) (by omega),show((m+1:Nat):Int)-1=(m:Int) by omega];have:=ih t' _ (by rw[VP,V9];omega) (by rw[VP,V9];omega) (by omega) hS.1;rw[VP,V9,hS.2] at this;exact this
   refine Az (show BU L kk most (.l1 _ ((m+1:Nat):Int) t bs g ss)=Jk L kk most _ ((m+1:Nat):Int) t bs g ss from rfl) ?_;have rb:∀k,0<=Af L k (iN bs.length)/\Af L k (iN bs.length)<(bs.length:Int):=fun k=>BE L k (iN bs.length) (by simp only[iN];omega) (by simp only[iN];omega)
   have r3:∀k,0<=Af L k 3/\Af L k 3<3:=fun k=>BE L k 3 (by omega) (by omega)
   unfold Jk;rw[Ah (VB (by omega)),Ab (by omega),Ab (show Nat.le _ _ from(show 1+(AO ss.length).size<=9223372036854775807 by omega))];refine Ak (fun h0=>?_) fun h0=>Bn (fun h2=>?_) fun h2=>?_
   .have h0:ss.length=0:=by have:=beq_iff_eq.1 h0;simp only[iN] at this;omega
    rw[Ab (by omega),Ab (by omega),Ab (by omega),Ab (by simp only[Vy,V9];omega),Ab (by simp only[Vy,V9];omega)];exact step _ true _ _ _ (by omega) (fun _=>rfl) (fun h=>by omega) (rb _) (rb _) (r3 _)
   .have h0:ss.length≠0:=by have:=V6.1 h0;simp only[iN] at this;omega
    simp only[iN] at h2;rw[Ab (by omega),Ab (by omega),Ab (by omega),Ab (by omega),Ab (by simp only[Vy,V9];omega),Ab (by simp only[Vy,V9];omega)];exact step _ _ _ _ _ (by omega) (fun h=>absurd h h0) (fun h=>by omega) (rb _) (rb _) (r3 _)
   .have h0:ss.length≠0:=by have:=V6.1 h0;simp only[iN] at this;omega
    rw[Ab (by omega),Ab (by omega),Ab (by omega),Ab (by simp only[Vy,V9];omega),Ab (by simp only[Vy,V9];omega)];exact step _ false _ _ _ (by omega) (fun h=>absurd h h0) (fun _=>rfl) (rb _) (rb _) (r3 _)
 have e0:∀(m t:Nat) (bs:List AD),1<=bs.length+m->bs.length+m<=20->t+2 * m<=kk+41->BkI bs->∃w:Ek kk,Ac (BU L kk most) (some (.inl (.l0 (m:Int) t bs (Wo bs.length [])))) (EH L w):=by
  intro m;induction m with
  | zero=>
   intro t bs h1 h2 h3 hb;have hK:1<=bs.length/\bs.length<=24:=by omega
   have hg:GK bs.length (Wo bs.length []):=⟨VQ ..,fun v hv=>by
    rw[Vw,VV,Vt hv];exact⟨fun w hw=>(by cases hw),List.Pairwise.nil,VI _⟩⟩
   have hr:=rg_p (L:=L) (kk:=t) hK (by omega) hg;have r:=BE L (rgK L t bs (Wo bs.length [])) 3 (by omega) (by omega);refine Az (show BU L kk most (.l0 (0:Nat) t bs (Wo bs.length []))=Ji L kk most (0:Nat) t bs (Wo bs.length []) from rfl) ?_;unfold Ji;rw[Ad (VA (by omega)),Ab hK,Ab (by omega),Ab hg,Ab (by omega),A3 _ (by omega) (by omega)];obtain⟨M,hM⟩:∃M:Nat,(M:Int)=3+Af L (rgK L t bs (Wo bs.length [])) 3:=⟨(3+Af L (rgK L t bs (Wo bs.length [])) 3).toNat,by omega⟩;rw[<-hM];have:=e1 bs _ hK hb hr.1 M (rgK L t bs (Wo bs.length [])+1) [] (by simp only[Wb];omega) (by simp only[Wb];omega) (by omega) fun i s h=>by simp at h
   rwa [show bsS bs.length [] ([]:List Au).length=iN bs.length by simp[bsS,iN]] at this
  | succ m ih=>
   intro t bs h1 h2 h3 hb;have hz:=R9 bs.length;have ra:=BE L t 9 (by omega) (by omega);have rc:=BE L (t+1) 9 (by omega) (by omega);refine Az (show BU L kk most (.l0 ((m+1:Nat):Int) t bs (Wo bs.length []))=Ji L kk most ((m+1:Nat):Int) t bs (Wo bs.length []) from rfl) ?_;unfold Ji;rw[Ah (VB (by omega)),Ab (by omega),Ab (show Nat.le _ _ from(show 1+(AO bs.length).size<=9223372036854775807 by omega)),Ab (by omega),Ab (by omega),Ab (by simp only[Vy,V9];omega),Ab (by simp only[Vy,V9];omega),Ab (by simp only[Vy,VQ];omega),Ab (by simp only[Vy,VQ];omega),A3 (((m+1:Nat):Int)-1) (by omega) (by omega),A3 (Af L t 9-4) (by omega) (by omega),A3 (Af L (t+1) 9-4) (by omega) (by omega),show((m+1:Nat):Int)-1=(m:Int) by omega];have:=ih (t+1+1) (bs++[AD.mk (ByteArray.mk #[98]++AO bs.length) (Af L t 9-4) (Af L (t+1) 9-4)]) (by rw[VP,V9];omega) (by rw[VP,V9];omega) (by omega) fun i b h=>by
    by_cases hi:i<bs.length
    .rw[List.getElem?_append_left hi] at h;exact hb i b h
    .have hl:=(Vx.1 h).1;rw[VP,V9] at hl;obtain rfl:i=bs.length:=by omega
     rw[List.getElem?_append_right (VH _),Vf] at h;obtain rfl:_=b:=by simpa using h
     exact⟨rfl,by simp only;omega,by simp only;omega,by simp only;omega,by simp only;omega⟩
   rwa [VP,V9,List.replicate_succ'] at this
 unfold KL;rw[Ab (by omega),A3 _ (by omega) (by omega)];obtain⟨K,hK⟩:∃K:Nat,(K:Int)=1+Af L kk most:=⟨(1+Af L kk most).toNat,by omega⟩;rw[<-hK];exact e0 K (kk+1) [] (by simp only[Wb];omega) (by simp only[Wb];omega) (by omega) fun i b h=>by simp at h
theorem MJ(L:List Int)(kk:Nat)(most:Int):∃p:Aa×Nat,kk<=5000->(1<=most/\most<=20)->JA p.1/\p.2<=kk+200/\CT Wu 20 [some (AE L kk)] [.ptr 0 0 0,.int .i64 most] [some (AE L p.2)] (Ai p.1):=by
 by_cases h:kk<=5000/\(1<=most/\most<=20)
 .obtain⟨w,hw⟩:=net_ex L kk h.1 most h.2;exact⟨w.1,fun _ _=>⟨w.2.1,w.2.2,ntm_ct L kk most _ hw⟩⟩
 .exact⟨(⟨[],[],[],[],0,0,0,0⟩,0),fun a b=>absurd ⟨a,b⟩ h⟩
@[irreducible] def Aw(L:List Int)(kk:Nat)(most:Int):Aa:=(Classical.choose (MJ L kk most)).1
@[irreducible] def JB(L:List Int)(kk:Nat)(most:Int):Nat:=(Classical.choose (MJ L kk most)).2
theorem Ma{L:List Int}{kk:Nat}{most:Int}(h:kk<=5000)(hm:1<=most/\most<=20):JA (Aw L kk most)/\JB L kk most<=kk+200/\CT Wu 20 [some (AE L kk)] [.ptr 0 0 0,.int .i64 most] [some (AE L (JB L kk most))] (Ai (Aw L kk most)):=by unfold Aw JB;exact V8 (MJ L kk most) h hm
theorem net_ct(L:List Int)(kk:Nat)(most:Int)(h:kk<=5000)(hm:1<=most/\most<=20):CT Wu 20 [some (AE L kk)] [.ptr 0 0 0,.int .i64 most] [some (AE L (JB L kk most))] (Ai (Aw L kk most)):=(Ma h hm).2.2
def RwV(n:Aa):Prop:=An n/\Rows n.nx
theorem JA.rwv{n:Aa}(h:JA n):RwV n:=⟨h.v,h.rows⟩
structure GoodT(n:Aa)(i:Nat)(s:Au):Prop where
 hi:0<=s.i/\s.i<n.bs.length
 ho:0<=s.o/\s.o<n.bs.length
 hk:1<=s.k/\s.k<=4
 hb:s.b=AQ n i
theorem An.goodT{n:Aa}(hv:An n)(i:Nat)(s:Au)(h:n.ss[i]?=some s):GoodT n i s:=by have g:=hv.spu i s h;have g1:=Bm.1 g.hi;have g2:=Bm.1 g.ho;exact⟨by omega,by omega,Bm.1 g.hk,g.hb⟩
theorem Gm{n:Aa}(hrw:RwV n):CT Wu 71 [] [Ai n] [] (.bool (A9 n)):=by rw[BF.2 hrw.1];exact Sz hrw.2 hrw.1
theorem O6{n:Aa}(hrw:RwV n):CT Wu 103 [] [Ai n] [] (.bool (A9 n)):=by rw[BF.2 hrw.1];exact Sn hrw.2 hrw.1
open Classical in
def Cn(g:List (List Int)):Bool:=decide (VG g)
theorem QF{g:List (List Int)}:Cn g=true↔VG g:=by unfold Cn;exact @decide_eq_true_iff _ (Classical.propDecidable _)
def CV(g:List (List Int))(s:List Bool):Int:=if Cn g=true then (if s.length≠g.length then 19 else 0) else 20
end Go.Proofs.YthjgbnbibebigaaGreat

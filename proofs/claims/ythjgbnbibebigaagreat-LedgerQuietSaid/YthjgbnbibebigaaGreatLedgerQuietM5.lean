/- Parts of the proof:Le1m,LeA,Le2m,LeB,Le4m,LeC,Le5m,LeD,Le7m,LeE,Le8m,Pam,PaA,UtA,LoA,LoB,CeA,Ce1m,CeB,Ce2m,CeC,Ce3m,CeD,AxRw,RvA,RvB,Rv1m,Rv1A,RvC,RvD,Rv2m,RvE,AxNd. -/
import Derived.Test.YthjgbnbibebigaaGreatProg
import Derived.KernelRfl
import Derived.Test.YthjgbnbibebigaaGreatLedgerQuietM4
noncomputable section
set_option linter.unusedVariables false
set_option linter.unusedSimpArgs false
open Go Go.AX Go.Proofs
set_option maxRecDepth 100000
set_option maxHeartbeats 4000000
set_option linter.unusedVariables false
set_option linter.unusedSimpArgs false
open Go.IntKind (i64 u64)
open List renaming map->Wn
open Int renaming toNat->Ws
open Go.AX.AV renaming lst->Wt
open Go.Proofs.Tryz renaming prog->Wu
namespace Go.Proofs.YthjgbnbibebigaaGreat
structure TsD where
 p:Int
 d:Int
 s:Int
 q:Int
 ov:Int
def tsA(x:TsD):AV:=.agg [.int .i64 x.p,.int .i64 x.d,.int .i64 x.s,.int .i64 x.q,.int .i64 x.ov]
structure UsD where
 s:Int
 lv:Bool
 hm:Int
def usA(x:UsD):AV:=.agg [.int .i64 x.s,.bool x.lv,.int .i64 x.hm,.int .i64 0,.int .i64 0,.int .u64 0,.bool false,.bool false,.int .i64 0,.int .i64 0,.lst [],.int .i64 0,.int .i64 0]
inductive Fo where | l0 (v0:Int)
def tvlSt(l:List TsD):Fo->St | .l0 v0=>St.mk 46 [(0,Wt (Wn tsA l)),(3,iv v0)] []
def NX(l:List TsD):Option (Fo⊕Ret):=br (decide (32<iN (Wn tsA l).length)) (some (.inr ([],bV false))) (some (.inl (.l0 ((0:Int)))))
def EO(l:List TsD)(v0:Int):Option (Fo⊕Ret):=br (decide (v0<iN (Wn tsA l).length)) (gu (0<=v0) <|el l (v0.toNat) fun(x16:TsD)=>br (decide (x16.s<0)) (some (.inr ([],bV false))) (br (decide (5<x16.s)) (some (.inr ([],bV false))) (br (decide (x16.q < -1)) (some (.inr ([],bV false))) (br (decide (8<=x16.q)) (some (.inr ([],bV false))) (br (decide (x16.ov<0)) (some (.inr ([],bV false))) (br (decide (32<x16.ov)) (some (.inr ([],bV false))) (some (.inl (.l0 (i64.wrap (v0+1))))))))))) (some (.inr ([],bV true)))
def tvlStep(l:List TsD):Fo->Option (Fo⊕Ret) | .l0 v0=>EO l v0
theorem tvl_ct(l:List TsD)(r:Ret)(h:Ac (tvlStep l) (NX l) r):CT Wu 119 ([]) ([.lst (l.map tsA)]) r.1 r.2:=CT.mach (fn:=Tryz.f119) (c:=zB Tryz.f119) (S:=(tvlSt l)) (hd:=Fo.ctorIdx) Tryz.func119 (by kernel_rfl) (nL rfl) (fun s o ho=>match s,ho with | .l0 v0,ho=>Scr.ok (X:=EO l v0) ho mix (.ra cF <|.br (fun a0=>.gu fun a1=>.el fun x16 a2=>.rd [23] [(16,tsA x16)] [] (af a0 (aa (bH a1 (Ae (f:=tsA) a2) aS))) <|.br (fun a3=>.ta [43] (cB (bP a3 (cx a3 (ci (ci (ci (k3 aD)))))))) (fun a3=>.br (fun a4=>.ta [42,53] (cB (ah (aI a3 (aG a4 (cx a4 (ci (ci (k3 aD))))))))) (fun a4=>.br (fun a5=>.ta [42,52,63] (cB (ah (aX a3 (aI a4 (aG a5 (cx a5 (ci (k3 aD))))))))) (fun a5=>.br (fun a6=>.ta [42,52,62,73] (cB (ah (aX a3 (aX a4 (aI a5 (aG a6 (cx a6 (k3 aD))))))))) (fun a6=>.br (fun a7=>.ta [42,52,62,72,83] (cB (ah (aX a3 (aX a4 (aX a5 (aI a6 (aG a7 (bW a7))))))))) (fun a7=>.rb [42,52,62,72,82] (bC (aX a3 (aX a4 (aX a5 (aX a6 (bt a7 (bE a7))))))) <|.br (fun a8=>.ta [42,52,62,72,82,91] (bO a8)) (fun a8=>.pa [42,52,62,72,82,90] [] [0,3] (b4 a8 t3)))))))) (fun a0=>.ta [22] (bO a0))) (by kernel_rfl)) (fun o ho=>Scr.ok (X:=NX l) ho mix (.rv 1 [] [] [] (bo aE) <|.br (fun a0=>.ta [15] (bO a0)) (fun a0=>.pa [14] [] [0,3] (cO a0 t3))) (by kernel_rfl)) h
inductive G0 where | l0 (v0 v1:Int)
def tcnSt(l:List TsD):G0->St | .l0 v0 v1=>St.mk 20 [(0,Wt (Wn tsA l)),(3,iv v0),(4,iv v1)] []
def tcnEn(l:List TsD):Option (G0⊕Ret):=some (.inl (.l0 ((0:Int)) ((0:Int))))
def Is(l:List TsD)(v0 v1:Int):Option (G0⊕Ret):=br (decide (v1<iN (Wn tsA l).length)) (gu (0<=v1) <|el l (v1.toNat) fun(x13:TsD)=>br (x13.s==0) (some (.inl (.l0 (i64.wrap (v0+1)) (i64.wrap (v1+1))))) (some (.inl (.l0 v0 (i64.wrap (v1+1)))))) (some (.inr ([],iV v0)))
def RK(l:List TsD):G0->Option (G0⊕Ret) | .l0 v0 v1=>Is l v0 v1
theorem tcn_ct(l:List TsD)(r:Ret)(h:Ac (RK l) (tcnEn l) r):CT Wu 65 ([]) ([.lst (l.map tsA)]) r.1 r.2:=CT.mach (fn:=Tryz.f65) (c:=zB Tryz.f65) (S:=(tcnSt l)) (hd:=G0.ctorIdx) Tryz.func65 (by kernel_rfl) (nL rfl) (fun s o ho=>match s,ho with | .l0 v0 v1,ho=>Scr.ok (X:=Is l v0 v1) ho mix (.ra cF <|.br (fun a0=>.gu fun a1=>.el fun x13 a2=>.rd [17] [(13,tsA x13)] [] (af a0 (bN a1 (Ae (f:=tsA) a2) aE)) <|.br (fun a3=>.pa [33] [] [0,3,4] (bm a3 aE aE t4)) (fun a3=>.pa [32] [] [0,3,4] (b4 a3 t4))) (fun a0=>.ta [16] (az (bx a0)))) (by kernel_rfl)) (fun o ho=>Scr.ok (X:=tcnEn l) ho mix (.pa [] [] [0,3,4] (aj aE t4)) (by kernel_rfl)) h
def Qr(x:UsD):Option (Empty⊕Ret):=br (x.s==0) (some (.inr ([],bV true))) (some (.inr ([],bV (x.s==1))))
theorem ifl_ct(x:UsD)(r:Ret)(h:Ac emT (Qr x) r):CT Wu 117 ([]) ([usA x]) r.1 r.2:=CT.mach (fn:=Tryz.f117) (c:=zB Tryz.f117) (S:=emS) (hd:=emH) Tryz.func117 (by kernel_rfl) (nL rfl) (fun s o ho=>match s,ho with | x,_=>x.elim) (fun o ho=>Scr.ok (X:=Qr x) ho mix (.ra bR <|.br (fun a0=>.ta [13] (az (bC (aj a0 (aC a0 (cc a0)))))) (fun a0=>.ta [12] (az (bC (aI a0 s2))))) (by kernel_rfl)) h
inductive Gd where | l0 (v0:Int)
def blkSt(n:Aa)(nm:ByteArray):Gd->St | .l0 v0=>St.mk 22 [(1,AV.str nm),(2,AV.ptr 0 0 0),(5,iv v0)] [some (bK [Ai n] 8)]
def blkEn(n:Aa)(nm:ByteArray):Option (Gd⊕Ret):=some (.inl (.l0 ((0:Int))))
def Ia(n:Aa)(nm:ByteArray)(v0:Int):Option (Gd⊕Ret):=br (decide (v0<iN (Wn bA n.bs).length)) (gu (0<=v0) <|el (n.bs) (v0.toNat) fun(x16:AD)=>br (x16.nm.toList==nm.toList) (some (.inr ([],iV v0))) (some (.inl (.l0 (i64.wrap (v0+1)))))) (some (.inr ([],iV (-1))))
def blkStep(n:Aa)(nm:ByteArray):Gd->Option (Gd⊕Ret) | .l0 v0=>Ia n nm v0
theorem blk_ct(n:Aa)(nm:ByteArray)(r:Ret)(h:Ac (blkStep n nm) (blkEn n nm) r):CT Wu 110 ([]) ([Ai n,.str nm]) r.1 r.2:=CT.mach (fn:=Tryz.f110) (c:=zB Tryz.f110) (S:=(blkSt n nm)) (hd:=Gd.ctorIdx) Tryz.func110 (by kernel_rfl) (nL rfl) (fun s o ho=>match s,ho with | .l0 v0,ho=>Scr.ok (X:=Ia n nm v0) ho mix (.ra cR <|.br (fun a0=>.gu fun a1=>.el fun x16 a2=>.rd [21] [(16,bA x16)] [] (bX a0 (aB a1 (Ae (f:=bA) a2) (am aD))) <|.br (fun a3=>.ta [41] (az (bx a3))) (fun a3=>.pa [40] [0] [1,2,5] (b4 a3 t5))) (fun a0=>.ta [20] (bO a0))) (by kernel_rfl)) (fun o ho=>Scr.ok (X:=blkEn n nm) ho mix (.pa [] [0] [1,2,5] (aj (cc t2) t5)) (by kernel_rfl)) h
inductive FC where | l0 (v0:Int)
def spuSt(n:Aa)(nm:ByteArray):FC->St | .l0 v0=>St.mk 22 [(1,AV.str nm),(2,AV.ptr 0 0 0),(5,iv v0)] [some (bK [Ai n] 8)]
def spuEn(n:Aa)(nm:ByteArray):Option (FC⊕Ret):=some (.inl (.l0 ((0:Int))))
def Hl(n:Aa)(nm:ByteArray)(v0:Int):Option (FC⊕Ret):=br (decide (v0<iN (Wn sA n.ss).length)) (gu (0<=v0) <|el (n.ss) (v0.toNat) fun(x16:Au)=>br (x16.nm.toList==nm.toList) (some (.inr ([],iV v0))) (some (.inl (.l0 (i64.wrap (v0+1)))))) (some (.inr ([],iV (-1))))
def spuStep(n:Aa)(nm:ByteArray):FC->Option (FC⊕Ret) | .l0 v0=>Hl n nm v0
theorem spu_ct(n:Aa)(nm:ByteArray)(r:Ret)(h:Ac (spuStep n nm) (spuEn n nm) r):CT Wu 107 ([]) ([Ai n,.str nm]) r.1 r.2:=CT.mach (fn:=Tryz.f107) (c:=zB Tryz.f107) (S:=(spuSt n nm)) (hd:=FC.ctorIdx) Tryz.func107 (by kernel_rfl) (nL rfl) (fun s o ho=>match s,ho with | .l0 v0,ho=>Scr.ok (X:=Hl n nm v0) ho mix (.ra cR <|.br (fun a0=>.gu fun a1=>.el fun x16 a2=>.rd [21] [(16,sA x16)] [] (bX a0 (aB a1 (Ae (f:=sA) a2) (am aD))) <|.br (fun a3=>.ta [41] (az (bx a3))) (fun a3=>.pa [40] [0] [1,2,5] (b4 a3 t5))) (fun a0=>.ta [20] (bO a0))) (by kernel_rfl)) (fun o ho=>Scr.ok (X:=spuEn n nm) ho mix (.pa [] [0] [1,2,5] (aj (cc t2) t5)) (by kernel_rfl)) h
end Go.Proofs.YthjgbnbibebigaaGreat
namespace Go.Proofs.YthjgbnbibebigaaGreat
theorem Bi(i:Nat)(h:i<=1000000):i64.wrap ((i:Int)+1)=((i+1:Nat):Int):=by
 have:i64.wrap ((i:Int)+1)=(i:Int)+1:=by simp only[IntKind.wrap,IntKind.bits,IntKind.signed];simp;omega
 rw[this];omega
theorem CN{x:Int}(h1 : -1000000<=x)(h2:x<=1000000000):i64.wrap x=x:=by simp only[IntKind.wrap,IntKind.bits,IntKind.signed];simp;omega
def fiZ{α:Type}(p:α->Bool):List α->Int->Int
 | [],_=> -1
 | x::r,i=>match p x with | true=>i | false=>fiZ p r (i+1)
theorem Td{α σ:Type}{step:σ->Option (σ⊕Ret)}{p:α->Bool}{l:List α}{L:Int->σ}(hl:l.length<=1000000)
  (hs:∀(i:Nat) x,l[i]?=some x->step (L i)=br (p x) (some (.inr ([],.int .i64 i))) (some (.inl (L (i64.wrap ((i:Int)+1))))))
  (he:step (L (l.length:Nat))=some (.inr ([],.int .i64 (-1)))):Ac step (some (.inl (L 0))) (([],.int .i64 (fiZ p l 0)):Ret):=by
 have key:∀(d i:Nat),i+d=l.length->Ac step (some (.inl (L (i:Nat)))) (([],.int .i64 (fiZ p (l.drop i) i)):Ret):=by
  intro d;induction d with
  | zero=>
   intro i hi;obtain rfl:i=l.length:=by omega
   refine .to he ?_;rw[List.drop_length];exact .ret _
  | succ d ih=>
   intro i hi;have hx:l[i]?=some l[i]:=Vv (by omega);refine .to (hs i _ hx) ?_;rw[Wg (by omega)];unfold fiZ;cases hp:p l[i] with
   | true=>exact .ret _
   | false=>rw[Ad rfl,Bi i (by omega)];have:=ih (i+1) (by omega);rw[show ((i:Int)+1)=((i+1:Nat):Int) by omega];exact this
 have:=key l.length 0 (by omega);exact this
theorem P1{α:Type}(p:α->Bool):∀(l:List α) (i:Nat),(fiZ p l i = -1/\∀x∈l,p x=false)\/∃j x,fiZ p l i=((i+j:Nat):Int)/\l[j]?=some x/\p x=true
 | [],i=>.inl ⟨rfl,fun x hx=>by cases hx⟩
 | y::r,i=>by
  unfold fiZ;cases hp:p y with
  | true=>exact .inr ⟨0,y,by simp,rfl,hp⟩
  | false=>
   rcases P1 p r (i+1) with ⟨h1,h2⟩ | ⟨j,x,h1,h2,h3⟩
   .exact .inl ⟨h1,fun x hx=>(VY.1 hx).elim (fun e=>e ▸ hp) (h2 x)⟩
   .exact .inr ⟨j+1,x,by show fiZ p r ((i:Int)+1)=_;rw[show ((i:Int)+1)=((i+1:Nat):Int) by omega,h1];omega,h2,h3⟩
@[irreducible] def Ax(n:Aa)(nm:ByteArray):Int:=fiZ (fun b:AD=>b.nm.toList==nm.toList) n.bs 0
@[irreducible] def Ar(n:Aa)(nm:ByteArray):Int:=fiZ (fun b:Au=>b.nm.toList==nm.toList) n.ss 0
theorem Qy(n:Aa)(nm:ByteArray)(h:n.bs.length<=1000000):CT Wu 110 [] [Ai n,.str nm] [] (.int .i64 (Ax n nm)):=by
 unfold Ax;refine blk_ct n nm ([],_) (Td (L:=fun i=>Gd.l0 i) h (fun i x hx=>?_) ?_)
 .show Ia n nm i=_;unfold Ia;rw[AR hx]
 .show Ia n nm _=_;unfold Ia;rw[AN]
theorem LJ(n:Aa)(nm:ByteArray)(h:n.ss.length<=1000000):CT Wu 107 [] [Ai n,.str nm] [] (.int .i64 (Ar n nm)):=by
 unfold Ar;refine spu_ct n nm ([],_) (Td (L:=fun i=>FC.l0 i) h (fun i x hx=>?_) ?_)
 .show Hl n nm i=_;unfold Hl;rw[AR hx]
 .show Hl n nm _=_;unfold Hl;rw[AN]
theorem P9(n:Aa)(nm:ByteArray):Ax n nm = -1\/(0<=Ax n nm/\Ax n nm<(n.bs.length:Int)):=by
 unfold Ax;rcases P1 (fun b:AD=>b.nm.toList==nm.toList) n.bs 0 with ⟨h,_⟩ | ⟨j,x,h,h2,_⟩
 .exact .inl h
 .have:=(Vx.1 h2).1;have h:fiZ (fun b:AD=>b.nm.toList==nm.toList) n.bs 0=((0+j:Nat):Int):=h;exact .inr ⟨by omega,by omega⟩
theorem JJ(n:Aa)(nm:ByteArray):Ar n nm = -1\/(0<=Ar n nm/\Ar n nm<(n.ss.length:Int)):=by
 unfold Ar;rcases P1 (fun b:Au=>b.nm.toList==nm.toList) n.ss 0 with ⟨h,_⟩ | ⟨j,x,h,h2,_⟩
 .exact .inl h
 .have:=(Vx.1 h2).1;have h:fiZ (fun b:Au=>b.nm.toList==nm.toList) n.ss 0=((0+j:Nat):Int):=h;exact .inr ⟨by omega,by omega⟩
@[irreducible] def A7(s:Int):Bool:=s==0||s==1
theorem MB(s:Int)(lv:Bool)(hm:Int):CT Wu 117 [] [usA ⟨s,lv,hm⟩] [] (.bool (A7 s)):=by
 refine ifl_ct ⟨s,lv,hm⟩ ([],_) (.val ?_);unfold Qr A7;cases h:s==0 with
 | true=>rfl
 | false=>rfl
def TvP(x:TsD):Prop:=0<=x.s/\x.s<=5/\-1<=x.q/\x.q<8/\0<=x.ov/\x.ov<=32
instance (x:TsD):Decidable (TvP x):=by unfold TvP;exact inferInstance
@[irreducible] def tvB(l:List TsD):Bool:=match decide (32<l.length) with | true=>false | false=>l.all fun x=>decide (TvP x)
theorem tvl_c(l:List TsD):CT Wu 119 [] [.lst (l.map tsA)] [] (.bool (tvB l)):=by
 refine tvl_ct l ([],_) ?_;unfold NX tvB;have e:decide (32<iN (Wn tsA l).length)=decide (32<l.length):=decide_eq_decide.2 (by simp only[iN,Vy];omega);rw[e];cases hd:decide (32<l.length) with
 | true=>exact .val rfl
 | false=>
  have hl:=of_decide_eq_false hd;rw[Ad rfl];refine Ac.res (OP (l:=l) (L:=fun i=>Fo.l0 (i:Nat)) (p:=fun x=>decide (TvP x)) (rF:=([],.bool false)) (r:=([],.bool true)) (fun i x hx hp=>?_) (fun i x r hx hp hr=>?_) (fun _=>?_)) (by cases l.all fun x=>decide (TvP x)<;>rfl)
  .refine .to (show EO l i=_ from rfl) ?_;unfold EO;rw[AR hx];have hp:=of_decide_eq_false hp;unfold TvP at hp;by_cases h1:x.s<0
   .rw[Ah (VB h1)];exact .ret _
   rw[Ad (VA h1)];by_cases h2:5<x.s
   .rw[Ah (VB h2)];exact .ret _
   rw[Ad (VA h2)];by_cases h3:x.q < -1
   .rw[Ah (VB h3)];exact .ret _
   rw[Ad (VA h3)];by_cases h4:8<=x.q
   .rw[Ah (VB h4)];exact .ret _
   rw[Ad (VA h4)];by_cases h5:x.ov<0
   .rw[Ah (VB h5)];exact .ret _
   rw[Ad (VA h5),Ah (VB (by omega))];exact .ret _
  .refine .to (show EO l i=_ from rfl) ?_;unfold EO;have hp:=of_decide_eq_true hp;unfold TvP at hp;have:=(Vx.1 hx).1;rw[AR hx,Ad (VA (by omega)),Ad (VA (by omega)),Ad (VA (by omega)),Ad (VA (by omega)),Ad (VA (by omega)),Ad (VA (by omega)),Bi i (by omega)];exact hr
  .refine .to (show EO l (l.length:Nat)=_ from rfl) ?_;unfold EO;rw[AN];exact .ret _
def coZ{α:Type}(p:α->Bool)(l:List α):Int:=((l.filter p).length:Int)
theorem GA{α:Type}(p:α->Bool)(l:List α)(x:α):coZ p (l++[x])=coZ p l+(if p x then 1 else 0):=by unfold coZ;rw[List.filter_append,VP];cases h:p x<;>simp[h]
theorem I3{α:Type}(p:α->Bool)(l:List α):0<=coZ p l/\coZ p l<=l.length:=by unfold coZ;have:=List.length_filter_le p l;omega
@[irreducible] def tcZ(l:List TsD):Int:=coZ (fun x=>x.s==0) l
theorem Rz(l:List TsD):tcZ l=coZ (fun x=>x.s==0) l:=by unfold tcZ;rfl
theorem Pz(l:List TsD)(hl:l.length<=1000000):CT Wu 65 [] [.lst (l.map tsA)] [] (.int .i64 (tcZ l)):=by
 refine tcn_ct l ([],_) ?_;rw[Rz];have key:∀(d i:Nat),i+d=l.length->Ac (RK l) (some (.inl (.l0 (coZ (fun x=>x.s==0) (l.take i)) (i:Int)))) (([],.int .i64 (coZ (fun x=>x.s==0) l)):Ret):=by
  intro d;induction d with
  | zero=>
   intro i hi;obtain rfl:i=l.length:=by omega
   refine .to (show Is l _ (l.length:Nat)=_ from rfl) ?_;unfold Is;rw[AN,List.take_length];exact .ret _
  | succ d ih=>
   intro i hi;have hx:l[i]?=some l[i]:=Vv (by omega);have h1:=GA (fun x:TsD=>x.s==0) (l.take i) l[i];have h2:=I3 (fun x:TsD=>x.s==0) (l.take i);have h3:(l.take i).length<=i:=by rw[VX];omega
   have e:l.take (i+1)=l.take i++[l[i]]:=by rw[List.take_add_one,hx];rfl
   rw[<-e] at h1;have:=ih (i+1) (by omega);rw[h1] at this;refine .to (show Is l _ (i:Nat)=_ from rfl) ?_;unfold Is;rw[AR hx,Bi i (by omega)];cases hq:l[i].s==0 with
   | true=>rw[Ah rfl,CN (by omega) (by omega)];simp only[hq] at this;exact this
   | false=>rw[Ad rfl];simp only[hq] at this;simpa using this
 exact key l.length 0 (by omega)
inductive HU where | l0 (v0 v1 v2 v3:Int)
def couSt(l:List UsD):HU->St | .l0 v0 v1 v2 v3=>St.mk 41 [(0,Wt (Wn usA l)),(5,iv v0),(6,iv v1),(7,iv v2),(8,iv v3)] []
def couEn(l:List UsD):Option (HU⊕Ret):=some (.inl (.l0 ((0:Int)) ((0:Int)) ((0:Int)) ((0:Int))))
def Hq(l:List UsD)(v0 v1 v2 v3:Int):Option (HU⊕Ret):=br (decide (v3<iN (Wn usA l).length)) (gu (0<=v3) <|el l (v3.toNat) fun(x17:UsD)=>br (x17.s != 3) (el l (v3.toNat) fun(x25:UsD)=>br (A7 x25.s) (el l (v3.toNat) fun(x32:UsD)=>br (!x32.lv) (some (.inl (.l0 (i64.wrap (v0+1)) (i64.wrap (v1+1)) (i64.wrap (v2+1)) (i64.wrap (v3+1))))) (some (.inl (.l0 (i64.wrap (v0+1)) (i64.wrap (v1+1)) v2 (i64.wrap (v3+1)))))) (some (.inl (.l0 (i64.wrap (v0+1)) v1 v2 (i64.wrap (v3+1)))))) (el l (v3.toNat) fun(x25:UsD)=>br (A7 x25.s) (el l (v3.toNat) fun(x32:UsD)=>br (!x32.lv) (some (.inl (.l0 v0 (i64.wrap (v1+1)) (i64.wrap (v2+1)) (i64.wrap (v3+1))))) (some (.inl (.l0 v0 (i64.wrap (v1+1)) v2 (i64.wrap (v3+1)))))) (some (.inl (.l0 v0 v1 v2 (i64.wrap (v3+1))))))) (some (.inr ([],AV.tup [iV v0,iV v1,iV v2])))
def S7(l:List UsD):HU->Option (HU⊕Ret) | .l0 v0 v1 v2 v3=>Hq l v0 v1 v2 v3
theorem cou_ct(l:List UsD)(r:Ret)(h:Ac (S7 l) (couEn l) r):CT Wu 64 ([]) ([.lst (l.map usA)]) r.1 r.2:=CT.mach (fn:=Tryz.f64) (c:=zB Tryz.f64) (S:=(couSt l)) (hd:=HU.ctorIdx) Tryz.func64 (by kernel_rfl) (nL rfl) (fun s o ho=>match s,ho with | .l0 v0 v1 v2 v3,ho=>Scr.ok (X:=Hq l v0 v1 v2 v3) ho mix (.ra cF <|.br (fun a0=>.gu fun a1=>.el fun x17 a2=>.rd [25] [(17,usA x17)] [] (af a0 (bN a1 (Ae (f:=usA) a2) aE)) <|.br (fun a3=>.rb [41] (af a3 aE) <|.el fun x25 a4=>have c0:=MB (x25.s) (x25.lv) (x25.hm);.rd [] [(25,usA x25)] [(27,hK c0 [] [])] (aR (aB a1 (Ae (f:=usA) a4) (bo (bc aP (c0))))) <|.br (fun a5=>.rb [55] (af a5 aE) <|.el fun x32 a6=>.rd [] [(32,usA x32)] [] (aR (aB a1 (Ae (f:=usA) a6) aE)) <|.br (fun a7=>.pa [71] [] [0,5,6,7,8] (bm a7 aE aE t6)) (fun a7=>.pa [70] [] [0,5,6,7,8] (b4 a7 t6))) (fun a5=>.pa [54] [] [0,5,6,7,8] (b4 a5 t6))) (fun a3=>.el fun x25 a4=>have c0:=MB (x25.s) (x25.lv) (x25.hm);.rd [40] [(25,usA x25)] [(27,hK c0 [] [])] (af a3 (bN a1 (Ae (f:=usA) a4) (bo (bc aP (c0))))) <|.br (fun a5=>.rb [55] (af a5 aE) <|.el fun x32 a6=>.rd [] [(32,usA x32)] [] (aR (aB a1 (Ae (f:=usA) a6) aE)) <|.br (fun a7=>.pa [71] [] [0,5,6,7,8] (bm a7 aE aE t6)) (fun a7=>.pa [70] [] [0,5,6,7,8] (b4 a7 t6))) (fun a5=>.pa [54] [] [0,5,6,7,8] (b4 a5 t6)))) (fun a0=>.ta [24] (aJ a0 (u2 ba) t4))) (by kernel_rfl)) (fun o ho=>Scr.ok (X:=couEn l) ho mix (.pa [] [] [0,5,6,7,8] (aj (ab t4 t4 s2) t6)) (by kernel_rfl)) h
inductive I4 where | l0 (v0:List Int) (v1:Int)
def MQ(n:Aa)(nm:ByteArray):I4->St | .l0 v0 v1=>St.mk 45 [(2,AV.ptr 0 0 0),(6,iv (Ar n nm)),(7,AV.sl 1 0 v0.length),(8,iv v1)] [some (bK [Ai n] 8),some (bK (Wn iv v0) 1)]
def Ns(n:Aa)(nm:ByteArray):Option (I4⊕Ret):=gu (n.bs.length<=1000000) <|br (decide (0<=Ax n nm)) (some (.inr ([],Wt [iV (Ax n nm)]))) (gu (n.ss.length<=1000000) <|some (.inl (.l0 ([]) ((0:Int)))))
def IG(n:Aa)(nm:ByteArray)(v0:List Int)(v1:Int):Option (I4⊕Ret):=br (decide (0<=Ar n nm)) (gu (0<=Ar n nm) <|el (n.ss) ((Ar n nm).toNat) fun(x26:Au)=>br (decide (v1<x26.k)) (el (n.ss) ((Ar n nm).toNat) fun(x37:Au)=>gu ((Wn iV v0).length+[iV (i64.wrap (x37.b+v1))].length<=9223372036854775807) <|gu (((Wn iV v0).length+[iV (i64.wrap (x37.b+v1))].length) * 8<=140737488355328) <|some (.inl (.l0 (v0++[i64.wrap (x37.b+v1)]) (i64.wrap (v1+1))))) (some (.inr ([],Wt (Wn iV v0))))) (some (.inr ([],Wt (Wn iV v0))))
def Oi(n:Aa)(nm:ByteArray):I4->Option (I4⊕Ret) | .l0 v0 v1=>IG n nm v0 v1
theorem nmd_ct(n:Aa)(nm:ByteArray)(r:Ret)(h:Ac (Oi n nm) (Ns n nm) r):CT Wu 112 ([]) ([Ai n,.str nm]) r.1 r.2:=CT.mach (fn:=Tryz.f112) (c:=zB Tryz.f112) (S:=(MQ n nm)) (hd:=I4.ctorIdx) Tryz.func112 (by kernel_rfl) (nL rfl) (fun s o ho=>match s,ho with | .l0 v0 v1,ho=>Scr.ok (X:=IG n nm v0 v1) ho mix (.br (fun a0=>.gu fun a1=>.el fun x26 a2=>.rd [43] [(26,sA x26)] [] (aL (aI a0 (cJ a0 (an a1 (Ae (f:=sA) a2)) (bT a0 t3 a0)))) <|.br (fun a3=>.el fun x37 a4=>.gu fun a5=>.gu fun a6=>.lq [43,61] [(37,sA x37)] [] [] [] [0,3] [2,6,7,8] (up [(7,AV.sl 1 0 ((Wn iv v0).length+[iv (i64.wrap (x37.b+v1))].length))] [(1,Wn iv v0++[iv (i64.wrap (x37.b+v1))])] (MQ n nm (.l0 (v0++[i64.wrap (x37.b+v1)]) (i64.wrap (v1+1))))) (bm a3 (ah (aB a1 (Ae (f:=sA) a4) (am (bD (aB (show(Wn iv v0).length=v0.length by simp) (bv (show nat_lit 1=nat_lit 1 from rfl) (show 1<=[iv (i64.wrap (x37.b+v1))].length by simp) a5 a6) s2))))) aE t7) (by simp[up,upF,upV,upH,upB,MQ,gL,boL,lI,sA,bA])) (fun a3=>.tc [43,60] [] [1] (aJ a3 aw (show v0.length=(Wn iv v0).length by simp)))) (fun a0=>.tc [42] [] [1] (af (cE (am (cA a0 (bW a0))) aw) (show v0.length=(Wn iv v0).length by simp)))) (by kernel_rfl)) (fun o ho=>Scr.ok (X:=Ns n nm) ho mix (.ra bR <|.gu fun a0=>have c0:=Qy n (nm) a0;.rv 1 [] [] [(11,hK c0 [] [])] (bx (bN t9 (ay (c0)) s2)) <|.br (fun a1=>.tc [27] [] [1] (aJ a1 aE (show 1=[iv (Ax n nm)].length by simp))) (fun a1=>.gu fun a2=>have c1:=LJ n (nm) a2;.pb [26] [] [(18,hK c1 [] [])] [(7,1)] [0,1] [2,6,7,8] (aj (ab a1 (bN t9 (ay (c1)) s2) aw) t7))) (by kernel_rfl)) h
@[irreducible] def cnP(l:List UsD):Int:=coZ (fun x=>x.s != 3) l
@[irreducible] def cnF(l:List UsD):Int:=coZ (fun x=>A7 x.s) l
@[irreducible] def cnW(l:List UsD):Int:=coZ (fun x=>A7 x.s&&!x.lv) l
theorem Nc(l:List UsD):cnP l=coZ (fun x=>x.s != 3) l:=by unfold cnP;rfl
theorem Po(l:List UsD):cnF l=coZ (fun x=>A7 x.s) l:=by unfold cnF;rfl
theorem RY(l:List UsD):cnW l=coZ (fun x=>A7 x.s&&!x.lv) l:=by unfold cnW;rfl
theorem Kp(l:List UsD)(hl:l.length<=1000000):CT Wu 64 [] [.lst (l.map usA)] [] (.tup [.int .i64 (cnP l),.int .i64 (cnF l),.int .i64 (cnW l)]):=by
 refine cou_ct l ([],_) ?_;rw[Nc,Po,RY];have key:∀(d i:Nat),i+d=l.length->Ac (S7 l) (some (.inl (.l0 (coZ (fun x=>x.s != 3) (l.take i)) (coZ (fun x=>A7 x.s) (l.take i)) (coZ (fun x=>A7 x.s&&!x.lv) (l.take i)) (i:Int)))) (([],.tup [.int .i64 (coZ (fun x=>x.s != 3) l),.int .i64 (coZ (fun x=>A7 x.s) l),.int .i64 (coZ (fun x=>A7 x.s&&!x.lv) l)]):Ret):=by
  intro d;induction d with
  | zero=>
   intro i hi;obtain rfl:i=l.length:=by omega
   refine .to (show Hq l _ _ _ (l.length:Nat)=_ from rfl) ?_;unfold Hq;rw[AN,List.take_length];exact .ret _
  | succ d ih=>
   intro i hi;have hx:l[i]?=some l[i]:=Vv (by omega);have h3:(l.take i).length<=i:=by rw[VX];omega
   have e:l.take (i+1)=l.take i++[l[i]]:=by rw[List.take_add_one,hx];rfl
   have a1:=GA (fun x:UsD=>x.s != 3) (l.take i) l[i];have a2:=GA (fun x:UsD=>A7 x.s) (l.take i) l[i];have a3:=GA (fun x:UsD=>A7 x.s&&!x.lv) (l.take i) l[i];have b1:=I3 (fun x:UsD=>x.s != 3) (l.take i);have b2:=I3 (fun x:UsD=>A7 x.s) (l.take i);have b3:=I3 (fun x:UsD=>A7 x.s&&!x.lv) (l.take i);rw[<-e] at a1 a2 a3;have:=ih (i+1) (by omega);rw[a1,a2,a3] at this;refine .to (show Hq l _ _ _ (i:Nat)=_ from rfl) ?_;unfold Hq;rw[AR hx,Bi i (by omega),CN (by omega) (by omega),CN (by omega) (by omega),CN (by omega) (by omega),VE];cases q1:l[i].s != 3 with
   | true=>
    rw[Ah rfl,Al hx];cases q2:A7 l[i].s with
    | true=>
     rw[Ah rfl,Al hx];cases q3:l[i].lv with
     | true=>rw[show (!true)=false from rfl,Ad rfl];simpa [q1,q2,q3] using this
     | false=>rw[show (!false)=true from rfl,Ah rfl];simpa [q1,q2,q3] using this
    | false=>rw[Ad rfl];simpa [q1,q2] using this
   | false=>
    rw[Ad rfl,Al hx];cases q2:A7 l[i].s with
    | true=>
     rw[Ah rfl,Al hx];cases q3:l[i].lv with
     | true=>rw[show (!true)=false from rfl,Ad rfl];simpa [q1,q2,q3] using this
     | false=>rw[show (!false)=true from rfl,Ah rfl];simpa [q1,q2,q3] using this
    | false=>rw[Ad rfl];simpa [q1,q2] using this
 exact key l.length 0 (by omega)
def hoF(x:UsD):Int:=if A7 x.s=true then x.hm else -2
@[irreducible] def hoL(l:List UsD):List Int:=l.map hoF
theorem RG(l:List UsD):hoL l=l.map hoF:=by unfold hoL;rfl
def NmI(n:Aa):Prop:=n.bs.length<=1000/\n.ss.length<=1000/\∀s∈n.ss,0<=s.b/\s.b<=1000/\0<=s.k/\s.k<=1000
def spC(s:Au):List Int:=(List.range s.k.toNat).map fun i:Nat=>s.b+(i:Int)
@[irreducible] def nmL(n:Aa)(nm:ByteArray):List Int:=if 0<=Ax n nm then [Ax n nm] else if 0<=Ar n nm then spC (n.ss.getD (Ar n nm).toNat ⟨nm,false,0,0,0,0⟩) else []
theorem nmd_c(n:Aa)(nm:ByteArray)(h:NmI n):CT Wu 112 [] [Ai n,.str nm] [] (lI (nmL n nm)):=by
 obtain⟨h1,h2,h3⟩:=h;refine nmd_ct n nm ([],_) ?_;unfold Ns nmL;have hS:∀a b,Oi n nm (.l0 a b)=IG n nm a b:=fun _ _=>rfl
 rw[Ab (by omega)];by_cases hb:0<=Ax n nm
 .rw[Ah (VB hb),Vt hb];exact .ret _
 rw[Ad (VA hb),Vu hb,Ab (by omega)];by_cases hs:0<=Ar n nm
 .rw[Vt hs];have hlt:(Ar n nm).toNat<n.ss.length:=by have:=JJ n nm;omega
  have hx:n.ss[(Ar n nm).toNat]?=some (n.ss.getD (Ar n nm).toNat ⟨nm,false,0,0,0,0⟩):=by rw[Vw,Vv hlt];rfl
  obtain⟨g1,g2,g3,g4⟩:=h3 _ (Vz hx);generalize n.ss.getD (Ar n nm).toNat ⟨nm,false,0,0,0,0⟩=s at *;have key:∀(d i:Nat),i+d=s.k.toNat->Ac (Oi n nm) (some (.inl (.l0 ((List.range i).map fun i:Nat=>s.b+(i:Int)) (i:Int)))) (([],lI (spC s)):Ret):=by
   intro d;induction d with
   | zero=>intro i hi;refine .to (hS _ _) ?_;unfold IG;rw[Ah (VB hs),Ab hs,Al hx,Ad (VA (by omega))];unfold spC;rw[show s.k.toNat=i by omega];exact .ret _
   | succ d ih=>intro i hi;have:=ih (i+1) (by omega);refine .to (hS _ _) ?_;unfold IG;rw[Ah (VB hs),Ab hs,Al hx,Ah (VB (by omega)),Al hx,Ab (by simp only[Vy,We,V9];omega),Ab (by simp only[Vy,We,V9];omega),CN (by omega) (by omega),Bi i (by omega)];rw[List.range_succ,VJ] at this;exact this
  exact key s.k.toNat 0 (by omega)
 .rw[Vu hs];refine .to (hS _ _) ?_;unfold IG;rw[Ad (VA hs)];exact .ret _
def stA(s:ByteArray):AV:=.str s
def PC(c:Int):Option (Empty⊕Ret):=br (decide (33<=c)) (br (decide (c<=126)) (some (.inr ([],bV (c != 35)))) (some (.inr ([],bV false)))) (some (.inr ([],bV false)))
theorem alw_ct(c:Int)(r:Ret)(h:Ac emT (PC c) r):CT Wu 139 ([]) ([.int .u8 c]) r.1 r.2:=CT.mach (fn:=Tryz.f139) (c:=zB Tryz.f139) (S:=emS) (hd:=emH) Tryz.func139 (by kernel_rfl) (nL rfl) (fun s o ho=>match s,ho with | x,_=>x.elim) (fun o ho=>Scr.ok (X:=PC c) ho mix (.ra s2 <|.br (fun a0=>.br (fun a1=>.ta [11,19] (az (aL (bt a0 (u2 (bt a1 s2)))))) (fun a1=>.ta [11,18] (az (aL (bt a0 (u2 (aC a1 (cc a1)))))))) (fun a0=>.ta [10] (az (aL (cx a0 (an t3 s2)))))) (by kernel_rfl)) h
inductive GS where | l0 (v0:ByteArray) (v1:Bool) (v2 v3:Int)
def numSt(q:ByteArray):GS->St | .l0 v0 v1 v2 v3=>St.mk 65 [(0,AV.str v0),(4,bV v1),(5,iv v2),(6,iv v3)] []
def KX(q:ByteArray):Option (GS⊕Ret):=br (!q.toList==(ByteArray.mk #[]).toList) (gu (0<iN q.size) <|br (bAt q (Ws 0)==45) (gu (1<=iN q.size) <|br ((q.extract (Ws 1) q.size).toList==(ByteArray.mk #[]).toList) (some (.inr ([],AV.tup [iV 0,bV false]))) (br (decide (4<iN (q.extract (Ws 1) q.size).size)) (some (.inr ([],AV.tup [iV 0,bV false]))) (gu (0<iN (q.extract (Ws 1) q.size).size) <|br (bAt (q.extract (Ws 1) q.size) (Ws 0)==48) (br (decide (1<iN (q.extract (Ws 1) q.size).size)) (some (.inr ([],AV.tup [iV 0,bV false]))) (some (.inr ([],AV.tup [iV 0,bV false])))) (some (.inl (.l0 (q.extract (Ws 1) q.size) (bAt q (Ws 0)==45) ((0:Int)) ((0:Int)))))))) (br (q.toList==(ByteArray.mk #[]).toList) (some (.inr ([],AV.tup [iV 0,bV false]))) (br (decide (4<iN q.size)) (some (.inr ([],AV.tup [iV 0,bV false]))) (br (bAt q (Ws 0)==48) (br (decide (1<iN q.size)) (some (.inr ([],AV.tup [iV 0,bV false]))) (some (.inl (.l0 q (bAt q (Ws 0)==45) ((0:Int)) ((0:Int)))))) (some (.inl (.l0 q (bAt q (Ws 0)==45) ((0:Int)) ((0:Int))))))))) (br (q.toList==(ByteArray.mk #[]).toList) (some (.inr ([],AV.tup [iV 0,bV false]))) (br (decide (4<iN q.size)) (some (.inr ([],AV.tup [iV 0,bV false]))) (gu (0<iN q.size) <|br (bAt q (Ws 0)==48) (br (decide (1<iN q.size)) (some (.inr ([],AV.tup [iV 0,bV false]))) (some (.inl (.l0 q (false) ((0:Int)) ((0:Int)))))) (some (.inl (.l0 q (false) ((0:Int)) ((0:Int))))))))
def I7(q v0:ByteArray)(v1:Bool)(v2 v3:Int):Option (GS⊕Ret):=br (decide (v3<iN v0.size)) (gu (0<=v3) <|gu (v3<iN v0.size) <|br (decide (bAt v0 v3.toNat<48)) (some (.inr ([],AV.tup [iV 0,bV false]))) (br (decide (57<bAt v0 v3.toNat)) (some (.inr ([],AV.tup [iV 0,bV false]))) (some (.inl (.l0 v0 v1 (i64.wrap (i64.wrap (10 * v2)+i64.wrap (IntKind.u8.wrap (bAt v0 v3.toNat-48)))) (i64.wrap (v3+1))))))) (br v1 (some (.inr ([],AV.tup [iV (i64.wrap (0-v2)),bV true]))) (some (.inr ([],AV.tup [iV v2,bV true]))))
def Fx(q:ByteArray):GS->Option (GS⊕Ret) | .l0 v0 v1 v2 v3=>I7 q v0 v1 v2 v3
theorem num_ct(q:ByteArray)(r:Ret)(h:Ac (Fx q) (KX q) r):CT Wu 39 ([]) ([.str q]) r.1 r.2:=CT.mach (fn:=Tryz.f39) (c:=zB Tryz.f39) (S:=(numSt q)) (hd:=GS.ctorIdx) Tryz.func39 (by kernel_rfl) (nL rfl) (fun s o ho=>match s,ho with | .l0 v0 v1 v2 v3,ho=>Scr.ok (X:=I7 q v0 v1 v2 v3) ho mix (.ra cF <|.br (fun a0=>.gu fun a1=>.gu fun a2=>.br (fun a3=>.ta [81,95] (cw (cf a0 (bN a1 a2 (aa (aC a3 (bW a3)))) t3))) (fun a3=>.rb [81,94] (af a0 (bN a1 a2 (aa (ai a3 (cn a3 a1 a2 (bE a3)))))) <|.br (fun a4=>.ta [94,105] (aJ a4 t3 t3)) (fun a4=>.pa [94,104] [] [0,4,5,6] (bm a4 (ah (aB a1 a2 (bg t3 s2))) aE t5)))) (fun a0=>.rb [80] (af a0 s2) <|.br (fun a1=>.ta [123] (cw (ax a1 aE bY))) (fun a1=>.ta [122] (aJ a1 bY t3)))) (by kernel_rfl)) (fun o ho=>Scr.ok (X:=KX q) ho mix (.ra aD <|.br (fun a0=>.gu fun a1=>.rv 1 [19] [] [] (af (am (ag a0 (cJ a0 (aU (Int.le_refl 0) a1) s2))) s2) <|.br (fun a2=>.gu fun a3=>.rb [19,29] (af a2 (aG (aU (show(0:Int)<=(1:Int) from(by first | exact nL rfl | decide)) a3) s2)) <|.br (fun a4=>.ta [19,39] (cw (cE (bb a4 (cx a4 (bL cq))) t3))) (fun a4=>.br (fun a5=>.ta [19,38,49] (cw (cE (am (aX a4 (aZ a5 (bL (be a5 a5))))) t3))) (fun a5=>.gu fun a6=>.br (fun a7=>.br (fun a8=>.ta [19,38,48,57,65] (cw (cE (am (aX a4 (ag a5 (cJ a5 (aU (Int.le_refl 0) a6) (aI a7 (aj a8 (aV (bq a7 a8) (bq a5 a7) a5))))))) t3))) (fun a8=>.ta [19,38,48,57,64,73] (cw (ax (am (aX a4 (ag a5 (aW a5 (aU (Int.le_refl 0) a6) (ae a5 a7 (ai a7 (ae a7 a8 (aV (bq a7 a8) (bq a5 a7) a5)))))))) a2 t3)))) (fun a7=>.pa [19,38,48,56] [] [0,4,5,6] (ar (am (aX a4 (ag a5 (cJ a5 (aU (Int.le_refl 0) a6) (aZ a7 (ak (aV a7 (bq a5 a7) a5))))))) (ak aw) t5))))) (fun a2=>.br (fun a3=>.ta [19,28,39] (cw (cf a2 (bb a3 (cx a3 (bL cq))) t3))) (fun a3=>.br (fun a4=>.ta [19,28,38,49] (cw (cf a2 (am (aX a3 (aZ a4 (bL (be a4 a4))))) t3))) (fun a4=>.br (fun a5=>.br (fun a6=>.ta [19,28,38,48,57,65] (cw (cf a2 (am (aX a3 (ag a4 (cJ a4 (aU (Int.le_refl 0) a1) (aI a5 (aj a6 (aV (bq a5 a6) (bq a4 a5) a4))))))) t3))) (fun a6=>.pa [19,28,38,48,57,64,72] [] [0,4,5,6] (ar a2 (ab (am (aX a3 (ag a4 (aW a4 (aU (Int.le_refl 0) a1) (ae a4 a5 (ai a5 (ae a5 a6 (aV (bq a5 a6) (bq a4 a5) a4)))))))) a2 aw) t5))) (fun a5=>.pa [19,28,38,48,56] [] [0,4,5,6] (aj (ab a2 (am (aX a3 (ag a4 (cJ a4 (aU (Int.le_refl 0) a1) (aZ a5 (ak (aV a5 (bq a4 a5) a4))))))) (ak aw)) t5)))))) (fun a0=>.rv 1 [18] [] [] (af (bb a0 (aC a0 (cc a0))) s2) <|.br (fun a1=>.ta [18,39] (cw (aU (bb a1 (cx a1 (bL cq))) (ay t3)))) (fun a1=>.br (fun a2=>.ta [18,38,49] (cw (aU (am (aX a1 (aZ a2 (bL (be a2 a2))))) (ay t3)))) (fun a2=>.gu fun a3=>.br (fun a4=>.br (fun a5=>.ta [18,38,48,57,65] (cw (aU (am (aX a1 (ag a2 (cJ a2 (aU (Int.le_refl 0) a3) (aI a4 (aj a5 (aV (bq a4 a5) (bq a2 a4) a2))))))) (ay t3)))) (fun a5=>.pa [18,38,48,57,64] [] [0,4,5,6] (aj (aU (am (aX a1 (ag a2 (aW a2 (aU (Int.le_refl 0) a3) (ae a2 a4 (ai a4 (ae a4 a5 (aV (bq a4 a5) (bq a2 a4) a2)))))))) (ak aw)) t5))) (fun a4=>.pa [18,38,48,56] [] [0,4,5,6] (aj (aU (am (aX a1 (ag a2 (cJ a2 (aU (Int.le_refl 0) a3) (aZ a4 (ak (aV a4 (bq a2 a4) a2))))))) (ak aw)) t5)))))) (by kernel_rfl)) h
def L9(q:ByteArray):Option (Empty⊕Ret):=br (q.toList==(ByteArray.mk #[116,97,115,107]).toList) (some (.inr ([],AV.tup [iV 1,iV 2,bV false]))) (br (q.toList==(ByteArray.mk #[99,97,110,99,101,108]).toList) (some (.inr ([],AV.tup [iV 2,iV 0,bV true]))) (br (q.toList==(ByteArray.mk #[115,116,97,116,117,115]).toList) (some (.inr ([],AV.tup [iV 7,iV 0,bV true]))) (br (q.toList==(ByteArray.mk #[114,101,109,111,118,101]).toList) (some (.inr ([],AV.tup [iV 6,iV 0,bV true]))) (br (q.toList==(ByteArray.mk #[99,108,111,115,101]).toList) (some (.inr ([],AV.tup [iV 3,iV 1,bV false]))) (br (q.toList==(ByteArray.mk #[111,112,101,110]).toList) (some (.inr ([],AV.tup [iV 4,iV 1,bV false]))) (br (q.toList==(ByteArray.mk #[97,100,100]).toList) (some (.inr ([],AV.tup [iV 5,iV 1,bV false]))) (br (q.toList==(ByteArray.mk #[98,108,111,99,107]).toList) (some (.inr ([],AV.tup [iV 8,iV 1,bV false]))) (br (q.toList==(ByteArray.mk #[102,108,101,101,116]).toList) (some (.inr ([],AV.tup [iV 9,iV 0,bV false]))) (br (q.toList==(ByteArray.mk #[113,117,101,117,101]).toList) (some (.inr ([],AV.tup [iV 10,iV 0,bV false]))) (some (.inr ([],AV.tup [iV 0,iV 0,bV false]))))))))))))
theorem kin_ct(q:ByteArray)(r:Ret)(h:Ac emT (L9 q) r):CT Wu 37 ([]) ([.str q]) r.1 r.2:=CT.mach (fn:=Tryz.f37) (c:=zB Tryz.f37) (S:=emS) (hd:=emH) Tryz.func37 (by kernel_rfl) (nL rfl) (fun s o ho=>match s,ho with | x,_=>x.elim) (fun o ho=>Scr.ok (X:=L9 q) ho mix (.rv 2 [] [] [] (ax t4 s2 aw) <|.br (fun a0=>.ta [13] (aJ a0 t4 t4)) (fun a0=>.rb [12] (bx a0) <|.br (fun a1=>.ta [17] (aJ a1 t4 t4)) (fun a1=>.rb [16] (bx a1) <|.br (fun a2=>.ta [21] (aJ a2 t4 t4)) (fun a2=>.rb [20] (bx a2) <|.br (fun a3=>.ta [25] (aJ a3 t4 t4)) (fun a3=>.rb [24] (bx a3) <|.br (fun a4=>.ta [29] (aJ a4 t4 t4)) (fun a4=>.rb [28] (bx a4) <|.br (fun a5=>.ta [33] (aJ a5 t4 t4)) (fun a5=>.rb [32] (bx a5) <|.br (fun a6=>.ta [37] (aJ a6 t4 t4)) (fun a6=>.rb [36] (bx a6) <|.br (fun a7=>.ta [41] (aJ a7 t4 t4)) (fun a7=>.rb [40] (bx a7) <|.br (fun a8=>.ta [45] (aJ a8 t4 t4)) (fun a8=>.rb [44] (bx a8) <|.br (fun a9=>.ta [49] (aJ a9 t4 t4)) (fun a9=>.ta [48] (aJ a9 t4 t4)))))))))))) (by kernel_rfl)) h
@[irreducible] def alwB(c:Int):Bool:=decide (33<=c)&&(decide (c<=126)&&c != 35)
theorem alw_c(c:Int):CT Wu 139 [] [.int .u8 c] [] (.bool (alwB c)):=by
 refine alw_ct c ([],_) (.val ?_);unfold PC alwB;cases decide (33<=c) with
 | false=>rfl
 | true=>cases decide (c<=126) with
  | false=>rfl
  | true=>rfl
def nbR(p:Int×Bool):Ret:=([],.tup [.int .i64 p.1,.bool p.2])
theorem num_loop(q u:ByteArray)(hu:u.size<=1000000)(v0:Bool):∀(d i:Nat) (v1:Int),i+d=u.size->∃p,Ac (Fx q) (some (.inl (.l0 u v0 v1 (i:Int)))) (nbR p):=by
 intro d;induction d with
 | zero=>intro i v1 hi;refine Az (show Fx q (.l0 u v0 v1 (i:Int))=I7 q u v0 v1 i from rfl) ?_;unfold I7;rw[Ad (VA (by simp only[iN];omega))];exact Ak (fun _=>⟨(_,_),.ret _⟩) (fun _=>⟨(_,_),.ret _⟩)
 | succ d ih=>intro i v1 hi;refine Az (show Fx q (.l0 u v0 v1 (i:Int))=I7 q u v0 v1 i from rfl) ?_;unfold I7;rw[Ah (VB (by simp only[iN];omega)),Ab (by omega),Ab (by simp only[iN];omega),Bi i (by omega)];exact Ak (fun _=>⟨(_,_),.ret _⟩) (fun _=>Ak (fun _=>⟨(_,_),.ret _⟩) (fun _=>ih (i+1) _ (by omega)))
theorem num_ex(q:ByteArray)(hq:q.size<=1000000):∃p,Ac (Fx q) (KX q) (nbR p):=by
 unfold KX;have hx:(q.extract (Ws 1) q.size).size<=1000000:=by rw[ByteArray.size_extract];omega
 have key:∀(u:ByteArray) (v0:Bool),u.size<=1000000->∃p,Ac (Fx q) (some (.inl (.l0 u v0 (0:Int) (0:Int)))) (nbR p):=fun u v0 hu=>num_loop q u hu v0 u.size 0 0 (by omega)
 have no:∃p,Ac (Fx q) (some (.inr ([],.tup [.int .i64 0,.bool false]))) (nbR p):=⟨(0,false),.ret _⟩;refine Ak (fun h=>?_) (fun h=>?_)
 .have hp:=KN (s:=q) (by cases h2:q.toList==(ByteArray.mk #[]).toList with | false=>rfl | true=>rw[h2] at h;cases h);refine Ag (by simp only[iN];omega) (Ak (fun _=>Ag (by simp only[iN];omega) (Ak (fun _=>no) (fun h3=>Ak (fun _=>no) (fun _=>Ag (by have:=KN h3;simp only[iN];omega) (Ak (fun _=>Ak (fun _=>no) (fun _=>?_)) (fun _=>key _ _ hx)))))) (fun _=>Ak (fun _=>no) (fun _=>Ak (fun _=>no) (fun _=>Ak (fun _=>Ak (fun _=>no) (fun _=>key _ _ hq)) (fun _=>key _ _ hq)))));exact no
 .have he:(q.toList==(ByteArray.mk #[]).toList)=true:=by cases h2:q.toList==(ByteArray.mk #[]).toList with | true=>rfl | false=>rw[h2] at h;cases h
  rw[Ah he];exact no
theorem N6(q:ByteArray):∃p:Int×Bool,q.size<=1000000->CT Wu 39 [] [.str q] [] (.tup [.int .i64 p.1,.bool p.2]):=by
 by_cases h:q.size<=1000000
 .obtain⟨p,hp⟩:=num_ex q h;exact⟨p,fun _=>num_ct q _ hp⟩
 .exact⟨(0,false),fun q=>absurd q h⟩
@[irreducible] def Dr(q:ByteArray):Int:=(Classical.choose (N6 q)).1
@[irreducible] def Ik(q:ByteArray):Bool:=(Classical.choose (N6 q)).2
theorem KT(q:ByteArray)(h:q.size<=1000000):CT Wu 39 [] [.str q] [] (.tup [.int .i64 (Dr q),.bool (Ik q)]):=by unfold Dr Ik;exact V8 (N6 q) h
theorem GM(q:ByteArray):∃p:Int×Int×Bool,(0<=p.1/\p.1<=10)/\(0<=p.2.1/\p.2.1<=2)/\CT Wu 37 [] [.str q] [] (.tup [.int .i64 p.1,.int .i64 p.2.1,.bool p.2.2]):=by
 have:∃p:{p:Int×Int×Bool // (0<=p.1/\p.1<=10)/\0<=p.2.1/\p.2.1<=2},Ac emT (L9 q) (([],.tup [.int .i64 p.1.1,.int .i64 p.1.2.1,.bool p.1.2.2]):Ret):=by
  unfold L9
  repeat' (first | exact⟨⟨(_,_,_),by decide,by decide⟩,.ret _⟩ | refine Ak (f:=fun p:{p:Int×Int×Bool // (0<=p.1/\p.1<=10)/\0<=p.2.1/\p.2.1<=2}=>(([],.tup [.int .i64 p.1.1,.int .i64 p.1.2.1,.bool p.1.2.2]):Ret)) (fun _=>?_) (fun _=>?_))
 obtain⟨⟨p,h1,h2⟩,hp⟩:=this;exact⟨p,h1,h2,kin_ct q _ hp⟩
@[irreducible] def Dk(q:ByteArray):Int:=(Classical.choose (GM q)).1
@[irreducible] def Ch(q:ByteArray):Int:=(Classical.choose (GM q)).2.1
@[irreducible] def FM(q:ByteArray):Bool:=(Classical.choose (GM q)).2.2
theorem QL(q:ByteArray):0<=Dk q/\Dk q<=10:=by unfold Dk;exact(V8 (GM q)).1
theorem kinN_rng(q:ByteArray):0<=Ch q/\Ch q<=2:=by unfold Ch;exact(V8 (GM q)).2.1
theorem kin_c(q:ByteArray):CT Wu 37 [] [.str q] [] (.tup [.int .i64 (Dk q),.int .i64 (Ch q),.bool (FM q)]):=by unfold Dk Ch FM;exact(V8 (GM q)).2.2
structure LnD where
 q:Int
 f:List ByteArray
def lnA(x:LnD):AV:=.agg [.int .i64 x.q,.lst (x.f.map stA)]
inductive Dw where | l0 (v0:List ByteArray) (v1 v2:Int)
def FO(q:ByteArray):Dw->St | .l0 v0 v1 v2=>St.mk 61 [(0,AV.str q),(4,AV.sl 0 0 v0.length),(5,iv v1),(6,iv v2)] [some (bK (Wn AV.str v0) 1)]
def fieEn(q:ByteArray):Option (Dw⊕Ret):=some (.inl (.l0 ([]) ((-1:Int)) ((0:Int))))
def Jc(q:ByteArray)(v0:List ByteArray)(v1 v2:Int):Option (Dw⊕Ret):=br (decide (v2<=iN q.size)) (br (v2==iN q.size) (br (decide (0<=v1)) (gu (0<=v1) <|gu (v1<=v2) <|gu (v2<=iN q.size) <|gu ((Wn AV.str v0).length+[AV.str (q.extract v1.toNat v2.toNat)].length<=9223372036854775807) <|gu (((Wn AV.str v0).length+[AV.str (q.extract v1.toNat v2.toNat)].length) * 16<=140737488355328) <|some (.inr ([],AV.tup [Wt (Wn AV.str v0++[AV.str (q.extract v1.toNat v2.toNat)]),iV 0]))) (some (.inr ([],AV.tup [Wt (Wn AV.str v0),iV 0])))) (gu (0<=v2) <|gu (v2<iN q.size) <|br (!bAt q v2.toNat==35) (br (bAt q v2.toNat != 32) (br (bAt q v2.toNat != 9) (br (!alwB (bAt q v2.toNat)) (some (.inr ([],AV.tup [AV.nils,iV 2]))) (br (decide (v1<0)) (br (decide (12<=i64.wrap (v2-v2))) (some (.inr ([],AV.tup [AV.nils,iV 3]))) (some (.inl (.l0 v0 v2 (i64.wrap (v2+1)))))) (br (decide (12<=i64.wrap (v2-v1))) (some (.inr ([],AV.tup [AV.nils,iV 3]))) (some (.inl (.l0 v0 v1 (i64.wrap (v2+1)))))))) (br (decide (0<=v1)) (gu (0<=v1) <|gu (v1<=v2) <|gu (v2<=iN q.size) <|gu ((Wn AV.str v0).length+[AV.str (q.extract v1.toNat v2.toNat)].length<=9223372036854775807) <|gu (((Wn AV.str v0).length+[AV.str (q.extract v1.toNat v2.toNat)].length) * 16<=140737488355328) <|br (bAt q v2.toNat==35) (some (.inr ([],AV.tup [Wt (Wn AV.str v0++[AV.str (q.extract v1.toNat v2.toNat)]),iV 0]))) (some (.inl (.l0 (v0++[q.extract v1.toNat v2.toNat]) ((-1:Int)) (i64.wrap (v2+1)))))) (br (bAt q v2.toNat==35) (some (.inr ([],AV.tup [Wt (Wn AV.str v0),iV 0]))) (some (.inl (.l0 v0 v1 (i64.wrap (v2+1)))))))) (br (decide (0<=v1)) (gu (0<=v1) <|gu (v1<=v2) <|gu (v2<=iN q.size) <|gu ((Wn AV.str v0).length+[AV.str (q.extract v1.toNat v2.toNat)].length<=9223372036854775807) <|gu (((Wn AV.str v0).length+[AV.str (q.extract v1.toNat v2.toNat)].length) * 16<=140737488355328) <|br (bAt q v2.toNat==35) (some (.inr ([],AV.tup [Wt (Wn AV.str v0++[AV.str (q.extract v1.toNat v2.toNat)]),iV 0]))) (some (.inl (.l0 (v0++[q.extract v1.toNat v2.toNat]) ((-1:Int)) (i64.wrap (v2+1)))))) (br (bAt q v2.toNat==35) (some (.inr ([],AV.tup [Wt (Wn AV.str v0),iV 0]))) (some (.inl (.l0 v0 v1 (i64.wrap (v2+1)))))))) (br (decide (0<=v1)) (gu (0<=v1) <|gu (v1<=v2) <|gu (v2<=iN q.size) <|gu ((Wn AV.str v0).length+[AV.str (q.extract v1.toNat v2.toNat)].length<=9223372036854775807) <|gu (((Wn AV.str v0).length+[AV.str (q.extract v1.toNat v2.toNat)].length) * 16<=140737488355328) <|br (bAt q v2.toNat==35) (some (.inr ([],AV.tup [Wt (Wn AV.str v0++[AV.str (q.extract v1.toNat v2.toNat)]),iV 0]))) (some (.inl (.l0 (v0++[q.extract v1.toNat v2.toNat]) ((-1:Int)) (i64.wrap (v2+1)))))) (br (bAt q v2.toNat==35) (some (.inr ([],AV.tup [Wt (Wn AV.str v0),iV 0]))) (some (.inl (.l0 v0 v1 (i64.wrap (v2+1))))))))) (some (.inr ([],AV.tup [Wt (Wn AV.str v0),iV 0])))
def GB(q:ByteArray):Dw->Option (Dw⊕Ret) | .l0 v0 v1 v2=>Jc q v0 v1 v2
theorem fie_ct(q:ByteArray)(r:Ret)(h:Ac (GB q) (fieEn q) r):CT Wu 93 ([]) ([.str q]) r.1 r.2:=CT.mach (fn:=Tryz.f93) (c:=zB Tryz.f93) (S:=(FO q)) (hd:=Dw.ctorIdx) Tryz.func93 (by kernel_rfl) (nL rfl) (fun s o ho=>match s,ho with | .l0 v0 v1 v2,ho=>Scr.ok (X:=Jc q v0 v1 v2) ho mix (.ra cF <|.br (fun a0=>.br (fun a1=>.rv 2 [23,37] [] [] (aj a0 (cf (am (bD (aZ a1 (cc a1)))) (am (aN (bD (aN aD)))) aw)) <|.br (fun a2=>.gu fun a3=>.gu fun a4=>.gu fun a5=>.gu fun a6=>.gu fun a7=>.tc [37,103] [] [2] (be (ab a2 (ah (aO (k3 (ab a3 a4 a5)) (aB (show(Wn AV.str v0).length=v0.length by simp) (bv (show nat_lit 1=nat_lit 1 from rfl) (show 1<=[AV.str (q.extract v1.toNat v2.toNat)].length by simp) a6 a7) s2))) (aG s2 (ay bY))) (show(Wn AV.str v0).length+[AV.str (q.extract v1.toNat v2.toNat)].length=(Wn AV.str v0++[AV.str (q.extract v1.toNat v2.toNat)]).length by simp))) (fun a2=>.tc [37,102] [] [0] (be (cf a2 s2 bY) (show v0.length=(Wn AV.str v0).length by simp)))) (fun a1=>.gu fun a2=>.gu fun a3=>.rb [23,36] (bX a0 (bD (ai a1 (cJ a1 (an a2 a3) s2)))) <|.br (fun a4=>.br (fun a5=>.rb [36,53,65] (aL (ai a4 (cJ a4 (an a2 a3) (cP a5 (cn a5 a2 a3 (bE a5)))))) <|.br (fun a6=>have c0:=alw_c (bAt q v2.toNat);.rd [36,53,65,75] [] [(41,hK c0 [] [])] (af a6 (aa (ab (an a2 a3) (aM (c0)) s2))) <|.br (fun a7=>.ta [36,53,65,85] (aJ a7 t3 t3)) (fun a7=>.rb [36,53,65,84] (bx a7) <|.br (fun a8=>.rv 1 [36,53,65,89] [] [] (ax a8 aw (bg t3 s2)) <|.br (fun a9=>.ta [36,53,65,99] (aJ a9 t3 t3)) (fun a9=>.pa [36,53,65,98] [0] [0,4,5,6] (b4 a9 t6))) (fun a8=>.rb [36,53,65,88] (af a8 (bg t3 s2)) <|.br (fun a9=>.ta [36,53,65,99] (aJ a9 t3 t3)) (fun a9=>.pa [36,53,65,98] [0] [0,4,5,6] (b4 a9 t6))))) (fun a6=>.rb [36,53,65,74] (bx a6) <|.br (fun a7=>.gu fun a8=>.gu fun a9=>.gu fun a10=>.gu fun a11=>.gu fun a12=>.rv 2 [36,53,65,103] [] [] (ab a7 (ah (aO (k3 (ab a8 a9 a10)) (aB (show(Wn AV.str v0).length=v0.length by simp) (bv (show nat_lit 1=nat_lit 1 from rfl) (show 1<=[AV.str (q.extract v1.toNat v2.toNat)].length by simp) a11 a12) s2))) (bo s2)) <|.br (fun a13=>.tc [36,53,65,119] [] [2] (bF a13 bY (show(Wn AV.str v0).length+[AV.str (q.extract v1.toNat v2.toNat)].length=(Wn AV.str v0++[AV.str (q.extract v1.toNat v2.toNat)]).length by simp))) (fun a13=>.lq [36,53,65,118] [] [] [] [] [2] [0,4,5,6] (up [(4,AV.sl 0 0 ((Wn AV.str v0).length+[AV.str (q.extract v1.toNat v2.toNat)].length))] [(0,Wn AV.str v0++[AV.str (q.extract v1.toNat v2.toNat)])] (FO q (.l0 (v0++[q.extract v1.toNat v2.toNat]) ((-1:Int)) (i64.wrap (v2+1))))) (b4 a13 t6) (by simp[up,upF,upV,upH,upB,FO,gL,boL,lI,stA]))) (fun a7=>.rb [36,53,65,102] (af a7 s2) <|.br (fun a8=>.tc [36,53,65,119] [] [0] (bF a8 bY (show v0.length=(Wn AV.str v0).length by simp))) (fun a8=>.pa [36,53,65,118] [0] [0,4,5,6] (b4 a8 t6))))) (fun a5=>.rv 1 [36,53,64] [] [] (cE (am (ai a4 (cJ a4 (an a2 a3) (u2 (aC a5 (bW a5)))))) aw) <|.br (fun a6=>.gu fun a7=>.gu fun a8=>.gu fun a9=>.gu fun a10=>.gu fun a11=>.rv 2 [36,53,64,103] [] [] (ab a6 (ah (aO (k3 (ab a7 a8 a9)) (aB (show(Wn AV.str v0).length=v0.length by simp) (bv (show nat_lit 1=nat_lit 1 from rfl) (show 1<=[AV.str (q.extract v1.toNat v2.toNat)].length by simp) a10 a11) s2))) (bo s2)) <|.br (fun a12=>.tc [36,53,64,119] [] [2] (bF a12 bY (show(Wn AV.str v0).length+[AV.str (q.extract v1.toNat v2.toNat)].length=(Wn AV.str v0++[AV.str (q.extract v1.toNat v2.toNat)]).length by simp))) (fun a12=>.lq [36,53,64,118] [] [] [] [] [2] [0,4,5,6] (up [(4,AV.sl 0 0 ((Wn AV.str v0).length+[AV.str (q.extract v1.toNat v2.toNat)].length))] [(0,Wn AV.str v0++[AV.str (q.extract v1.toNat v2.toNat)])] (FO q (.l0 (v0++[q.extract v1.toNat v2.toNat]) ((-1:Int)) (i64.wrap (v2+1))))) (b4 a12 t6) (by simp[up,upF,upV,upH,upB,FO,gL,boL,lI,stA]))) (fun a6=>.rb [36,53,64,102] (af a6 s2) <|.br (fun a7=>.tc [36,53,64,119] [] [0] (bF a7 bY (show v0.length=(Wn AV.str v0).length by simp))) (fun a7=>.pa [36,53,64,118] [0] [0,4,5,6] (b4 a7 t6))))) (fun a4=>.rv 1 [36,52] [] [] (cE (am (aZ a4 (bj a4 (aN aD)))) aw) <|.br (fun a5=>.gu fun a6=>.gu fun a7=>.gu fun a8=>.gu fun a9=>.gu fun a10=>.rv 2 [36,52,103] [] [] (ab a5 (ah (aO (k3 (ab a6 a7 a8)) (aB (show(Wn AV.str v0).length=v0.length by simp) (bv (show nat_lit 1=nat_lit 1 from rfl) (show 1<=[AV.str (q.extract v1.toNat v2.toNat)].length by simp) a9 a10) s2))) (bo s2)) <|.br (fun a11=>.tc [36,52,119] [] [2] (bF a11 bY (show(Wn AV.str v0).length+[AV.str (q.extract v1.toNat v2.toNat)].length=(Wn AV.str v0++[AV.str (q.extract v1.toNat v2.toNat)]).length by simp))) (fun a11=>.lq [36,52,118] [] [] [] [] [2] [0,4,5,6] (up [(4,AV.sl 0 0 ((Wn AV.str v0).length+[AV.str (q.extract v1.toNat v2.toNat)].length))] [(0,Wn AV.str v0++[AV.str (q.extract v1.toNat v2.toNat)])] (FO q (.l0 (v0++[q.extract v1.toNat v2.toNat]) ((-1:Int)) (i64.wrap (v2+1))))) (b4 a11 t6) (by simp[up,upF,upV,upH,upB,FO,gL,boL,lI,stA]))) (fun a5=>.rb [36,52,102] (af a5 s2) <|.br (fun a6=>.tc [36,52,119] [] [0] (bF a6 bY (show v0.length=(Wn AV.str v0).length by simp))) (fun a6=>.pa [36,52,118] [0] [0,4,5,6] (b4 a6 t6)))))) (fun a0=>.tc [22] [] [0] (bF a0 bY (show v0.length=(Wn AV.str v0).length by simp)))) (by kernel_rfl)) (fun o ho=>Scr.ok (X:=fieEn q) ho mix (.pb [] [] [] [(4,1)] [0] [0,4,5,6] (ar t3 aE t6)) (by kernel_rfl)) h
def FiP(n:Nat):Type:={p:Option (List ByteArray)×Int // ∀l,p.1=some l->∀s∈l,s.size<=n}
def fiR{n:Nat}(p:FiP n):Ret:=([],.tup [match p.1.1 with | none=>.nils | some l=>.lst (l.map AV.str),.int .i64 p.1.2])
theorem LS(q:ByteArray)(a b:Nat):(q.extract a b).size<=q.size:=by rw[ByteArray.size_extract];omega
theorem ME{n:Nat}{l:List ByteArray}{s:ByteArray}(h:∀x∈l,x.size<=n)(hs:s.size<=n):∀x∈l++[s],x.size<=n:=fun x hx=>by
 rcases VZ.1 hx with hx | hx
 .exact h x hx
 .rw[Vn.1 hx];exact hs
theorem Lh{n:Nat}{step:Dw->Option (Dw⊕Ret)}{l:List ByteArray}{e:Int}{y:AV}(hy:y = .lst (l.map AV.str))(h:∀x∈l,x.size<=n):∃p:FiP n,Ac step (some (.inr ([],.tup [y,.int .i64 e]))) (fiR p):=⟨⟨(some l,e),fun l' hl=>by cases hl;exact h⟩,by subst hy;exact .ret _⟩
theorem M7{n:Nat}{step:Dw->Option (Dw⊕Ret)}{e:Int}:∃p:FiP n,Ac step (some (.inr ([],.tup [.nils,.int .i64 e]))) (fiR p):=⟨⟨(none,e),fun l' hl=>by cases hl⟩,.ret _⟩
theorem mapS(l:List ByteArray)(s:ByteArray):Wn AV.str l++[AV.str s] = .map AV.str (l++[s]):=by simp
theorem fie_loop(q:ByteArray)(hq:q.size<=1000000):∀(d i:Nat) (l:List ByteArray) (a:Int),i+d=q.size->l.length<=i->(∀x∈l,x.size<=q.size)->-1<=a->a<=(i:Int)->∃p:FiP q.size,Ac (GB q) (some (.inl (.l0 l a (i:Int)))) (fiR p):=by
 intro d;induction d with
 | zero=>intro i l a hi hl hs h0 h1;refine Az (show GB q (.l0 l a (i:Int))=Jc q l a i from rfl) ?_;unfold Jc;rw[Ah (VB (by simp only[iN];omega)),Ah (by simp only[iN,beq_iff_eq];omega)];refine Ak (fun h=>?_) (fun _=>Lh rfl hs);have h:=of_decide_eq_true h;rw[Ab h,Ab h1,Ab (by simp only[iN];omega),Ab (by simp only[Vy,V9];omega),Ab (by simp only[Vy,V9];omega)];exact Lh (congrArg Wt (mapS _ _)) (ME hs (LS _ _ _))
 | succ d ih=>
  intro i l a hi hl hs h0 h1;refine Az (show GB q (.l0 l a (i:Int))=Jc q l a i from rfl) ?_;have nx:∀(l':List ByteArray) (a':Int),l'.length<=i+1->(∀x∈l',x.size<=q.size)->-1<=a'->a'<=(i:Int)->∃p:FiP q.size,Ac (GB q) (some (.inl (.l0 l' a' ((i+1:Nat):Int)))) (fiR p):=fun l' a' g1 g2 g3 g4=>ih (i+1) l' a' (by omega) g1 g2 g3 (by omega)
  have sep:∀b:Bool,∃p:FiP q.size,Ac (GB q) (br (decide (0<=a)) (gu (0<=a) <| gu (a<=(i:Int)) <| gu ((i:Int)<=iN q.size) <| gu ((Wn AV.str l).length+[AV.str (q.extract a.toNat (i:Int).toNat)].length<=9223372036854775807) <| gu (((Wn AV.str l).length+[AV.str (q.extract a.toNat (i:Int).toNat)].length) * 16<=140737488355328) <|
    br b (some (.inr ([],AV.tup [Wt (Wn AV.str l++[AV.str (q.extract a.toNat (i:Int).toNat)]),AV.int i64 0]))) (some (.inl (.l0 (l++[q.extract a.toNat (i:Int).toNat]) ((-1:Int)) ((i+1:Nat):Int)))))
    (br b (some (.inr ([],AV.tup [Wt (Wn AV.str l),AV.int i64 0]))) (some (.inl (.l0 l a ((i+1:Nat):Int)))))) (fiR p):=by
   intro b;refine Ak (fun h=>?_) (fun _=>Ak (fun _=>Lh rfl hs) (fun _=>nx l a (by omega) hs h0 h1));have h:=of_decide_eq_true h;rw[Ab h,Ab h1,Ab (by simp only[iN];omega),Ab (by simp only[Vy,V9];omega),Ab (by simp only[Vy,V9];omega)];exact Ak (fun _=>Lh (congrArg Wt (mapS _ _)) (ME hs (LS _ _ _))) (fun _=>nx _ _ (by simp;omega) (ME hs (LS _ _ _)) (by omega) (by omega))
  unfold Jc;rw[Ah (VB (by simp only[iN];omega)),Ad (by simp only[iN,V6];omega),Ab (by omega),Ab (by simp only[iN];omega),Bi i (by omega)];refine Ak (fun _=>Ak (fun _=>Ak (fun _=>Ak (fun _=>M7) (fun _=>Ak (fun _=>Ak (fun _=>M7) (fun _=>nx _ _ (by omega) hs (by omega) (by omega))) (fun _=>Ak (fun _=>M7) (fun _=>nx _ _ (by omega) hs h0 h1)))) (fun _=>sep _)) (fun _=>sep _)) (fun _=>sep _)
theorem CT.nl{f:FuncId}{hin hout:List (Option Blk)}{args:List AV}{x:AV}(h:CT Wu f hin args hout (.tup [.nils,x])):CT Wu f hin args hout (.tup [.lst [],x]):=h.less fun φ A w v hv=>by
 obtain⟨vs,rfl,hn,hh⟩:=hv.tup_inv;refine .tup _ _ (by simpa using hn) fun i c u hc hu=>?_
 match i,hc with
 | 0,hc=>cases hc;rw[(hh 0 _ u rfl hu).nils_inv];exact .imm _ _ (.lnil none)
 | 1,hc=>cases hc;exact hh 1 _ u rfl hu
 | j+2,hc=>cases hc
theorem M4(q:ByteArray):∃p:List ByteArray×Int,q.size<=1000000->(∀s∈p.1,s.size<=q.size)/\CT Wu 93 [] [.str q] [] (.tup [.lst (p.1.map stA),.int .i64 p.2]):=by
 by_cases h:q.size<=1000000
 .obtain⟨⟨⟨o,e⟩,hp⟩,hm⟩:=fie_loop q h q.size 0 [] (-1) (by omega) (by simp) (fun x hx=>by cases hx) (by omega) (by omega);have k:=fie_ct q _ hm;cases o with
  | none=>exact⟨([],e),fun _=>⟨fun s hs=>absurd hs (by simp),CT.nl k⟩⟩
  | some l=>exact⟨(l,e),fun _=>⟨hp l rfl,k⟩⟩
 .exact⟨([],0),fun q=>absurd q h⟩
@[irreducible] def Br(q:ByteArray):List ByteArray:=(Classical.choose (M4 q)).1
@[irreducible] def Ec(q:ByteArray):Int:=(Classical.choose (M4 q)).2
theorem S9{q:ByteArray}(h:q.size<=1000000):(∀s∈Br q,s.size<=q.size)/\CT Wu 93 [] [.str q] [] (.tup [.lst ((Br q).map stA),.int .i64 (Ec q)]):=by unfold Br Ec;exact V8 (M4 q) h
theorem fie_c(q:ByteArray)(h:q.size<=1000000):CT Wu 93 [] [.str q] [] (.tup [.lst ((Br q).map stA),.int .i64 (Ec q)]):=(S9 h).2
inductive Dn where | l0 (v0:List LnD) (v1 v2 v3:Int)
def Ju(q:ByteArray):Dn->St | .l0 v0 v1 v2 v3=>St.mk 56 [(0,AV.str q),(5,AV.sl 0 0 v0.length),(6,iv v1),(7,iv v2),(8,iv v3)] [some (bK (Wn lnA v0) 2)]
def KR(q:ByteArray):Option (Dn⊕Ret):=br (decide (6000<iN q.size)) (some (.inr ([],AV.tup [AV.nils,iV 0,iV 1]))) (some (.inl (.l0 ([]) ((1:Int)) ((0:Int)) ((0:Int)))))
def IH(q:ByteArray)(v0:List LnD)(v1 v2 v3:Int):Option (Dn⊕Ret):=br (decide (v3<=iN q.size)) (br (decide (v3<iN q.size)) (gu (0<=v3) <|gu (v3<iN q.size) <|br (bAt q v3.toNat != 10) (some (.inl (.l0 v0 v1 v2 (i64.wrap (v3+1))))) (gu (0<=v2) <|gu (v2<=v3) <|gu (v3<=iN q.size) <|gu ((q.extract v2.toNat v3.toNat).size<=1000000) <|br (Ec (q.extract v2.toNat v3.toNat) != 0) (some (.inr ([],AV.tup [AV.nils,iV v1,iV (Ec (q.extract v2.toNat v3.toNat))]))) (br (decide (0<iN (Wn stA (Br (q.extract v2.toNat v3.toNat))).length)) (gu ((Wn lnA v0).length+[AV.agg [iV v1,Wt (Wn stA (Br (q.extract v2.toNat v3.toNat)))]].length<=9223372036854775807) <|gu (((Wn lnA v0).length+[AV.agg [iV v1,Wt (Wn stA (Br (q.extract v2.toNat v3.toNat)))]].length) * 32<=140737488355328) <|some (.inl (.l0 (v0++[LnD.mk v1 (Br (q.extract v2.toNat v3.toNat))]) (i64.wrap (v1+1)) (i64.wrap (v3+1)) (i64.wrap (v3+1))))) (some (.inl (.l0 v0 (i64.wrap (v1+1)) (i64.wrap (v3+1)) (i64.wrap (v3+1)))))))) (gu (0<=v2) <|gu (v2<=v3) <|gu (v3<=iN q.size) <|gu ((q.extract v2.toNat v3.toNat).size<=1000000) <|br (Ec (q.extract v2.toNat v3.toNat) != 0) (some (.inr ([],AV.tup [AV.nils,iV v1,iV (Ec (q.extract v2.toNat v3.toNat))]))) (br (decide (0<iN (Wn stA (Br (q.extract v2.toNat v3.toNat))).length)) (gu ((Wn lnA v0).length+[AV.agg [iV v1,Wt (Wn stA (Br (q.extract v2.toNat v3.toNat)))]].length<=9223372036854775807) <|gu (((Wn lnA v0).length+[AV.agg [iV v1,Wt (Wn stA (Br (q.extract v2.toNat v3.toNat)))]].length) * 32<=140737488355328) <|some (.inl (.l0 (v0++[LnD.mk v1 (Br (q.extract v2.toNat v3.toNat))]) (i64.wrap (v1+1)) (i64.wrap (v3+1)) (i64.wrap (v3+1))))) (some (.inl (.l0 v0 (i64.wrap (v1+1)) (i64.wrap (v3+1)) (i64.wrap (v3+1)))))))) (some (.inr ([],AV.tup [Wt (Wn lnA v0),iV 0,iV 0])))
def HJ(q:ByteArray):Dn->Option (Dn⊕Ret) | .l0 v0 v1 v2 v3=>IH q v0 v1 v2 v3
theorem lns_ct(q:ByteArray)(r:Ret)(h:Ac (HJ q) (KR q) r):CT Wu 36 ([]) ([.str q]) r.1 r.2:=CT.mach (fn:=Tryz.f36) (c:=zB Tryz.f36) (S:=(Ju q)) (hd:=Dn.ctorIdx) Tryz.func36 (by kernel_rfl) (nL rfl) (fun s o ho=>match s,ho with | .l0 v0 v1 v2 v3,ho=>Scr.ok (X:=IH q v0 v1 v2 v3) ho mix (.ra cF <|.br (fun a0=>.br (fun a1=>.gu fun a2=>.gu fun a3=>.rb [35,49] (bX a0 (bD (ai a1 (cn a1 a2 a3 (bE a1))))) <|.br (fun a4=>.pa [49,59] [0] [0,5,6,7,8] (b4 a4 t7)) (fun a4=>.gu fun a5=>.gu fun a6=>.gu fun a7=>.gu fun a8=>have c0:=fie_c (q.extract v2.toNat v3.toNat) a8;.rv 1 [49,58] [] [(35,hK c0 [] [])] (ax a4 (am (ab (k3 (ab a5 a6 a7)) (aM (c0)) ba)) aw) <|.br (fun a9=>.ta [49,79] (aJ a9 (aa (ak aw)) t4)) (fun a9=>.rb [49,78] (af a9 aE) <|.br (fun a10=>.gu fun a11=>.gu fun a12=>.lq [49,89] [] [] [] [] [2] [0,5,6,7,8] (up [(5,AV.sl 0 0 ((Wn lnA v0).length+[AV.agg [iv v1,Wt (Wn stA (Br (q.extract v2.toNat v3.toNat)))]].length))] [(0,Wn lnA v0++[AV.agg [iv v1,Wt (Wn stA (Br (q.extract v2.toNat v3.toNat)))]])] (Ju q (.l0 (v0++[LnD.mk v1 (Br (q.extract v2.toNat v3.toNat))]) (i64.wrap (v1+1)) (i64.wrap (v3+1)) (i64.wrap (v3+1))))) (ar a10 (ax (am (bD (aB (show(Wn lnA v0).length=v0.length by simp) (bv (show nat_lit 2=nat_lit 2 from rfl) (show 1<=[AV.agg [iv v1,Wt (Wn stA (Br (q.extract v2.toNat v3.toNat)))]].length by simp) a11 a12) s2))) (u2 ba) aE) t7) (by simp[up,upF,upV,upH,upB,Ju,gL,boL,lI,stA,lnA])) (fun a10=>.pa [49,88] [0] [0,5,6,7,8] (bm a10 (u2 ba) aE t7))))) (fun a1=>.rb [35,48] (bX a0 (bD (aC a1 (bW a1)))) <|.gu fun a2=>.gu fun a3=>.gu fun a4=>.gu fun a5=>have c0:=fie_c (q.extract v2.toNat v3.toNat) a5;.rv 1 [48] [] [(35,hK c0 [] [])] (bc (am (ab (k3 (ab a2 a3 a4)) (aM (c0)) ba)) aw) <|.br (fun a6=>.ta [48,79] (aJ a6 (aa (ak aw)) t4)) (fun a6=>.rb [48,78] (af a6 aE) <|.br (fun a7=>.gu fun a8=>.gu fun a9=>.lq [48,89] [] [] [] [] [2] [0,5,6,7,8] (up [(5,AV.sl 0 0 ((Wn lnA v0).length+[AV.agg [iv v1,Wt (Wn stA (Br (q.extract v2.toNat v3.toNat)))]].length))] [(0,Wn lnA v0++[AV.agg [iv v1,Wt (Wn stA (Br (q.extract v2.toNat v3.toNat)))]])] (Ju q (.l0 (v0++[LnD.mk v1 (Br (q.extract v2.toNat v3.toNat))]) (i64.wrap (v1+1)) (i64.wrap (v3+1)) (i64.wrap (v3+1))))) (ar a7 (ax (am (bD (aB (show(Wn lnA v0).length=v0.length by simp) (bv (show nat_lit 2=nat_lit 2 from rfl) (show 1<=[AV.agg [iv v1,Wt (Wn stA (Br (q.extract v2.toNat v3.toNat)))]].length by simp) a8 a9) s2))) (u2 ba) aE) t7) (by simp[up,upF,upV,upH,upB,Ju,gL,boL,lI,stA,lnA])) (fun a7=>.pa [48,88] [0] [0,5,6,7,8] (bm a7 (u2 ba) aE t7))))) (fun a0=>.tc [34] [] [0] (aJ a0 (aa t3) (aj (show v0.length=(Wn lnA v0).length by simp) t3)))) (by kernel_rfl)) (fun o ho=>Scr.ok (X:=KR q) ho mix (.rv 1 [] [] [] (af t4 aE) <|.br (fun a0=>.ta [27] (aJ a0 t4 t4)) (fun a0=>.pb [26] [] [] [(5,2)] [0] [0,5,6,7,8] (ar a0 (aG t3 s2) t7))) (by kernel_rfl)) h
def Kh(l:List LnD):Prop:=∀x∈l,x.f≠[]/\∀s∈x.f,s.size<=6000
def LnP:Type:={p:Option (List LnD)×Int×Int // ∀l,p.1=some l->Kh l}
def lnR(p:LnP):Ret:=([],.tup [match p.1.1 with | none=>.nils | some l=>.lst (l.map lnA),.int .i64 p.1.2.1,.int .i64 p.1.2.2])
theorem ln_ok{step:Dn->Option (Dn⊕Ret)}{l:List LnD}{a e:Int}(h:Kh l):∃p:LnP,Ac step (some (.inr ([],.tup [.lst (l.map lnA),.int .i64 a,.int .i64 e]))) (lnR p):=⟨⟨(some l,a,e),fun l' hl=>by cases hl;exact h⟩,.ret _⟩
theorem ln_no{step:Dn->Option (Dn⊕Ret)}{a e:Int}:∃p:LnP,Ac step (some (.inr ([],.tup [.nils,.int .i64 a,.int .i64 e]))) (lnR p):=⟨⟨(none,a,e),fun l' hl=>by cases hl⟩,.ret _⟩
theorem lns_loop(q:ByteArray)(hq:q.size<=6000):∀(d i:Nat) (l:List LnD) (a b:Int),i+d=q.size+1->l.length<=i->Kh l->0<=b->b<=(i:Int)->∃p:LnP,Ac (HJ q) (some (.inl (.l0 l a b (i:Int)))) (lnR p):=by
 intro d;induction d with
 | zero=>intro i l a b hi hl hs h0 h1;refine Az (show HJ q (.l0 l a b (i:Int))=IH q l a b i from rfl) ?_;unfold IH;rw[Ad (VA (by simp only[iN];omega))];exact ln_ok hs
 | succ d ih=>
  intro i l a b hi hl hs h0 h1;refine Az (show HJ q (.l0 l a b (i:Int))=IH q l a b i from rfl) ?_;have hx:=LS q b.toNat (i:Int).toNat;have hsp:=(S9 (q:=q.extract b.toNat (i:Int).toNat) (by omega)).1
  have tail:∃p:LnP,Ac (HJ q) (gu (0<=b) <| gu (b<=(i:Int)) <| gu ((i:Int)<=iN q.size) <| gu ((q.extract b.toNat (i:Int).toNat).size<=1000000) <|
    br (Ec (q.extract b.toNat (i:Int).toNat) != 0) (some (.inr ([],AV.tup [AV.nils,AV.int i64 a,AV.int i64 (Ec (q.extract b.toNat (i:Int).toNat))])))
    (br (decide (0<iN (Wn stA (Br (q.extract b.toNat (i:Int).toNat))).length))
     (gu ((Wn lnA l).length+[AV.agg [AV.int i64 a,Wt (Wn stA (Br (q.extract b.toNat (i:Int).toNat)))]].length<=9223372036854775807) <|
      gu (((Wn lnA l).length+[AV.agg [AV.int i64 a,Wt (Wn stA (Br (q.extract b.toNat (i:Int).toNat)))]].length) * 32<=140737488355328) <|
      some (.inl (.l0 (l++[LnD.mk a (Br (q.extract b.toNat (i:Int).toNat))]) (i64.wrap (a+1)) (i64.wrap ((i:Int)+1)) (i64.wrap ((i:Int)+1)))))
     (some (.inl (.l0 l (i64.wrap (a+1)) (i64.wrap ((i:Int)+1)) (i64.wrap ((i:Int)+1))))))) (lnR p):=by
   rw[Ab h0,Ab h1,Ab (by simp only[iN];omega),Ab (by omega),Bi i (by omega)];refine Ak (fun _=>ln_no) (fun _=>Ak (fun h=>?_) (fun _=>ih (i+1) l _ _ (by omega) (by omega) hs (by omega) (by omega)));have h:=of_decide_eq_true h;rw[Ab (by simp only[Vy,V9];omega),Ab (by simp only[Vy,V9];omega)];refine ih (i+1) _ _ _ (by omega) (by simp;omega) (fun x hx'=>?_) (by omega) (by omega);rcases VZ.1 hx' with hx' | hx'
   .exact hs x hx'
   .rw[Vn.1 hx'];refine⟨fun e=>?_,fun s hs'=>Wd (hsp s hs') (by omega)⟩;have e:Br (q.extract b.toNat (i:Int).toNat)=[]:=e;rw[e] at h;simp[iN] at h
  unfold IH;rw[Ah (VB (by simp only[iN];omega))];by_cases hlt:i<q.size
  .rw[Ah (VB (by simp only[iN];omega)),Ab (by omega),Ab (by simp only[iN];omega)];refine Ak (fun _=>?_) (fun _=>tail);rw[Bi i (by omega)];exact ih (i+1) l a b (by omega) (by omega) hs h0 (by omega)
  .rw[Ad (VA (by simp only[iN];omega))];exact tail
theorem CT.nl3{f:FuncId}{hin hout:List (Option Blk)}{args:List AV}{x y:AV}(h:CT Wu f hin args hout (.tup [.nils,x,y])):CT Wu f hin args hout (.tup [.lst [],x,y]):=h.less fun φ A w v hv=>by
 obtain⟨vs,rfl,hn,hh⟩:=hv.tup_inv;refine .tup _ _ (by simpa using hn) fun i c u hc hu=>?_
 match i,hc with
 | 0,hc=>cases hc;rw[(hh 0 _ u rfl hu).nils_inv];exact .imm _ _ (.lnil none)
 | 1,hc=>cases hc;exact hh 1 _ u rfl hu
 | 2,hc=>cases hc;exact hh 2 _ u rfl hu
 | j+3,hc=>cases hc
theorem LG(q:ByteArray):∃p:List LnD×Int×Int,Kh p.1/\CT Wu 36 [] [.str q] [] (.tup [.lst (p.1.map lnA),.int .i64 p.2.1,.int .i64 p.2.2]):=by
 have:∃p:LnP,Ac (HJ q) (KR q) (lnR p):=by unfold KR;refine Ak (fun _=>ln_no) (fun h=>?_);have h:=of_decide_eq_false h;simp only[iN] at h;exact lns_loop q (by omega) (q.size+1) 0 [] 1 0 (by omega) (by simp) (fun x hx=>by cases hx) (by omega) (by omega)
 obtain⟨⟨⟨o,a,e⟩,hp⟩,hm⟩:=this;have k:=lns_ct q _ hm;cases o with
 | none=>exact⟨([],a,e),fun x hx=>absurd hx (by simp),CT.nl3 k⟩
 | some l=>exact⟨(l,a,e),hp l rfl,k⟩
@[irreducible] def FQ(q:ByteArray):List LnD:=(Classical.choose (LG q)).1
@[irreducible] def lnsQ(q:ByteArray):Int:=(Classical.choose (LG q)).2.1
@[irreducible] def Md(q:ByteArray):Int:=(Classical.choose (LG q)).2.2
theorem Q9(q:ByteArray):Kh (FQ q)/\CT Wu 36 [] [.str q] [] (.tup [.lst ((FQ q).map lnA),.int .i64 (lnsQ q),.int .i64 (Md q)]):=by unfold FQ lnsQ Md;exact V8 (LG q)
theorem lns_c(q:ByteArray):CT Wu 36 [] [.str q] [] (.tup [.lst ((FQ q).map lnA),.int .i64 (lnsQ q),.int .i64 (Md q)]):=(Q9 q).2
structure CmD where
 k:Int
 a:ByteArray
 b:ByteArray
 q:Int
def cmA(x:CmD):AV:=.agg [.int .i64 x.k,.str x.a,.str x.b,.int .i64 x.q]
inductive Ii where | l0 (v0:LnD) (v1:Int) (v2:Bool) (v3 v4:Int)
def parSt(q:ByteArray):Ii->St | .l0 v0 v1 v2 v3 v4=>St.mk 99 [(2,AV.ptr 0 0 0),(6,Wt (Wn stA v0.f)),(8,iv v1),(9,bV v2),(11,AV.ptr 1 0 0),(12,iv v3)] [some (bK [AV.agg [iv 0,AV.str (ByteArray.mk #[]),AV.str (ByteArray.mk #[]),iv 0]] 4),some (bK [AV.agg [iv v4,AV.str (ByteArray.mk #[]),AV.str (ByteArray.mk #[]),iv 0]] 4)]
def LF(q:ByteArray):Option (Ii⊕Ret):=br (Md q != 0) (some (.inr ([],AV.agg [iV 0,AV.str (ByteArray.mk #[]),AV.str (ByteArray.mk #[]),iV 0]))) (br (iN (Wn lnA (FQ q)).length != 1) (some (.inr ([],AV.agg [iV 0,AV.str (ByteArray.mk #[]),AV.str (ByteArray.mk #[]),iV 0]))) (el (FQ q) (Ws 0) fun(x30:LnD)=>el (x30.f) (Ws 0) fun(x35:ByteArray)=>br (FM x35) (br (Dk x35==0) (some (.inr ([],AV.agg [iV 0,AV.str (ByteArray.mk #[]),AV.str (ByteArray.mk #[]),iV 0]))) (br (iN (Wn stA x30.f).length != i64.wrap (1+i64.wrap (Ch x35+1))) (some (.inr ([],AV.agg [iV 0,AV.str (ByteArray.mk #[]),AV.str (ByteArray.mk #[]),iV 0]))) (some (.inl (.l0 x30 (Ch x35) (FM x35) ((1:Int)) (Dk x35)))))) (br (Dk x35==0) (some (.inr ([],AV.agg [iV 0,AV.str (ByteArray.mk #[]),AV.str (ByteArray.mk #[]),iV 0]))) (br (iN (Wn stA x30.f).length != i64.wrap (1+Ch x35)) (some (.inr ([],AV.agg [iV 0,AV.str (ByteArray.mk #[]),AV.str (ByteArray.mk #[]),iV 0]))) (some (.inl (.l0 x30 (Ch x35) (FM x35) ((1:Int)) (Dk x35))))))))
def Hf(q:ByteArray)(v0:LnD)(v1:Int)(v2:Bool)(v3 v4:Int):Option (Ii⊕Ret):=br (decide (v3<=v1)) (gu (0<=v3) <|el (v0.f) (v3.toNat) fun(x64:ByteArray)=>br (!nmB x64) (some (.inr ([],AV.agg [iV 0,AV.str (ByteArray.mk #[]),AV.str (ByteArray.mk #[]),iV 0]))) (some (.inl (.l0 v0 v1 v2 (i64.wrap (v3+1)) v4)))) (br (decide (0<v1)) (el (v0.f) (Ws 1) fun(x72:ByteArray)=>br (decide (1<v1)) (el (v0.f) (Ws 2) fun(x78:ByteArray)=>br v2 (el (v0.f) (Ws 1) fun(x84:ByteArray)=>gu (x84.size<=1000000) <|br (!Ik x84) (some (.inr ([],AV.agg [iV 0,AV.str (ByteArray.mk #[]),AV.str (ByteArray.mk #[]),iV 0]))) (br (decide (Dr x84<0)) (some (.inr ([],AV.agg [iV 0,AV.str (ByteArray.mk #[]),AV.str (ByteArray.mk #[]),iV 0]))) (some (.inr ([],AV.agg [iV v4,AV.str x72,AV.str x78,iV (Dr x84)]))))) (some (.inr ([],AV.agg [iV v4,AV.str x72,AV.str x78,iV 0])))) (br v2 (el (v0.f) (Ws 1) fun(x84:ByteArray)=>gu (x84.size<=1000000) <|br (!Ik x84) (some (.inr ([],AV.agg [iV 0,AV.str (ByteArray.mk #[]),AV.str (ByteArray.mk #[]),iV 0]))) (br (decide (Dr x84<0)) (some (.inr ([],AV.agg [iV 0,AV.str (ByteArray.mk #[]),AV.str (ByteArray.mk #[]),iV 0]))) (some (.inr ([],AV.agg [iV v4,AV.str x72,AV.str (ByteArray.mk #[]),iV (Dr x84)]))))) (some (.inr ([],AV.agg [iV v4,AV.str x72,AV.str (ByteArray.mk #[]),iV 0]))))) (br (decide (1<v1)) (el (v0.f) (Ws 2) fun(x78:ByteArray)=>br v2 (el (v0.f) (Ws 1) fun(x84:ByteArray)=>gu (x84.size<=1000000) <|br (!Ik x84) (some (.inr ([],AV.agg [iV 0,AV.str (ByteArray.mk #[]),AV.str (ByteArray.mk #[]),iV 0]))) (br (decide (Dr x84<0)) (some (.inr ([],AV.agg [iV 0,AV.str (ByteArray.mk #[]),AV.str (ByteArray.mk #[]),iV 0]))) (some (.inr ([],AV.agg [iV v4,AV.str (ByteArray.mk #[]),AV.str x78,iV (Dr x84)]))))) (some (.inr ([],AV.agg [iV v4,AV.str (ByteArray.mk #[]),AV.str x78,iV 0])))) (br v2 (el (v0.f) (Ws 1) fun(x84:ByteArray)=>gu (x84.size<=1000000) <|br (!Ik x84) (some (.inr ([],AV.agg [iV 0,AV.str (ByteArray.mk #[]),AV.str (ByteArray.mk #[]),iV 0]))) (br (decide (Dr x84<0)) (some (.inr ([],AV.agg [iV 0,AV.str (ByteArray.mk #[]),AV.str (ByteArray.mk #[]),iV 0]))) (some (.inr ([],AV.agg [iV v4,AV.str (ByteArray.mk #[]),AV.str (ByteArray.mk #[]),iV (Dr x84)]))))) (some (.inr ([],AV.agg [iV v4,AV.str (ByteArray.mk #[]),AV.str (ByteArray.mk #[]),iV 0]))))))
def JE(q:ByteArray):Ii->Option (Ii⊕Ret) | .l0 v0 v1 v2 v3 v4=>Hf q v0 v1 v2 v3 v4
theorem par_ct(q:ByteArray)(r:Ret)(h:Ac (JE q) (LF q) r):CT Wu 10 ([]) ([.str q]) r.1 r.2:=CT.mach (fn:=Tryz.f10) (c:=zB Tryz.f10) (S:=(parSt q)) (hd:=Ii.ctorIdx) Tryz.func10 (by kernel_rfl) (nL rfl) (fun s o ho=>match s,ho with | .l0 v0 v1 v2 v3 v4,ho=>Scr.ok (X:=Hf q v0 v1 v2 v3 v4) ho mix (.ra (aR aD) <|.br (fun a0=>.gu fun a1=>.el fun x64 a2=>have c0:=Q1 (x64);.rd [119] [(64,stA x64)] [(66,hK c0 [] [])] (af a0 (bN a1 (Ae (f:=stA) a2) (cC (c0) s2))) <|.br (fun a3=>.ta [135] (aJ a3 aS t5)) (fun a3=>.pa [134] [0,1] [2,6,8,9,11,12] (b4 a3 t9))) (fun a0=>.rb [118] (bx a0) <|.br (fun a1=>.el fun x72 a2=>.rv 1 [141] [(72,stA x72)] [] (ax a1 (aG (aU (show(0:Int)<=(1:Int) from(by first | exact nL rfl | decide)) (Ae (f:=stA) a2)) cM) aw) <|.br (fun a3=>.el fun x78 a4=>.rv 1 [153] [(78,stA x78)] [] (ax a3 (aG (aU (show(0:Int)<=(2:Int) from(by first | exact nL rfl | decide)) (Ae (f:=stA) a4)) cM) s2) <|.br (fun a5=>.el fun x84 a6=>.gu fun a7=>have c0:=KT x84 a7;.rd [163] [(84,stA x84)] [(86,hK c0 [] [])] (af a5 (aG (aU (show(0:Int)<=(1:Int) from(by first | exact nL rfl | decide)) (Ae (f:=stA) a6)) (cC (c0) ba))) <|.br (fun a8=>.ta [183] (af (cE (am (bW a8)) aS) t5)) (fun a8=>.rb [182] (aL (ai a8 (bE a8))) <|.br (fun a9=>.ta [182,189] (aJ a9 aS t5)) (fun a9=>.ta [182,188] (af (ax a9 cM cu) t5)))) (fun a5=>.ta [162] (aJ a5 cu t5))) (fun a3=>.rb [152] (af a3 s2) <|.br (fun a4=>.el fun x84 a5=>.gu fun a6=>have c0:=KT x84 a6;.rd [163] [(84,stA x84)] [(86,hK c0 [] [])] (af a4 (aG (aU (show(0:Int)<=(1:Int) from(by first | exact nL rfl | decide)) (Ae (f:=stA) a5)) (cC (c0) ba))) <|.br (fun a7=>.ta [183] (af (cE (am (bW a7)) aS) t5)) (fun a7=>.rb [182] (aL (ai a7 (bE a7))) <|.br (fun a8=>.ta [182,189] (aJ a8 aS t5)) (fun a8=>.ta [182,188] (af (ax a8 cM cu) t5)))) (fun a4=>.ta [162] (aJ a4 cu t5)))) (fun a1=>.rb [140] (bx a1) <|.br (fun a2=>.el fun x78 a3=>.rv 1 [153] [(78,stA x78)] [] (ax a2 (aG (aU (show(0:Int)<=(2:Int) from(by first | exact nL rfl | decide)) (Ae (f:=stA) a3)) cM) s2) <|.br (fun a4=>.el fun x84 a5=>.gu fun a6=>have c0:=KT x84 a6;.rd [163] [(84,stA x84)] [(86,hK c0 [] [])] (af a4 (aG (aU (show(0:Int)<=(1:Int) from(by first | exact nL rfl | decide)) (Ae (f:=stA) a5)) (cC (c0) ba))) <|.br (fun a7=>.ta [183] (af (cE (am (bW a7)) aS) t5)) (fun a7=>.rb [182] (aL (ai a7 (bE a7))) <|.br (fun a8=>.ta [182,189] (aJ a8 aS t5)) (fun a8=>.ta [182,188] (af (ax a8 cM cu) t5)))) (fun a4=>.ta [162] (aJ a4 cu t5))) (fun a2=>.rb [152] (af a2 s2) <|.br (fun a3=>.el fun x84 a4=>.gu fun a5=>have c0:=KT x84 a5;.rd [163] [(84,stA x84)] [(86,hK c0 [] [])] (af a3 (aG (aU (show(0:Int)<=(1:Int) from(by first | exact nL rfl | decide)) (Ae (f:=stA) a4)) (cC (c0) ba))) <|.br (fun a6=>.ta [183] (af (cE (am (bW a6)) aS) t5)) (fun a6=>.rb [182] (aL (ai a6 (bE a6))) <|.br (fun a7=>.ta [182,189] (aJ a7 aS t5)) (fun a7=>.ta [182,188] (af (ax a7 cM cu) t5)))) (fun a3=>.ta [162] (aJ a3 cu t5)))))) (by kernel_rfl)) (fun o ho=>Scr.ok (X:=LF q) ho mix (have c0:=lns_c (q);.rv 1 [] [] [(17,hK c0 [] [])] (bo (cC (c0) (aa ba))) <|.br (fun a0=>.ta [47] (af (cE (bb a0 (bW a0)) aS) t5)) (fun a0=>.rb [46] (aL (bt a0 (bE a0))) <|.br (fun a1=>.ta [46,55] (aJ a1 aS t5)) (fun a1=>.el fun x30 a2=>.rd [46,54] [(30,lnA x30)] [] (af a1 (aG (aU (Int.le_refl 0) (Ae (f:=lnA) a2)) aE)) <|.el fun x35 a3=>have c1:=kin_c (x35);.rv 2 [46] [(35,stA x35)] [(37,hK c1 [] [])] (ax (aG (aU (Int.le_refl 0) (Ae (f:=stA) a3)) (cC (c1) (aa ba))) aw s2) <|.br (fun a4=>.rb [46,85] (af a4 aE) <|.br (fun a5=>.ta [46,95] (af (cE (bb a5 (aC a5 (bW a5))) aS) t5)) (fun a5=>.rb [46,94] (aL (aI a5 (bT a5 t3 a5))) <|.br (fun a6=>.ta [46,94,107] (aJ a6 aS t5)) (fun a6=>.pa [46,94,106] [0,1] [2,6,8,9,11,12] (aj (ab a6 (aa aS) s2) t9)))) (fun a4=>.br (fun a5=>.ta [46,84,95] (af (cf a4 (bb a5 (aC a5 (bW a5))) aS) t5)) (fun a5=>.rb [46,84,94] (bX a4 (aI a5 (bT a5 t3 a5))) <|.br (fun a6=>.ta [46,94,107] (aJ a6 aS t5)) (fun a6=>.pa [46,94,106] [0,1] [2,6,8,9,11,12] (aj (ab a6 (aa aS) s2) t9))))))) (by kernel_rfl)) h
inductive F9 where | l0 (v0:Int) | l1 (v0:Int) (v1:Au) (v2:Int)
def plSt(n:Aa)(c:Int):F9->St | .l0 v0=>St.mk 37 [(1,iv c),(6,iv (-1)),(7,iv 0),(12,Wt (Wn sA n.ss)),(13,iv (iN (Wn sA n.ss).length)),(14,iv v0)] [] | .l1 v0 v1 v2=>St.mk 37 [(1,iv c),(6,iv (-1)),(7,iv 0),(8,iv v0),(9,AV.ptr 0 0 0),(12,Wt (Wn sA n.ss)),(13,iv (iN (Wn sA n.ss).length)),(14,iv v0),(20,iv v1.k),(21,iv v2)] [some (bK [sA v1] 6)]
def plEn(n:Aa)(c:Int):Option (F9⊕Ret):=some (.inl (.l0 ((0:Int))))
def Hw(n:Aa)(c v0:Int):Option (F9⊕Ret):=br (decide (v0<iN (Wn sA n.ss).length)) (gu (0<=v0) <|el (n.ss) (v0.toNat) fun(x17:Au)=>some (.inl (.l1 v0 x17 ((0:Int))))) (some (.inr ([],AV.tup [iV (-1),iV 0])))
def Ho(n:Aa)(c v0:Int)(v1:Au)(v2:Int):Option (F9⊕Ret):=br (decide (v2<v1.k)) (br (i64.wrap (v1.b+v2)==c) (some (.inr ([],AV.tup [iV v0,iV (i64.wrap (v2+1))]))) (some (.inl (.l1 v0 v1 (i64.wrap (v2+1)))))) (some (.inl (.l0 (i64.wrap (v0+1)))))
def QB(n:Aa)(c:Int):F9->Option (F9⊕Ret) | .l0 v0=>Hw n c v0 | .l1 v0 v1 v2=>Ho n c v0 v1 v2
theorem pl_ct(n:Aa)(c:Int)(r:Ret)(h:Ac (QB n c) (plEn n c) r):CT Wu 101 ([]) ([Ai n,.int .i64 c]) r.1 r.2:=CT.mach (fn:=Tryz.f101) (c:=zB Tryz.f101) (S:=(plSt n c)) (hd:=F9.ctorIdx) Tryz.func101 (by kernel_rfl) (nL rfl) (fun s o ho=>match s,ho with | .l0 v0,ho=>Scr.ok (X:=Hw n c v0) ho mix (.ra bG <|.br (fun a0=>.gu fun a1=>.el fun x17 a2=>.pb [31] [(17,sA x17)] [] [] [0] [1,6,7,8,9,12,13,14,20,21] (bm a0 (u2 (bH a1 (Ae (f:=sA) a2) (ak cu))) bY (k3 t9))) (fun a0=>.ta [30] (aJ a0 (am s2) t3))) (by kernel_rfl) | .l1 v0 v1 v2,ho=>Scr.ok (X:=Ho n c v0 v1 v2) ho mix (.ra bG <|.br (fun a0=>.rv 1 [45] [] [] (ax a0 aw (am (bD aD))) <|.br (fun a1=>.ta [59] (cw (ax a1 ba (am s2)))) (fun a1=>.pa [58] [0] [1,6,7,8,9,12,13,14,20,21] (cj a1 (k3 t9)))) (fun a0=>.pa [44] [] [1,6,7,12,13,14] (cj a0 t7))) (by kernel_rfl)) (fun o ho=>Scr.ok (X:=plEn n c) ho mix (.pa [] [] [1,6,7,12,13,14] (bm (u2 t3) t3 (am t2) t7)) (by kernel_rfl)) h
inductive Hy where | l0 (v0:Int)
def rplSt(n:Aa)(c:Int):Hy->St | .l0 v0=>St.mk 39 [(1,iv c),(2,AV.ptr 0 0 0),(6,iv v0)] [some (bK [Ai n] 8)]
def rplEn(n:Aa)(c:Int):Option (Hy⊕Ret):=some (.inl (.l0 ((0:Int))))
def HB(n:Aa)(c v0:Int):Option (Hy⊕Ret):=br (decide (v0<iN (Wn sA n.ss).length)) (gu (0<=v0) <|el (n.ss) (v0.toNat) fun(x18:Au)=>br (decide (x18.b<=c)) (br (decide (c<i64.wrap (x18.b+x18.k))) (some (.inr ([],AV.tup [iV v0,iV (i64.wrap (i64.wrap (c-x18.b)+1))]))) (some (.inl (.l0 (i64.wrap (v0+1)))))) (some (.inl (.l0 (i64.wrap (v0+1)))))) (some (.inr ([],AV.tup [iV (-1),iV 0])))
def SA(n:Aa)(c:Int):Hy->Option (Hy⊕Ret) | .l0 v0=>HB n c v0
theorem rpl_ct(n:Aa)(c:Int)(r:Ret)(h:Ac (SA n c) (rplEn n c) r):CT Wu 54 ([]) ([Ai n,.int .i64 c]) r.1 r.2:=CT.mach (fn:=Tryz.f54) (c:=zB Tryz.f54) (S:=(rplSt n c)) (hd:=Hy.ctorIdx) Tryz.func54 (by kernel_rfl) (nL rfl) (fun s o ho=>match s,ho with | .l0 v0,ho=>Scr.ok (X:=HB n c v0) ho mix (.ra cR <|.br (fun a0=>.gu fun a1=>.el fun x18 a2=>.rd [25] [(18,sA x18)] [] (bX a0 (bH a1 (Ae (f:=sA) a2) aS)) <|.br (fun a3=>.rb [49] (aL (bD (ag a3 (aI a3 (aV (aj a3 t3) (aj a3 t3) a3))))) <|.br (fun a4=>.ta [49,65] (aJ a4 (bP t3 aE) t3)) (fun a4=>.pa [49,64] [0] [1,2,6] (b4 a4 t5))) (fun a3=>.pa [48] [0] [1,2,6] (bI (bb t3 (aG a3 (aZ a3 (bW a3)))) aE t5))) (fun a0=>.ta [24] (aJ a0 t3 t3))) (by kernel_rfl)) (fun o ho=>Scr.ok (X:=rplEn n c) ho mix (.pa [] [0] [1,2,6] (cO (u2 t3) t5)) (by kernel_rfl)) h
def inP(c:Int)(s:Au):Bool:=decide (s.b<=c)&&decide (c<s.b+s.k)
def plB(n:Aa)(c:Int)(i:Nat):Bool:=match n.ss[i]? with | some s=>inP c s | none=>false
@[irreducible] def plF(n:Aa)(c:Int):Option Nat:=fnd (plB n c) 0 n.ss.length
def plI(n:Aa)(c:Int):Int:=match plF n c with | some i=>(i:Int) | none=> -1
def plJ(n:Aa)(c:Int):Int:=match plF n c with | some i=>c-(n.ss.getD i s0).b+1 | none=>0
theorem An.sb{n:Aa}(hv:An n){i:Nat}{s:Au}(h:n.ss[i]?=some s):1<=s.k/\s.k<=4/\1<=s.b/\s.b<=44/\s.b=AQ n i:=by have g:=hv.goodT i s h;have b:=hv.bd i;have nb:=hv.nb24;have ns:=hv.ns;have hl:=(Vx.1 h).1;have k:=g.hk;have e:=g.hb;exact⟨k.1,k.2,by omega,by omega,e⟩
theorem AA{p:Prop}[Decidable p](h:p):decide p=true:=VB h
theorem AB{p:Prop}[Decidable p](h:¬p):decide p=false:=VA h
theorem rpl_run{n:Aa}(hv:An n)(c:Int)(hc : -1000<=c/\c<=1000):∀(k i:Nat),i+k=n.ss.length->
  Ac (SA n c) (some (.inl (.l0 (i:Int)))) ([],.tup [.int .i64 (match fnd (plB n c) i k with | some i=>(i:Int) | none=> -1),.int .i64 (match fnd (plB n c) i k with | some i=>c-(n.ss.getD i s0).b+1 | none=>0)]):=by
 intro k;have ns:=hv.ns;induction k with
 | zero=>intro i hi;refine .go _ _ ?_;show Ac _ (HB n c i) _;unfold HB;rw[Ad (AB (by simp[iN];omega))];exact .ret _
 | succ k ih=>
  intro i hi;refine .go _ _ ?_;show Ac _ (HB n c i) _;unfold HB;obtain⟨s,hs⟩:∃s,n.ss[i]?=some s:=⟨_,Vv (by omega)⟩;have sb:=hv.sb hs;have hg:n.ss.getD i s0=s:=by rw[Vw,hs];rfl
  have ih':=ih (i+1) (by omega);rw[Ah (AA (by simp[iN];omega)),Ab (by omega),VE,Al hs];rw[A3 (s.b+s.k) (by omega) (by omega),zW i (by omega),A3 (c-s.b) (by omega) (by omega),A3 (c-s.b+1) (by omega) (by omega)];have hp:plB n c i=inP c s:=by unfold plB;rw[hs]
  simp only[fnd,hp];unfold inP;by_cases h1:s.b<=c
  .rw[Ah (AA h1)];by_cases h2:c<s.b+s.k
   .rw[Ah (AA h2),AA h1,AA h2];simp only[Bool.and_self,hg];exact .ret _
   .rw[Ad (AB h2),AB h2,Bool.and_false];exact ih'
  .rw[Ad (AB h1),AB h1,Bool.false_and];exact ih'
theorem TQ{n:Aa}(hv:An n)(c:Int)(hc : -1000<=c/\c<=1000):CT Wu 54 [] [Ai n,.int .i64 c] [] (.tup [.int .i64 (plI n c),.int .i64 (plJ n c)]):=by have h:=rpl_run hv c hc n.ss.length 0 (by omega);unfold plI plJ plF;exact rpl_ct n c _ h
theorem pl_run{n:Aa}(hv:An n)(c:Int)(hc : -1000<=c/\c<=1000):∀(k i:Nat),i+k=n.ss.length->
  Ac (QB n c) (some (.inl (.l0 (i:Int)))) ([],.tup [.int .i64 (match fnd (plB n c) i k with | some i=>(i:Int) | none=> -1),.int .i64 (match fnd (plB n c) i k with | some i=>c-(n.ss.getD i s0).b+1 | none=>0)]):=by
 intro k
 have ns:=hv.ns
 induction k with
 | zero=>
  intro i hi
  refine .go _ _ ?_
  show Ac _ (Hw n c i) _
  unfold Hw
  rw[Ad (AB (by simp[iN];omega))]
  exact .ret _
 | succ k ih=>
  intro i hi
  refine .go _ _ ?_
  show Ac _ (Hw n c i) _
  unfold Hw
  obtain⟨s,hs⟩:∃s,n.ss[i]?=some s:=⟨_,Vv (by omega)⟩
  have sb:=hv.sb hs
  have hg:n.ss.getD i s0=s:=by rw[Vw,hs];rfl
  have ih':=ih (i+1) (by omega)
  rw[Ah (AA (by simp[iN];omega)),Ab (by omega),VE,Al hs]
  have hp:plB n c i=inP c s:=by unfold plB;rw[hs]
  simp only[fnd,hp]
  -- the inner loop
  have inner:∀(m j:Nat),(j:Int)+m=s.k->(c<s.b\/s.b+j<=c)->Ac (QB n c) (some (.inl (.l1 (i:Int) s (j:Int)))) ([],.tup [.int .i64 (match (match inP c s with | true=>some i | false=>fnd (plB n c) (i+1) k) with | some i=>(i:Int) | none=> -1),.int .i64 (match (match inP c s with | true=>some i | false=>fnd (plB n c) (i+1) k) with | some i=>c-(n.ss.getD i s0).b+1 | none=>0)]):=by
   intro m
   induction m with
   | zero=>
    intro j hj hc'
    refine .go _ _ ?_
    show Ac _ (Ho n c i s j) _
    unfold Ho
    rw[Ad (AB (by omega)),zW i (by omega)]
    have:inP c s=false:=by unfold inP;simp;omega
    rw[this]
    exact ih'
   | succ m ihm=>
    intro j hj hc'
    refine .go _ _ ?_
    show Ac _ (Ho n c i s j) _
    unfold Ho
    rw[Ah (AA (by omega)),A3 (s.b+j) (by omega) (by omega),zW j (by omega)]
    by_cases he:s.b+(j:Int)=c
    .have:inP c s=true:=by unfold inP;simp;omega
     rw[Ah (by simp[he]),this]
     simp only[hg]
     have e2:((j+1:Nat):Int)=c-s.b+1:=by omega
     rw[e2]
     exact .ret _
    .rw[Ad (by simp[he])]
     exact ihm (j+1) (by omega) (by omega)
  exact inner s.k.toNat 0 (by omega) (by omega)
theorem place_ct{n:Aa}(hv:An n)(c:Int)(hc : -1000<=c/\c<=1000):CT Wu 101 [] [Ai n,.int .i64 c] [] (.tup [.int .i64 (plI n c),.int .i64 (plJ n c)]):=by have h:=pl_run hv c hc n.ss.length 0 (by omega);unfold plI plJ plF;exact pl_ct n c _ h
theorem Sq{σ ρ:Type}{step:σ->Option (σ⊕ρ)}(L:Nat->σ)(N:Nat)(p:Nat->Bool){rF:Nat->ρ}{r:ρ}
  (hb:∀i,i<N->p i=true->Ac step (some (.inl (L i))) (rF i))
  (hg:∀i x,i<N->p i=false->Ac step (some (.inl (L (i+1)))) x->Ac step (some (.inl (L i))) x)
  (he:fnd p 0 N=none->Ac step (some (.inl (L N))) r):Ac step (some (.inl (L 0))) (match fnd p 0 N with | some i=>rF i | none=>r):=by
 have key:∀k i,i+k=N->fnd p 0 N=fnd p i (N-i)->Ac step (some (.inl (L i))) (match fnd p i (N-i) with | some i=>rF i | none=>r):=by
  intro k;induction k with
  | zero=>intro i hi h0
          have e:i=N:=by omega
          subst e;rw[Q8 (by omega)] at h0 ⊢
          exact he h0
  | succ k ih=>
   intro i hi h0;have hlt:i<N:=by omega
   rw[R4 hlt] at h0 ⊢
   cases hp:p i with
   | true=>exact hb i hlt hp
   | false=>rw[hp] at h0;exact hg i _ hlt hp (ih (i+1) (by omega) h0)
 exact key N 0 (by omega) rfl
theorem nd_inj{l:List Int}(hn:l.Nodup){i j:Nat}(hi:i<l.length)(hj:j<l.length)(h:l.getD i 0=l.getD j 0):i=j:=by
 rw[Vw,Vv hi,Vw,Vv hj] at h;have hp:=List.pairwise_iff_getElem.1 hn;rcases Nat.lt_trichotomy i j with g | g | g
 .exact absurd h (hp i j hi hj g)
 .exact g
 .exact absurd h.symm (hp j i hj hi g)
theorem Tl{l:List Int}{x:Int}(h:l.Nodup)(hx:x∉l):(l++[x]).Nodup:=by rw[List.nodup_append];exact⟨h,by simp,fun a ha b hb e=>hx (by rw[<-Vn.1 hb,<-e];exact ha)⟩
theorem S4:∀{l d:List Int},l.Nodup->(∀x∈l,x∈d)->l.length<=d.length:=by
 intro l;induction l with
 | nil=>intro d _ _;simp
 | cons a l ih=>
  intro d hn hs;rw[List.nodup_cons] at hn;have ha:=hs a (by simp);have:=ih (d:=d.erase a) hn.2 fun x hx=>(List.mem_erase_of_ne (fun e=>hn.1 (by rw[<-e];exact hx))).2 (hs x (VN _ hx))
  rw[List.length_erase_of_mem ha] at this;have:0<d.length:=List.length_pos_of_mem ha;simp only[Wa];omega
def ckE(n:Aa)(c:Int):Int:=if A9 n=true then (if c<0\/(Am n:Int)<=c then 19 else 0) else 20
theorem An.ends{n:Aa}(hv:An n){i:Nat}{s:Au}(hs:n.ss[i]?=some s):0<=s.i/\s.i<Am n/\0<=s.o/\s.o<Am n/\s.b+s.k<=Am n:=by have g:=hv.goodT i s hs;have hc:=hv.cel;have hi:=g.hi;have ho:=g.ho;have hil:=(Vx.1 hs).1;have hm:=KO hv (i:=i+1) (j:=n.ss.length) (by omega) (VH _);rw[C1 hs,<-g.hb] at hm;exact⟨by omega,by omega,by omega,by omega,by omega⟩
def ckEn(n:Aa)(c:Int):Option (Empty⊕Ret):=gu (RwV n) <|br (!A9 n) (some (.inr ([],iV 20))) (br (decide (c<0)) (some (.inr ([],iV 19))) (gu (An n) <|br (decide (iN (Am n)<=c)) (some (.inr ([],iV 19))) (some (.inr ([],iV 0)))))
theorem ck_ct(n:Aa)(c:Int)(r:Ret)(h:Ac emT (ckEn n c) r):CT Wu 100 ([]) ([Ai n,.int .i64 c]) r.1 r.2:=CT.mach (fn:=Tryz.f100) (c:=zB Tryz.f100) (S:=emS) (hd:=emH) Tryz.func100 (by kernel_rfl) (nL rfl) (fun s o ho=>match s,ho with | x,_=>x.elim) (fun o ho=>Scr.ok (X:=ckEn n c) ho mix (.ra bR <|.gu fun a0=>have c0:=Gm a0;.rc [(7,hK c0 [] [])] (al (cQ t9 (c0) aw)) <|.br (fun a1=>.ta [11] (bO a1)) (fun a1=>.br (fun a2=>.ta [10,25] (az (ab a1 (am (aZ a2 (cc a2))) bn))) (fun a2=>.gu fun a3=>have c1:=OW a3;.rd [10,24] [] [(15,hK c1 [] [])] (bX a1 (ai a2 (bv a2 (bc t9 (c1)) (aj a2 t3) (cc a2)))) <|.br (fun a4=>.ta [24,19] (bO a4)) (fun a4=>.ta [24,18] (bO a4))))) (by kernel_rfl)) h
theorem ck_c(n:Aa)(c:Int)(hrw:RwV n):CT Wu 100 [] [Ai n,.int .i64 c] [] (.int .i64 (ckE n c)):=by
 refine ck_ct n c ([],_) (.val ?_);unfold ckEn ckE;rw[Ab hrw];by_cases hv:An n
 .rw[BF.2 hv,Vt rfl,Ad (by rfl)];by_cases h0:c<0
  .rw[Ah (AA h0),Vt (.inl h0)]
  .rw[Ad (AB h0),Ab hv];by_cases h1:(Am n:Int)<=c
   .rw[Ah (AA h1),Vt (.inr h1)]
   .rw[Ad (AB h1),Vu (by omega)]
 .rw[valB_f hv,Vu (by simp),Ah (by rfl)]
end Go.Proofs.YthjgbnbibebigaaGreat
namespace Go.AX
variable {P:Program}
inductive Bx (P:Program) (m:Nat):List Oper->St->St->Prop | nil (st:St):Bx P m [] st st | cons {o:Oper} {r:List Oper} {st st':St} {R:OpR} (hg:o.guard=none) (hop:Aq P o st.ev (nth st.hp) st.hp.length R) (hf:R.fits (nth st.hp)) (hd:∀b,b∈R.dead->m<=b) (hdst:∀d,o.dst=some d->d<st.n) (h:Bx P m r (st.app o.dst R) st'):Bx P m (o::r) st st'
theorem UY{m:Nat}{ops:Array Oper}{Q:Exit->Act->World->Prop}{A0:Nat->Prop}{n0:Nat}:∀{l:List Oper} {st st':St},Bx P m l st st'->
  ∀{φ:Phi} {a:Act} {w:World},m<=st.hp.length->Rel A0 n0 m φ st a w->
   (∀φ' a' w',m<=st'.hp.length->Rel A0 n0 m φ' st' a' w'->Tr m φ st.h w φ' st'.h w'->Q .normal a' w')->wpList P ops Q l a w:=by
 intro l st st' h;induction h with
 | nil st=>intro φ a w hm hr k;exact k φ a w hm hr (.refl _ _ _ _)
 | @cons o r st st' R hg hop hf hd hdst h ih=>
  intro φ a w hm hr k;have hm':m<=(st.app o.dst R).hp.length:=by simp[St.app,Er,DW];omega
  unfold wpList;rw[Vt (KW (φ:=φ) (A:=Ok A0 n0 φ st.h w) (w:=w) fun k want hk=>by rw[hg] at hk;cases hk)];left;refine hop φ (Ok A0 n0 φ st.h w) w a _ _ (fun r hA=>⟨hA.2.1,hA.2.2⟩) hr.ev hr.heap hr.out fun v' w' φ' he=>?_
  obtain⟨s1,s2⟩:=hr.step hm hd hdst hf he;exact ih hm' s1 fun φ2 a2 w2 g1 g2 g3=>k φ2 a2 w2 g1 g2 (s2.trans g3)
set_option linter.unusedVariables false in
theorem T.ops{m id:Nat}{ops:Array Oper}{st st':St}{post:Exit->St->Prop}(h:Bx P m ops.toList st st')(hpost:post .normal st'):T P m (.region id ops false) st post:=fun A0 n0 φ a w hm hr=>wp_region_list (UY h hm hr fun φ' a' w' g1 g2 g3=>⟨φ',_,hpost,g2,g1,g3⟩)
theorem H7:∀(l:List (Option Blk)) (i:Nat),BW [] [] i l=l | [],_=>rfl | x::r,i=>by simp only[BW,BJ,Bf];rw[H7 r]
theorem Pr(b:Nat):∀(l:List (Option Blk)) (i:Nat),i<=b->BW [b] [] i l=l.set (b-i) none
 | [],_,_=>by simp[BW]
 | x::r,i,h=>by
  simp only[BW,BJ,Bf];by_cases hb:b=i
  .subst hb;rw[Nat.beq_refl,Vf];have:∀(l:List (Option Blk)) (j:Nat),b<j->BW [b] [] j l=l:=by
    intro l;induction l with
    | nil=>intro j _;rfl
    | cons y r ih=>
     intro j hj;have hne:Nat.beq b j=false:=by cases hq:Nat.beq b j with | false=>rfl | true=>exact absurd (VC hq) (by omega)
     simp only[BW,BJ,Bf,hne];rw[ih (j+1) (by omega)]
   rw[this r (b+1) (by omega)];rfl
  .have hne:Nat.beq b i=false:=by cases hq:Nat.beq b i with | false=>rfl | true=>exact absurd (VC hq) hb
   rw[hne,Pr b r (i+1) (by omega),show b-i=(b-(i+1))+1 by omega];rfl
theorem S8(b:Nat)(blk:Blk):∀(l:List (Option Blk)) (i:Nat),i<=b->BW [] [(b,blk)] i l=l.set (b-i) (some blk)
 | [],_,_=>by simp[BW]
 | x::r,i,h=>by
  simp only[BW,BJ,Bf];by_cases hb:b=i
  .subst hb;rw[Nat.beq_refl,Vf];have:∀(l:List (Option Blk)) (j:Nat),b<j->BW [] [(b,blk)] j l=l:=by
    intro l;induction l with
    | nil=>intro j _;rfl
    | cons y r ih=>
     intro j hj;have hne:Nat.beq b j=false:=by cases hq:Nat.beq b j with | false=>rfl | true=>exact absurd (VC hq) (by omega)
     simp only[BW,BJ,Bf,hne];rw[ih (j+1) (by omega)]
   rw[this r (b+1) (by omega)];rfl
  .have hne:Nat.beq b i=false:=by cases hq:Nat.beq b i with | false=>rfl | true=>exact absurd (VC hq) hb
   rw[hne,S8 b blk r (i+1) (by omega),show b-i=(b-(i+1))+1 by omega];rfl
variable {m:Nat} {o:Oper} {r:List Oper} {n:Nat} {fr:List (Nat×AV)} {hp:List (Option Blk)} {st':St}
theorem Bx.val{d:Nat}{v:AV}(hg:o.guard=none)(ho:o.dst=some d)(hd:d<n)(hop:Aq P o (St.ev ⟨n,fr,hp⟩) (nth hp) hp.length {v})(h:Bx P m r ⟨n,(d,v)::fr,hp⟩ st'):Bx P m (o::r) ⟨n,fr,hp⟩ st':=by
 refine .cons hg hop (OpR.fits_value _ _) (fun b hb=>by simp at hb) (fun d' h'=>by rw[ho] at h';cases h';exact hd) ?_;have e:St.app ⟨n,fr,hp⟩ o.dst {v}=⟨n,(d,v)::fr,hp⟩:=by unfold St.app;rw[ho];simp only[put,H7,AW,List.append_nil]
 rw[e];exact h
theorem Bx.new{d:Nat}{v:AV}{blk:Blk}(hg:o.guard=none)(ho:o.dst=some d)(hd:d<n)(hop:Aq P o (St.ev ⟨n,fr,hp⟩) (nth hp) hp.length {v,new:=[blk]})(h:Bx P m r ⟨n,(d,v)::fr,hp++[some blk]⟩ st'):Bx P m (o::r) ⟨n,fr,hp⟩ st':=by
 refine .cons hg hop ⟨fun b blk hm=>by simp at hm,fun b hm=>by simp at hm⟩ (fun b hb=>by simp at hb) (fun d' h'=>by rw[ho] at h';cases h';exact hd) ?_;have e:St.app ⟨n,fr,hp⟩ o.dst {v,new:=[blk]}=⟨n,(d,v)::fr,hp++[some blk]⟩:=by unfold St.app;rw[ho];simp only[put,H7,AW]
 rw[e];exact h
theorem Bx.move{d b:Nat}{v:AV}{blk blk0:Blk}(hg:o.guard=none)(ho:o.dst=some d)(hd:d<n)(hb:nth hp b=some blk0)(hw:blk0.wr=true)(hm:m<=b)(hop:Aq P o (St.ev ⟨n,fr,hp⟩) (nth hp) hp.length {v,dead:=[b],new:=[blk]})
  (h:Bx P m r ⟨n,(d,v)::fr,hp.set b none++[some blk]⟩ st'):Bx P m (o::r) ⟨n,fr,hp⟩ st':=by
 refine .cons hg hop ⟨fun b blk hm=>by simp at hm,fun b' hm'=>by simp at hm';subst hm';exact⟨⟨blk0,hb,hw⟩,rfl⟩⟩ (fun b' hb'=>by simp at hb';subst hb';exact hm) (fun d' h'=>by rw[ho] at h';cases h';exact hd) ?_;have e:St.app ⟨n,fr,hp⟩ o.dst {v,dead:=[b],new:=[blk]}=⟨n,(d,v)::fr,hp.set b none++[some blk]⟩:=by unfold St.app;rw[ho];simp only[put,Pr b hp 0 (VI _),AW,Nat.sub_zero]
 rw[e];exact h
theorem Bx.chg{b:Nat}{v:AV}{blk blk0:Blk}(hg:o.guard=none)(ho:o.dst=none)(hb:nth hp b=some blk0)(hw:blk0.wr=true)(hop:Aq P o (St.ev ⟨n,fr,hp⟩) (nth hp) hp.length {v,chg:=[(b,blk)]})
  (h:Bx P m r ⟨n,fr,hp.set b (some blk)⟩ st'):Bx P m (o::r) ⟨n,fr,hp⟩ st':=by
 refine .cons hg hop (Ft hb hw) (fun b' hb'=>by simp at hb') (fun d' h'=>by rw[ho] at h';cases h') ?_;have e:St.app ⟨n,fr,hp⟩ o.dst {v,chg:=[(b,blk)]}=⟨n,fr,hp.set b (some blk)⟩:=by unfold St.app;rw[ho];simp only[put,S8 b blk hp 0 (VI _),AW,Nat.sub_zero,List.append_nil]
 rw[e];exact h
theorem SS{ev:Operand->AV}{h:Hp}{nb:Nat}{t:TypeId}{x y:Operand}{e:AV}{z by_:Nat}{old src:List AV}{dead:List Nat}{fl flat:Bool} (ho:o.op = .call {callee:=.builtin .append,args:=#[x,y],argTypes:=#[t,t]}) (ht:Cl P t=some (e,z,by_)) (hx:((ev x = .nils\/∃b,nb<=b/\ev x = .sl b 0 0)/\old=[]/\dead=[]/\fl=true)\/∃b n blk,ev x = .sl b 0 n/\h b=some blk/\blk.z=z/\blk.wr=true/\blk.flat=fl/\blk.es=old/\blk.es.length=n/\dead=[b]) (hy:Ca h (ev y)=some src) (hf:BG h z (ev y)) (h63:old.length+src.length<=9223372036854775807) (hb:(old.length+src.length) * by_<=140737488355328) (hfl:(fl&&Bd h (ev y))=flat): Aq P o ev h nb {v:=.sl nb 0 (old.length+src.length),dead,new:=[{es:=old++src,z,flat}]}:=hfl ▸ K0 ho ht hx hy hf h63 hb
theorem Mm{ev:Operand->AV}{h:Hp}{nb:Nat}{t:TypeId}{x y:Operand}{b i j s:Nat}{ag flat:Bool}{blk:Blk}{e:AV} (ho:o.op = .store t x y) (hx:ev x = .ptr b i j) (hb:h b=some blk) (hw:blk.wr=true) (ht:tsz P t=some (s,ag)) (hk:(ev y).known=true) (hl:(ev y).cells.length=s) (h1:BN (ev y).cells=true) (he:i<blk.es.length) (hj:j+s<=blk.z) (hnew:e.cells.length=blk.z) (hcell:∀(k:Nat) c,e.cells[k]?=some c->(j<=k/\k<j+s/\(ev y).cells[k-j]?=some c)\/((k<j\/j+s<=k)/\∃e0,blk.es[i]?=some e0/\e0.cells[k]?=some c)) (hfl:(blk.flat&&A8 (ev y).cells)=flat): Aq P o ev h nb {v:=.unk,chg:=[(b,{blk with es:=blk.es.set i e,flat})]}:=hfl ▸ JR ho hx hb hw ht hk hl h1 he hj hnew hcell
theorem Ren.slots{m n:Nat}{fr fr':List (Nat×AV)}{hp:List (Option Blk)}(h:∀s,Av fr' s = .unk\/Av fr' s=Av fr s):Ren m ⟨n,fr,hp⟩ ⟨n,fr',hp⟩:=by
 intro A0 n0 φ a w hm hr;refine⟨φ,⟨hr.defs,hr.size,fun s=>?_,hr.heap,hr.out,hr.base,hr.own⟩,hm,.refl m φ _ w⟩;show VR _ _ _ (Av fr' s) _;rcases h s with h | h
 .rw[h];exact .imm _ _ (.unk _)
 .rw[h];exact hr.slot s
structure DU(hp:List (Option Blk))(es:List AV)(fl:Bool)(g:List (List AV))(ν:Nat->Nat):Prop where
 top:nth hp 0=some (Blk.mk es 1 fl true none)
 len:es.length=g.length
 nil:∀i,i<g.length->g.getD i []=[]->es[i]?=some .nils
 row:∀i,i<g.length->g.getD i []≠[]->es[i]?=some (.sl (ν i) 0 (g.getD i []).length)/\nth hp (ν i)=some (Blk.mk (g.getD i []) 1 true true none)/\1<=ν i
 inj:∀i j,i<g.length->j<g.length->g.getD i []≠[]->g.getD j []≠[]->ν i=ν j->i=j
 flat:∀i,i<g.length->∀c∈g.getD i [],c.one=true/\c.cells=[c]/\c.noref=true
theorem DU.freeze{hp:List (Option Blk)}{es:List AV}{fl:Bool}{g:List (List AV)}{ν:Nat->Nat}(h:DU hp es fl g ν){n:Nat}{x:AV}{φ:Phi}{A0:Nat->Prop}{n0:Nat}{w:World}{v:Value}{ac:Act}{st:St}(hst:st.hp=hp)
  (hr:Rel A0 n0 0 φ st ac w) (hv:VR φ (Ok A0 n0 φ st.h w) w (.sl 0 0 g.length) v):RT (Ok A0 n0 (fun _=>none) (nth []) w) w (.lst (g.map Wt)) v:=by
 have hA:∀r,Ok A0 n0 φ st.h w r->Ok A0 n0 (fun _=>none) (nth []) w r:=fun r ⟨h1,h2,_⟩=>⟨h1,h2,fun⟨b,blk,z,hb,_⟩=>by simp[nth] at hb⟩
 have hB:∀b blk r z,st.h b=some blk->φ b=some (r,z)->Ok A0 n0 (fun _=>none) (nth []) w r:=fun b blk r z hb hφ=>by
  refine⟨hr.own b r z (VI _) hφ,?_,fun⟨b,blk,z,hb,_⟩=>by simp[nth] at hb⟩
  rcases hr.heap.blk b blk hb with ⟨_,h0,_⟩ | ⟨r',cs,T,h1,h2,_⟩ | ⟨_,r',_,h1,_,h2⟩
  .rw[hφ] at h0;cases h0
  .rw[hφ] at h1;simp at h1;rw[h1.1];exact(Wf.1 h2).1
  .rw[hφ] at h1;simp at h1;rw[h1.1];exact(Wf.1 h2).1
 have htop:st.h 0=some (Blk.mk es 1 fl true none):=by unfold St.h;rw[hst];exact h.top
 -- one row
 have row:∀i,i<g.length->∀e u,es[i]?=some e->VR φ (Ok A0 n0 φ st.h w) w e u->RT (Ok A0 n0 (fun _=>none) (nth []) w) w (.lst (g.getD i [])) u:=by
  intro i hi e u he hu
  by_cases hg:g.getD i []=[]
  .rw[h.nil i hi hg] at he
   cases he
   rw[hg]
   cases hu with
   | imm a v h=>cases h;exact .lnil none
  .obtain⟨h1,h2,_⟩:=h.row i hi hg
   rw[h1] at he
   cases he
   have h2':st.h (ν i)=some (Blk.mk (g.getD i []) 1 true true none):=by unfold St.h;rw[hst];exact h2
   rcases hu.sl_inv with ⟨h0,a,rfl⟩ | ⟨r,z,cap,hb,hn,hrs,rfl⟩
   .exact absurd (List.eq_nil_of_length_eq_zero h0) hg
   .obtain⟨hz,_,cs,T,hrr,hsz,hrow⟩:=hr.heap.row h2' hb (.inr rfl)
    have hz1:z=1:=hz
    subst hz1
    refine VR.lst_mk (φ:=φ) (z:=1) hrr (hB _ _ _ _ h2' hb) hn (fun e he c hc=>?_) fun k e he=>?_
    .obtain⟨j,hj⟩:=List.getElem?_of_mem he
     obtain⟨_,a2,a3⟩:=h.flat i hi e he
     rw[a2] at hc;simp at hc;subst hc;exact a3
    .obtain⟨g1,g2⟩:=hrow.cell _ e he
     refine⟨g1,fun j c hj=>?_⟩
     obtain⟨g3,u,g4,g5⟩:=g2 j c hj
     refine⟨g3,u,?_,g5.mono (fun _ _ h=>h) hA (fun _ _=>rfl) (fun _=>VH _)⟩
     rw[VO] at g4
     split at g4
     .simpa using g4
     .cases g4
 rcases hv.sl_inv with ⟨h0,a,rfl⟩ | ⟨r,z,cap,hb,hn,hrs,rfl⟩
 .have:g=[]:=List.eq_nil_of_length_eq_zero h0
  subst this
  exact .lnil a
 .obtain⟨hz,_,cs,T,hrr,hsz,hrow⟩:=hr.heap.row htop hb (.inr rfl)
  have hz1:z=1:=hz
  subst hz1
  have hl:(g.map Wt).length=g.length:=Vy _
  have cell:∀i,i<g.length->∃e u,es[i]?=some e/\cs[i]?=some u/\VR φ (Ok A0 n0 φ st.h w) w e u:=fun i hi=>by
   have hil':i<es.length:=by rw[h.len];exact hi
   have he:es[i]?=some (es[i]'hil'):=Vv hil'
   have hone:(es[i]'hil').cells=[es[i]'hil']:=by
    by_cases hg:g.getD i []=[]
    .have:=h.nil i hi hg;rw[he] at this;rw[V3 this];rfl
    .have:=(h.row i hi hg).1;rw[he] at this;rw[V3 this];rfl
   obtain⟨_,g2⟩:=hrow.cell _ _ he
   obtain⟨_,u,g4,g5⟩:=g2 0 (es[i]'hil') (by rw[hone];rfl)
   rw[VO] at g4
   split at g4
   .exact⟨_,u,he,by simpa using g4,g5⟩
   .cases g4
  have:=RT.lst (A:=Ok A0 n0 (fun _=>none) (nth []) w) (w:=w) (g.map Wt) r (0 * 1) cap 1 (fun i j=>cs.getD i undef) (by rw[hl];exact hn) (fun _=>hB _ _ _ _ htop hb) (fun e he=>by obtain⟨x,_,rfl⟩:=V0.1 he;rfl)
   (fun e he c hc=>by obtain⟨x,_,rfl⟩:=V0.1 he;simp[AV.cells] at hc;subst hc;rfl)
   (fun i j hi hj=>by
    rw[hl] at hi
    obtain⟨e,u,_,h2,_⟩:=cell i hi
    have hj0:j=0:=by omega
    subst hj0
    rw[cell_of_row w r _ cs T (0,0) hrr]
    simp[h2])
   (fun i j e c hi hj=>by
    rw[VF] at hi
    cases hg:g[i]? with
    | none=>rw[hg] at hi;cases hi
    | some x=>
     rw[hg] at hi
     cases hi
     have hil:=(Vx.1 hg).1
     obtain⟨e,u,h1,h2,h3⟩:=cell i hil
     have hx:g.getD i []=x:=by rw[Vw,hg];rfl
     have hrt:=row i hil e u h1 h3
     rw[hx] at hrt
     match j,hj with
     | 0,hj=>simp[AV.cells] at hj;subst hj;simpa [h2] using hrt)
  rw[hl] at this
  exact this
end Go.AX
namespace Go.Proofs.YthjgbnbibebigaaGreat
theorem B0{P:Program}{o:Oper}{ev:Operand->AV}{hp:List (Option Blk)}{hint:AF}{R:OpR}{p:Prop}(q:isO hint=false)(hr:aop P o ev hp hint=some (R,p))(hpp:p):Aq P o ev (nth hp) hp.length R/\R.fits (nth hp):=RR hr hpp fun _ _ _ _ h=>by rw[q] at h;cases h
theorem _root_.Go.AX.EW.dn{P:Program}{o:Oper}{ev:Operand->AV}{h:Hp}{nb:Nat}{R:OpR}(hk:EW P o ev h nb R)(hd:R.dead=[]):Aq P o ev h nb R:=fun φ A w a K Q h1 h2 h3 h4 k=>
 hk φ A w a K Q h1 h2 h3 h4 fun v' w' φ' A' g1 g2 he=>by
  have e:A'=A:=funext fun r=>propext ⟨fun q=>(g2 r q).elim id fun⟨b,_,_,q1,_⟩=>(by rw[hd] at q1;cases q1),g1 r⟩
  rw[e] at he;exact k v' w' φ' he
theorem _root_.Go.AX.Bx.av{P:Program}{m:Nat}{o:Oper}{r:List Oper}{n d:Nat}{fr:List (Nat×AV)}{hp:List (Option Blk)}{st':St}(v:AV)(hg:o.guard=none)(ho:o.dst=some d)(hd:Nat.ble (d+1) n=true)(h:aop P o (St.ev ⟨n,fr,hp⟩) hp .no=some ({v},True))(k:Bx P m r ⟨n,(d,v)::fr,hp⟩ st'):Bx P m (o::r) ⟨n,fr,hp⟩ st':=.val hg ho (VU hd) ((P0 h trivial).1.dn rfl) k
theorem _root_.Go.AX.Bx.va{P:Program}{m:Nat}{o:Oper}{r:List Oper}{n d:Nat}{fr:List (Nat×AV)}{hp:List (Option Blk)}{st':St}(v:AV)(hg:o.guard=none)(ho:o.dst=some d)(hd:Nat.ble (d+1) n=true)(h:Aq P o (St.ev ⟨n,fr,hp⟩) (nth hp) hp.length {v})(k:Bx P m r ⟨n,(d,v)::fr,hp⟩ st'):Bx P m (o::r) ⟨n,fr,hp⟩ st':=.val hg ho (VU hd) h k
def B8(v:Nat)(R:List (List Int))(w:Int):List (List Int):=R.set w.toNat (R.getD w.toNat []++[(v:Int)])
def BV(g:List (List Int))(i:Nat):List (List Int):=(List.range i).foldl (fun R v=>(g.getD v []).foldl (B8 v) R) (List.replicate g.length [])
def Ao(g:List (List Int)):List (List Int):=BV g g.length
theorem QY(v:Nat)(R:List (List Int))(w:Int):(B8 v R w).length=R.length:=by unfold B8;simp
theorem Rc(v:Nat)(l:List Int):∀R:List (List Int),(l.foldl (B8 v) R).length=R.length:=by
 induction l with
 | nil=>intro R;rfl
 | cons w l ih=>intro R;rw[List.foldl_cons,ih,QY]
theorem J1(g:List (List Int))(i:Nat):(BV g i).length=g.length:=by
 unfold BV;generalize List.range i=l;have:∀(l:List Nat) (R:List (List Int)),(l.foldl (fun R v=>(g.getD v []).foldl (B8 v) R) R).length=R.length:=by
  intro l;induction l with
  | nil=>intro R;rfl
  | cons v l ih=>intro R;rw[List.foldl_cons,ih,Rc]
 rw[this];simp
theorem Qu(g:List (List Int))(i:Nat):BV g (i+1)=(g.getD i []).foldl (B8 i) (BV g i):=by unfold BV;rw[List.range_succ,List.foldl_append];rfl
def avR(R:List (List Int)):List (List AV):=R.map fun r=>r.map (AV.int .i64)
theorem B6(R:List (List Int))(i:Nat):(avR R).getD i []=(R.getD i []).map (AV.int .i64):=by unfold avR;rw[Vw,Vw,VF];cases R[i]?<;>rfl
def rvSt(g:List (List Int))(i:Nat)(hp:List (Option Blk)):St:=⟨Tryz.f97.ntmps,[(0,.lst (gL g)),(4,.sl 0 0 (gL g).length),(15,.lst (gL g)),(16,.int .i64 (iN (gL g).length)),(17,.int .i64 (i:Int))],hp⟩
theorem Fw:Bv Wu 28=some (none,1):=by kernel_rfl
theorem LB:Bv Wu 22=some (none,1):=by kernel_rfl
theorem Ff:tsz Wu 22=some (1,false):=by kernel_rfl
theorem tsz3:tsz Wu 3=some (1,false):=by kernel_rfl
theorem Nd:Cl Wu 22=some (.int .i64 0,1,8):=by kernel_rfl
theorem rows_add{hp:List (Option Blk)}{es:List AV}{fl:Bool}{R:List (List Int)}{ν:Nat->Nat}(h:DU hp es fl (avR R) ν){w:Nat}(hw:w<R.length)(x:Int){hp':List (Option Blk)}{b:Nat}{fl':Bool}
  (h0:nth hp' 0=some (Blk.mk (es.set w (.sl b 0 ((R.getD w []).length+1))) 1 fl' true none)) (hb:nth hp' b=some (Blk.mk ((R.getD w []++[x]).map (AV.int .i64)) 1 true true none)) (hb1:1<=b)
  (hk:∀c,1<=c->c≠b->(R.getD w []≠[]->c≠ν w)->(nth hp c).isSome=true->nth hp' c=nth hp c) (hfr:nth hp b=none):
  ∃ν',DU hp' (es.set w (.sl b 0 ((R.getD w []).length+1))) fl' (avR (R.set w (R.getD w []++[x]))) ν':=by
 have hlen:(avR R).length=R.length:=by unfold avR;simp
 have hlen':(avR (R.set w (R.getD w []++[x]))).length=R.length:=by unfold avR;simp
 have hes:es.length=R.length:=by rw[h.len,hlen]
 have gw:(R.set w (R.getD w []++[x])).getD w []=R.getD w []++[x]:=by rw[Vw,List.getElem?_set_self hw];rfl
 have gn:∀i,i≠w->(R.set w (R.getD w []++[x])).getD i []=R.getD i []:=fun i hi=>by rw[Vw,List.getElem?_set_ne (Ne.symm hi),<-Vw]
 have nb:∀i,i<R.length->R.getD i []≠[]->ν i≠b:=fun i hi hn e=>by have:=(h.row i (by omega) (by rw[B6];simpa using hn)).2.1;rw[e,hfr] at this;cases this
 refine⟨fun i=>if i=w then b else ν i,⟨h0,by rw[V4,hes,hlen'],fun i hi hg=>?_,fun i hi hg=>?_,fun i j hi hj gi gj e=>?_,fun i hi c hc=>?_⟩⟩
 .rw[hlen'] at hi;rw[B6] at hg;have hiw:i≠w:=fun e=>by subst e;rw[gw] at hg;simp at hg
  rw[gn i hiw] at hg;rw[List.getElem?_set_ne (Ne.symm hiw)];exact h.nil i (by omega) (by rw[B6];exact hg)
 .rw[hlen'] at hi;rw[B6] at hg ⊢
  by_cases hiw:i=w
  .subst hiw;rw[gw,Vt rfl];refine⟨?_,hb,hb1⟩;rw[List.getElem?_set_self (by omega)];simp
  .rw[gn i hiw] at hg ⊢
   rw[Vu hiw,List.getElem?_set_ne (Ne.symm hiw)];have hg':R.getD i []≠[]:=fun e=>hg (by rw[e];rfl)
   obtain⟨a1,a2,a3⟩:=h.row i (by omega) (by rw[B6];exact hg);rw[B6] at a1 a2;refine⟨a1,?_,a3⟩;rw[hk (ν i) a3 (nb i hi hg') (fun hwn e=>hiw (h.inj i w (by omega) (by omega) (by rw[B6];exact hg) (by rw[B6];simpa using hwn) e)) (by rw[a2];rfl)];exact a2
 .rw[hlen'] at hi hj;rw[B6] at gi gj;by_cases hiw:i=w
  .by_cases hjw:j=w
   .rw[hiw,hjw]
   .rw[Vt hiw,Vu hjw] at e;rw[gn j hjw] at gj;exact absurd e.symm (nb j hj fun e=>gj (by rw[e];rfl))
  .rw[gn i hiw] at gi;by_cases hjw:j=w
   .rw[Vu hiw,Vt hjw] at e;exact absurd e (nb i hi fun e=>gi (by rw[e];rfl))
   .rw[gn j hjw] at gj;rw[Vu hiw,Vu hjw] at e;exact h.inj i j (by omega) (by omega) (by rw[B6];exact gi) (by rw[B6];exact gj) e
 .rw[B6] at hc;obtain⟨y,_,rfl⟩:=V0.1 hc;exact⟨rfl,rfl,rfl⟩
theorem Dd{hp:List (Option Blk)}{b c:Nat}{x:Option Blk}:nth (hp.set b x) c=if b=c/\b<hp.length then x else nth hp c:=by
 rw[Cr,Wk,Cr];by_cases h:b=c
 .subst h;by_cases hl:b<hp.length
  .rw[Vt rfl,Vt hl,Vt ⟨rfl,hl⟩];cases x<;>rfl
  .rw[Vt rfl,Vu hl,Vu (fun h=>hl h.2),VT (by omega)]
 .rw[Vu h,Vu (fun e=>h e.1)]
theorem Dy{hp:List (Option Blk)}{c:Nat}{x:Blk}(h:nth hp c=some x):c<hp.length:=by
 rw[Cr] at h;rcases Wm c hp.length with h1 | h1
 .exact h1
 .rw[VT h1] at h;cases h
theorem nth_out{hp:List (Option Blk)}{c:Nat}(h:hp.length<=c):nth hp c=none:=by rw[Cr,VT h];rfl
def Dq(g:List (List Int))(i:Nat)(r:List Int)(k:Nat)(hp:List (Option Blk)):St:=⟨Tryz.f97.ntmps,[(0,.lst (gL g)),(4,.sl 0 0 (gL g).length),(15,.lst (gL g)),(16,.int .i64 (iN (gL g).length)),(17,.int .i64 (i:Int)),(5,.int .i64 (i:Int)),(22,lI r),(23,.int .i64 (iN (r.map (AV.int .i64)).length)),(24,.int .i64 (k:Int))],hp⟩
theorem Bc{k:Nat}{v:AV}{l:List (Nat×AV)}{s:Nat}(h:k≠s):AX.Av ((k,v)::l) s=AX.Av l s:=by
 have:Nat.beq k s=false:=by cases hq:Nat.beq k s with | false=>rfl | true=>exact absurd (VC hq) h
 simp only[AX.Av,this]
def Qj(fr fr':List (Nat×AV)):List Nat->Prop | []=>True | k::ks=>AX.Av fr' k=AX.Av fr k/\Qj fr fr' ks
theorem SC:∀{l:List (Nat×AV)} {s:Nat},s∉l.map (·.1)->AX.Av l s = .unk
 | [],_,_=>rfl
 | (k,v)::l,s,h=>by rw[Bc (fun e=>h (by simp[e])),SC (fun e=>h (VN _ e))]
theorem RN{fr fr':List (Nat×AV)}:∀{ks:List Nat},Qj fr fr' ks->∀s∈ks,AX.Av fr' s=AX.Av fr s | [],_,s,h=>by cases h | k::ks,h,s,hs=>(VY.1 hs).elim (fun e=>by rw[e];exact h.1) (RN h.2 s)
theorem _root_.Go.AX.Ren.keys{m n:Nat}{fr fr':List (Nat×AV)}{hp:List (Option Blk)}(h:Qj fr fr' (fr'.map (·.1))):Ren m ⟨n,fr,hp⟩ ⟨n,fr',hp⟩:=Ren.slots fun s=>if hs:s∈fr'.map (·.1) then .inr (RN h s hs) else .inl (SC hs)
def Fm:Code->List (Nat×Array Oper) | .region id ops _=>[(id,ops)] | .seq a b=>Fm a++Fm b | .block _ c=>Fm c | .loop c=>Fm c | .cond _ a b=>Fm a++Fm b | _=>[]
def opsAt:List (Nat×Array Oper)->Nat->Array Oper
 | [],_=>#[]
 | (k,v)::l,s=>match Nat.beq k s with | true=>v | false=>opsAt l s
def rv10:Array Oper:=opsAt (Fm (zB Tryz.f97)) 10
theorem rv_edge{g:List (List Int)}{i:Nat}{r:List Int}{k:Nat}{hp:List (Option Blk)}{es:List AV}{fl:Bool}{R:List (List Int)}{ν:Nat->Nat}{w:Int}{x1 x2 x3:AV}{id:Nat}{ops:Array Oper}{post:Exit->St->Prop}
  (h:DU hp es fl (avR R) ν) (hR:R.length=g.length) (hw:0<=w/\w<(g.length:Int)) (hsz:(R.getD w.toNat []).length<=1000000)
  (hops:ops=rv10)
  (hpost:∀hp' es' fl' ν' fr',DU hp' es' fl' (avR (B8 i R w)) ν'->(∀s,s<=27->AX.Av fr' s=AX.Av (Dq g i r k hp).fr s\/s=8\/s=25\/s=26\/s=27)->post .normal ⟨Tryz.f97.ntmps,fr',hp'⟩):
  T Wu 0 (.region id ops false) ⟨Tryz.f97.ntmps,(8,.int .i64 w)::(27,x1)::(26,x2)::(25,x3)::(Dq g i r k hp).fr,hp⟩ post:=by
 subst hops;have hlen:(avR R).length=g.length:=by unfold avR;simpa using hR
 have hlg:(gL g).length=g.length:=B4 g;have hwn:w.toNat<g.length:=by omega
 have hes:es.length=g.length:=by rw[h.len,hlen]
 have h0l:=Dy h.top;have htop1:nth (hp++[some (Blk.mk [.int .i64 (i:Int)] 1 true true none)]) 0=some (Blk.mk es 1 fl true none):=by rw[Cb,Vt h0l];exact h.top
 have hI:nth (hp++[some (Blk.mk [.int .i64 (i:Int)] 1 true true none)]) hp.length=some (Blk.mk [.int .i64 (i:Int)] 1 true true none):=by rw[Cb,Vu (by omega),Vf];rfl
 have ln1:(hp++[some (Blk.mk [.int .i64 (i:Int)] 1 true true none)]).length=hp.length+1:=by simp
 have fin:∀(hpf:List (Option Blk)) (fr':List (Nat×AV)),nth hpf 0=some (Blk.mk (es.set (0+w.toNat) (.sl (hp.length+1) 0 ((R.getD w.toNat []).length+1))) 1 false true none)->nth hpf (hp.length+1)=some (Blk.mk ((R.getD w.toNat []++[(i:Int)]).map (AV.int .i64)) 1 true true none)->
   (∀c,1<=c->c≠hp.length+1->(R.getD w.toNat []≠[]->c≠ν w.toNat)->(nth hp c).isSome=true->nth hpf c=nth hp c)->(∀s,s<=27->AX.Av fr' s=AX.Av (Dq g i r k hp).fr s\/s=8\/s=25\/s=26\/s=27)->post .normal ⟨Tryz.f97.ntmps,fr',hpf⟩:=by
  intro hpf fr' a1 a2 a3 a4;rw[VL] at a1;obtain⟨ν',hν⟩:=rows_add h (by omega:w.toNat<R.length) (i:Int) a1 a2 (by omega) a3 (nth_out (by omega));exact hpost _ _ _ _ _ hν a4
 have mkTop:∀(y:AV) (b n:Nat),y = .sl b 0 n->({Blk.mk es 1 fl true none with es:=es.set (0+w.toNat) y,flat:=fl&&A8 y.cells}:Blk)=Blk.mk (es.set (0+w.toNat) (.sl b 0 n)) 1 false true none:=by
  rintro y b n rfl
  show Blk.mk _ 1 (fl&&A8 [AV.sl b 0 n]) true none=_;rw[show A8 [AV.sl b 0 n]=false from rfl,Bool.and_false]
 by_cases hn:R.getD w.toNat []=[]
 .have he:=h.nil w.toNat (by omega) (by rw[B6,hn];rfl)
  have hfin:=fin (((hp++[some (Blk.mk [.int .i64 (i:Int)] 1 true true none)])++[some (Blk.mk [.int .i64 (i:Int)] 1 true true none)]).set 0 (some (Blk.mk (es.set (0+w.toNat) (.sl (hp.length+1) 0 (0+1))) 1 false true none)))
   ((37,.ptr 0 (0+w.toNat) 0)::(36,.sl (hp.length+1) 0 (0+1))::(35,.sl hp.length 0 1)::(34,.int .i64 (i:Int))::(33,.nils)::(32,.ptr 0 (0+w.toNat) 0)::(31,.int .i64 w)::(30,.sl 0 0 (gL g).length)::(29,.int .i64 w)::(28,.sl 0 0 (gL g).length)::(8,.int .i64 w)::(27,x1)::(26,x2)::(25,x3)::(Dq g i r k hp).fr) (by rw[Dd,Vt ⟨rfl,by simp⟩,hn];rfl) (by rw[Dd,Vu (by omega),Cb,Vu (by simp),hn];simp[nth]) (fun c h1 h2 _ h4=>by
     obtain⟨z,hz⟩:=Option.isSome_iff_exists.1 h4;have:=Dy hz;rw[Dd,Vu (by omega),Cb,Vt (by simp;omega),Cb,Vt this]) (fun s hs=>by
     by_cases e1:s=8
     .exact .inr (.inl e1)
     by_cases e2:s=25
     .exact .inr (.inr (.inl e2))
     by_cases e3:s=26
     .exact .inr (.inr (.inr (.inl e3)))
     by_cases e4:s=27
     .exact .inr (.inr (.inr (.inr e4)))
     left;rw[Bc (by omega),Bc (by omega),Bc (by omega),Bc (by omega),Bc (by omega),Bc (by omega),Bc (by omega),Bc (by omega),Bc (by omega),Bc (by omega),Bc (by omega),Bc (by omega),Bc (by omega),Bc (by omega)])
  refine T.ops (st':=⟨Tryz.f97.ntmps,((37,.ptr 0 (0+w.toNat) 0)::(36,.sl (hp.length+1) 0 (0+1))::(35,.sl hp.length 0 1)::(34,.int .i64 (i:Int))::(33,.nils)::(32,.ptr 0 (0+w.toNat) 0)::(31,.int .i64 w)::(30,.sl 0 0 (gL g).length)::(29,.int .i64 w)::(28,.sl 0 0 (gL g).length)::(8,.int .i64 w)::(27,x1)::(26,x2)::(25,x3)::(Dq g i r k hp).fr),_⟩) ?_ hfin;have htop2:nth ((hp++[(some (Blk.mk [.int .i64 (i:Int)] 1 true true none))])++[(some (Blk.mk [.int .i64 (i:Int)] 1 true true none))]) 0=some (Blk.mk es 1 fl true none):=by rw[Cb,Vt (by simp)];exact htop1
  refine .av (.sl 0 0 (gL g).length) rfl rfl rfl (by kernel_rfl) ?_;refine .av (.int .i64 w) rfl rfl rfl (by kernel_rfl) ?_;refine .av (.sl 0 0 (gL g).length) rfl rfl rfl (by kernel_rfl) ?_;refine .av (.int .i64 w) rfl rfl rfl (by kernel_rfl) ?_;refine .va (.ptr 0 (0+w.toNat) 0) rfl rfl rfl (DF rfl rfl rfl Fw h.top rfl ⟨hw.1,by rw[hlg];exact hw.2⟩) ?_;refine .va (.nils) rfl rfl rfl (EC rfl rfl h.top (by rw[VL];exact he) Ff rfl rfl) ?_;refine .av (.int .i64 (i:Int)) rfl rfl rfl (by kernel_rfl) ?_;refine .new (v:=.sl hp.length 0 1) (blk:=Blk.mk [.int .i64 (i:Int)] 1 true true none) rfl rfl (nL rfl) (Gq rfl (by kernel_rfl)) ?_;refine .new (v:=.sl (hp.length+1) 0 (0+1)) (blk:=Blk.mk [.int .i64 (i:Int)] 1 true true none) rfl rfl (nL rfl) ?_ ?_
  .
   have hy:Ca (nth (hp++[(some (Blk.mk [.int .i64 (i:Int)] 1 true true none))])) (.sl hp.length 0 1)=some [.int .i64 (i:Int)]:=by unfold Ca;simp only[hI];rfl
   have hf:BG (nth (hp++[(some (Blk.mk [.int .i64 (i:Int)] 1 true true none))])) 1 (.sl hp.length 0 1):=by unfold BG;simp only[hI];exact⟨trivial,VH _⟩
   have hs:Bd (nth (hp++[(some (Blk.mk [.int .i64 (i:Int)] 1 true true none))])) (.sl hp.length 0 1)=true:=by unfold Bd;simp only[hI]
   rw[ln1];exact SS (x:=.tmp 33) (y:=.tmp 35) (old:=[]) (src:=[.int .i64 (i:Int)]) (dead:=[]) (fl:=true) rfl Nd (.inl ⟨.inl rfl,rfl,rfl,rfl⟩) hy hf (by simp) (by simp) (by show(true&&Bd _ (.sl hp.length 0 1))=true;rw[hs];rfl)
  refine .va (.ptr 0 (0+w.toNat) 0) rfl rfl rfl (DF rfl rfl rfl Fw htop2 rfl ⟨hw.1,by rw[hlg];exact hw.2⟩) ?_;refine .chg (v:=.unk) (blk:=Blk.mk (es.set (0+w.toNat) (.sl (hp.length+1) 0 (0+1))) 1 false true none) rfl rfl htop2 rfl ?_ (.nil _);exact Mm (x:=.tmp 37) (y:=.tmp 36) (e:=.sl (hp.length+1) 0 (0+1)) rfl rfl htop2 rfl Ff rfl rfl rfl (show 0+w.toNat<es.length by omega) (VH _) rfl (fun kk c hc=>.inl (by
   match kk,hc with
   | 0,hc=>exact⟨VH _,Nat.lt_add_one _,hc⟩)) (Bool.and_false _)
 .have hq:(avR R).getD w.toNat []≠[]:=by rw[B6];simpa using hn
  obtain⟨he,hb,hν1⟩:=h.row w.toNat (by omega) hq;rw[B6,Vy] at he;rw[B6] at hb;have hbl:=Dy hb;have hb1:nth (hp++[some (Blk.mk [.int .i64 (i:Int)] 1 true true none)]) (ν w.toNat)=some (Blk.mk ((R.getD w.toNat []).map (AV.int .i64)) 1 true true none):=by rw[Cb,Vt hbl];exact hb
  have hfin:=fin (((hp++[some (Blk.mk [.int .i64 (i:Int)] 1 true true none)]).set (ν w.toNat) none++[some (Blk.mk ((R.getD w.toNat []).map (AV.int .i64)++[.int .i64 (i:Int)]) 1 true true none)]).set 0 (some (Blk.mk (es.set (0+w.toNat) (.sl (hp.length+1) 0 ((R.getD w.toNat []).length+1))) 1 false true none)))
   ((37,.ptr 0 (0+w.toNat) 0)::(36,.sl (hp.length+1) 0 ((R.getD w.toNat []).length+1))::(35,.sl hp.length 0 1)::(34,.int .i64 (i:Int))::(33,.sl (ν w.toNat) 0 (R.getD w.toNat []).length)::(32,.ptr 0 (0+w.toNat) 0)::(31,.int .i64 w)::(30,.sl 0 0 (gL g).length)::(29,.int .i64 w)::(28,.sl 0 0 (gL g).length)::(8,.int .i64 w)::(27,x1)::(26,x2)::(25,x3)::(Dq g i r k hp).fr) (by rw[Dd,Vt ⟨rfl,by simp⟩]) (by rw[Dd,Vu (by omega),Cb,Vu (by simp)];simp[nth]) (fun c h1 h2 h3 h4=>by
     obtain⟨z,hz⟩:=Option.isSome_iff_exists.1 h4;have:=Dy hz;rw[Dd,Vu (by omega),Cb,Vt (by simp;omega),Dd,Vu (fun e=>h3 hn e.1.symm),Cb,Vt this]) (fun s hs=>by
     by_cases e1:s=8
     .exact .inr (.inl e1)
     by_cases e2:s=25
     .exact .inr (.inr (.inl e2))
     by_cases e3:s=26
     .exact .inr (.inr (.inr (.inl e3)))
     by_cases e4:s=27
     .exact .inr (.inr (.inr (.inr e4)))
     left;rw[Bc (by omega),Bc (by omega),Bc (by omega),Bc (by omega),Bc (by omega),Bc (by omega),Bc (by omega),Bc (by omega),Bc (by omega),Bc (by omega),Bc (by omega),Bc (by omega),Bc (by omega),Bc (by omega)])
  refine T.ops (st':=⟨Tryz.f97.ntmps,((37,.ptr 0 (0+w.toNat) 0)::(36,.sl (hp.length+1) 0 ((R.getD w.toNat []).length+1))::(35,.sl hp.length 0 1)::(34,.int .i64 (i:Int))::(33,.sl (ν w.toNat) 0 (R.getD w.toNat []).length)::(32,.ptr 0 (0+w.toNat) 0)::(31,.int .i64 w)::(30,.sl 0 0 (gL g).length)::(29,.int .i64 w)::(28,.sl 0 0 (gL g).length)::(8,.int .i64 w)::(27,x1)::(26,x2)::(25,x3)::(Dq g i r k hp).fr),_⟩) ?_ hfin;have htop2:nth ((hp++[(some (Blk.mk [.int .i64 (i:Int)] 1 true true none))]).set (ν w.toNat) none++[some (Blk.mk ((R.getD w.toNat []).map (AV.int .i64)++[.int .i64 (i:Int)]) 1 true true none)]) 0=some (Blk.mk es 1 fl true none):=by rw[Cb,Vt (by simp),Dd,Vu (by omega)];exact htop1
  refine .av (.sl 0 0 (gL g).length) rfl rfl rfl (by kernel_rfl) ?_;refine .av (.int .i64 w) rfl rfl rfl (by kernel_rfl) ?_;refine .av (.sl 0 0 (gL g).length) rfl rfl rfl (by kernel_rfl) ?_;refine .av (.int .i64 w) rfl rfl rfl (by kernel_rfl) ?_;refine .va (.ptr 0 (0+w.toNat) 0) rfl rfl rfl (DF rfl rfl rfl Fw h.top rfl ⟨hw.1,by rw[hlg];exact hw.2⟩) ?_;refine .va (.sl (ν w.toNat) 0 (R.getD w.toNat []).length) rfl rfl rfl (EC rfl rfl h.top (by rw[VL];exact he) Ff rfl rfl) ?_;refine .av (.int .i64 (i:Int)) rfl rfl rfl (by kernel_rfl) ?_;refine .new (v:=.sl hp.length 0 1) (blk:=Blk.mk [.int .i64 (i:Int)] 1 true true none) rfl rfl (nL rfl) (Gq rfl (by kernel_rfl)) ?_;refine .move (v:=.sl (hp.length+1) 0 ((R.getD w.toNat []).length+1)) (blk:=Blk.mk ((R.getD w.toNat []).map (AV.int .i64)++[.int .i64 (i:Int)]) 1 true true none) rfl rfl (nL rfl) hb1 rfl (VI _) ?_ ?_
  .
   have hy:Ca (nth (hp++[(some (Blk.mk [.int .i64 (i:Int)] 1 true true none))])) (.sl hp.length 0 1)=some [.int .i64 (i:Int)]:=by unfold Ca;simp only[hI];rfl
   have hf:BG (nth (hp++[(some (Blk.mk [.int .i64 (i:Int)] 1 true true none))])) 1 (.sl hp.length 0 1):=by unfold BG;simp only[hI];exact⟨trivial,VH _⟩
   have hs:Bd (nth (hp++[(some (Blk.mk [.int .i64 (i:Int)] 1 true true none))])) (.sl hp.length 0 1)=true:=by unfold Bd;simp only[hI]
   rw[ln1,show(R.getD w.toNat []).length=((R.getD w.toNat []).map (AV.int .i64)).length from(Vy _).symm];exact SS (x:=.tmp 33) (y:=.tmp 35) (old:=(R.getD w.toNat []).map (AV.int .i64)) (src:=[.int .i64 (i:Int)]) (dead:=[ν w.toNat]) (fl:=true) rfl Nd (.inr ⟨ν w.toNat,_,_,rfl,hb1,rfl,rfl,rfl,rfl,rfl,rfl⟩) hy hf (by simp only[Vy,V9];omega) (by simp only[Vy,V9];omega) (by show(true&&Bd _ (.sl hp.length 0 1))=true;rw[hs];rfl)
  refine .va (.ptr 0 (0+w.toNat) 0) rfl rfl rfl (DF rfl rfl rfl Fw htop2 rfl ⟨hw.1,by rw[hlg];exact hw.2⟩) ?_;refine .chg (v:=.unk) (blk:=Blk.mk (es.set (0+w.toNat) (.sl (hp.length+1) 0 ((R.getD w.toNat []).length+1))) 1 false true none) rfl rfl htop2 rfl ?_ (.nil _);exact Mm (x:=.tmp 37) (y:=.tmp 36) (e:=.sl (hp.length+1) 0 ((R.getD w.toNat []).length+1)) rfl rfl htop2 rfl Ff rfl rfl rfl (show 0+w.toNat<es.length by omega) (VH _) rfl (fun kk c hc=>.inl (by
   match kk,hc with
   | 0,hc=>exact⟨VH _,Nat.lt_add_one _,hc⟩)) (Bool.and_false _)
inductive D1 where | l0 (v0:Int) | l1 (v0 v1:Int) (v2:List Int) (v3:Nat) (v4:Int)
def rvaSt(g:List (List Int)):D1->St | .l0 v0=>St.mk 41 [(0,Wt (gL g)),(11,Wt (gL g)),(12,iv (iN (gL g).length)),(13,iv v0)] [] | .l1 v0 v1 v2 v3 v4=>St.mk 41 [(0,Wt (gL g)),(3,iv v0),(5,iv v1),(11,Wt (gL g)),(12,iv (iN (gL g).length)),(13,iv v0),(18,Wt (Wn iv v2)),(19,iv (iN v3)),(20,iv v4)] []
def OO(g:List (List Int)):Option (D1⊕Ret):=br (decide (24<iN (gL g).length)) (none) (some (.inl (.l0 ((0:Int)))))
def ID(g:List (List Int))(v0:Int):Option (D1⊕Ret):=br (decide (v0<iN (gL g).length)) (gu (0<=v0) <|el g (v0.toNat) fun(x16:List Int)=>some (.inl (.l1 v0 ((-1:Int)) x16 ((Wn iV x16).length) ((0:Int))))) (some (.inr ([],bV true)))
def Ja(g:List (List Int))(v0 v1:Int)(v2:List Int)(v3:Nat)(v4:Int):Option (D1⊕Ret):=br (decide (v4<iN v3)) (gu (0<=v4) <|el v2 (v4.toNat) fun(x22:Int)=>br (decide (x22<=v1)) (none) (br (decide (iN (gL g).length<=x22)) (none) (br (x22==v0) (none) (some (.inl (.l1 v0 x22 v2 v3 (i64.wrap (v4+1)))))))) (some (.inl (.l0 (i64.wrap (v0+1)))))
def rvaStep(g:List (List Int)):D1->Option (D1⊕Ret) | .l0 v0=>ID g v0 | .l1 v0 v1 v2 v3 v4=>Ja g v0 v1 v2 v3 v4
theorem rva_ct(g:List (List Int))(r:Ret)(h:Ac (rvaStep g) (OO g) r):CT Wu 140 ([]) ([.lst (gL g)]) r.1 r.2:=CT.mach (fn:=Tryz.f140) (c:=zB Tryz.f140) (S:=(rvaSt g)) (hd:=D1.ctorIdx) Tryz.func140 (by kernel_rfl) (nL rfl) (fun s o ho=>match s,ho with | .l0 v0,ho=>Scr.ok (X:=ID g v0) ho mix (.ra bG <|.br (fun a0=>.gu fun a1=>.el fun x16 a2=>.pb [29] [(16,lI x16)] [] [] [] [0,3,5,11,12,13,18,19,20] (aj (ab a0 (u2 (aB a1 (Ae (f:=lI) a2) aE)) (u2 cI)) (ak t9))) (fun a0=>.ta [28] (bO a0))) (by kernel_rfl) | .l1 v0 v1 v2 v3 v4,ho=>Scr.ok (X:=Ja g v0 v1 v2 v3 v4) ho mix (.ra bG <|.br (fun a0=>.gu fun a1=>.el fun x22 a2=>.rd [43] [(22,iv x22)] [] (af a0 (aB a1 (Ae (f:=iv) a2) aw)) <|.br (fun a3=>.no) (fun a3=>.br (fun a4=>.no) (fun a4=>.rb [54,66] (aR (bD (bt a3 (aW a3 t3 (cP a4 (bT a4 t3 a4)))))) <|.br (fun a5=>.no) (fun a5=>.pa [54,66,74] [] [0,3,5,11,12,13,18,19,20] (bm a5 aw aw (ak t9)))))) (fun a0=>.pa [42] [] [0,11,12,13] (cj a0 t5))) (by kernel_rfl)) (fun o ho=>Scr.ok (X:=OO g) ho mix (.rv 1 [] [] [] (bo aE) <|.br (fun a0=>.no) (fun a0=>.pa [20] [] [0,11,12,13] (aF a0 bY t5))) (by kernel_rfl)) h
theorem rvalid_c{g:List (List Int)}(h:VG g):CT Wu 140 [] [.lst (gL g)] [] (.bool (Cn g)):=by
 have hgl:=B4 g;have hl:=h.len;rw[QF.2 h];refine rva_ct g ([],_) ?_;unfold OO;rw[Ad (VA (by simp only[iN];omega))];refine Bb (fun i=>D1.l0 (i:Int)) g.length (fun i hi hx=>.to (show ID g i=some (.inl (.l1 (i:Int) (Bo (g.getD i []) 0) (g.getD i []) (g.getD i []).length 0)) from ?_) ?_) (.to (show ID g g.length=_ from ?_) (.ret _))
 .unfold ID;rw[Ah (VB (by simp only[iN];omega)),Ab (by omega),VE,Al (Ay [] hi)];simp[Bo]
 .have hr:=Da (h.row i hi);refine Bb (fun k=>D1.l1 (i:Int) (Bo (g.getD i []) k) (g.getD i []) (g.getD i []).length (k:Int)) (g.getD i []).length (fun k hk hh=>.to (show Ja g i _ _ _ k=_ from ?_) hh) (.to (show Ja g i _ _ _ (g.getD i []).length=_ from ?_) hx)
  .have h1:=hr.2 k hk;unfold Ja;rw[Ah (VB (by simp only[iN];omega)),Ab (by omega),VE,Al (Ay 0 hk),Ad (VA (by omega)),Ad (VA (by simp only[iN];omega)),Ad (V6.2 h1.2.2),zW k (by omega),show Bo (g.getD i []) (k+1)=(g.getD i []).getD k 0 from rfl]
  .unfold Ja;rw[Ad (VA (by simp only[iN];omega)),zW i (by omega)]
 .unfold ID;rw[Ad (VA (by simp only[iN];omega))]
theorem Nq{g:List (List Int)}(hrw:VG g)(h:Cn g=true):g.length<=24/\∀v,v<g.length->(g.getD v []).length<=24/\(∀w∈g.getD v [],0<=w/\w<(g.length:Int)):=by have hg:=hrw.ok (sh:=List.replicate g.length false) (VQ ..);exact⟨hrw.len,fun v hv=>⟨by have:=(Da (hrw.row v hv)).1;omega,fun w hw=>by have:=(hg.row v hv).2 w hw;omega⟩⟩
theorem rv_init(n:Nat)(g:List (List Int))(hn:n=g.length):DU [some (Blk.mk (List.replicate n .nils) 1 true true none)] (List.replicate n .nils) true (avR (List.replicate g.length [])) (fun _=>1):=by
 subst hn;have e:∀i,(avR (List.replicate g.length [])).getD i []=[]:=fun i=>by rw[B6,Vw,VV];split<;>rfl
 refine⟨rfl,by unfold avR;simp,fun i hi _=>?_,fun i _ hg=>absurd (e i) hg,fun i j _ _ hg=>absurd (e i) hg,fun i hi c hc=>by rw[e] at hc;cases hc⟩;unfold avR at hi;rw[VV,Vt (by simpa using hi)]
theorem QS(v:Nat):∀(l:List Int) (R:List (List Int)) (w:Nat),((l.foldl (B8 v) R).getD w []).length<=(R.getD w []).length+l.length:=by
 intro l;induction l with
 | nil=>intro R w;simp
 | cons x l ih=>
  intro R w;rw[List.foldl_cons,Wa];refine Wd (ih _ _) ?_;have:((B8 v R x).getD w []).length<=(R.getD w []).length+1:=by
   unfold B8;rw[Vw,Wk];by_cases hx:x.toNat=w
   .subst hx;split
    .split
     .simp
     .simp
    .rw[<-Vw];omega
   .rw[Vu hx,<-Vw];omega
  omega
theorem Sr{g:List (List Int)}(hr:∀v,v<g.length->(g.getD v []).length<=24)(w:Nat):∀i,i<=g.length->((BV g i).getD w []).length<=24 * i:=by
 intro i;induction i with
 | zero=>intro _;unfold BV;rw[List.range_zero,List.foldl_nil,Vw,VV];split<;>simp
 | succ i ih=>intro hi;rw[Qu];have:=QS i (g.getD i []) (BV g i) w;have:=hr i (by omega);have:=ih (by omega);omega
theorem rv_ok{g:List (List Int)}(hrw:VG g)(h:Cn g=true):CT Wu 97 [] [.lst (gL g)] [] (.tup [.lst (gL (Ao g)),.int .i64 0]):=by
 have hv:=rvalid_c hrw;rw[h] at hv;obtain⟨h24,hrow⟩:=Nq hrw h;have hlg:(gL g).length=g.length:=B4 g;refine CT.of Tryz.func97 (show Tryz.f97.body=some (zB Tryz.f97) from by kernel_rfl) (nL rfl) ?_;refine T.seq ?_;refine T.ops (st':=?su1) ?steps1 ?post1
 case steps1=>refine .av (.nils) rfl rfl rfl (by kernel_rfl) ?_;refine .av (.int .i64 0) rfl rfl rfl (by kernel_rfl) ?_;exact .nil _
 show T Wu 0 _ _ _;refine T.seq (T.seq ?_);refine T.ops (st':=?su3) ?steps3 ?post3
 case steps3=>refine .av (.lst (gL g)) rfl rfl rfl (by kernel_rfl) ?_;refine .va (.bool true) rfl rfl rfl (B0 rfl (hint:=.call [] [] [] (.bool true)) (R:={v:=.bool true}) (p:=True/\CT Wu 140 [] [.lst (gL g)] [] (.bool true)/\True) (by kernel_rfl) ⟨trivial,hv,trivial⟩).1 ?_;refine .av (.bool false) rfl rfl rfl (by kernel_rfl) ?_;exact .nil _
 show T Wu 0 _ _ _;refine T.cond_false rfl (T.skip ?_);show T Wu 0 _ _ _;refine T.seq ?_;refine T.ops (st':=?su5) ?steps5 ?post5
 case steps5=>refine .av (.lst (gL g)) rfl rfl rfl (by kernel_rfl) ?_;refine .av (.int .i64 (iN (gL g).length)) rfl rfl rfl (by kernel_rfl) ?_;refine .new (v:=.sl 0 0 (gL g).length) (blk:=bK (List.replicate (gL g).length .nils) 1) rfl rfl (nL rfl) (B0 rfl (hint:=.no) (R:={v:=.sl 0 0 (gL g).length,new:=[bK (List.replicate (gL g).length .nils) 1]}) (p:=0<=iN (gL g).length/\iN (gL g).length<=iN (gL g).length/\((24:Nat):Int) * iN (gL g).length<=281474976710656/\iN (gL g).length<=9223372036854775807) (by kernel_rfl) (by simp only[iN,hlg];omega)).1 ?_;refine .av (.sl 0 0 (gL g).length) rfl rfl rfl (by kernel_rfl) ?_;exact .nil _
 show T Wu 0 _ _ _;refine T.seq (T.seq ?_);refine T.ops (st':=?su6) ?steps6 ?post6
 case steps6=>refine .av (.lst (gL g)) rfl rfl rfl (by kernel_rfl) ?_;refine .av (.int .i64 (iN (gL g).length)) rfl rfl rfl (by kernel_rfl) ?_;refine .av (.int .i64 0) rfl rfl rfl (by kernel_rfl) ?_;exact .nil _
 show T Wu 0 _ _ _;refine T.block ?_;refine T.ren (st':=rvSt g 0 [some (bK (List.replicate (gL g).length .nils) 1)]) (Ren.keys ⟨rfl,rfl,rfl,rfl,rfl,trivial⟩) ?_;refine T.loop (fun p:Nat×List (Option Blk)=>rvSt g p.1 p.2) (fun p=>p.1<=g.length/\∃es fl ν,DU p.2 es fl (avR (BV g p.1)) ν) (fun p=>g.length-p.1) (0,_) ⟨VI _,_,_,_,rv_init _ g hlg⟩ ?_
 rintro⟨i,hp⟩ ⟨hi,es,fl,ν,hR⟩
 simp only at hi hR;refine T.seq ?_;refine T.ops (st':=?su7) ?steps7 ?post7
 case steps7=>refine .av (.bool (decide ((i:Int)<iN (gL g).length))) rfl rfl rfl (by kernel_rfl) ?_;exact .nil _
 show T Wu 0 _ _ _;refine T.seq ?_;refine T.cond_split (b:=decide ((i:Int)<iN (gL g).length)) rfl (fun hlt=>T.skip ?_) (fun hge=>T.exit ?_)
 .have hil:i<g.length:=by have:=of_decide_eq_true hlt;simp only[iN] at this;omega
  obtain⟨hr24,hre⟩:=hrow i hil;have hgl:=SN hil;generalize hrr:g.getD i []=r at hr24 hre hgl;show T Wu 0 _ _ _;refine T.seq ?_;refine T.block ?_;refine T.seq ?_;refine T.ops (st':=?su8) ?steps8 ?post8
  case steps8=>refine .av (.int .i64 (i:Int)) rfl rfl rfl (by kernel_rfl) ?_;refine .va (.iptr [lI r]) rfl rfl rfl (C2 (es:=gL g) (m:=(i:Int)) (e:=lI r) rfl rfl rfl Fw (by omega) (by rw[VE];exact hgl) rfl) ?_;refine .va (lI r) rfl rfl rfl (Db rfl rfl Ff rfl rfl) ?_;refine .av (.int .i64 (i:Int)) rfl rfl rfl (by kernel_rfl) ?_;refine .av (lI r) rfl rfl rfl (by kernel_rfl) ?_;exact .nil _
  show T Wu 0 _ _ _;refine T.seq ?_;refine T.ops (st':=?su9) ?steps9 ?post9
  case steps9=>refine .av (lI r) rfl rfl rfl (by kernel_rfl) ?_;refine .av (.int .i64 (iN (r.map (AV.int .i64)).length)) rfl rfl rfl (by kernel_rfl) ?_;refine .av (.int .i64 0) rfl rfl rfl (by kernel_rfl) ?_;exact .nil _
  show T Wu 0 _ _ _;refine T.block ?_;refine T.ren (st':=Dq g i r 0 hp) (Ren.keys ⟨rfl,rfl,rfl,rfl,rfl,rfl,rfl,rfl,rfl,trivial⟩) ?_;refine T.loop (fun p:Nat×List (Option Blk)=>Dq g i r p.1 p.2) (fun p=>p.1<=r.length/\∃es fl ν,DU p.2 es fl (avR ((r.take p.1).foldl (B8 i) (BV g i))) ν) (fun p=>r.length-p.1) (0,hp) ⟨VI _,es,fl,ν,by simpa using hR⟩ ?_
  rintro⟨k,hp1⟩ ⟨hk,es1,fl1,ν1,hR1⟩
  simp only at hk hR1;refine T.seq ?_;refine T.ops (st':=?su10) ?steps10 ?post10
  case steps10=>refine .av (.bool (decide ((k:Int)<iN (r.map (AV.int .i64)).length))) rfl rfl rfl (by kernel_rfl) ?_;exact .nil _
  show T Wu 0 _ _ _;refine T.seq ?_;refine T.cond_split (b:=decide ((k:Int)<iN (r.map (AV.int .i64)).length)) rfl (fun hlt1=>T.skip ?_) (fun hge1=>T.exit ?_)
  .have hkl:k<r.length:=by have:=of_decide_eq_true hlt1;simp only[iN,Vy] at this;omega
   have hwk:r[k]?=some (r.getD k 0):=Ay 0 hkl;have hwm:r.getD k 0∈r:=Vz hwk;have hwb:=hre _ hwm;generalize hwd:r.getD k 0=w at *;show T Wu 0 _ _ _;refine T.seq ?_;refine T.block ?_;refine T.seq ?_;refine T.ops (st':=?su11) ?steps11 ?post11
   case steps11=>refine .va (.iptr [.int .i64 w]) rfl rfl rfl (C2 (es:=r.map (AV.int .i64)) (m:=(k:Int)) (e:=.int .i64 w) rfl rfl rfl LB (by omega) (by rw[VE,VF,hwk];rfl) rfl) ?_;refine .va (.int .i64 w) rfl rfl rfl (Db rfl rfl tsz3 rfl rfl) ?_;refine .av (.int .i64 w) rfl rfl rfl (by kernel_rfl) ?_;exact .nil _
   show T Wu 0 _ _ _;refine rv_edge (g:=g) (i:=i) (r:=r) (k:=k) hR1 (by rw[Rc,J1]) hwb (Wd (QS i (r.take k) (BV g i) w.toNat) ?_) rfl ?_
   .have:=Sr (fun v hv=>(hrow v hv).1) w.toNat i (by omega);have h2:(r.take k).length<=24:=by rw[VX];omega
    omega
   intro hp2 es2 fl2 ν2 fr2 hR2 hl2;show T Wu 0 _ _ _;refine T.ren (st':=Dq g i r k hp2) (Ren.slots fun s=>?_) ?_
   .by_cases hs:s<=24
    .by_cases h8:s=8
     .subst h8;exact .inl rfl
     .rcases hl2 s (by omega) with e | e
      .exact .inr e.symm
      .omega
    .left
     (repeat rw[Bc (by omega)]);rfl
   refine T.ops (st':=?su12) ?steps12 ?post12
   case steps12=>refine .av (.int .i64 (i64.wrap ((k:Int)+1))) rfl rfl rfl (by kernel_rfl) ?_;refine .av (.int .i64 (i64.wrap ((k:Int)+1))) rfl rfl rfl (by kernel_rfl) ?_;exact .nil _
   show ∃j,_;refine⟨(k+1,hp2),Ren.keys ⟨rfl,rfl,rfl,rfl,rfl,rfl,rfl,rfl,(by show AV.int .i64 ((k+1:Nat):Int)=AV.int .i64 (i64.wrap ((k:Int)+1));rw[zW k (by omega)]),trivial⟩,⟨by omega,es2,fl2,ν2,?_⟩,by show r.length-(k+1)<r.length-k;omega⟩
   .have e:(r.take (k+1)).foldl (B8 i) (BV g i)=B8 i ((r.take k).foldl (B8 i) (BV g i)) w:=by rw[List.take_add_one,hwk,Option.toList_some,List.foldl_append];rfl
    rw[show (k+1,hp2).1=k+1 from rfl,e];exact hR2
  .have hke:k=r.length:=by have:=of_decide_eq_false hge1;simp only[iN,Vy] at this;omega
   subst hke;rw[List.take_length] at hR1;simp only[andThen,Cz,↓reduceIte];show T Wu 0 _ _ _;refine T.ops (st':=?su13) ?steps13 ?post13
   case steps13=>refine .av (.int .i64 (i64.wrap ((i:Int)+1))) rfl rfl rfl (by kernel_rfl) ?_;refine .av (.int .i64 (i64.wrap ((i:Int)+1))) rfl rfl rfl (by kernel_rfl) ?_;exact .nil _
   show ∃j,_;refine⟨(i+1,hp1),Ren.keys ⟨rfl,rfl,rfl,rfl,(by show AV.int .i64 ((i+1:Nat):Int)=AV.int .i64 (i64.wrap ((i:Int)+1));rw[zW i (by omega)]),trivial⟩,⟨by omega,es1,fl1,ν1,?_⟩,by show g.length-(i+1)<g.length-i;omega⟩
   .rw[show (i+1,hp1).1=i+1 from rfl,Qu,hrr];exact hR1
 .have hie:i=g.length:=by have:=of_decide_eq_false hge;simp only[iN] at this;omega
  simp only[andThen,Cz,↓reduceIte];show T Wu 0 _ _ _;refine T.seq ?_;refine T.ops (st':=?su14) ?steps14 ?post14
  case steps14=>refine .av (.sl 0 0 (gL g).length) rfl rfl rfl (by kernel_rfl) ?_;refine .av (.sl 0 0 (gL g).length) rfl rfl rfl (by kernel_rfl) ?_;refine .av (.int .i64 0) rfl rfl rfl (by kernel_rfl) ?_;exact .nil _
  show T Wu 0 _ _ _;refine T.ret ?_;refine⟨.inr rfl,.tup [.sl 0 0 (gL g).length,.int .i64 0],⟨Tryz.f97.ntmps,[(0,.tup [.lst (gL (Ao g)),.int .i64 0])],[]⟩,rfl,?_,rfl,rfl,(nL rfl)⟩;intro A0 n0 φ a w hm hr;have hl:(avR (BV g i)).length=(gL g).length:=by unfold avR;rw[Vy,J1,hlg]
  have he:(avR (BV g i)).map Wt=gL (Ao g):=by unfold avR Ao;rw[List.map_map,hie];rfl
  refine⟨fun _=>none,⟨hr.defs,hr.size,fun s=>?_,⟨fun b blk hb=>by simp[St.h,nth] at hb,fun b blk hb=>by simp[St.h,nth] at hb,fun b b' r z z' hb=>by simp[St.h,nth] at hb⟩,fun _ _=>rfl,hr.base,fun b r z _ hb=>by cases hb⟩,VI _,⟨fun b hb=>absurd hb (Wl _),Bt.refl _ w,fun r ⟨b,blk,z,hb,_⟩=>by simp[St.h,nth] at hb⟩⟩;cases s with
  | succ s=>exact .imm _ _ (.unk _)
  | zero=>
   have h0:=hr.slot 0;obtain⟨vs,hvs,hlen,hh⟩:=VR.tup_inv h0;show VR _ _ _ (.tup [.lst (gL (Ao g)),.int .i64 0]) _;rw[hvs];refine .tup _ _ hlen fun j c u hc hu=>?_
   match j,hc with
   | 0,hc=>
    cases hc;have:=hR.freeze (n:=0) (x:=.unk) rfl hr (by rw[hl];exact hh 0 _ u rfl hu);rw[he] at this;exact .imm _ _ this
   | 1,hc=>
    cases hc;have:=(hh 1 _ u rfl hu).int_inv;subst this;exact .imm _ _ (.int _ _)
   | j+2,hc=>simp at hc
def rvO(g:List (List Int)):List (List Int):=if Cn g=true then Ao g else []
def rvE(g:List (List Int)):Int:=if Cn g=true then 0 else 20
theorem rev_c{g:List (List Int)}(hrw:VG g):CT Wu 97 [] [.lst (gL g)] [] (.tup [.lst (gL (rvO g)),.int .i64 (rvE g)]):=by
 unfold rvO rvE;cases h:Cn g with
 | true=>exact rv_ok hrw h
 | false=>rw[QF.2 hrw] at h;cases h
inductive DX where | l0 (v0:Nat) (v1 v2 v3 v4 v5 v6 v7 v8 v9 v10 v11 v12 v13 v14 v15 v16 v17 v18 v19 v20 v21 v22 v23 v24:Bool) (v25:List Int) | l1 (v0:Nat) (v1:List Int) (v2:Nat) (v3:Int) (v4 v5 v6 v7 v8 v9 v10 v11 v12 v13 v14 v15 v16 v17 v18 v19 v20 v21 v22 v23 v24 v25 v26 v27:Bool) (v28:List Int)
def Kx(g:List (List Int))(sh:List Bool)(q:Int):DX->St | .l0 v0 v1 v2 v3 v4 v5 v6 v7 v8 v9 v10 v11 v12 v13 v14 v15 v16 v17 v18 v19 v20 v21 v22 v23 v24 v25=>St.mk 63 [(0,Wt (gL g)),(1,Wt (boL sh)),(6,AV.ptr 0 0 0),(7,AV.ptr 1 0 0),(8,AV.sl 2 0 v0)] [some (bK [AV.agg [bV false,bV false,bV false,bV false,bV false,bV false,bV false,bV false,bV false,bV false,bV false,bV false,bV false,bV false,bV false,bV false,bV false,bV false,bV false,bV false,bV false,bV false,bV false,bV false]] 24),some (bK [AV.agg [bV v1,bV v2,bV v3,bV v4,bV v5,bV v6,bV v7,bV v8,bV v9,bV v10,bV v11,bV v12,bV v13,bV v14,bV v15,bV v16,bV v17,bV v18,bV v19,bV v20,bV v21,bV v22,bV v23,bV v24]] 24),some (bK (Wn iv v25) 1)] | .l1 v0 v1 v2 v3 v4 v5 v6 v7 v8 v9 v10 v11 v12 v13 v14 v15 v16 v17 v18 v19 v20 v21 v22 v23 v24 v25 v26 v27 v28=>St.mk 63 [(0,Wt (gL g)),(1,Wt (boL sh)),(6,AV.ptr 0 0 0),(7,AV.ptr 1 0 0),(8,AV.sl 2 0 v0),(38,Wt (Wn iv v1)),(39,iv (iN v2)),(40,iv v3)] [some (bK [AV.agg [bV false,bV false,bV false,bV false,bV false,bV false,bV false,bV false,bV false,bV false,bV false,bV false,bV false,bV false,bV false,bV false,bV false,bV false,bV false,bV false,bV false,bV false,bV false,bV false]] 24),some (bK [AV.agg [bV v4,bV v5,bV v6,bV v7,bV v8,bV v9,bV v10,bV v11,bV v12,bV v13,bV v14,bV v15,bV v16,bV v17,bV v18,bV v19,bV v20,bV v21,bV v22,bV v23,bV v24,bV v25,bV v26,bV v27]] 24),some (bK (Wn iv v28) 1)]
def fdEn(g:List (List Int))(sh:List Bool)(q:Int):Option (DX⊕Ret):=gu (0<=q) <|el (sh) (q.toNat) fun(x14:Bool)=>br x14 (some (.inr ([],AV.agg [bV false,bV false,bV false,bV false,bV false,bV false,bV false,bV false,bV false,bV false,bV false,bV false,bV false,bV false,bV false,bV false,bV false,bV false,bV false,bV false,bV false,bV false,bV false,bV false]))) (gu (q<24) <|gu ((0+q.toNat * 1+1).le 24) <|some (.inl (.l0 (nat_lit 1) (bif Nat.beq 0 (0+q.toNat * 1) then true else false) (bif Nat.beq 1 (0+q.toNat * 1) then true else false) (bif Nat.beq 2 (0+q.toNat * 1) then true else false) (bif Nat.beq 3 (0+q.toNat * 1) then true else false) (bif Nat.beq 4 (0+q.toNat * 1) then true else false) (bif Nat.beq 5 (0+q.toNat * 1) then true else false) (bif Nat.beq 6 (0+q.toNat * 1) then true else false) (bif Nat.beq 7 (0+q.toNat * 1) then true else false) (bif Nat.beq 8 (0+q.toNat * 1) then true else false) (bif Nat.beq 9 (0+q.toNat * 1) then true else false) (bif Nat.beq 10 (0+q.toNat * 1) then true else false) (bif Nat.beq 11 (0+q.toNat * 1) then true else false) (bif Nat.beq 12 (0+q.toNat * 1) then true else false) (bif Nat.beq 13 (0+q.toNat * 1) then true else false) (bif Nat.beq 14 (0+q.toNat * 1) then true else false) (bif Nat.beq 15 (0+q.toNat * 1) then true else false) (bif Nat.beq 16 (0+q.toNat * 1) then true else false) (bif Nat.beq 17 (0+q.toNat * 1) then true else false) (bif Nat.beq 18 (0+q.toNat * 1) then true else false) (bif Nat.beq 19 (0+q.toNat * 1) then true else false) (bif Nat.beq 20 (0+q.toNat * 1) then true else false) (bif Nat.beq 21 (0+q.toNat * 1) then true else false) (bif Nat.beq 22 (0+q.toNat * 1) then true else false) (bif Nat.beq 23 (0+q.toNat * 1) then true else false) ([q]))))
def EF(g:List (List Int))(sh:List Bool)(q:Int)(v0:Nat)(v1 v2 v3 v4 v5 v6 v7 v8 v9 v10 v11 v12 v13 v14 v15 v16 v17 v18 v19 v20 v21 v22 v23 v24:Bool)(v25:List Int):Option (DX⊕Ret):=br (decide (0<iN v0)) (gu (0<=i64.wrap (iN v0-1)) <|gu (i64.wrap (iN v0-1)<iN v0) <|el v25 (0+(i64.wrap (iN v0-1)).toNat) fun(x29:Int)=>gu (i64.wrap (iN v0-1)<=iN v0) <|gu (0<=x29) <|el g (x29.toNat) fun(x37:List Int)=>some (.inl (.l1 ((i64.wrap (iN v0-1)).toNat) x37 ((Wn iV x37).length) ((0:Int)) v1 v2 v3 v4 v5 v6 v7 v8 v9 v10 v11 v12 v13 v14 v15 v16 v17 v18 v19 v20 v21 v22 v23 v24 (List.take (i64.wrap (iN v0-1)).toNat v25)))) (some (.inr ([],AV.agg [bV v1,bV v2,bV v3,bV v4,bV v5,bV v6,bV v7,bV v8,bV v9,bV v10,bV v11,bV v12,bV v13,bV v14,bV v15,bV v16,bV v17,bV v18,bV v19,bV v20,bV v21,bV v22,bV v23,bV v24])))
def Dv(g:List (List Int))(sh:List Bool)(q:Int)(v0:Nat)(v1:List Int)(v2:Nat)(v3:Int)(v4 v5 v6 v7 v8 v9 v10 v11 v12 v13 v14 v15 v16 v17 v18 v19 v20 v21 v22 v23 v24 v25 v26 v27:Bool)(v28:List Int):Option (DX⊕Ret):=br (decide (v3<iN v2)) (gu (0<=v3) <|el v1 (v3.toNat) fun(x42:Int)=>gu (0<=x42) <|el (sh) (x42.toNat) fun(x46:Bool)=>br (!x46) (gu (x42<24) <|el ([v4,v5,v6,v7,v8,v9,v10,v11,v12,v13,v14,v15,v16,v17,v18,v19,v20,v21,v22,v23,v24,v25,v26,v27]) (0+x42.toNat * 1) fun(x52:Bool)=>br (!x52) (gu ((0+x42.toNat * 1+1).le 24) <|gu ((Wn iV v28).length=v0) <|gu ((Wn iV v28).length+[iV x42].length<=9223372036854775807) <|gu (((Wn iV v28).length+[iV x42].length) * 8<=140737488355328) <|some (.inl (.l1 ((Wn iV v28).length+[iV x42].length) v1 v2 (i64.wrap (v3+1)) (bif Nat.beq 0 (0+x42.toNat * 1) then true else v4) (bif Nat.beq 1 (0+x42.toNat * 1) then true else v5) (bif Nat.beq 2 (0+x42.toNat * 1) then true else v6) (bif Nat.beq 3 (0+x42.toNat * 1) then true else v7) (bif Nat.beq 4 (0+x42.toNat * 1) then true else v8) (bif Nat.beq 5 (0+x42.toNat * 1) then true else v9) (bif Nat.beq 6 (0+x42.toNat * 1) then true else v10) (bif Nat.beq 7 (0+x42.toNat * 1) then true else v11) (bif Nat.beq 8 (0+x42.toNat * 1) then true else v12) (bif Nat.beq 9 (0+x42.toNat * 1) then true else v13) (bif Nat.beq 10 (0+x42.toNat * 1) then true else v14) (bif Nat.beq 11 (0+x42.toNat * 1) then true else v15) (bif Nat.beq 12 (0+x42.toNat * 1) then true else v16) (bif Nat.beq 13 (0+x42.toNat * 1) then true else v17) (bif Nat.beq 14 (0+x42.toNat * 1) then true else v18) (bif Nat.beq 15 (0+x42.toNat * 1) then true else v19) (bif Nat.beq 16 (0+x42.toNat * 1) then true else v20) (bif Nat.beq 17 (0+x42.toNat * 1) then true else v21) (bif Nat.beq 18 (0+x42.toNat * 1) then true else v22) (bif Nat.beq 19 (0+x42.toNat * 1) then true else v23) (bif Nat.beq 20 (0+x42.toNat * 1) then true else v24) (bif Nat.beq 21 (0+x42.toNat * 1) then true else v25) (bif Nat.beq 22 (0+x42.toNat * 1) then true else v26) (bif Nat.beq 23 (0+x42.toNat * 1) then true else v27) (v28++[x42])))) (some (.inl (.l1 v0 v1 v2 (i64.wrap (v3+1)) v4 v5 v6 v7 v8 v9 v10 v11 v12 v13 v14 v15 v16 v17 v18 v19 v20 v21 v22 v23 v24 v25 v26 v27 v28)))) (some (.inl (.l1 v0 v1 v2 (i64.wrap (v3+1)) v4 v5 v6 v7 v8 v9 v10 v11 v12 v13 v14 v15 v16 v17 v18 v19 v20 v21 v22 v23 v24 v25 v26 v27 v28)))) (some (.inl (.l0 v0 v4 v5 v6 v7 v8 v9 v10 v11 v12 v13 v14 v15 v16 v17 v18 v19 v20 v21 v22 v23 v24 v25 v26 v27 v28)))
def NV(g:List (List Int))(sh:List Bool)(q:Int):DX->Option (DX⊕Ret) | .l0 v0 v1 v2 v3 v4 v5 v6 v7 v8 v9 v10 v11 v12 v13 v14 v15 v16 v17 v18 v19 v20 v21 v22 v23 v24 v25=>EF g sh q v0 v1 v2 v3 v4 v5 v6 v7 v8 v9 v10 v11 v12 v13 v14 v15 v16 v17 v18 v19 v20 v21 v22 v23 v24 v25 | .l1 v0 v1 v2 v3 v4 v5 v6 v7 v8 v9 v10 v11 v12 v13 v14 v15 v16 v17 v18 v19 v20 v21 v22 v23 v24 v25 v26 v27 v28=>Dv g sh q v0 v1 v2 v3 v4 v5 v6 v7 v8 v9 v10 v11 v12 v13 v14 v15 v16 v17 v18 v19 v20 v21 v22 v23 v24 v25 v26 v27 v28
theorem fd_ct(g:List (List Int))(sh:List Bool)(q:Int)(r:Ret)(h:Ac (NV g sh q) (fdEn g sh q) r):CT Wu 98 ([]) ([.lst (gL g),.lst (boL sh),.int .i64 q]) r.1 r.2:=CT.mach (fn:=Tryz.f98) (c:=zB Tryz.f98) (S:=(Kx g sh q)) (hd:=DX.ctorIdx) Tryz.func98 (by kernel_rfl) (nL rfl) (fun s o ho=>match s,ho with | .l0 v0 v1 v2 v3 v4 v5 v6 v7 v8 v9 v10 v11 v12 v13 v14 v15 v16 v17 v18 v19 v20 v21 v22 v23 v24 v25,ho=>Scr.ok (X:=EF g sh q v0 v1 v2 v3 v4 v5 v6 v7 v8 v9 v10 v11 v12 v13 v14 v15 v16 v17 v18 v19 v20 v21 v22 v23 v24 v25) ho mix (.ra (al aE) <|.br (fun a0=>.gu fun a1=>.gu fun a2=>.el fun x29 a3=>.rd [47] [(29,iv x29)] [] (af a0 (ah (b7 (an a1 a2) (Ae (f:=iv) a3) s2))) <|.gu fun a4=>.rd [] [(34,AV.unk)] [] (bC (aB a1 a4 s2)) <|.gu fun a5=>.el fun x37 a6=>.lq [] [(37,lI x37)] [] [] [] [0,1,2] [0,1,6,7,8,38,39,40] (up [] [(2,List.take (i64.wrap (iN v0-1)).toNat (Wn iv v25))] (Kx g sh q (.l1 ((i64.wrap (iN v0-1)).toNat) x37 ((Wn iv x37).length) ((0:Int)) v1 v2 v3 v4 v5 v6 v7 v8 v9 v10 v11 v12 v13 v14 v15 v16 v17 v18 v19 v20 v21 v22 v23 v24 (List.take (i64.wrap (iN v0-1)).toNat v25)))) (aj (aR (aB a5 (Ae (f:=lI) a6) bY)) (k3 t9)) (by simp[up,upF,upV,upH,upB,Kx,gL,boL,lI])) (fun a0=>.ta [46] (aJ a0 cu (bL (k5 aP))))) (by kernel_rfl) | .l1 v0 v1 v2 v3 v4 v5 v6 v7 v8 v9 v10 v11 v12 v13 v14 v15 v16 v17 v18 v19 v20 v21 v22 v23 v24 v25 v26 v27 v28,ho=>Scr.ok (X:=Dv g sh q v0 v1 v2 v3 v4 v5 v6 v7 v8 v9 v10 v11 v12 v13 v14 v15 v16 v17 v18 v19 v20 v21 v22 v23 v24 v25 v26 v27 v28) ho mix (.ra bG <|.br (fun a0=>.gu fun a1=>.el fun x42 a2=>.rd [83] [(42,iv x42)] [] (af a0 (aB a1 (Ae (f:=iv) a2) aw)) <|.gu fun a3=>.el fun x46 a4=>.br (fun a5=>.gu fun a6=>.el fun x52 a7=>.rd [99] [(46,bV x46),(52,AV.tup [bV x52])] [] (aR (aB a3 (Ae (f:=bV) a4) (am (ag a5 (bv a5 (an a3 a6) (aj a5 (ak (Ae (f:=bV) a7))) (ag a5 (bE a5))))))) <|.br (fun a8=>.gu fun a9=>.rd [99,109] [(56,AV.tup [AV.unk])] [] (af a8 (u2 (af (an a3 a6) (ak a9)))) <|.gu fun a10=>.gu fun a11=>.gu fun a12=>.lq [99] [] [] [] [] [0,1,4] [0,1,6,7,8,38,39,40] (up [] [(2,Wn iv v28++[iv x42])] (Kx g sh q (.l1 ((Wn iv v28).length+[iv x42].length) v1 v2 (i64.wrap (v3+1)) (bif Nat.beq 0 (0+x42.toNat * 1) then true else v4) (bif Nat.beq 1 (0+x42.toNat * 1) then true else v5) (bif Nat.beq 2 (0+x42.toNat * 1) then true else v6) (bif Nat.beq 3 (0+x42.toNat * 1) then true else v7) (bif Nat.beq 4 (0+x42.toNat * 1) then true else v8) (bif Nat.beq 5 (0+x42.toNat * 1) then true else v9) (bif Nat.beq 6 (0+x42.toNat * 1) then true else v10) (bif Nat.beq 7 (0+x42.toNat * 1) then true else v11) (bif Nat.beq 8 (0+x42.toNat * 1) then true else v12) (bif Nat.beq 9 (0+x42.toNat * 1) then true else v13) (bif Nat.beq 10 (0+x42.toNat * 1) then true else v14) (bif Nat.beq 11 (0+x42.toNat * 1) then true else v15) (bif Nat.beq 12 (0+x42.toNat * 1) then true else v16) (bif Nat.beq 13 (0+x42.toNat * 1) then true else v17) (bif Nat.beq 14 (0+x42.toNat * 1) then true else v18) (bif Nat.beq 15 (0+x42.toNat * 1) then true else v19) (bif Nat.beq 16 (0+x42.toNat * 1) then true else v20) (bif Nat.beq 17 (0+x42.toNat * 1) then true else v21) (bif Nat.beq 18 (0+x42.toNat * 1) then true else v22) (bif Nat.beq 19 (0+x42.toNat * 1) then true else v23) (bif Nat.beq 20 (0+x42.toNat * 1) then true else v24) (bif Nat.beq 21 (0+x42.toNat * 1) then true else v25) (bif Nat.beq 22 (0+x42.toNat * 1) then true else v26) (bif Nat.beq 23 (0+x42.toNat * 1) then true else v27) (v28++[x42])))) (cj (cH a10 (bv (show nat_lit 1=nat_lit 1 from rfl) (show 1<=[iv x42].length by simp) a11 a12) s2) (k3 t9)) (by simp[up,upF,upV,upH,upB,Kx,gL,boL,lI])) (fun a8=>.pa [99,108] [0,1,2] [0,1,6,7,8,38,39,40] (cj a8 (k3 t9)))) (fun a5=>.pb [98] [(46,bV x46)] [] [] [0,1,2] [0,1,6,7,8,38,39,40] (bI (bN a3 (Ae (f:=bV) a4) (am (aC a5 (bW a5)))) aw (k3 t9)))) (fun a0=>.pa [82] [0,1,2] [0,1,6,7,8] (aj (al a0) t9))) (by kernel_rfl)) (fun o ho=>Scr.ok (X:=fdEn g sh q) ho mix (.rv 1 [] [] [] aw <|.gu fun a0=>.el fun x14 a1=>.rd [] [(14,bV x14)] [] (aR (aB a0 (Ae (f:=bV) a1) s2)) <|.br (fun a2=>.ta [31] (aJ a2 cu (bL (k5 aP)))) (fun a2=>.gu fun a3=>.gu fun a4=>.pb [30] [(18,AV.tup [AV.unk])] [] [] [0,1,2] [0,1,6,7,8] (bm a2 (u2 (af (an a0 a3) (ak a4))) aE t9))) (by kernel_rfl)) h
inductive Rcv (g:List (List Int)) (s:List Bool) (v:Nat):Nat->Prop | refl (h:s.getD v true=false):Rcv g s v v | step {u w:Nat} (h:Rcv g s v u) (hw:(w:Int)∈g.getD u []) (ho:s.getD w true=false):Rcv g s v w
open Classical in
def mkB(g:List (List Int))(s:List Bool)(v k:Nat):Bool:=decide (Rcv g s v k)
theorem ES{g:List (List Int)}{s:List Bool}{v k:Nat}:mkB g s v k=true↔Rcv g s v k:=by unfold mkB;exact @decide_eq_true_iff _ (Classical.propDecidable _)
theorem Pn{g:List (List Int)}{s:List Bool}{v k:Nat}(h:¬Rcv g s v k):mkB g s v k=false:=Bool.eq_false_iff.2 fun e=>h (ES.1 e)
def arrA(m:Nat->Bool):AV:=.agg ((List.range 24).map fun k=>.bool (m k))
structure GOk(g:List (List Int)):Prop where
 len:g.length<=24
 row:∀v,v<g.length->(g.getD v []).length<=100000/\∀w∈g.getD v [],0<=w/\w<(g.length:Int)
def cUn(m:Nat->Bool):Nat->Nat | 0=>0 | n+1=>cUn m n+(if m n=true then 0 else 1)
def B3(m:Nat->Bool)(x:Nat):Nat->Bool:=fun k=>bif Nat.beq k (0+x * 1) then true else m k
theorem BH(m:Nat->Bool)(x k:Nat):B3 m x k=if k=x then true else m k:=by
 unfold B3;rw[VL,Nat.mul_one];by_cases h:k=x
 .subst h;rw[Nat.beq_refl,Vt rfl];rfl
 .rw[Vu h];cases hb:Nat.beq k x with
  | true=>exact absurd (VC hb) h
  | false=>rfl
theorem KK{m:Nat->Bool}{x:Nat}(hx:m x=false):∀n,cUn (B3 m x) n+(if x<n then 1 else 0)=cUn m n:=by
 intro n;induction n with
 | zero=>rfl
 | succ n ih=>
  unfold cUn;rw[BH];by_cases h:n=x
  .subst h;rw[Vu (Nat.lt_irrefl _)] at ih;rw[Vt rfl,Vt (Vj _),hx];simp;omega
  .rw[Vu h];by_cases hl:x<n
   .rw[Vt hl] at ih;rw[Vt (show x<n+1 by omega)];split<;>omega
   .rw[Vu hl] at ih;rw[Vu (show ¬x<n+1 by omega)];split<;>omega
theorem NI(m:Nat->Bool){k:Nat}(h:k<24):([m 0,m 1,m 2,m 3,m 4,m 5,m 6,m 7,m 8,m 9,m 10,m 11,m 12,m 13,m 14,m 15,m 16,m 17,m 18,m 19,m 20,m 21,m 22,m 23]:List Bool)[0+k * 1]?=some (m k):=by rw[VL,Nat.mul_one];have:([m 0,m 1,m 2,m 3,m 4,m 5,m 6,m 7,m 8,m 9,m 10,m 11,m 12,m 13,m 14,m 15,m 16,m 17,m 18,m 19,m 20,m 21,m 22,m 23]:List Bool)=(List.range 24).map m:=rfl;rw[this,VF,VS h];rfl
def fdA(n:Nat)(m:Nat->Bool)(st:List Int):DX:=.l0 n (m 0) (m 1) (m 2) (m 3) (m 4) (m 5) (m 6) (m 7) (m 8) (m 9) (m 10) (m 11) (m 12) (m 13) (m 14) (m 15) (m 16) (m 17) (m 18) (m 19) (m 20) (m 21) (m 22) (m 23) st
def fdB(n:Nat)(r:List Int)(n2:Nat)(k:Int)(m:Nat->Bool)(st:List Int):DX:=.l1 n r n2 k (m 0) (m 1) (m 2) (m 3) (m 4) (m 5) (m 6) (m 7) (m 8) (m 9) (m 10) (m 11) (m 12) (m 13) (m 14) (m 15) (m 16) (m 17) (m 18) (m 19) (m 20) (m 21) (m 22) (m 23) st
structure FdJ(g:List (List Int))(s:List Bool)(v:Nat)(m:Nat->Bool)(st:List Int)(ex:Nat->Prop):Prop where
 sound:∀k,m k=true->Rcv g s v k
 start:m v=true
 stk:∀x∈st,0<=x/\x<(g.length:Int)/\m x.toNat=true
 closed:∀u,m u=true->(u:Int)∉st->¬ex u->∀w:Nat,(w:Int)∈g.getD u []->s.getD w true=false->m w=true
 size:st.length+cUn m 24<=24
theorem OQ{g:List (List Int)}{s:List Bool}{v:Nat}{m:Nat->Bool}(h:FdJ g s v m [] (fun _=>False)):(fun k=>m k)=mkB g s v:=by
 funext k;cases hk:m k with
 | true=>exact(ES.2 (h.sound k hk)).symm
 | false=>
  refine(Pn fun hr=>?_).symm;have:m k=true:=by
   induction hr with
   | refl _=>exact h.start
   | @step u w _ hw ho ih=>
    cases hu:m u with
    | true=>exact h.closed _ hu (by simp) (fun e=>e) _ hw ho
    | false=>exact absurd (ih hu) (by rw[hu];simp)
  rw[hk] at this;cases this
theorem Rcv.lt{g:List (List Int)}{s:List Bool}{v k:Nat}(hs:s.length=g.length)(h:Rcv g s v k):k<g.length:=by
 have key:∀x,s.getD x true=false->x<g.length:=fun x hx=>by
  rcases Wm x s.length with h | h
  .omega
  .rw[Vw,VT h] at hx;cases hx
 cases h with
 | refl h=>exact key _ h
 | step _ _ ho=>exact key _ ho
theorem fd_loop{g:List (List Int)}{s:List Bool}{v:Nat}(hg:GOk g)(hs:s.length=g.length):∀(N:Nat) (m:Nat->Bool) (st:List Int),2 * cUn m 24+st.length<=N->FdJ g s v m st (fun _=>False)->
  Ac (NV g s (v:Int)) (some (.inl (fdA st.length m st))) (([],arrA (mkB g s v)):Ret):=by
 have h24:=hg.len
 intro N
 induction N with
 | zero=>
  intro m st hN hJ
  have h0:st=[]:=List.eq_nil_of_length_eq_zero (by omega)
  subst h0
  rw[<-OQ hJ]
  refine .to (show EF g s v 0 (m 0) (m 1) (m 2) (m 3) (m 4) (m 5) (m 6) (m 7) (m 8) (m 9) (m 10) (m 11) (m 12) (m 13) (m 14) (m 15) (m 16) (m 17) (m 18) (m 19) (m 20) (m 21) (m 22) (m 23) []=_ from ?_) (.ret _)
  unfold EF
  rw[Ad (by rfl)];rfl
 | succ N ih=>
  intro m st hN hJ
  rcases Nat.eq_zero_or_pos st.length with hz | hp
  .have h0:st=[]:=List.eq_nil_of_length_eq_zero hz
   subst h0
   rw[<-OQ hJ]
   refine .to (show EF g s v 0 (m 0) (m 1) (m 2) (m 3) (m 4) (m 5) (m 6) (m 7) (m 8) (m 9) (m 10) (m 11) (m 12) (m 13) (m 14) (m 15) (m 16) (m 17) (m 18) (m 19) (m 20) (m 21) (m 22) (m 23) []=_ from ?_) (.ret _)
   unfold EF
   rw[Ad (by rfl)];rfl
  .have hsz:=hJ.size
   have w1:i64.wrap (iN st.length-1)=((st.length-1:Nat):Int):=by rw[Dt (by simp only[iN];omega) (by simp only[iN];omega)];simp only[iN];omega
   have hlast:st[st.length-1]?=some (st.getD (st.length-1) 0):=Ay 0 (by omega)
   generalize hx:st.getD (st.length-1) 0=x at hlast
   have hxm:x∈st:=Vz hlast
   obtain⟨x0,x1,x2⟩:=hJ.stk x hxm
   have hxl:x.toNat<g.length:=by omega
   have hrow:=Ay [] hxl
   obtain⟨hr1,hr2⟩:=hg.row x.toNat hxl
   generalize hrr:g.getD x.toNat []=r at hrow hr1 hr2
   have htk:(st.take (st.length-1)).length=st.length-1:=by rw[VX];omega
   have hmem:∀y∈st,y∉st.take (st.length-1)->y=x:=fun y hy hn=>by
    have e:st=st.take (st.length-1)++[x]:=by
     have:st.take (st.length-1+1)=st.take (st.length-1)++[x]:=by rw[List.take_add_one,hlast];rfl
     rw[<-this,show st.length-1+1=st.length by omega,List.take_length]
    rw[e] at hy
    rcases VZ.1 hy with h | h
    .exact absurd h hn
    .exact Vn.1 h
   refine .to (show EF g s v st.length (m 0) (m 1) (m 2) (m 3) (m 4) (m 5) (m 6) (m 7) (m 8) (m 9) (m 10) (m 11) (m 12) (m 13) (m 14) (m 15) (m 16) (m 17) (m 18) (m 19) (m 20) (m 21) (m 22) (m 23) st=some (.inl (fdB (st.length-1) r r.length 0 m (st.take (st.length-1)))) from ?_) ?_
   .unfold EF
    rw[Ah (AA (by simp only[iN];omega)),w1,Ab (by omega),Ab (by simp only[iN];omega),VE,VL,Al hlast,Ab (by simp only[iN];omega),Ab x0,Al hrow,Vy];rfl
   -- the row of x
   have inner:∀(j k:Nat) (m:Nat->Bool) (st:List Int),k+j=r.length->2 * cUn m 24+st.length<=N->FdJ g s v m st (fun u=>u=x.toNat)->m x.toNat=true->(∀i w,i<k->r[i]?=some w->s.getD w.toNat true=false->m w.toNat=true)->
     Ac (NV g s (v:Int)) (some (.inl (fdB st.length r r.length (k:Int) m st))) (([],arrA (mkB g s v)):Ret):=by
    intro j
    induction j with
    | zero=>
     intro k m st hk hN2 hJ2 hmx hdone
     refine .to (show Dv g s v st.length r r.length (k:Int) (m 0) (m 1) (m 2) (m 3) (m 4) (m 5) (m 6) (m 7) (m 8) (m 9) (m 10) (m 11) (m 12) (m 13) (m 14) (m 15) (m 16) (m 17) (m 18) (m 19) (m 20) (m 21) (m 22) (m 23) st=some (.inl (fdA st.length m st)) from ?_) (ih m st hN2 ⟨hJ2.sound,hJ2.start,hJ2.stk,fun u hu hn _ w hw ho=>?_,hJ2.size⟩)
     .unfold Dv
      rw[Ad (AB (by simp only[iN];omega))];rfl
     .by_cases hux:u=x.toNat
      .subst hux
       rw[hrr] at hw
       obtain⟨i,hi⟩:=List.getElem?_of_mem hw
       have hil:=(Vx.1 hi).1
       have:=hdone i _ (by omega) hi (by simpa using ho)
       simpa using this
      .exact hJ2.closed u hu hn hux w hw ho
    | succ j ihj=>
     intro k m st hk hN2 hJ2 hmx hdone
     have hkl:k<r.length:=by omega
     have hw:=Ay 0 hkl
     generalize r.getD k 0=w at hw
     have hwm:w∈r:=Vz hw
     obtain⟨w0,w1'⟩:=hr2 w hwm
     have hwl:w.toNat<s.length:=by omega
     have hsw:=Ay true hwl
     have wk:=zW k (by omega)
     have hsz2:=hJ2.size
     cases hso:s.getD w.toNat true with
     | true=>
      refine .to (show Dv g s v st.length r r.length (k:Int) (m 0) (m 1) (m 2) (m 3) (m 4) (m 5) (m 6) (m 7) (m 8) (m 9) (m 10) (m 11) (m 12) (m 13) (m 14) (m 15) (m 16) (m 17) (m 18) (m 19) (m 20) (m 21) (m 22) (m 23) st=some (.inl (fdB st.length r r.length ((k+1:Nat):Int) m st)) from ?_) (ihj (k+1) m st (by omega) hN2 hJ2 hmx fun i w' hi hw' ho=>?_)
      .unfold Dv
       rw[Ah (AA (by simp only[iN];omega)),Ab (by omega),VE,Al hw,Ab w0,Al hsw,hso,Ad (by rfl),wk];rfl
      .by_cases hik:i=k
       .subst hik;rw[hw] at hw';cases hw';rw[hso] at ho;cases ho
       .exact hdone i w' (by omega) hw' ho
     | false=>
      have hg2:=NI m (k:=w.toNat) (by omega)
      cases hmw:m w.toNat with
      | true=>
       refine .to (show Dv g s v st.length r r.length (k:Int) (m 0) (m 1) (m 2) (m 3) (m 4) (m 5) (m 6) (m 7) (m 8) (m 9) (m 10) (m 11) (m 12) (m 13) (m 14) (m 15) (m 16) (m 17) (m 18) (m 19) (m 20) (m 21) (m 22) (m 23) st=some (.inl (fdB st.length r r.length ((k+1:Nat):Int) m st)) from ?_) (ihj (k+1) m st (by omega) hN2 hJ2 hmx fun i w' hi hw' ho=>?_)
       .unfold Dv
        rw[Ah (AA (by simp only[iN];omega)),Ab (by omega),VE,Al hw,Ab w0,Al hsw,hso,Ah (by rfl),Ab (by omega),Al hg2,hmw,Ad (by rfl),wk];rfl
       .by_cases hik:i=k
        .subst hik;rw[hw] at hw';cases hw';exact hmw
        .exact hdone i w' (by omega) hw' ho
      | false=>
       have hc:=KK hmw 24
       rw[Vt (by omega)] at hc
       have hup:∀u,m u=true->B3 m w.toNat u=true:=fun u hu=>by rw[BH];split<;>first | rfl | exact hu
       have hwx:w.toNat≠x.toNat:=fun e=>by rw[e,hmx] at hmw;cases hmw
       have hln:(st++[w]).length=st.length+1:=by simp
       refine .to (show Dv g s v st.length r r.length (k:Int) (m 0) (m 1) (m 2) (m 3) (m 4) (m 5) (m 6) (m 7) (m 8) (m 9) (m 10) (m 11) (m 12) (m 13) (m 14) (m 15) (m 16) (m 17) (m 18) (m 19) (m 20) (m 21) (m 22) (m 23) st=some (.inl (fdB (st++[w]).length r r.length ((k+1:Nat):Int) (B3 m w.toNat) (st++[w]))) from ?_) (ihj (k+1) (B3 m w.toNat) (st++[w]) (by omega) (by omega) ⟨fun u hu=>?_,hup _ hJ2.start,fun y hy=>?_,fun u hu hn hex z hz ho=>?_,by omega⟩ (hup _ hmx) fun i w' hi hw' ho=>?_)
       .unfold Dv
        rw[Ah (AA (by simp only[iN];omega)),Ab (by omega),VE,Al hw,Ab w0,Al hsw,hso,Ah (by rfl),Ab (by omega),Al hg2,hmw,Ah (by rfl),Ab (show Nat.le _ _ from(show 0+w.toNat * 1+1<=24 by omega)),Ab (Vy _),Ab (by simp only[Vy,V9];omega),Ab (by simp only[Vy,V9];omega),wk,hln,Vy];rfl
       .rw[BH] at hu
        split at hu
        .rename_i e
         subst e
         exact .step (hJ2.sound _ hmx) (by rw[hrr,VW w0];exact hwm) hso
        .exact hJ2.sound u hu
       .rcases VZ.1 hy with h | h
        .obtain⟨a,b,c⟩:=hJ2.stk y h;exact⟨a,b,hup _ c⟩
        .rw[Vn.1 h];exact⟨w0,w1',by rw[BH,Vt rfl]⟩
       .have hne:u≠w.toNat:=fun e=>hn (by rw[e,VW w0];simp)
        rw[BH,Vu hne] at hu
        exact hup _ (hJ2.closed u hu (fun h=>hn (List.mem_append_left _ h)) hex z hz ho)
       .by_cases hik:i=k
        .subst hik;rw[hw] at hw';cases hw';rw[BH,Vt rfl]
        .exact hup _ (hdone i w' (by omega) hw' ho)
   have hfin:=inner r.length 0 m (st.take (st.length-1)) (by omega) (by omega) ⟨hJ.sound,hJ.start,fun y hy=>hJ.stk y (List.mem_of_mem_take hy),fun u hu hn hex w hw ho=>?_,by omega⟩ x2 (fun i w hi=>by omega)
   .rw[htk] at hfin;exact hfin
   .refine hJ.closed u hu (fun h=>?_) (fun e=>e) w hw ho
    have:=hmem _ h hn
    exact hex (by omega)
theorem fd_c{g:List (List Int)}{s:List Bool}(hg:GOk g)(hs:s.length=g.length)(q:Int)(hq:0<=q/\q<(g.length:Int)):CT Wu 98 [] [.lst (gL g),.lst (boL s),.int .i64 q] [] (arrA (mkB g s q.toNat)):=by
 have h24:=hg.len;obtain⟨v,rfl⟩:∃v:Nat,q=v:=⟨q.toNat,by omega⟩;rw[VE];refine fd_ct g s v ([],_) ?_;have hsv:=Ay true (show v<s.length by omega);unfold fdEn;rw[Ab (by omega),VE,Al hsv];cases hso:s.getD v true with
 | true=>
  rw[Ah rfl];have:mkB g s v=fun _=>false:=by
   funext k;refine Pn fun h=>?_
   have:s.getD v true=false:=by
    clear hsv;induction h with
    | refl h=>exact h
    | step _ _ _ ih=>exact ih
   rw[hso] at this;cases this
  rw[this];exact .ret _
 | false=>
  rw[Ad rfl,Ab (by omega),Ab (show Nat.le _ _ from(show 0+v * 1+1<=24 by omega))];have hc:=KK (m:=fun _=>false) (x:=v) rfl 24;rw[Vt (by omega)] at hc;have h0:cUn (fun _=>false) 24=24:=by decide
  have hfin:=fd_loop hg hs (v:=v) _ (B3 (fun _=>false) v) [(v:Int)] (VH _) ⟨fun k hk=>?_,by rw[BH,Vt rfl],fun x hx=>?_,fun u hu hn _ w hw ho=>?_,by simp only[V9];omega⟩
  .exact hfin
  .rw[BH] at hk;split at hk
   .rename_i e;subst e;exact .refl hso
   .cases hk
  .rw[Vn.1 hx];exact⟨by omega,by omega,by rw[VE,BH,Vt rfl]⟩
  .rw[BH] at hu;split at hu
   .rename_i e;subst e;exact absurd (Vn.2 rfl) hn
   .cases hu
end Go.Proofs.YthjgbnbibebigaaGreat
namespace Go.AX
variable {P:Program}
def J9(P:Program)(o:Oper)(ev:Operand->AV)(h:Hp)(nb:Nat)(S:OpR->Prop):Prop:=∀(φ:Phi) (A:Nat->Prop) (w:World) (a:Act) (K:Act->World->Prop) (Q:Exit->Act->World->Prop),(∀r,A r->r<w.heap.size/\¬Mut φ h r)->(∀x,VR φ A w (ev x) (a.eval x))->HR φ A w h->(∀b,nb<=b->φ b=none)-> (∀R v' w' φ',S R->Eff φ A w h nb R v' w' φ'->K (a.put o.dst v') w')->o.wp P a w K Q
inductive BC (P:Program) (m:Nat) (ops:Array Oper):List Oper->St->(St->Prop)->Prop | nil {st:St} {k:St->Prop} (h:k st):BC P m ops [] st k | one {o:Oper} {r:List Oper} {st:St} {k:St->Prop} {S:OpR->Prop} (hg:∀kk want,o.guard=some (kk,want)->∃g,(ops[kk]?).bind (·.dst)=some g/\Av st.fr g = .bool want) (hop:J9 P o st.ev (nth st.hp) st.hp.length S) (hf:∀R,S R->R.fits (nth st.hp)/\(∀b,b∈R.dead->m<=b)/\∀d,o.dst=some d->d<st.n) (h:∀R,S R->BC P m ops r (st.app o.dst R) k):BC P m ops (o::r) st k | skip {o:Oper} {r:List Oper} {st:St} {k:St->Prop} {kk g:Nat} {want:Bool} (hg:o.guard=some (kk,want)) (hk:(ops[kk]?).bind (·.dst)=some g) (hv:Av st.fr g = .bool (!want)) (hd:∀d,o.dst=some d->d<st.n) (h:BC P m ops r (st.app o.dst {v:=.tup []}) k):BC P m ops (o::r) st k
theorem U8{m:Nat}{ops:Array Oper}{Q:Exit->Act->World->Prop}{A0:Nat->Prop}{n0:Nat}:∀{l:List Oper} {st:St} {k:St->Prop},BC P m ops l st k->
  ∀{φ:Phi} {a:Act} {w:World},m<=st.hp.length->Rel A0 n0 m φ st a w->
   (∀st' φ' a' w',k st'->m<=st'.hp.length->Rel A0 n0 m φ' st' a' w'->Tr m φ st.h w φ' st'.h w'->Q .normal a' w')->wpList P ops Q l a w:=by
 intro l st k h;induction h with
 | nil h=>intro φ a w hm hr K;exact K _ φ a w h hm hr (.refl _ _ _ _)
 | @one o r st k S hg hop hf h ih=>
  intro φ a w hm hr K;unfold wpList;rw[Vt (KW (φ:=φ) (A:=Ok A0 n0 φ st.h w) (w:=w) fun kk want hk=>by
   obtain⟨g,g1,g2⟩:=hg kk want hk;exact⟨g,g1,by rw[<-g2];exact hr.slot g⟩)]
  left;refine hop φ (Ok A0 n0 φ st.h w) w a _ _ (fun r hA=>⟨hA.2.1,hA.2.2⟩) hr.ev hr.heap hr.out fun R v' w' φ' hS he=>?_
  obtain⟨f1,f2,f3⟩:=hf R hS;have hm':m<=(st.app o.dst R).hp.length:=by simp[St.app,Er,DW];omega
  obtain⟨s1,s2⟩:=hr.step hm f2 f3 f1 he;exact ih R hS hm' s1 fun st2 φ2 a2 w2 g0 g1 g2 g3=>K st2 φ2 a2 w2 g0 g1 g2 (s2.trans g3)
 | @skip o r st k kk g want hg hk hv hd h ih=>
  intro φ a w hm hr K;unfold wpList;rw[Vu (by rw[PY hg hk (.inl hv) (hr.slot g)];simp)];have he:Eff φ (Ok A0 n0 φ st.h w) w st.h st.hp.length {v:=.tup []} undef w φ:=Eff.skip hr.out;have hm':m<=(st.app o.dst {v:=.tup []}).hp.length:=by simp[St.app,Er,DW];omega
  obtain⟨s1,s2⟩:=hr.step hm (fun b hb=>by simp at hb) hd (OpR.fits_value _ _) he;exact ih hm' s1 fun st2 φ2 a2 w2 g0 g1 g2 g3=>K st2 φ2 a2 w2 g0 g1 g2 (s2.trans g3)
set_option linter.unusedVariables false in
theorem T.opsN{m id:Nat}{ops:Array Oper}{st:St}{post:Exit->St->Prop}(h:BC P m ops ops.toList st (post .normal)):T P m (.region id ops false) st post:=fun A0 n0 φ a w hm hr=>wp_region_list (U8 h hm hr fun st' φ' a' w' g0 g1 g2 g3=>⟨φ',_,g0,g2,g1,g3⟩)
theorem Aq.s{o:Oper}{ev:Operand->AV}{h:Hp}{nb:Nat}{R:OpR}(hop:Aq P o ev h nb R):J9 P o ev h nb (fun R'=>R'=R):=fun φ A w a K Q h1 h2 h3 h4 h5=>hop φ A w a K Q h1 h2 h3 h4 fun v' w' φ' he=>h5 R v' w' φ' rfl he
theorem BC.val{m:Nat}{ops:Array Oper}{o:Oper}{r:List Oper}{n:Nat}{fr:List (Nat×AV)}{hp:List (Option Blk)}{k:St->Prop}{d:Nat}{v:AV}(hg:∀kk want,o.guard=some (kk,want)->∃g,(ops[kk]?).bind (·.dst)=some g/\Av fr g = .bool want)(ho:o.dst=some d)(hd:d<n)(hop:Aq P o (St.ev ⟨n,fr,hp⟩) (nth hp) hp.length {v})(h:BC P m ops r ⟨n,(d,v)::fr,hp⟩ k):BC P m ops (o::r) ⟨n,fr,hp⟩ k:=by
 refine .one hg hop.s (fun R' e=>by subst e;exact⟨OpR.fits_value _ _,fun b hb=>by simp at hb,fun d' h'=>by rw[ho] at h';cases h';exact hd⟩) (fun R' e=>?_);subst e;have e:St.app ⟨n,fr,hp⟩ o.dst {v}=⟨n,(d,v)::fr,hp⟩:=by unfold St.app;rw[ho];simp only[put,H7,AW,List.append_nil]
 rw[e];exact h
theorem BC.skp{m:Nat}{ops:Array Oper}{o:Oper}{r:List Oper}{n:Nat}{fr:List (Nat×AV)}{hp:List (Option Blk)}{k:St->Prop}{d kk g:Nat}{want:Bool}(hg:o.guard=some (kk,want))(hk:(ops[kk]?).bind (·.dst)=some g)(hv:Av fr g = .bool (!want))(ho:o.dst=some d)(hd:d<n)(h:BC P m ops r ⟨n,(d,.tup [])::fr,hp⟩ k):BC P m ops (o::r) ⟨n,fr,hp⟩ k:=by
 refine .skip hg hk hv (fun d' h'=>by rw[ho] at h';cases h';exact hd) ?_;have e:St.app ⟨n,fr,hp⟩ o.dst {v:=.tup []}=⟨n,(d,.tup [])::fr,hp⟩:=by unfold St.app;rw[ho];simp only[put,H7,AW,List.append_nil]
 rw[e];exact h
theorem BC.new{m:Nat}{ops:Array Oper}{o:Oper}{r:List Oper}{n:Nat}{fr:List (Nat×AV)}{hp:List (Option Blk)}{k:St->Prop}{d:Nat}{v:AV}{blk:Blk}(hg:∀kk want,o.guard=some (kk,want)->∃g,(ops[kk]?).bind (·.dst)=some g/\Av fr g = .bool want)(ho:o.dst=some d)(hd:d<n)(hop:Aq P o (St.ev ⟨n,fr,hp⟩) (nth hp) hp.length {v,new:=[blk]})(h:BC P m ops r ⟨n,(d,v)::fr,hp++[some blk]⟩ k):BC P m ops (o::r) ⟨n,fr,hp⟩ k:=by
 refine .one hg hop.s (fun R' e=>by subst e;exact⟨⟨fun b blk hm=>by simp at hm,fun b hm=>by simp at hm⟩,fun b hb=>by simp at hb,fun d' h'=>by rw[ho] at h';cases h';exact hd⟩) (fun R' e=>?_);subst e;have e:St.app ⟨n,fr,hp⟩ o.dst {v,new:=[blk]}=⟨n,(d,v)::fr,hp++[some blk]⟩:=by unfold St.app;rw[ho];simp only[put,H7,AW]
 rw[e];exact h
theorem noG{ops:Array Oper}{o:Oper}{fr:List (Nat×AV)}(h:o.guard=none):∀kk want,o.guard=some (kk,want)->∃g,(ops[kk]?).bind (·.dst)=some g/\Av fr g = .bool want:=fun kk want e=>by rw[h] at e;cases e
theorem isG{ops:Array Oper}{o:Oper}{fr:List (Nat×AV)}{kk g:Nat}{want:Bool}(h:o.guard=some (kk,want))(hk:(ops[kk]?).bind (·.dst)=some g)(hv:Av fr g = .bool want):∀kk want,o.guard=some (kk,want)->∃g,(ops[kk]?).bind (·.dst)=some g/\Av fr g = .bool want:=fun kk' want' e=>by rw[h] at e;cases e;exact⟨g,hk,hv⟩
theorem TE{w:World}(t ty e:TypeId)(i:TypeInfo)(ht:P.underlying t=some (.slice e))(hi:P.info? e=some i)
  (g o sLen sCap:Nat) (cur:Array Value) (T:TypeId) (hg:w.heap[g]?=some (.cells cur T (0,0)))
  (ao:Option Addr) (m c:Nat) (news:List Value) (hl:news.length=m * i.size) (hao:ao=none->m=0/\c=0) (hnews:∀ad,ao=some ad->∀(j:Nat) u,news[j]?=some u->w.cell? (ad.add j)=some u)
  (h1:∀u∈news,u.oneCell'=true) (hroom:sLen+m<=sCap) (hfit:(o+sLen * i.size)+news.length<=cur.size):
  (Builtin.append_ #[t,t] ty #[.slice (some ⟨g,o,none⟩) sLen sCap,.slice ao m c]).run P w =
   .ok (.slice (some ⟨g,o,none⟩) (sLen+m) sCap) (w.setRow g (cur.toList.take (o+sLen * i.size)++news++cur.toList.drop ((o+sLen * i.size)+news.length)).toArray):=by
 have hst:=run_storeCells_at P g (o+sLen * i.size) T news 0 cur w hg (by simpa using hfit) h1;simp only[Vk] at hst;have hf:(Builtin.firstCells i.size m (.slice ao m c)).run P w = .ok news.toArray w:=by
  cases ao with
  | none=>obtain⟨rfl,rfl⟩:=hao rfl;have:news=[]:=List.eq_nil_of_length_eq_zero (by simpa using hl);subst this;exact run_firstCells_none w i.size 0 0 0
  | some ad=>exact run_firstCells_some (P:=P) w i.size m ad m c news hl (hnews ad rfl)
 simp[Builtin.append_,run_underlying ht,sizeOf,typeInfo,hi,Builtin.lenOf,hroom,hf,Addr.add_lit,hst]
def Mr(nb b i z:Nat)(es src:List AV)(flat:Bool)(R:OpR):Prop:=∃es' i',i'<=es'.length/\es'.drop i'=es.drop i++src/\es'.length<=es.length+src.length/\R={v:=.sl nb i' (es'.length-i'),dead:=[b],new:=[{es:=es',z,flat}]}
theorem UF{o:Oper}{ev:Operand->AV}{h:Hp}{nb:Nat}{t:TypeId}{x y:Operand}{e:AV}{z by_ b i n:Nat}{src:List AV}{blk:Blk}{flat:Bool}
  (ho:o.op = .call {callee:=.builtin .append,args:=#[x,y],argTypes:=#[t,t]}) (ht:Cl P t=some (e,z,by_))
  (hx:ev x = .sl b i n) (hbl:h b=some blk) (hbz:blk.z=z) (hwr:blk.wr=true) (hin:i+n=blk.es.length)
  (hy:Ca h (ev y)=some src) (hf:BG h z (ev y)) (hpl:0<src.length) (h63:blk.es.length+src.length<=9223372036854775807) (hb:(blk.es.length+src.length) * by_<=140737488355328) (hfl:(blk.flat&&Bd h (ev y))=flat):
  J9 P o ev h nb (Mr nb b i z blk.es src flat):=by
 intro φ A w ac K Q hA hv hh hn k
 obtain⟨el,inf,zv,hu,hi,hz,rfl,hsz,hby,hkn,hzl,hone,hpos⟩:=Fu ht
 obtain⟨ao,c,news,hvy,hrow,hao,hnews⟩:=Src.of hh hy hf (hv y) hpos
 have hnl:news.length=src.length * inf.size:=by rw[hrow.len,hsz]
 have h1s:=hrow.one hpos
 have hzs:zv.cells.size=z:=by
  have:=((VR.imm (φ:=φ) (A:=A) (w:=w) _ _ (RT.absV zv)).cr hkn).1
  simp at this;omega
 have hsf:=L7 hh hy (hv y)
 have wrap:∀(R:OpR) (r:Value) (w':World) (φ':Phi),Mr nb b i z blk.es src flat R->(Builtin.append_ #[t,t] o.type #[ac.eval x,.slice ao src.length c]).run P w = .ok r w'->
   Eff φ A w h nb R r w' φ'->o.wp P ac w K Q:=by
  intro R r w' φ' hR hr he
  unfold Oper.wp
  have hex:(execOp ac.eval o).run P w = .ok (.value r) w':=by
   rw[<-hvy] at hr
   generalize ac.eval=ρ at *
   simp[execOp,ho,resolve,invoke,builtin,hr]
  rw[hex]
  exact k R r w' φ' hR he
 have hzero:∀n,(Builtin.zeroCells zv.cells n).toList.length=n * z:=by intro n;simp[size_zeroCells,hzs]
 have hne:ao≠none:=fun h0=>by have:=(hao h0).1;rw[this] at hpl;exact absurd hpl (Nat.lt_irrefl _)
 obtain⟨ad,rfl⟩:=Option.ne_none_iff_exists'.1 hne
 have hdt:(blk.es.drop i).take n=blk.es.drop i:=by rw[List.take_of_length_le];rw[Vl];omega
 have hdl:(blk.es.drop i).length=n:=by rw[Vl];omega
 have hfl2:flat=true->Bw (blk.es++src):=by
  intro hf e' he'
  rw[<-hfl] at hf
  simp only[VD] at hf
  rcases VZ.1 he' with hm | hm
  .exact hh.flat b blk hbl hf.1 e' hm
  .exact hsf hf.2 e' hm
 have hfl3:flat=true->Bw (blk.es.drop i++src):=fun hf e' he'=>hfl2 hf e' (by
  rcases VZ.1 he' with hm | hm
  .exact List.mem_append_left _ (List.mem_of_mem_drop hm)
  .exact List.mem_append_right _ hm)
 have mkQ:Mr nb b i z blk.es src flat {v:=.sl nb 0 ((blk.es.drop i++src).length),dead:=[b],new:=[{es:=blk.es.drop i++src,z,flat}]}:=
  ⟨blk.es.drop i++src,0,VI _,rfl,by simp only[VP,Vl];omega,rfl⟩
 have hql:(blk.es.drop i++src).length=n+src.length:=by rw[VP,hdl]
 -- a new row
 have grown:∀(a:Option Addr) (cap:Nat) (us:List Value),ac.eval x = .slice a n cap->Row φ A w z (blk.es.drop i) us->(a=none->n=0/\cap=0/\us=[])->(∀ad,a=some ad->∀(j:Nat) u,us[j]?=some u->w.cell? (ad.add j)=some u)->¬n+src.length<=cap->o.wp P ac w K Q:=by
  intro a cap us he hrx ha hus hroom
  have hboth:=hrx.append hrow
  have hge:=grownCap_ge w (n+src.length) cap el
  have hrun:(Builtin.append_ #[t,t] o.type #[ac.eval x,.slice (some ad) src.length c]).run P w = .ok (.slice (some ⟨w.heap.size,0,none⟩) (n+src.length) (grownCap w (n+src.length) cap el))
    (w.drew.alloc (.cells (us.toArray++news.toArray++Builtin.zeroCells zv.cells (grownCap w (n+src.length) cap el-(n+src.length))) el)):=by
   rw[he]
   cases a with
   | none=>
    obtain⟨rfl,rfl,rfl⟩:=ha rfl
    have:=run_append_nil w t o.type el inf zv hu hi hz ad src.length c news hnl (hnews ad rfl) (by omega) (by omega) (by rw[hby];have:=VM by_ (Nat.le_add_left src.length blk.es.length);omega)
    simpa using this
   | some a'=>
    exact run_append_grow (P:=P) w t o.type el inf zv hu hi hz a' n cap us (by rw[hrx.len,hdl,hsz]) (hus a' rfl) ad src.length c news hnl (hnews ad rfl) (by omega) (by omega) (growslice_fits (by omega) (by rw[hby];exact Wd (VM by_ (by omega)) hb))
  refine wrap _ _ _ (upd φ nb (w.heap.size,z)) mkQ hrun ?_
  have:=Eff.grow (dead:=[b]) (T:=el) (n:=n+src.length) (cap:=grownCap w (n+src.length) cap el) (flat:=flat) hfl3 (extra:=(Builtin.zeroCells zv.cells (grownCap w (n+src.length) cap el-(n+src.length))).toList) hA hn hboth
   hql.symm hge (by rw[hzero,hboth.len,hql,Nat.sub_mul];have:=VM z hge;omega)
  rw[List.append_toArray,Jl,hql]
  exact this
 have h0:=hv x;rw[hx] at h0
 rcases h0.sl_inv with ⟨hn0,a,he⟩ | ⟨r,z',cap,hφ,hnc,hrw,he⟩
 .subst hn0
  have hd0:blk.es.drop i=[]:=List.eq_nil_of_length_eq_zero hdl
  exact grown a 0 [] he (by rw[hd0];exact⟨by simp,fun i e he=>by simp at he⟩) (fun _=>⟨rfl,rfl,rfl⟩) (fun _ _ j u hu=>by simp at hu) (by omega)
 .obtain⟨hzz,hmpn,cs,T,hr,hsz',hrow'⟩:=hh.row hbl hφ (.inl (hh.zpos hbl hφ (by omega)))
  have hz':z'=z:=by omega
  subst hz'
  have hrc:(i+cap) * z'<=cs.size:=by have:=hrw;unfold Bj at this;rw[hr] at this;exact this
  by_cases hroom:n+src.length<=cap
  .have hboth:=hrow'.append hrow
   have hpos2:i * z'+n * inf.size=blk.es.length * z':=by rw[hsz,<-Ve,hin]
   have hfit:(i * z'+n * inf.size)+news.length<=cs.size:=by
    rw[hpos2,hnl,hsz,<-Ve];exact Wd (VM z' (by omega)) hrc
   have hrun:=TE (P:=P) (w:=w) t o.type el inf hu hi r (i * z') n cap cs T hr (some ad) src.length c news hnl (fun h0=>by cases h0) hnews h1s hroom hfit
   rw[hpos2] at hrun hfit
   have hcs':cs.size=(cs.toList.take (blk.es.length * z')++news++cs.toList.drop (blk.es.length * z'+news.length)).toArray.size:=by simp;omega
   let φ':Phi:=fun b'=>if b'=nb then some (r,z') else φ b'
   have hbn:b<nb:=by
    rcases Wm b nb with h1 | h1
    .exact h1
    .rw[hn b h1] at hφ;cases hφ
   have hφ':∀b x,φ b=some x->φ' b=some x:=fun b' x hb'=>by
    simp only[φ'];split
    .rename_i he;subst he;rw[hn b' (VH _)] at hb';cases hb'
    .exact hb'
   have hother:∀q,q≠r->(w.setRow r (cs.toList.take (blk.es.length * z')++news++cs.toList.drop (blk.es.length * z'+news.length)).toArray).heap[q]?=w.heap[q]?:=fun q hq=>setRow_other w r q _ hq
   have hAr:∀q,A q->q≠r:=fun q hq he'=>(hA q hq).2 ⟨b,blk,z',hbl,hwr,by rw[he'];exact hφ⟩
   have hrs:=KE w r cs _ T _ hr hcs'
   refine wrap {v:=.sl nb i ((blk.es++src).length-i),dead:=[b],new:=[{es:=blk.es++src,z:=z',flat}]} _ _ φ' ⟨blk.es++src,i,by simp only[VP];omega,by rw[List.drop_append_of_le_length (by omega)],by simp,rfl⟩ (by rw[he];exact hrun) ?_
   refine⟨⟨rfl,rfl,rfl,by simp,fun q _ hq=>hother q fun he'=>hq ⟨b,z',.inl (by simp),by rw[he'];exact hφ⟩,hrs⟩,fun b' hb'=>?_,fun b' hb'=>?_,fun b' q z1 hb' h1=>?_,fun b1 b2 q z1 z2 hb1 hb2 h1 h2=>?_,?_,fun b' blk' hm=>by simp at hm,fun blk' hm=>by simp at hm;subst hm;exact hfl2,fun b' blk' hm=>by simp at hm,fun k' blk' hk=>?_⟩
   .simp only[φ'];rw[Vu (by omega)]
   .simp at hb';simp only[φ'];rw[Vu (by omega)];exact hn b' (by omega)
   .simp only[φ'] at h1
    split at h1
    .simp at h1;right;exact⟨b,z',blk,by simp,hbl,hwr,by rw[<-h1.1];exact hφ⟩
    .rw[hn b' hb'] at h1;cases h1
   .simp only[φ'] at h1 h2
    by_cases e1:b1=nb
    .by_cases e2:b2=nb
     .omega
     .rw[Vu e2,hn b2 hb2] at h2;cases h2
    .rw[Vu e1,hn b1 hb1] at h1;cases h1
   .have:=VR.sl (φ:=φ') (A:=Bk A φ' nb w (w.setRow r (cs.toList.take (blk.es.length * z')++news++cs.toList.drop (blk.es.length * z'+news.length)).toArray))
     (w:=w.setRow r (cs.toList.take (blk.es.length * z')++news++cs.toList.drop (blk.es.length * z'+news.length)).toArray) nb i (n+src.length) r z' cap (by simp[φ']) hroom (Wd hrw (hrs r))
    rw[show (blk.es++src).length-i=n+src.length by simp only[VP];omega]
    exact this
   .match k',hk with
    | 0,hk=>
     simp at hk;subst hk
     refine .inr (.inl ⟨r,_,T,by simp[φ'],setRow_heap w r cs _ T _ hr,⟨?_,rfl⟩,fun q e' he'=>?_⟩)
     .rw[<-hcs'];simp only[VP];rw[Ve,<-hrow.len];exact hfit
     .obtain⟨hl,hc⟩:=hboth.cell q e' he'
      refine⟨hl,fun j c' hj=>?_⟩
      obtain⟨g1,u,hu',hvr⟩:=hc j c' hj
      refine⟨g1,u,?_,hvr.mono hφ' (fun _ h=>.inl h) (fun q hq=>hother q (hAr q hq)) hrs⟩
      have hlt:=(Vx.1 hu').1
      rw[List.getElem?_toArray,List.getElem?_append_left hlt];exact hu'
  .obtain⟨a,c2,us,hvx,hrx,ha,hus⟩:=Src.sl hh hbl h0 hbz (Nat.le_of_eq hin) hpos
   rw[hdt] at hrx ha hvx
   rw[hdl] at hvx
   rw[he] at hvx
   cases hvx
   exact grown _ _ us he hrx (fun h=>by cases h) hus hroom
theorem BC.q{m:Nat}{o:Oper}{r:List Oper}{n d b i z:Nat}{fr:List (Nat×AV)}{hp:List (Option Blk)}{es src:List AV}{flat:Bool}{blk0:Blk}{k:St->Prop}{ops:Array Oper}(hg:o.guard=none)(ho:o.dst=some d)(hd:d<n)
  (hb:nth hp b=some blk0) (hw:blk0.wr=true) (hm:m<=b) (hop:J9 P o (St.ev ⟨n,fr,hp⟩) (nth hp) hp.length (Mr hp.length b i z es src flat))
  (h:∀es' i',i'<=es'.length->es'.drop i'=es.drop i++src->es'.length<=es.length+src.length->BC P m ops r ⟨n,(d,.sl hp.length i' (es'.length-i'))::fr,hp.set b none++[some {es:=es',z,flat}]⟩ k):BC P m ops (o::r) ⟨n,fr,hp⟩ k:=by
 refine .one (noG hg) hop (fun R hR=>?_) fun R hR=>?_
 .obtain⟨es',i',h1,h2,h3,rfl⟩:=hR;exact⟨⟨fun b blk hm=>by simp at hm,fun b' hm'=>by simp at hm';subst hm';exact⟨⟨blk0,hb,hw⟩,rfl⟩⟩,fun b' hb'=>by simp at hb';subst hb';exact hm,fun d' h'=>by rw[ho] at h';cases h';exact hd⟩
 .obtain⟨es',i',h1,h2,h3,rfl⟩:=hR;have e:St.app ⟨n,fr,hp⟩ o.dst {v:=.sl hp.length i' (es'.length-i'),dead:=[b],new:=[{es:=es',z,flat}]}=⟨n,(d,.sl hp.length i' (es'.length-i'))::fr,hp.set b none++[some {es:=es',z,flat}]⟩:=by unfold St.app;rw[ho];simp only[put,Pr b hp 0 (VI _),AW,Nat.sub_zero]
  rw[e];exact h es' i' h1 h2 h3
end Go.AX

/- Parts of the proof:LhC,LhD,Lh1m,LhA,LhE,Lh2m,LhF,Li1m,LiA,Li2m,LiB,LiC,Li3m,LiD,Sg6m,SgL,Sg5m,SgM,LkA,Lm1m,LmA,Lm2m,Lj1m,LkB,Lj2m,LkC,Lj3m,LkD,Lj5m,LkE,LmB,Lm3m,Lm4m,LmC,LmD,Lm6m,LmE,Lm7m,LmF. -/
import Derived.KernelRfl
import Derived.Test.YthjgbnbibebigaaGreatProg
import Derived.Test.YthjgbnbibebigaaGreatLedgerTasksM7
noncomputable section
set_option linter.unusedVariables false
set_option linter.unusedSimpArgs false
open Go Go.AX Go.Proofs
set_option maxRecDepth 100000
set_option linter.unusedVariables false
set_option linter.unusedSimpArgs false
open Go.IntKind (i64 u64)
open List renaming map->Un
open Go.AX.AV renaming lst->Ut
open Go.Proofs.Tryz renaming prog->Uu
namespace Go.Proofs.YthjgbnbibebigaaGreat
def stnR(L:List Int)(p:ByteArray×Nat):Ret:=([some (AF L p.2)],.str p.1)
theorem stn_ex(L:List Int)(kk:Nat)(n:Aa)(hv:Aq n)(h3:3<=n.ss.length)(hk:kk<=100000):∃p:{p:ByteArray×Nat // p.2<=kk+3/\∃s∈n.ss,s.nm=p.1},Ac emT (Kp L kk n) (stnR L p.1):=by
 have hn:=hv.ns;have r1:=BC L kk n.ss.length (by omega) (by omega);have r2:=BC L (kk+1+1) 2 (by omega) (by omega);unfold Kp;simp only[iN,Tw];refine Ah (by omega) (Ah r1.1 (AY (by omega) fun x hx=>Am (fun _=>Ah (by omega) (Am (fun _=>Ah (by omega) ?_) fun _=>?_)) fun _=>?_))
 .rw[CW (by omega) (by omega)];exact Ah (by omega) (AY (by omega) fun y hy=>⟨⟨(y.nm,kk+1+1+1),by show kk+1+1+1<=kk+3;omega,y,Tx hy,rfl⟩,.ret _⟩)
 .exact⟨⟨(x.nm,kk+1+1),by show kk+1+1<=kk+3;omega,x,Tx hx,rfl⟩,.ret _⟩
 .exact⟨⟨(x.nm,kk+1),by show kk+1<=kk+3;omega,x,Tx hx,rfl⟩,.ret _⟩
theorem JJ(L:List Int)(kk:Nat)(n:Aa):∃p:ByteArray×Nat,Aq n->3<=n.ss.length->kk<=100000->(p.2<=kk+3/\∃s∈n.ss,s.nm=p.1)/\CT Uu 40 [some (AF L kk)] [.ptr 0 0 0,Aj n] [some (AF L p.2)] (.str p.1):=by
 by_cases h:Aq n/\3<=n.ss.length/\kk<=100000
 .obtain⟨p,hp⟩:=stn_ex L kk n h.1 h.2.1 h.2.2;exact⟨p.1,fun _ _ _=>⟨p.2,stn_ct L kk n _ hp⟩⟩
 .exact⟨(⟨#[]⟩,0),fun a b c=>absurd ⟨a,b,c⟩ h⟩
@[irreducible] def AK(L:List Int)(kk:Nat)(n:Aa):ByteArray:=(Classical.choose (JJ L kk n)).1
@[irreducible] def AJ(L:List Int)(kk:Nat)(n:Aa):Nat:=(Classical.choose (JJ L kk n)).2
theorem stn_s{L:List Int}{kk:Nat}{n:Aa}(hv:Aq n)(h3:3<=n.ss.length)(hk:kk<=100000):AJ L kk n<=kk+3/\∃s∈n.ss,s.nm=AK L kk n:=by unfold AK AJ;exact(T8 (JJ L kk n) hv h3 hk).1
theorem Cl(L:List Int)(kk:Nat)(n:Aa)(hv:Aq n)(h3:3<=n.ss.length)(hk:kk<=100000):CT Uu 40 [some (AF L kk)] [.ptr 0 0 0,Aj n] [some (AF L (AJ L kk n))] (.str (AK L kk n)):=by unfold AK AJ;exact(T8 (JJ L kk n) hv h3 hk).2
def fctR(L:List Int)(p:Nat×Int×Int×Int×Int):Ret:=([some (AF L p.1)],enA p.2.1 p.2.2.1 p.2.2.2.1 p.2.2.2.2)
theorem fct_ex(L:List Int)(kk:Nat)(n:Aa)(cl:List Bool)(bw pe:List Int)(tk:List TsD)(us:List UsD)(hv:Aq n)(hk:kk<=100000):∃p:{p:Nat×Int×Int×Int×Int // p.1<=kk+6},Ac emT (J3 L kk n cl bw pe tk us) (fctR L p.1):=by
 unfold J3
 repeat' (first
  | exact⟨⟨(_,_,_,_,_),by show _<=kk+6;omega⟩,.ret _⟩
  | refine Ah (by first | exact hv | omega) ?_
  | refine Am (fun h=>?_) (fun h=>?_))
theorem Mw(L:List Int)(kk:Nat)(n:Aa)(cl:List Bool)(bw pe:List Int)(tk:List TsD)(us:List UsD):∃p:Nat×Int×Int×Int×Int,Aq n->kk<=100000->p.1<=kk+6/\CT Uu 24 [some (AF L kk)] [.ptr 0 0 0,Aj n,lgA ⟨cl,bw,pe,tk,us⟩] [some (AF L p.1)] (enA p.2.1 p.2.2.1 p.2.2.2.1 p.2.2.2.2):=by
 by_cases h:Aq n/\kk<=100000
 .obtain⟨p,hp⟩:=fct_ex L kk n cl bw pe tk us h.1 h.2;exact⟨p.1,fun _ _=>⟨p.2,fct_ct L kk n cl bw pe tk us _ hp⟩⟩
 .exact⟨(0,0,0,0,0),fun a b=>absurd ⟨a,b⟩ h⟩
@[irreducible] def FU(L:List Int)(kk:Nat)(n:Aa)(cl:List Bool)(bw pe:List Int)(tk:List TsD)(us:List UsD):Nat×Int×Int×Int×Int:=Classical.choose (Mw L kk n cl bw pe tk us)
@[irreducible] def Gc(L:List Int)(kk:Nat)(n:Aa)(cl:List Bool)(bw pe:List Int)(tk:List TsD)(us:List UsD):Nat:=(FU L kk n cl bw pe tk us).1
@[irreducible] def DC(L:List Int)(kk:Nat)(n:Aa)(cl:List Bool)(bw pe:List Int)(tk:List TsD)(us:List UsD):Int:=(FU L kk n cl bw pe tk us).2.1
@[irreducible] def Dt(L:List Int)(kk:Nat)(n:Aa)(cl:List Bool)(bw pe:List Int)(tk:List TsD)(us:List UsD):Int:=(FU L kk n cl bw pe tk us).2.2.1
@[irreducible] def DS(L:List Int)(kk:Nat)(n:Aa)(cl:List Bool)(bw pe:List Int)(tk:List TsD)(us:List UsD):Int:=(FU L kk n cl bw pe tk us).2.2.2.1
@[irreducible] def Dy(L:List Int)(kk:Nat)(n:Aa)(cl:List Bool)(bw pe:List Int)(tk:List TsD)(us:List UsD):Int:=(FU L kk n cl bw pe tk us).2.2.2.2
theorem fct_s{L:List Int}{kk:Nat}{n:Aa}{cl:List Bool}{bw pe:List Int}{tk:List TsD}{us:List UsD}(hv:Aq n)(hk:kk<=100000):Gc L kk n cl bw pe tk us<=kk+6:=by unfold Gc FU;exact(T8 (Mw L kk n cl bw pe tk us) hv hk).1
theorem fct_c(L:List Int)(kk:Nat)(n:Aa)(cl:List Bool)(bw pe:List Int)(tk:List TsD)(us:List UsD)(hv:Aq n)(hk:kk<=100000):CT Uu 24 [some (AF L kk)] [.ptr 0 0 0,Aj n,lgA ⟨cl,bw,pe,tk,us⟩] [some (AF L (Gc L kk n cl bw pe tk us))] (enA (DC L kk n cl bw pe tk us) (Dt L kk n cl bw pe tk us) (DS L kk n cl bw pe tk us) (Dy L kk n cl bw pe tk us)):=by unfold Gc DC Dt DS Dy FU;exact(T8 (Mw L kk n cl bw pe tk us) hv hk).2
@[irreducible] def Dq(x:Int):ByteArray:=AM x.toNat
theorem Nw(x:Int)(h:0<=x/\x<100):CT Uu 41 [] [.int .i64 x] [] (.str (Dq x)):=by have:=I5 x.toNat (by omega);unfold Dq;rw[show iN x.toNat=x by simp only[iN];omega] at this;exact this
end Go.Proofs.YthjgbnbibebigaaGreat
set_option maxHeartbeats 4000000
namespace Go.Proofs.YthjgbnbibebigaaGreat
def K8(L:List Int)(kk:Nat)(n:Aa):Option (Empty⊕Ret):=gu (kk<9223372036854775807) <|gu (0<=Ae L kk (iN (Un bA n.bs).length)) <|el (n.bs) ((Ae L kk (iN (Un bA n.bs).length)).toNat) fun(x13:AA)=>gu (kk+1<9223372036854775807) <|br (Ae L (kk+1) 16==0) (gu (Aq n) <|gu (3<=n.ss.length) <|gu (kk+1+1<=100000) <|gu ((5+(AK L (kk+1+1) n).size).le 9223372036854775807) <|gu (((ByteArray.mk #[116,97,115,107,32]++AK L (kk+1+1) n).size+1).le 9223372036854775807) <|gu (AJ L (kk+1+1) n<=100000) <|gu (((ByteArray.mk #[116,97,115,107,32]++AK L (kk+1+1) n++ByteArray.mk #[32]).size+(AK L (AJ L (kk+1+1) n) n).size).le 9223372036854775807) <|some (.inr ([some (bK [AV.agg [Ut (Un iV L),iV (iN (AJ L (AJ L (kk+1+1) n) n))]] 2)],AV.str (ByteArray.mk #[116,97,115,107,32]++AK L (kk+1+1) n++ByteArray.mk #[32]++AK L (AJ L (kk+1+1) n) n)))) (br (Ae L (kk+1) 16==1) (gu (Aq n) <|gu (3<=n.ss.length) <|gu (kk+1+1<=100000) <|gu ((5+(AK L (kk+1+1) n).size).le 9223372036854775807) <|gu (((ByteArray.mk #[116,97,115,107,32]++AK L (kk+1+1) n).size+1).le 9223372036854775807) <|gu (AJ L (kk+1+1) n<=100000) <|gu (((ByteArray.mk #[116,97,115,107,32]++AK L (kk+1+1) n++ByteArray.mk #[32]).size+(AK L (AJ L (kk+1+1) n) n).size).le 9223372036854775807) <|some (.inr ([some (bK [AV.agg [Ut (Un iV L),iV (iN (AJ L (AJ L (kk+1+1) n) n))]] 2)],AV.str (ByteArray.mk #[116,97,115,107,32]++AK L (kk+1+1) n++ByteArray.mk #[32]++AK L (AJ L (kk+1+1) n) n)))) (br (Ae L (kk+1) 16==2) (gu (Aq n) <|gu (3<=n.ss.length) <|gu (kk+1+1<=100000) <|gu ((5+(AK L (kk+1+1) n).size).le 9223372036854775807) <|gu (((ByteArray.mk #[116,97,115,107,32]++AK L (kk+1+1) n).size+1).le 9223372036854775807) <|gu (AJ L (kk+1+1) n<=100000) <|gu (((ByteArray.mk #[116,97,115,107,32]++AK L (kk+1+1) n++ByteArray.mk #[32]).size+(AK L (AJ L (kk+1+1) n) n).size).le 9223372036854775807) <|some (.inr ([some (bK [AV.agg [Ut (Un iV L),iV (iN (AJ L (AJ L (kk+1+1) n) n))]] 2)],AV.str (ByteArray.mk #[116,97,115,107,32]++AK L (kk+1+1) n++ByteArray.mk #[32]++AK L (AJ L (kk+1+1) n) n)))) (br (Ae L (kk+1) 16==3) (gu (Aq n) <|gu (3<=n.ss.length) <|gu (kk+1+1<=100000) <|gu ((5+(AK L (kk+1+1) n).size).le 9223372036854775807) <|gu (((ByteArray.mk #[116,97,115,107,32]++AK L (kk+1+1) n).size+1).le 9223372036854775807) <|gu (AJ L (kk+1+1) n<=100000) <|gu (((ByteArray.mk #[116,97,115,107,32]++AK L (kk+1+1) n++ByteArray.mk #[32]).size+(AK L (AJ L (kk+1+1) n) n).size).le 9223372036854775807) <|some (.inr ([some (bK [AV.agg [Ut (Un iV L),iV (iN (AJ L (AJ L (kk+1+1) n) n))]] 2)],AV.str (ByteArray.mk #[116,97,115,107,32]++AK L (kk+1+1) n++ByteArray.mk #[32]++AK L (AJ L (kk+1+1) n) n)))) (br (Ae L (kk+1) 16==4) (gu (Aq n) <|gu (3<=n.ss.length) <|gu (kk+1+1<=100000) <|gu ((5+(AK L (kk+1+1) n).size).le 9223372036854775807) <|gu (((ByteArray.mk #[116,97,115,107,32]++AK L (kk+1+1) n).size+1).le 9223372036854775807) <|gu (AJ L (kk+1+1) n<=100000) <|gu (((ByteArray.mk #[116,97,115,107,32]++AK L (kk+1+1) n++ByteArray.mk #[32]).size+(AK L (AJ L (kk+1+1) n) n).size).le 9223372036854775807) <|some (.inr ([some (bK [AV.agg [Ut (Un iV L),iV (iN (AJ L (AJ L (kk+1+1) n) n))]] 2)],AV.str (ByteArray.mk #[116,97,115,107,32]++AK L (kk+1+1) n++ByteArray.mk #[32]++AK L (AJ L (kk+1+1) n) n)))) (br (Ae L (kk+1) 16==5) (gu (Aq n) <|gu (3<=n.ss.length) <|gu (kk+1+1<=100000) <|gu ((5+(AK L (kk+1+1) n).size).le 9223372036854775807) <|gu (((ByteArray.mk #[116,97,115,107,32]++AK L (kk+1+1) n).size+1).le 9223372036854775807) <|gu (AJ L (kk+1+1) n<=100000) <|gu (((ByteArray.mk #[116,97,115,107,32]++AK L (kk+1+1) n++ByteArray.mk #[32]).size+(AK L (AJ L (kk+1+1) n) n).size).le 9223372036854775807) <|some (.inr ([some (bK [AV.agg [Ut (Un iV L),iV (iN (AJ L (AJ L (kk+1+1) n) n))]] 2)],AV.str (ByteArray.mk #[116,97,115,107,32]++AK L (kk+1+1) n++ByteArray.mk #[32]++AK L (AJ L (kk+1+1) n) n)))) (br (Ae L (kk+1) 16==6) (gu (kk+1+1<9223372036854775807) <|gu (0<=Ae L (kk+1+1) 6/\Ae L (kk+1+1) 6<100) <|gu ((7+(Dq (Ae L (kk+1+1) 6)).size).le 9223372036854775807) <|some (.inr ([some (bK [AV.agg [Ut (Un iV L),iV (iN (kk+1+1+1))]] 2)],AV.str (ByteArray.mk #[99,97,110,99,101,108,32]++Dq (Ae L (kk+1+1) 6))))) (br (Ae L (kk+1) 16==7) (gu ((6+x13.nm.size).le 9223372036854775807) <|some (.inr ([some (bK [AV.agg [Ut (Un iV L),iV (iN (kk+1+1))]] 2)],AV.str (ByteArray.mk #[99,108,111,115,101,32]++x13.nm)))) (br (Ae L (kk+1) 16==8) (gu (kk+1+1<9223372036854775807) <|br (Ae L (kk+1+1) 2==0) (gu (Aq n) <|gu (3<=n.ss.length) <|gu (kk+1+1+1<=100000) <|gu ((5+(AK L (kk+1+1+1) n).size).le 9223372036854775807) <|some (.inr ([some (bK [AV.agg [Ut (Un iV L),iV (iN (AJ L (kk+1+1+1) n))]] 2)],AV.str (ByteArray.mk #[111,112,101,110,32]++AK L (kk+1+1+1) n)))) (gu ((5+x13.nm.size).le 9223372036854775807) <|some (.inr ([some (bK [AV.agg [Ut (Un iV L),iV (iN (kk+1+1+1))]] 2)],AV.str (ByteArray.mk #[111,112,101,110,32]++x13.nm))))) (br (Ae L (kk+1) 16==9) (gu (kk+1+1<9223372036854775807) <|gu (0<=Ae L (kk+1+1) (iN (Un sA n.ss).length)) <|el (n.ss) ((Ae L (kk+1+1) (iN (Un sA n.ss).length)).toNat) fun(x64:Au)=>gu ((4+x64.nm.size).le 9223372036854775807) <|some (.inr ([some (bK [AV.agg [Ut (Un iV L),iV (iN (kk+1+1+1))]] 2)],AV.str (ByteArray.mk #[97,100,100,32]++x64.nm)))) (br (Ae L (kk+1) 16==10) (gu (kk+1+1<9223372036854775807) <|gu (0<=Ae L (kk+1+1) 4/\Ae L (kk+1+1) 4<100) <|gu ((7+(Dq (Ae L (kk+1+1) 4)).size).le 9223372036854775807) <|some (.inr ([some (bK [AV.agg [Ut (Un iV L),iV (iN (kk+1+1+1))]] 2)],AV.str (ByteArray.mk #[114,101,109,111,118,101,32]++Dq (Ae L (kk+1+1) 4))))) (br (Ae L (kk+1) 16==11) (gu (kk+1+1<9223372036854775807) <|gu (0<=Ae L (kk+1+1) 6/\Ae L (kk+1+1) 6<100) <|gu ((7+(Dq (Ae L (kk+1+1) 6)).size).le 9223372036854775807) <|some (.inr ([some (bK [AV.agg [Ut (Un iV L),iV (iN (kk+1+1+1))]] 2)],AV.str (ByteArray.mk #[115,116,97,116,117,115,32]++Dq (Ae L (kk+1+1) 6))))) (br (Ae L (kk+1) 16==12) (gu ((6+x13.nm.size).le 9223372036854775807) <|some (.inr ([some (bK [AV.agg [Ut (Un iV L),iV (iN (kk+1+1))]] 2)],AV.str (ByteArray.mk #[98,108,111,99,107,32]++x13.nm)))) (br (Ae L (kk+1) 16==13) (some (.inr ([some (bK [AV.agg [Ut (Un iV L),iV (iN (kk+1+1))]] 2)],AV.str (ByteArray.mk #[102,108,101,101,116])))) (br (Ae L (kk+1) 16==14) (some (.inr ([some (bK [AV.agg [Ut (Un iV L),iV (iN (kk+1+1))]] 2)],AV.str (ByteArray.mk #[113,117,101,117,101])))) (gu (Aq n) <|gu (3<=n.ss.length) <|gu (kk+1+1<=100000) <|gu ((6+(AK L (kk+1+1) n).size).le 9223372036854775807) <|some (.inr ([some (bK [AV.agg [Ut (Un iV L),iV (iN (AJ L (kk+1+1) n))]] 2)],AV.str (ByteArray.mk #[99,108,111,115,101,32]++AK L (kk+1+1) n))))))))))))))))))
theorem ord_ct(L:List Int)(kk:Nat)(n:Aa)(r:Ret)(h:Ac emT (K8 L kk n) r):CT Uu 11 ([some (AF L kk)]) ([.ptr 0 0 0,Aj n]) r.1 r.2:=
 CT.mach (fn:=Tryz.f11) (c:=zB Tryz.f11) (S:=emS) (hd:=emH) Tryz.func11 (by kernel_rfl) (nL rfl)
  (fun s o ho=>match s,ho with
   | x,_=>x.elim)
  (fun o ho=>Scr.ok (X:=K8 L kk n) ho mix (
 .rn 0 [] [] [] [] (al (u2 t2)) <|
 .gu fun a0=>
 .gu fun a1=>
 .el fun x13 a2=>
 have c0:=AI (L) (kk) (iN (Un bA n.bs).length) a0;
 .rn 0 [] [(13,bA x13)] [(12,hK c0 [0] [])] [] (al (u2 (u2 (u2 (u2 (u2 (u2 (aj (k5 (al (c0))) (aj (k2 (aj a1 (Af (f:=bA) a2))) (u2 (u2 s2))))))))))) <|
 .gu fun a3=>
 have c1:=AI (L) (kk+1) (16) a3;
 .rn 1 [] [] [(17,hK c1 [0] [])] [] (aj (u2 (al (ak (k3 (al (c1)))))) (al (u2 s2))) <|
 .br (fun a4=>
 .gu fun a5=>
 .gu fun a6=>
 .gu fun a7=>
 .gu fun a8=>
 .gu fun a9=>
 .gu fun a10=>
 .gu fun a11=>
 have c2:=Cl (L) (kk+1+1) n a5 a6 a7;
 have c3:=Cl (L) (AJ L (kk+1+1) n) n a5 a6 a10;
 .rt [37] [] [(27,hK c2 [0] []),(32,hK c3 [0] [])] [] [0] [] (aj (aj a4 (ak (al (u2 (u2 (aj (k3 (aj t9 (ak (al (c2))))) (aj (ak a8) (aj (ak a9) (u2 (u2 (aj (k3 (aj t9 (ak (al (c3))))) (aj (k2 a11) s2)))))))))))) t3))
 (fun a4=>
 .rn 0 [36] [] [] [] (aj a4 (al (u2 s2))) <|
 .br (fun a5=>
  .gu fun a6=>
  .gu fun a7=>
  .gu fun a8=>
  .gu fun a9=>
  .gu fun a10=>
  .gu fun a11=>
  .gu fun a12=>
  have c2:=Cl (L) (kk+1+1) n a6 a7 a8;
  have c3:=Cl (L) (AJ L (kk+1+1) n) n a6 a7 a11;
  .rt [37] [] [(27,hK c2 [0] []),(32,hK c3 [0] [])] [] [0] [] (aj (aj a5 (ak (al (u2 (u2 (aj (k3 (aj t9 (ak (al (c2))))) (aj (ak a9) (aj (ak a10) (u2 (u2 (aj (k3 (aj t9 (ak (al (c3))))) (aj (k2 a12) s2)))))))))))) t3))
 (fun a5=>
  .rn 0 [36] [] [] [] (aj a5 (al (u2 s2))) <|
  .br (fun a6=>
  .gu fun a7=>
  .gu fun a8=>
  .gu fun a9=>
  .gu fun a10=>
  .gu fun a11=>
  .gu fun a12=>
  .gu fun a13=>
  have c2:=Cl (L) (kk+1+1) n a7 a8 a9;
  have c3:=Cl (L) (AJ L (kk+1+1) n) n a7 a8 a12;
  .rt [37] [] [(27,hK c2 [0] []),(32,hK c3 [0] [])] [] [0] [] (aj (aj a6 (ak (al (u2 (u2 (aj (k3 (aj t9 (ak (al (c2))))) (aj (ak a10) (aj (ak a11) (u2 (u2 (aj (k3 (aj t9 (ak (al (c3))))) (aj (k2 a13) s2)))))))))))) t3))
  (fun a6=>
  .rn 0 [36] [] [] [] (aj a6 (al (u2 s2))) <|
  .br (fun a7=>
   .gu fun a8=>
   .gu fun a9=>
   .gu fun a10=>
   .gu fun a11=>
   .gu fun a12=>
   .gu fun a13=>
   .gu fun a14=>
   have c2:=Cl (L) (kk+1+1) n a8 a9 a10;
   have c3:=Cl (L) (AJ L (kk+1+1) n) n a8 a9 a13;
   .rt [37] [] [(27,hK c2 [0] []),(32,hK c3 [0] [])] [] [0] [] (aj (aj a7 (ak (al (u2 (u2 (aj (k3 (aj t9 (ak (al (c2))))) (aj (ak a11) (aj (ak a12) (u2 (u2 (aj (k3 (aj t9 (ak (al (c3))))) (aj (k2 a14) s2)))))))))))) t3))
  (fun a7=>
   .rn 0 [36] [] [] [] (aj a7 (al (u2 s2))) <|
   .br (fun a8=>
   .gu fun a9=>
   .gu fun a10=>
   .gu fun a11=>
   .gu fun a12=>
   .gu fun a13=>
   .gu fun a14=>
   .gu fun a15=>
   have c2:=Cl (L) (kk+1+1) n a9 a10 a11;
   have c3:=Cl (L) (AJ L (kk+1+1) n) n a9 a10 a14;
   .rt [37] [] [(27,hK c2 [0] []),(32,hK c3 [0] [])] [] [0] [] (aj (aj a8 (ak (al (u2 (u2 (aj (k3 (aj t9 (ak (al (c2))))) (aj (ak a12) (aj (ak a13) (u2 (u2 (aj (k3 (aj t9 (ak (al (c3))))) (aj (k2 a15) s2)))))))))))) t3))
   (fun a8=>
   .rn 0 [36] [] [] [] (aj a8 (al (u2 s2))) <|
   .br (fun a9=>
    .gu fun a10=>
    .gu fun a11=>
    .gu fun a12=>
    .gu fun a13=>
    .gu fun a14=>
    .gu fun a15=>
    .gu fun a16=>
    have c2:=Cl (L) (kk+1+1) n a10 a11 a12;
    have c3:=Cl (L) (AJ L (kk+1+1) n) n a10 a11 a15;
    .rt [37] [] [(27,hK c2 [0] []),(32,hK c3 [0] [])] [] [0] [] (aj (aj a9 (al (u2 (u2 (aj (k3 (aj t9 (ak (al (c2))))) (aj (ak a13) (aj (ak a14) (u2 (u2 (aj (k3 (aj t9 (ak (al (c3))))) (aj (k2 a16) s2))))))))))) t3))
   (fun a9=>
    .rn 0 [36] [] [] [] (aj a9 (al (u2 s2))) <|
    .br (fun a10=>
    .gu fun a11=>
    .gu fun a12=>
    .gu fun a13=>
    have c2:=AI (L) (kk+1+1) (6) a11;
    have c3:=Nw (Ae L (kk+1+1) 6) a12;
    .rt [69] [] [(37,hK c2 [0] []),(38,hK c3 [] [])] [] [0] [] (aj (aj a10 (al (u2 (aj (ak (k3 (al (c2)))) (aj (k2 (al (c3))) (aj (ak a13) s2)))))) t3))
    (fun a10=>
    .rn 0 [68] [] [] [] (aj a10 (al (u2 s2))) <|
    .br (fun a11=>
     .gu fun a12=>
     .rt [81] [] [] [] [0] [] (aj (aj a11 (al (u2 (aj (ak a12) s2)))) t3))
    (fun a11=>
     .rn 0 [80] [] [] [] (aj a11 (al (u2 s2))) <|
     .br (fun a12=>
     .gu fun a13=>
     have c2:=AI (L) (kk+1+1) (2) a13;
     .rn 0 [89] [] [(47,hK c2 [0] [])] [] (aj a12 (al (u2 (aj (ak (k3 (al (c2)))) s2)))) <|
     .br (fun a14=>
      .gu fun a15=>
      .gu fun a16=>
      .gu fun a17=>
      .gu fun a18=>
      have c3:=Cl (L) (kk+1+1+1) n a15 a16 a17;
      .rt [97] [] [(51,hK c3 [0] [])] [] [0] [] (aj (aj a14 (al (u2 (u2 (aj (k3 (aj t9 (ak (al (c3))))) (aj (ak a18) s2)))))) t3))
     (fun a14=>
      .gu fun a15=>
      .rt [96] [] [] [] [0] [] (aj (aj a14 (al (u2 (aj (ak a15) s2)))) t3)))
     (fun a12=>
     .rn 0 [88] [] [] [] (aj a12 (al (u2 s2))) <|
     .br (fun a13=>
      .gu fun a14=>
      .gu fun a15=>
      .el fun x64 a16=>
      .gu fun a17=>
      have c2:=AI (L) (kk+1+1) (iN (Un sA n.ss).length) a14;
      .rt [111] [(64,sA x64)] [(63,hK c2 [0] [])] [] [0] [] (aj (aj a13 (al (u2 (u2 (u2 (u2 (u2 (u2 (aj (k5 (al (c2))) (aj (k2 (aj a15 (Af (f:=sA) a16))) (u2 (u2 (aj (ak a17) s2))))))))))))) t3))
     (fun a13=>
      .rn 0 [110] [] [] [] (aj a13 (al (u2 s2))) <|
      .br (fun a14=>
      .gu fun a15=>
      .gu fun a16=>
      .gu fun a17=>
      have c2:=AI (L) (kk+1+1) (4) a15;
      have c3:=Nw (Ae L (kk+1+1) 4) a16;
      .rt [137] [] [(71,hK c2 [0] []),(72,hK c3 [] [])] [] [0] [] (aj (aj a14 (al (u2 (aj (ak (k3 (al (c2)))) (aj (k2 (al (c3))) (aj (ak a17) s2)))))) t3))
      (fun a14=>
      .rn 0 [136] [] [] [] (aj a14 (al (u2 s2))) <|
      .br (fun a15=>
       .gu fun a16=>
       .gu fun a17=>
       .gu fun a18=>
       have c2:=AI (L) (kk+1+1) (6) a16;
       have c3:=Nw (Ae L (kk+1+1) 6) a17;
       .rt [149] [] [(77,hK c2 [0] []),(78,hK c3 [] [])] [] [0] [] (aj (aj a15 (al (u2 (aj (ak (k3 (al (c2)))) (aj (k2 (al (c3))) (aj (ak a18) s2)))))) t3))
      (fun a15=>
       .rn 0 [148] [] [] [] (aj a15 (al (u2 s2))) <|
       .br (fun a16=>
       .gu fun a17=>
       .rt [161] [] [] [] [0] [] (aj (aj a16 (al (u2 (aj (ak a17) s2)))) t3))
       (fun a16=>
       .rn 0 [160] [] [] [] (aj a16 (al (u2 s2))) <|
       .br (fun a17=>
        .rt [169] [] [] [] [0] [] (aj (aj a17 s2) t3))
       (fun a17=>
        .rn 0 [168] [] [] [] (aj a17 (al (u2 s2))) <|
        .br (fun a18=>
        .rt [173] [] [] [] [0] [] (aj (aj a18 s2) t3))
        (fun a18=>
        .gu fun a19=>
        .gu fun a20=>
        .gu fun a21=>
        .gu fun a22=>
        have c2:=Cl (L) (kk+1+1) n a19 a20 a21;
        .rt [172] [] [(90,hK c2 [0] [])] [] [0] [] (aj (aj a18 (al (u2 (u2 (aj (k3 (aj t9 (ak (al (c2))))) (aj (ak a22) s2)))))) t3))))))))))))))))) (by kernel_rfl)) h
def cmR(c:CmD):Ret:=([],cmA c)
theorem O7(q:ByteArray)(v0:LnD)(v1:Int)(v2:Bool)(v4:Int)(h1:0<=v1/\v1<=2)(hl:(v0.f.length:Int)=1+v1+(if v2=true then 1 else 0))(hs:∀s∈v0.f,s.size<=6000):∀(d i:Nat),(i:Int)+d=v1+1->∃c:CmD,Ac (IG q) (some (.inl (.l0 v0 v1 v2 (i:Int) v4))) (cmR c):=by
 have hlen:1+v1<=(v0.f.length:Int):=by split at hl<;>omega
 have hlen2:v2=true->2<=v0.f.length:=fun h=>by rw[Tq h] at hl;omega
 have hsz:∀{i:Nat} {y:ByteArray},v0.f[i]?=some y->y.size<=1000000:=fun hy=>by have:=hs _ (Tx hy);omega
 intro d
 induction d with
 | zero=>
  intro i hi
  refine AE (show IG q (.l0 v0 v1 v2 (i:Int) v4)=GB q v0 v1 v2 i v4 from rfl) ?_
  unfold GB
  rw[Ad (Ty (by omega))]
  repeat' (first
   | exact⟨⟨_,_,_,_⟩,.ret _⟩
   | refine Ah (hsz ‹_›) ?_
   | refine Am (fun h=>?_) (fun h=>?_)
   | refine AY (by first | (have:=hlen2 ‹_›;show 1<_;omega) | (simp only[decide_eq_true_eq] at *;first | (show 1<_;omega) | (show 2<_;omega))) (fun x hx=>?_))
 | succ d ih=>
  intro i hi
  refine AE (show IG q (.l0 v0 v1 v2 (i:Int) v4)=GB q v0 v1 v2 i v4 from rfl) ?_
  have nx:=ih (i+1) (by omega)
  rw[<-Bj i (by omega)] at nx
  unfold GB
  rw[Ag (Tz (by omega))]
  exact Ah (by omega) (AY (by omega) fun x hx=>Am (fun _=>⟨⟨_,_,_,_⟩,.ret _⟩) fun _=>nx)
theorem par_ex(q:ByteArray):∃c:CmD,Ac (IG q) (KA q) (cmR c):=by
 have hL:=(Pr q).1;unfold KA;refine Am (fun _=>⟨⟨_,_,_,_⟩,.ret _⟩) fun _=>Am (fun _=>⟨⟨_,_,_,_⟩,.ret _⟩) fun hn=>?_
 have hn:((Fs q).length:Int)=1:=by simpa [iN] using hn
 refine AY (by show 0<_;omega) fun x hx=>?_
 obtain⟨hf,hs⟩:=hL x (Tx hx);refine AY (by show 0<_;exact List.length_pos_iff.2 hf) fun y hy=>?_
 have hk:=kinN_rng y;refine Am (fun hb=>Am (fun _=>⟨⟨_,_,_,_⟩,.ret _⟩) fun _=>Am (fun _=>⟨⟨_,_,_,_⟩,.ret _⟩) fun hw=>?_) (fun hb=>Am (fun _=>⟨⟨_,_,_,_⟩,.ret _⟩) fun _=>Am (fun _=>⟨⟨_,_,_,_⟩,.ret _⟩) fun hw=>?_)
 .rw[CW (x:=B8 y+1) (by omega) (by omega),CW (by omega) (by omega)] at hw;have hw:(x.f.length:Int)=1+(B8 y+1):=by simpa [iN] using hw
  exact O7 q x (B8 y) (Fo y) (EO y) hk (by rw[Tq hb];omega) hs (B8 y).toNat 1 (by omega)
 .rw[CW (by omega) (by omega)] at hw;have hw:(x.f.length:Int)=1+B8 y:=by simpa [iN] using hw
  exact O7 q x (B8 y) (Fo y) (EO y) hk (by rw[Ts (by rw[hb];simp)];omega) hs (B8 y).toNat 1 (by omega)
theorem PI(q:ByteArray):∃c:CmD,CT Uu 10 [] [.str q] [] (cmA c):=by obtain⟨c,h⟩:=par_ex q;exact⟨c,par_ct q _ h⟩
@[irreducible] def paC(q:ByteArray):CmD:=Classical.choose (PI q)
theorem par_c(q:ByteArray):CT Uu 10 [] [.str q] [] (cmA (paC q)):=by unfold paC;exact T8 (PI q)
theorem leN{a b:Nat}(h:a<=b):Nat.le a b:=h
theorem Ni{s:ByteArray}(h:nmB s=true):s.size<=12:=by unfold nmB at h;rw[TB,TB,TB] at h;have h2:=h.1.1.2;simp only[Uh,decide_eq_false_iff_not,iN] at h2;omega
theorem PY:∀x:Int,0<=x/\x<100->(Dq x).size<=2:=by
 have:∀n,n<100->(AM n).size<=2:=by decide +kernel
 intro x hx;unfold Dq;exact this x.toNat (by omega)
def ordR(L:List Int)(p:ByteArray×Nat):Ret:=([some (AF L p.2)],.str p.1)
theorem ord_ex(L:List Int)(kk:Nat)(n:Aa)(hv:Aq n)(h3:3<=n.ss.length)(hk:kk<=90000):∃p:{p:ByteArray×Nat // p.2<=kk+8},Ac emT (K8 L kk n) (ordR L p.1):=by
 have hns:=hv.ns
 have hnb:=hv.nb24
 have hS:∀k,k<=100000->(AK L k n).size<=12:=fun k h=>by
  obtain⟨_,s,hs,he⟩:=stn_s (L:=L) hv h3 h
  obtain⟨i,hi⟩:=List.getElem?_of_mem hs
  rw[<-he];exact Ni (hv.spu i s hi).nm
 have hK:∀k,k<=100000->AJ L k n<=k+3:=fun k h=>(stn_s (L:=L) hv h3 h).1
 have k1:=hK (kk+1+1) (by omega)
 have k2:=hK (AJ L (kk+1+1) n) (by omega)
 have k3:=hK (kk+1+1+1) (by omega)
 have s1:=hS (kk+1+1) (by omega)
 have s2:=hS (AJ L (kk+1+1) n) (by omega)
 have s3:=hS (kk+1+1+1) (by omega)
 have r0:=BC L kk n.bs.length (by omega) (by omega)
 have r1:=BC L (kk+1+1) n.ss.length (by omega) (by omega)
 have r6:=BC L (kk+1+1) 6 (by omega) (by omega)
 have r4:=BC L (kk+1+1) 4 (by omega) (by omega)
 have d6:=PY (Ae L (kk+1+1) 6) (by omega)
 have d4:=PY (Ae L (kk+1+1) 4) (by omega)
 have e5:(ByteArray.mk #[116,97,115,107,32]).size=5:=rfl
 have e1:(ByteArray.mk #[32]).size=1:=rfl
 unfold K8
 simp only[iN,Tw]
 refine Ah (by omega) (Ah r0.1 (AY (by omega) fun x hx=>?_))
 have sx:=Ni (hv.blk _ x hx).nm
 repeat' (first
  | exact⟨⟨(_,_),by show _<=kk+8;omega⟩,.ret _⟩
  | refine Ah (by first | exact hv | omega | (refine leN ?_;(try simp only[ByteArray.size_append,e5,e1]);omega)) ?_
  | refine Am (fun h=>?_) (fun h=>?_)
  | refine AY (by omega) (fun y hy=>?_)
  | refine Ah (by have:=Ni (hv.spu _ _ ‹_›).nm;refine leN ?_;omega) ?_)
theorem Km(L:List Int)(kk:Nat)(n:Aa):∃p:ByteArray×Nat,Aq n->3<=n.ss.length->kk<=90000->p.2<=kk+8/\CT Uu 11 [some (AF L kk)] [.ptr 0 0 0,Aj n] [some (AF L p.2)] (.str p.1):=by
 by_cases h:Aq n/\3<=n.ss.length/\kk<=90000
 .obtain⟨p,hp⟩:=ord_ex L kk n h.1 h.2.1 h.2.2;exact⟨p.1,fun _ _ _=>⟨p.2,ord_ct L kk n _ hp⟩⟩
 .exact⟨(⟨#[]⟩,0),fun a b c=>absurd ⟨a,b,c⟩ h⟩
@[irreducible] def Dw(L:List Int)(kk:Nat)(n:Aa):ByteArray:=(Classical.choose (Km L kk n)).1
@[irreducible] def Jz(L:List Int)(kk:Nat)(n:Aa):Nat:=(Classical.choose (Km L kk n)).2
theorem ord_s{L:List Int}{kk:Nat}{n:Aa}(hv:Aq n)(h3:3<=n.ss.length)(hk:kk<=90000):Jz L kk n<=kk+8:=by unfold Jz;exact(T8 (Km L kk n) hv h3 hk).1
theorem ord_c(L:List Int)(kk:Nat)(n:Aa)(hv:Aq n)(h3:3<=n.ss.length)(hk:kk<=90000):CT Uu 11 [some (AF L kk)] [.ptr 0 0 0,Aj n] [some (AF L (Jz L kk n))] (.str (Dw L kk n)):=by unfold Dw Jz;exact(T8 (Km L kk n) hv h3 hk).2
inductive Gr where | l0 (v0:Int) (v1:Nat) (v2:List Bool) (v3 v4:List Int) (v5:List TsD) (v6:List UsD)
def lifSt(L:List Int)(kk:Nat)(w:Int):Gr->St | .l0 v0 v1 v2 v3 v4 v5 v6=>St.mk 52 [(0,AV.ptr 0 0 0),(1,iv w),(4,AV.ptr 1 0 0),(5,AV.ptr 2 0 0),(6,AV.ptr 3 0 0),(7,AV.ptr 4 0 0),(9,iv v0)] [some (AF L v1),some (bK [AV.agg [AV.nils,AV.nils,AV.nils,AV.nils,iv 0,iv 0,iv 0,iv 0]] 8),some (bK [AV.agg [AV.nils,AV.nils,AV.nils,AV.nils,AV.nils]] 5),some (bK [Aj (Ai L kk 6)] 8),some (bK [AV.agg [Ut (Un bV v2),Ut (Un iv v3),Ut (Un iv v4),Ut (Un tsA v5),Ut (Un usA v6)]] 5)]
def KU(L:List Int)(kk:Nat)(w:Int):Option (Gr⊕Ret):=gu (kk<=5000) <|gu (Aq (Ai L kk 6)) <|gu (RwV (Ai L kk 6)) <|some (.inl (.l0 ((0:Int)) (IB L kk 6) ((AN (Ai L kk 6)).cl) ((AN (Ai L kk 6)).bw) ([]) ([]) (neU (Ai L kk 6))))
def HM(L:List Int)(kk:Nat)(w v0:Int)(v1:Nat)(v2:List Bool)(v3 v4:List Int)(v5:List TsD)(v6:List UsD):Option (Gr⊕Ret):=br (decide (v0<w)) (gu (v1<9223372036854775807) <|br (decide (0<Ae L v1 3)) (gu (Aq (Ai L kk 6)) <|gu (3<=(Ai L kk 6).ss.length) <|gu (v1+1<=90000) <|gu (LgV (Ai L kk 6) (LgD.mk v2 v3 v4 v5 v6)) <|some (.inl (.l0 (i64.wrap (v0+1)) (Jz L (v1+1) (Ai L kk 6)) ((doL (Ai L kk 6) v2 v3 v4 v5 v6 (paC (Dw L (v1+1) (Ai L kk 6)))).cl) ((doL (Ai L kk 6) v2 v3 v4 v5 v6 (paC (Dw L (v1+1) (Ai L kk 6)))).bw) ((doL (Ai L kk 6) v2 v3 v4 v5 v6 (paC (Dw L (v1+1) (Ai L kk 6)))).pe) ((doL (Ai L kk 6) v2 v3 v4 v5 v6 (paC (Dw L (v1+1) (Ai L kk 6)))).tk) ((doL (Ai L kk 6) v2 v3 v4 v5 v6 (paC (Dw L (v1+1) (Ai L kk 6)))).us)))) (gu (Aq (Ai L kk 6)) <|gu (v1+1<=100000) <|gu (LgV (Ai L kk 6) (LgD.mk v2 v3 v4 v5 v6)) <|br (Jv (Ai L kk 6) v2 v3 v4 v5 v6 (DC L (v1+1) (Ai L kk 6) v2 v3 v4 v5 v6) (Dt L (v1+1) (Ai L kk 6) v2 v3 v4 v5 v6) (DS L (v1+1) (Ai L kk 6) v2 v3 v4 v5 v6) (Dy L (v1+1) (Ai L kk 6) v2 v3 v4 v5 v6)==0) (some (.inl (.l0 (i64.wrap (v0+1)) (Gc L (v1+1) (Ai L kk 6) v2 v3 v4 v5 v6) ((DQ (Ai L kk 6) v2 v3 v4 v5 v6 (DC L (v1+1) (Ai L kk 6) v2 v3 v4 v5 v6) (Dt L (v1+1) (Ai L kk 6) v2 v3 v4 v5 v6) (DS L (v1+1) (Ai L kk 6) v2 v3 v4 v5 v6) (Dy L (v1+1) (Ai L kk 6) v2 v3 v4 v5 v6)).cl) ((DQ (Ai L kk 6) v2 v3 v4 v5 v6 (DC L (v1+1) (Ai L kk 6) v2 v3 v4 v5 v6) (Dt L (v1+1) (Ai L kk 6) v2 v3 v4 v5 v6) (DS L (v1+1) (Ai L kk 6) v2 v3 v4 v5 v6) (Dy L (v1+1) (Ai L kk 6) v2 v3 v4 v5 v6)).bw) ((DQ (Ai L kk 6) v2 v3 v4 v5 v6 (DC L (v1+1) (Ai L kk 6) v2 v3 v4 v5 v6) (Dt L (v1+1) (Ai L kk 6) v2 v3 v4 v5 v6) (DS L (v1+1) (Ai L kk 6) v2 v3 v4 v5 v6) (Dy L (v1+1) (Ai L kk 6) v2 v3 v4 v5 v6)).pe) ((DQ (Ai L kk 6) v2 v3 v4 v5 v6 (DC L (v1+1) (Ai L kk 6) v2 v3 v4 v5 v6) (Dt L (v1+1) (Ai L kk 6) v2 v3 v4 v5 v6) (DS L (v1+1) (Ai L kk 6) v2 v3 v4 v5 v6) (Dy L (v1+1) (Ai L kk 6) v2 v3 v4 v5 v6)).tk) ((DQ (Ai L kk 6) v2 v3 v4 v5 v6 (DC L (v1+1) (Ai L kk 6) v2 v3 v4 v5 v6) (Dt L (v1+1) (Ai L kk 6) v2 v3 v4 v5 v6) (DS L (v1+1) (Ai L kk 6) v2 v3 v4 v5 v6) (Dy L (v1+1) (Ai L kk 6) v2 v3 v4 v5 v6)).us)))) (some (.inl (.l0 (i64.wrap (v0+1)) (Gc L (v1+1) (Ai L kk 6) v2 v3 v4 v5 v6) v2 v3 v4 v5 v6))))) (some (.inr ([some (bK [AV.agg [Ut (Un iV L),iV (iN v1)]] 2)],AV.tup [AV.agg [Ut (Un bA (Ai L kk 6).bs),Ut (gL (Ai L kk 6).nx),Ut (Un sA (Ai L kk 6).ss),Ut (Un iV (Ai L kk 6).rs),iV (Ai L kk 6).q,iV (Ai L kk 6).a,iV (Ai L kk 6).d,iV (Ai L kk 6).p],AV.agg [Ut (Un bV v2),Ut (Un iV v3),Ut (Un iV v4),Ut (Un tsA v5),Ut (Un usA v6)]])))
def IR(L:List Int)(kk:Nat)(w:Int):Gr->Option (Gr⊕Ret) | .l0 v0 v1 v2 v3 v4 v5 v6=>HM L kk w v0 v1 v2 v3 v4 v5 v6
theorem lif_ct(L:List Int)(kk:Nat)(w:Int)(r:Ret)(h:Ac (IR L kk w) (KU L kk w) r):CT Uu 8 ([some (AF L kk)]) ([.ptr 0 0 0,.int .i64 w]) r.1 r.2:=
 CT.mach (fn:=Tryz.f8) (c:=zB Tryz.f8) (S:=(lifSt L kk w)) (hd:=Gr.ctorIdx) Tryz.func8 (by kernel_rfl) (nL rfl)
  (fun s o ho=>match s,ho with
 | .l0 v0 v1 v2 v3 v4 v5 v6,ho=>Scr.ok (X:=HM L kk w v0 v1 v2 v3 v4 v5 v6) ho mix (
 .rn 0 [] [] [] [] (al (u2 (u2 (al t3)))) <|
 .br (fun a0=>
 .gu fun a1=>
 have c0:=AI (L) v1 (3) a1;
 .rn 0 [43] [] [(25,hK c0 [0] [])] [] (aj a0 (al (u2 (aj (ak (k3 (al (c0)))) s2)))) <|
 .br (fun a2=>
  .gu fun a3=>
  .gu fun a4=>
  .gu fun a5=>
  .gu fun a6=>
  have c1:=ord_c (L) (v1+1) (Ai L kk 6) a3 a4 a5;
  have c2:=par_c (Dw L (v1+1) (Ai L kk 6));
  have c3:=do_c (Ai L kk 6) v2 v3 v4 v5 v6 (paC (Dw L (v1+1) (Ai L kk 6))) a6;
  .lp [53] [] [(32,hK c1 [0] []),(33,hK c2 [] []),(34,hK c3 [] [])] [] [] [0,1,2,3,4] [0,1,4,5,6,7,9] (aj (aj a2 (aj (u2 (u2 (u2 (u2 (aj (k3 (aj t9 (ak (al (c1))))) (aj (k2 (al (c2))) (aj (k3 (aj t9 (aj t6 (aj t5 (al (c3)))))) (u2 (u2 (u2 (al (k2 (show Nat.le 1 [AV.agg [Ut (Un bV v2),Ut (Un iv v3),Ut (Un iv v4),Ut (Un tsA v5),Ut (Un usA v6)]].length from(nL rfl)))))))))))))) (al (u2 (u2 s2))))) (ak (k3 t9))))
 (fun a2=>
  .gu fun a3=>
  .gu fun a4=>
  .gu fun a5=>
  have c1:=fct_c (L) (v1+1) (Ai L kk 6) v2 v3 v4 v5 v6 a3 a4;
  have c2:=fa6_c (Ai L kk 6) v2 v3 v4 v5 v6 (DC L (v1+1) (Ai L kk 6) v2 v3 v4 v5 v6) (Dt L (v1+1) (Ai L kk 6) v2 v3 v4 v5 v6) (DS L (v1+1) (Ai L kk 6) v2 v3 v4 v5 v6) (Dy L (v1+1) (Ai L kk 6) v2 v3 v4 v5 v6) a5;
  .rn 1 [52] [] [(43,hK c1 [0] []),(44,hK c2 [] [])] [] (aj a2 (aj (u2 (u2 (u2 (u2 (u2 (aj (ak (k3 (aj t9 (aj t6 (ak (al (c1))))))) (aj (k3 (aj t9 (aj t6 (aj t5 (al (c2)))))) (u2 (u2 (u2 (ak (aj (k2 n11) s2)))))))))))) (al (u2 s2)))) <|
  .br (fun a6=>
  .lp [97] [] [] [] [] [0,1,2,3,4] [0,1,4,5,6,7,9] (aj (aj a6 (aj (u2 (al (k2 (show Nat.le 1 [AV.agg [Ut (Un bV v2),Ut (Un iv v3),Ut (Un iv v4),Ut (Un tsA v5),Ut (Un usA v6)]].length from(nL rfl))))) (al (u2 (u2 s2))))) (ak (k3 t9))))
  (fun a6=>
  .lp [96] [] [] [] [] [0,1,2,3,4] [0,1,4,5,6,7,9] (aj (aj a6 (al (u2 (u2 s2)))) (ak (k3 t9))))))
 (fun a0=>
 .rt [42] [] [] [] [0] [] (aj (aj a0 (al (u2 (u2 (aj (k2 n11) (al (k2 n11))))))) (aj (aj t9 (al t6)) t2)))) (by kernel_rfl)
  )
  (fun o ho=>Scr.ok (X:=KU L kk w) ho mix (
 .rn 0 [] [] [] [] (al t3) <|
 .gu fun a0=>
 have c0:=net_ct (L) (kk) (6) a0 (show(1:Int)<=(6:Int)/\(6:Int)<=(20:Int) from ⟨(by first | exact nL rfl | decide),(by first | exact nL rfl | decide)⟩);
 .rn 0 [] [] [(13,hK c0 [0] [])] [] (al (u2 (aj (ak (k3 (al (c0)))) (ak (al (k2 n11)))))) <|
 .gu fun a1=>
 .gu fun a2=>
 have c1:=ne6_c (Ai L kk 6) a1 a2;
 .lp [] [] [(16,hK c1 [] [])] [] [] [0,1,2,3,4] [0,1,4,5,6,7,9] (aj (aj (u2 (aj (ak (aj t9 (al (c1)))) (u2 (u2 (u2 (ak (aj (k2 n11) s2))))))) s2) (ak (k3 t9)))) (by kernel_rfl)) h
def lifR(L:List Int)(kk:Nat)(p:LgD×Nat):Ret:=([some (AF L p.2)],.tup [Aj (Ai L kk 6),lgA p.1])
theorem lif_loop(L:List Int)(kk:Nat)(w:Int)(hk:kk<=5000)(hw:0<=w/\w<=100):∀(d i:Nat) (v1:Nat) (v2:List Bool) (v3 v4:List Int) (v5:List TsD) (v6:List UsD),(i:Int)+d=w->v1<=kk+200+9 * i->LgV (Ai L kk 6) ⟨v2,v3,v4,v5,v6⟩->∃p:{p:LgD×Nat // p.2<=kk+1200/\LgV (Ai L kk 6) p.1},Ac (IR L kk w) (some (.inl (.l0 (i:Int) v1 v2 v3 v4 v5 v6))) (lifR L kk p.1):=by
 have hN:=(KZ (L:=L) hk (show(1:Int)<=6/\(6:Int)<=20 by omega)).1;intro d;induction d with
 | zero=>intro i v1 v2 v3 v4 v5 v6 hi h1 hV;refine AE (show IR L kk w (.l0 (i:Int) v1 v2 v3 v4 v5 v6)=HM L kk w i v1 v2 v3 v4 v5 v6 from rfl) ?_;unfold HM;rw[Ad (Ty (by omega))];exact⟨⟨(⟨v2,v3,v4,v5,v6⟩,v1),by show v1<=_;omega,hV⟩,.ret _⟩
 | succ d ih=>
  intro i v1 v2 v3 v4 v5 v6 hi h1 hV;refine AE (show IR L kk w (.l0 (i:Int) v1 v2 v3 v4 v5 v6)=HM L kk w i v1 v2 v3 v4 v5 v6 from rfl) ?_;unfold HM;rw[Ag (Tz (by omega)),Bj i (by omega)];refine Ah (by omega) (Am (fun _=>?_) fun _=>?_)
  .have h2:=ord_s (L:=L) (kk:=v1+1) hN.v hN.ln.1 (by omega);exact Ah hN.v (Ah hN.ln.1 (Ah (by omega) (Ah hV (ih (i+1) _ _ _ _ _ _ (by omega) (by omega) (do_v hV)))))
  .have h2:=fct_s (L:=L) (kk:=v1+1) (cl:=v2) (bw:=v3) (pe:=v4) (tk:=v5) (us:=v6) hN.v (by omega);exact Ah hN.v (Ah (by omega) (Ah hV (Am (fun he=>ih (i+1) _ _ _ _ _ _ (by omega) (by omega) (fa6_v hV (by simpa using he))) fun _=>ih (i+1) _ _ _ _ _ _ (by omega) (by omega) hV)))
theorem JS(L:List Int)(kk:Nat)(w:Int):∃p:LgD×Nat,kk<=5000->(0<=w/\w<=100)->(p.2<=kk+1200/\LgV (Ai L kk 6) p.1)/\CT Uu 8 [some (AF L kk)] [.ptr 0 0 0,.int .i64 w] [some (AF L p.2)] (.tup [Aj (Ai L kk 6),lgA p.1]):=by
 by_cases h:kk<=5000/\(0<=w/\w<=100)
 .have hN:=KZ (L:=L) h.1 (show(1:Int)<=6/\(6:Int)<=20 by omega);obtain⟨p,hp⟩:∃p:{p:LgD×Nat // p.2<=kk+1200/\LgV (Ai L kk 6) p.1},Ac (IR L kk w) (KU L kk w) (lifR L kk p.1):=by unfold KU;exact Ah h.1 (Ah hN.1.v (Ah hN.1.rwv (lif_loop L kk w h.1 h.2 w.toNat 0 _ _ _ _ _ _ (by omega) (by have:=hN.2.1;omega) (neV hN.1.v hN.1.rwv))))
  exact⟨p.1,fun _ _=>⟨p.2,lif_ct L kk w _ hp⟩⟩
 .exact⟨(⟨[],[],[],[],[]⟩,0),fun a b=>absurd ⟨a,b⟩ h⟩
@[irreducible] def liL(L:List Int)(kk:Nat)(w:Int):LgD:=(Classical.choose (JS L kk w)).1
@[irreducible] def liK(L:List Int)(kk:Nat)(w:Int):Nat:=(Classical.choose (JS L kk w)).2
theorem li_s{L:List Int}{kk:Nat}{w:Int}(hk:kk<=5000)(hw:0<=w/\w<=100):liK L kk w<=kk+1200/\LgV (Ai L kk 6) (liL L kk w):=by unfold liL liK;exact(T8 (JS L kk w) hk hw).1
theorem li_c(L:List Int)(kk:Nat)(w:Int)(hk:kk<=5000)(hw:0<=w/\w<=100):CT Uu 8 [some (AF L kk)] [.ptr 0 0 0,.int .i64 w] [some (AF L (liK L kk w))] (.tup [Aj (Ai L kk 6),lgA (liL L kk w)]):=by unfold liL liK;exact(T8 (JS L kk w) hk hw).2
def bkB(n:Aa)(a b c d e:AV):AV:=.agg [.lst (n.bs.map bA),.lst (gL n.nx),.lst (n.ss.map sA),.lst (n.rs.map (AV.int .i64)),.int .i64 n.q,.int .i64 n.a,.int .i64 n.d,.int .i64 n.p,a,b,c,d,e]
def bkH(n:Aa)(cl:List Bool)(bw pe:List Int)(tk:List TsD)(us:List UsD)(n1 n2:Nat):List (Option Blk):=[some {es:=[bkB n (.lst (boL cl)) (lI bw) (lI pe) (.sl 1 0 n1) (.sl 2 0 n2)],z:=13,flat:=false},some {es:=tk.map tsA,z:=5},some {es:=us.map usA,z:=13}]
def bkR(n:Aa)(cl:List Bool)(bw pe:List Int)(tk:List TsD)(us:List UsD)(n1 n2:Nat):List (Option Blk):=[some {es:=[bkB n (.lst (boL cl)) (lI bw) (lI pe) (.sl 1 0 n1) (.sl 2 0 n2)],z:=13,flat:=false,wr:=false},some {es:=tk.map tsA,z:=5,wr:=false},some {es:=us.map usA,z:=13,wr:=false}]
def Mb(n:Aa)(q:Int)(l:Bool):Option (Empty⊕Ret):=br (decide (0<=q)) (br (decide (q<iN (Un sA n.ss).length)) (gu (0<=q) <|el (n.ss) (q.toNat) fun(x20:Au)=>some (.inr ([],bV (x20.dep==l)))) (some (.inr ([],bV false)))) (some (.inr ([],bV false)))
theorem isS_ct(n:Aa)(q:Int)(l:Bool)(r:Ret)(h:Ac emT (Mb n q l) r):CT Uu 72 ([]) ([Aj n,.int .i64 q,.bool l]) r.1 r.2:=
 CT.mach (fn:=Tryz.f72) (c:=zB Tryz.f72) (S:=emS) (hd:=emH) Tryz.func72 (by kernel_rfl) (nL rfl)
  (fun s o ho=>match s,ho with
   | x,_=>x.elim)
  (fun o ho=>Scr.ok (X:=Mb n q l) ho mix (
 .rn 0 [] [] [] [] (al (u2 t2)) <|
 .br (fun a0=>
 .br (fun a1=>
  .gu fun a2=>
  .el fun x20 a3=>
  .rt [19,33] [(20,sA x20)] [] [] [] [] (aj (al (u2 (u2 (u2 (ag a0 (ag a0 (ag a0 (ag a0 (aj (aj a0 t3) (ag a0 (u2 (ag a1 (ag a1 (ag a1 (aj (aj a1 (k2 (aj a2 (Af (f:=sA) a3)))) (ag a1 (ag a1 (ag a1 (aj (aj a1 t3) (ag a1 s2)))))))))))))))))))) t2))
 (fun a1=>
  .rt [19,32] [] [] [] [] [] (aj (al (u2 (u2 (u2 (ag a0 (ag a0 (ag a0 (ag a0 (aj (aj a0 t3) (ag a0 (u2 (aj a1 (aj a1 (aj a1 (aj a1 (aj a1 (aj a1 (aj a1 (aj a1 (ag a1 s2)))))))))))))))))))) t2)))
 (fun a0=>
 .rt [18] [] [] [] [] [] (aj (al (u2 (u2 (u2 (aj a0 (aj a0 (aj a0 (aj a0 (aj a0 (ag a0 (u2 (k3 (k5 (aj t3 s2)))))))))))))) t2))) (by kernel_rfl)) h
def prsEn(x:UsD):Option (Empty⊕Ret):=some (.inr ([],bV (x.s != 3)))
theorem prs_ct(x:UsD)(r:Ret)(h:Ac emT (prsEn x) r):CT Uu 88 ([]) ([usA x]) r.1 r.2:=
 CT.mach (fn:=Tryz.f88) (c:=zB Tryz.f88) (S:=emS) (hd:=emH) Tryz.func88 (by kernel_rfl) (nL rfl)
  (fun s o ho=>match s,ho with
   | x,_=>x.elim)
  (fun o ho=>Scr.ok (X:=prsEn x) ho mix (
 .rt [] [] [] [] [] [] (aj (ag t2 (al (u2 (u2 (u2 s2))))) t2)) (by kernel_rfl)) h
def LM(x:UsD):Option (Empty⊕Ret):=br (x.s==0) (some (.inr ([],bV true))) (some (.inr ([],bV (x.s==1))))
theorem inf_ct(x:UsD)(r:Ret)(h:Ac emT (LM x) r):CT Uu 84 ([]) ([usA x]) r.1 r.2:=
 CT.mach (fn:=Tryz.f84) (c:=zB Tryz.f84) (S:=emS) (hd:=emH) Tryz.func84 (by kernel_rfl) (nL rfl)
  (fun s o ho=>match s,ho with
   | x,_=>x.elim)
  (fun o ho=>Scr.ok (X:=LM x) ho mix (
 .rn 0 [] [] [] [] (al (u2 t2)) <|
 .br (fun a0=>
 .rt [13] [] [] [] [] [] (aj (al (u2 (u2 (u2 (u2 (aj a0 (aj a0 (aj a0 (ag a0 s2))))))))) t2))
 (fun a0=>
 .rt [12] [] [] [] [] [] (aj (al (u2 (u2 (u2 (u2 (ag a0 (ag a0 (ag a0 (ag a0 s2))))))))) t2))) (by kernel_rfl)) h
def isAEn(q:Int):Option (Empty⊕Ret):=some (.inr ([],AV.agg [iV 12,iV q]))
theorem isA_ct(q:Int)(r:Ret)(h:Ac emT (isAEn q) r):CT Uu 91 ([]) ([.int .i64 q]) r.1 r.2:=
 CT.mach (fn:=Tryz.f91) (c:=zB Tryz.f91) (S:=emS) (hd:=emH) Tryz.func91 (by kernel_rfl) (nL rfl)
  (fun s o ho=>match s,ho with
   | x,_=>x.elim)
  (fun o ho=>Scr.ok (X:=isAEn q) ho mix (
 .rt [] [] [] [] [] [] (aj (u2 (al (u2 (u2 (al (k2 n11)))))) (al t3))) (by kernel_rfl)) h
def okAEn(q:Int):Option (Empty⊕Ret):=some (.inr ([],AV.agg [iV 1,iV q]))
theorem okA_ct(q:Int)(r:Ret)(h:Ac emT (okAEn q) r):CT Uu 79 ([]) ([.int .i64 q]) r.1 r.2:=
 CT.mach (fn:=Tryz.f79) (c:=zB Tryz.f79) (S:=emS) (hd:=emH) Tryz.func79 (by kernel_rfl) (nL rfl)
  (fun s o ho=>match s,ho with
   | x,_=>x.elim)
  (fun o ho=>Scr.ok (X:=okAEn q) ho mix (
 .rt [] [] [] [] [] [] (aj (u2 (al (u2 (u2 (al (k2 n11)))))) (al t3))) (by kernel_rfl)) h
inductive EQ where | l0 (v0:Int)
def avlSt(l:List TsD):EQ->St | .l0 v0=>St.mk 43 [(8,Ut (Un tsA l)),(9,iv (iN (Un tsA l).length)),(10,iv v0)] []
def NP(l:List TsD):Option (EQ⊕Ret):=br (decide (32<iN (Un tsA l).length)) (some (.inr ([],bV false))) (some (.inl (.l0 ((0:Int)))))
def EH(l:List TsD)(v0:Int):Option (EQ⊕Ret):=br (decide (v0<iN (Un tsA l).length)) (gu (0<=v0) <|el l (v0.toNat) fun(x12:TsD)=>br (decide (x12.s<0)) (some (.inr ([],bV false))) (br (decide (5<x12.s)) (some (.inr ([],bV false))) (br (decide (x12.q < -1)) (some (.inr ([],bV false))) (br (decide (8<=x12.q)) (some (.inr ([],bV false))) (br (decide (x12.ov<0)) (some (.inr ([],bV false))) (br (decide (32<x12.ov)) (some (.inr ([],bV false))) (some (.inl (.l0 (i64.wrap (v0+1))))))))))) (some (.inr ([],bV true)))
def avlStep(l:List TsD):EQ->Option (EQ⊕Ret) | .l0 v0=>EH l v0
theorem avl_ct(l:List TsD)(r:Ret)(h:Ac (avlStep l) (NP l) r):CT Uu 120 ([]) ([.lst (l.map tsA)]) r.1 r.2:=
 CT.mach (fn:=Tryz.f120) (c:=zB Tryz.f120) (S:=(avlSt l)) (hd:=EQ.ctorIdx) Tryz.func120 (by kernel_rfl) (nL rfl)
  (fun s o ho=>match s,ho with
 | .l0 v0,ho=>Scr.ok (X:=EH l v0) ho mix (
 .rn 0 [] [] [] [] (al (al t3)) <|
 .br (fun a0=>
 .gu fun a1=>
 .el fun x12 a2=>
 .rn 0 [23] [(12,tsA x12)] [] [] (aj a0 (al (aj (k2 (aj a1 (Af (f:=tsA) a2))) (u2 (ak (al (k2 n11))))))) <|
 .br (fun a3=>
  .rt [35] [] [] [] [] [] (aj (aj (u2 (u2 (u2 (u2 (aj a3 (aj a3 (aj a3 (ag a3 (u2 (k3 (aj t3 (u2 (k3 (aj t3 (u2 (k3 (aj t3 (u2 (k3 (al t3)))))))))))))))))))) (ak s2)) t2))
 (fun a3=>
  .br (fun a4=>
  .rt [34,45] [] [] [] [] [] (aj (aj (u2 (u2 (u2 (u2 (ag a3 (ag a3 (ag a3 (ag a3 (u2 (aj a4 (aj a4 (aj a4 (ag a4 (u2 (k3 (aj t3 (u2 (k3 (aj t3 (u2 (k3 (al t3)))))))))))))))))))))) (ak s2)) t2))
  (fun a4=>
  .br (fun a5=>
   .rt [34,44,55] [] [] [] [] [] (aj (aj (u2 (u2 (u2 (u2 (ag a3 (ag a3 (ag a3 (ag a3 (u2 (ag a4 (ag a4 (ag a4 (ag a4 (u2 (aj a5 (aj a5 (aj a5 (ag a5 (u2 (k3 (aj t3 (u2 (k3 (al t3)))))))))))))))))))))))) (ak s2)) t2))
  (fun a5=>
   .br (fun a6=>
   .rt [34,44,54,65] [] [] [] [] [] (aj (aj (u2 (u2 (u2 (u2 (ag a3 (ag a3 (ag a3 (ag a3 (u2 (ag a4 (ag a4 (ag a4 (ag a4 (u2 (ag a5 (ag a5 (ag a5 (ag a5 (u2 (aj a6 (aj a6 (aj a6 (ag a6 (u2 (k3 (al t3)))))))))))))))))))))))))) (ak s2)) t2))
   (fun a6=>
   .br (fun a7=>
    .rt [34,44,54,64,75] [] [] [] [] [] (aj (aj (u2 (u2 (u2 (u2 (ag a3 (ag a3 (ag a3 (ag a3 (u2 (ag a4 (ag a4 (ag a4 (ag a4 (u2 (ag a5 (ag a5 (ag a5 (ag a5 (u2 (ag a6 (ag a6 (ag a6 (ag a6 (u2 (aj a7 (aj a7 (aj a7 (al (aj a7 t2))))))))))))))))))))))))))))) (ak s2)) t2))
   (fun a7=>
    .rn 0 [34,44,54,64,74] [] [] [] (al (u2 (u2 (u2 (u2 (ag a3 (ag a3 (ag a3 (ag a3 (u2 (ag a4 (ag a4 (ag a4 (ag a4 (u2 (ag a5 (ag a5 (ag a5 (ag a5 (u2 (ag a6 (ag a6 (ag a6 (ag a6 (u2 (ag a7 (ag a7 (ag a7 (al (aj a7 t2)))))))))))))))))))))))))))))) <|
    .br (fun a8=>
    .rt [34,44,54,64,74,83] [] [] [] [] [] (aj (aj a8 s2) t2))
    (fun a8=>
    .lp [34,44,54,64,74,82] [] [] [] [] [] [8,9,10] (aj (aj a8 (al (u2 s2))) t4))))))))
 (fun a0=>
 .rt [22] [] [] [] [] [] (aj (aj a0 s2) t2))) (by kernel_rfl)
  )
  (fun o ho=>Scr.ok (X:=NP l) ho mix (
 .rn 1 [] [] [] [] (u2 (al (u2 (u2 s2)))) <|
 .br (fun a0=>
 .rt [15] [] [] [] [] [] (aj (aj a0 s2) t2))
 (fun a0=>
 .lp [14] [] [] [] [] [] [8,9,10] (aj (aj a0 (al (u2 (u2 t2)))) t4))) (by kernel_rfl)) h
inductive Hh where | l0 (v0 v1:Int)
def aqdSt(l:List TsD):Hh->St | .l0 v0 v1=>St.mk 19 [(3,iv v0),(6,Ut (Un tsA l)),(7,iv (iN (Un tsA l).length)),(8,iv v1)] []
def aqdEn(l:List TsD):Option (Hh⊕Ret):=some (.inl (.l0 ((0:Int)) ((0:Int))))
def Ib(l:List TsD)(v0 v1:Int):Option (Hh⊕Ret):=br (decide (v1<iN (Un tsA l).length)) (gu (0<=v1) <|el l (v1.toNat) fun(x10:TsD)=>br (x10.s==0) (some (.inl (.l0 (i64.wrap (v0+1)) (i64.wrap (v1+1))))) (some (.inl (.l0 v0 (i64.wrap (v1+1)))))) (some (.inr ([],iV v0)))
def QM(l:List TsD):Hh->Option (Hh⊕Ret) | .l0 v0 v1=>Ib l v0 v1
theorem aqd_ct(l:List TsD)(r:Ret)(h:Ac (QM l) (aqdEn l) r):CT Uu 121 ([]) ([.lst (l.map tsA)]) r.1 r.2:=
 CT.mach (fn:=Tryz.f121) (c:=zB Tryz.f121) (S:=(aqdSt l)) (hd:=Hh.ctorIdx) Tryz.func121 (by kernel_rfl) (nL rfl)
  (fun s o ho=>match s,ho with
 | .l0 v0 v1,ho=>Scr.ok (X:=Ib l v0 v1) ho mix (
 .rn 0 [] [] [] [] (al (al t3)) <|
 .br (fun a0=>
 .gu fun a1=>
 .el fun x10 a2=>
 .rn 1 [19] [(10,tsA x10)] [] [] (aj a0 (aj (aj (k2 (aj a1 (Af (f:=tsA) a2))) (u2 (ak (al (k2 n11))))) (al (u2 (u2 s2))))) <|
 .br (fun a3=>
  .lp [29] [] [] [] [] [] [3,6,7,8] (aj (aj a3 (aj (u2 (u2 s2)) (al (u2 s2)))) t5))
 (fun a3=>
  .lp [28] [] [] [] [] [] [3,6,7,8] (aj (aj a3 (al (u2 s2))) t5)))
 (fun a0=>
 .rt [18] [] [] [] [] [] (aj (aj a0 (al (u2 s2))) t2))) (by kernel_rfl)
  )
  (fun o ho=>Scr.ok (X:=aqdEn l) ho mix (
 .lp [] [] [] [] [] [] [3,6,7,8] (aj (u2 (u2 (al (u2 (u2 t2))))) t5)) (by kernel_rfl)) h
def Mk(l:List TsD):Option (Empty⊕Ret):=gu (Un tsA l=[]->False) <|gu (∀(e:AV),e∈Un tsA l->e.cells.length=5) <|gu (0+(Un tsA l).length<=9223372036854775807) <|gu ((0+(Un tsA l).length) * 40<=140737488355328) <|some (.inr ([some (bK ([]++Un tsA l) 5)],AV.sl 0 0 (0+(Un tsA l).length)))
theorem c74_ct(l:List TsD)(r:Ret)(h:Ac emT (Mk l) r):CT Uu 74 ([]) ([.lst (l.map tsA)]) r.1 r.2:=
 CT.mach (fn:=Tryz.f74) (c:=zB Tryz.f74) (S:=emS) (hd:=emH) Tryz.func74 (by kernel_rfl) (nL rfl)
  (fun s o ho=>match s,ho with
   | x,_=>x.elim)
  (fun o ho=>Scr.ok (X:=Mk l) ho mix (
 .rn 0 [] [] [] [] s2 <|
 .gu fun a0=>
 .rn 0 [] [] [] [] (al (u2 (al (ak a0)))) <|
 .gu fun a1=>
 .gu fun a2=>
 .gu fun a3=>
 .rt [] [] [] [] [1] [] (aj (ak (al (ak (u2 (aj (k2 (aj (show nat_lit 0=nat_lit 0 from rfl) (aj a1 (aj a2 a3)))) s2))))) t3)) (by kernel_rfl)) h
def sp1En(x:Au)(w:ByteArray):Option (Empty⊕Ret):=some (.inr ([some (bK [.str w] 1)],bV (x.nm.toList==w.toList)))
theorem sp1_ct(x:Au)(w:ByteArray)(r:Ret)(h:Ac emT (sp1En x w) r):CT Uu 127 ([some (bK [.str w] 1)]) ([sA x,.ptr 0 0 0]) r.1 r.2:=
 CT.mach (fn:=Tryz.f127) (c:=zB Tryz.f127) (S:=emS) (hd:=emH) Tryz.func127 (by kernel_rfl) (nL rfl)
  (fun s o ho=>match s,ho with
   | x,_=>x.elim)
  (fun o ho=>Scr.ok (X:=sp1En x w) ho mix (
 .rt [] [] [] [] [0] [] (aj (ag t2 (al (u2 (u2 (u2 (aj t3 s2)))))) t3)) (by kernel_rfl)) h
def bl1En(x:AA)(w:ByteArray):Option (Empty⊕Ret):=some (.inr ([some (bK [.str w] 1)],bV (x.nm.toList==w.toList)))
theorem bl1_ct(x:AA)(w:ByteArray)(r:Ret)(h:Ac emT (bl1En x w) r):CT Uu 131 ([some (bK [.str w] 1)]) ([bA x,.ptr 0 0 0]) r.1 r.2:=
 CT.mach (fn:=Tryz.f131) (c:=zB Tryz.f131) (S:=emS) (hd:=emH) Tryz.func131 (by kernel_rfl) (nL rfl)
  (fun s o ho=>match s,ho with
   | x,_=>x.elim)
  (fun o ho=>Scr.ok (X:=bl1En x w) ho mix (
 .rt [] [] [] [] [0] [] (aj (ag t2 (al (u2 (u2 (u2 (aj t3 s2)))))) t3)) (by kernel_rfl)) h
@[irreducible] def Cd(n:Aa)(q:Int)(l:Bool):Bool:=decide (0<=q)&&match n.ss[q.toNat]? with | some s=>s.dep==l | none=>false
theorem Fx(n:Aa)(q:Int)(l:Bool):CT Uu 72 [] [Aj n,.int .i64 q,.bool l] [] (.bool (Cd n q l)):=by
 refine isS_ct n q l ([],_) (.val ?_);unfold Mb Cd;by_cases h0:0<=q
 .rw[Ag (Tz h0),Tz h0];by_cases h1:q<(n.ss.length:Int)
  .obtain⟨s,hs⟩:∃s,n.ss[q.toNat]?=some s:=⟨_,Tt (by omega)⟩;rw[Ag (Tz (by simpa [iN] using h1)),Ab h0,Ar hs,hs];rfl
  .rw[Ad (Ty (by simpa [iN] using h1)),TU (by omega)];rfl
 .rw[Ad (Ty h0),Ty h0];rfl
theorem prs_c(s:Int)(lv:Bool)(hm:Int):CT Uu 88 [] [usA ⟨s,lv,hm⟩] [] (.bool (s != 3)):=prs_ct ⟨s,lv,hm⟩ ([],_) (.val rfl)
theorem inf_c(s:Int)(lv:Bool)(hm:Int):CT Uu 84 [] [usA ⟨s,lv,hm⟩] [] (.bool (Bk s)):=by
 refine inf_ct ⟨s,lv,hm⟩ ([],_) (.val ?_);unfold LM Bk;cases h:s==0 with
 | true=>rfl
 | false=>rfl
theorem isA_c(q:Int):CT Uu 91 [] [.int .i64 q] [] (.agg [.int .i64 12,.int .i64 q]):=isA_ct q ([],_) (.val rfl)
theorem OJ(q:Int):CT Uu 79 [] [.int .i64 q] [] (.agg [.int .i64 1,.int .i64 q]):=okA_ct q ([],_) (.val rfl)
theorem sp1_c(nm:ByteArray)(d:Bool)(i j k b:Int)(w:ByteArray):CT Uu 127 [some (Blk.mk [.str w] 1 true true none)] [sA ⟨nm,d,i,j,k,b⟩,.ptr 0 0 0] [some (Blk.mk [.str w] 1 true true none)] (.bool (nm.toList==w.toList)):=sp1_ct ⟨nm,d,i,j,k,b⟩ w _ (.val rfl)
theorem bl1_c(nm:ByteArray)(i j:Int)(w:ByteArray):CT Uu 131 [some (Blk.mk [.str w] 1 true true none)] [bA ⟨nm,i,j⟩,.ptr 0 0 0] [some (Blk.mk [.str w] 1 true true none)] (.bool (nm.toList==w.toList)):=bl1_ct ⟨nm,i,j⟩ w _ (.val rfl)
theorem cl74_e:CT Uu 74 [] [.lst []] [some (Blk.mk [] 5 true true none)] (.sl 0 0 0):=by
 refine CT.of Tryz.func74 (show Tryz.f74.body=some (zB Tryz.f74) from by kernel_rfl) (nL rfl) ?_;refine T.seq ?_;refine T.ops (st':=?st1) ?steps1 ?post1
 case steps1=>refine .av (.nils) rfl rfl rfl (by kernel_rfl) ?_;exact .nil _
 show T Uu 0 _ _ _;refine T.seq (T.seq ?_);refine T.opsN (.val (v:=.lst []) (noG rfl) rfl (nL rfl) (BV rfl (hint:=.no) (R:={v:=.lst []}) (p:=True) (by kernel_rfl) trivial).1 (.one (S:=fun R=>∃b,R={v:=.bool b}) (noG rfl) (Mu (e:=125) rfl (by kernel_rfl) rfl rfl) (fun R hR=>?_) (fun R hR=>?_)))
 .obtain⟨b,rfl⟩:=hR;exact⟨OpR.fits_value _ _,fun b hb=>by simp at hb,fun d hd=>by cases hd;exact nL rfl⟩
 obtain⟨b,rfl⟩:=hR;refine .nil ?_;cases b with
 | true=>
  refine T.cond_true rfl (T.seq ?_);refine T.ops (st':=?st2) ?steps2 ?post2
  case steps2=>refine .av (.nils) rfl rfl rfl (by kernel_rfl) ?_;exact .nil _
  refine T.ret ?_;refine⟨.inr rfl,.nils,⟨Tryz.f74.ntmps,[(0,.sl 0 0 0)],[some (Blk.mk [] 5 true true none)]⟩,rfl,Ren.less rfl (TF _) (fun s=>?_) (fun b blk hb=>?_),rfl,rfl,(nL rfl)⟩
  .cases s with
   | zero=>exact .nilS _ _
   | succ s=>exact .refl _
  .cases b with
   | zero=>simp[nth] at hb;subst hb;exact .inr ⟨TE _,rfl,rfl,rfl,rfl⟩
   | succ b=>simp[nth] at hb
 | false=>
  refine T.cond_false rfl (T.skip ?_);refine T.seq ?_;refine T.ops (st':=?st3) ?steps3 ?post3
  case steps3=>refine .new (v:=.sl 0 0 0) (blk:=Blk.mk [] 5 true true none) rfl rfl (nL rfl) (BV rfl (hint:=.no) (R:={v:=.sl 0 0 0,new:=[Blk.mk [] 5 true true none]}) (p:=True) (by kernel_rfl) trivial).1 ?_;refine .av (.lst []) rfl rfl rfl (by kernel_rfl) ?_;refine .move (v:=.sl 1 0 0) (b:=0) (blk:=Blk.mk [] 5 true true none) rfl rfl (nL rfl) rfl rfl (TF _) (BV rfl (hint:=.no) (R:={v:=.sl 1 0 0,dead:=[0],new:=[Blk.mk [] 5 true true none]}) (p:=0=0/\BD (nth [some (Blk.mk [] 5 true true none)]) 5 (.lst [])/\0+0<=9223372036854775807/\(0+0) * 40<=140737488355328) (by kernel_rfl) ⟨rfl,(fun e he=>by cases he),(by omega),(by omega)⟩).1 ?_;refine .av (.sl 1 0 0) rfl rfl rfl (by kernel_rfl) ?_;exact .nil _
  refine T.ret ?_;exact⟨.inr rfl,.sl 1 0 0,⟨Tryz.f74.ntmps,[(0,.sl 0 0 0)],[some (Blk.mk [] 5 true true none)]⟩,rfl,Ren.of (p:=True/\True/\True) [1] [] [0] (by kernel_rfl) ⟨trivial,trivial,trivial⟩ rfl rfl rfl,rfl,rfl,(nL rfl)⟩
theorem ts5(l:List TsD):∀(e:AV),e∈Un tsA l->e.cells.length=5:=fun e he=>by obtain⟨x,_,rfl⟩:=T1.1 he;rfl
theorem c74_c(l:List TsD)(hl:l.length<=1000):CT Uu 74 [] [.lst (l.map tsA)] [some (Blk.mk (l.map tsA) 5 true true none)] (.sl 0 0 l.length):=by
 by_cases h:l=[]
 .subst h;exact cl74_e
 refine c74_ct l ([_],_) (.val ?_);unfold Mk;rw[Ab (fun e=>h (List.map_eq_nil_iff.1 e)),Ab (ts5 _),Ab (by rw[Tw];omega),Ab (by rw[Tw];omega),List.nil_append,TI,Tw]
theorem avl_c(l:List TsD):CT Uu 120 [] [.lst (l.map tsA)] [] (.bool (tvB l)):=by
 refine avl_ct l ([],_) ?_;unfold NP tvB;have e:decide (32<iN (Un tsA l).length)=decide (32<l.length):=decide_eq_decide.2 (by simp only[iN,Tw];omega);rw[e];cases hd:decide (32<l.length) with
 | true=>exact .val rfl
 | false=>
  have hl:=of_decide_eq_false hd;rw[Ad rfl];refine Ac.res (Qd (l:=l) (L:=fun i=>EQ.l0 (i:Nat)) (p:=fun x=>decide (TvP x)) (rF:=([],.bool false)) (r:=([],.bool true)) (fun i x hx hp=>?_) (fun i x r hx hp hr=>?_) (fun _=>?_)) (by cases l.all fun x=>decide (TvP x)<;>rfl)
  .refine .to (show EH l i=_ from rfl) ?_;unfold EH;rw[AZ hx];have hp:=of_decide_eq_false hp;unfold TvP at hp;by_cases h1:x.s<0
   .rw[Ag (Tz h1)];exact .ret _
   rw[Ad (Ty h1)];by_cases h2:5<x.s
   .rw[Ag (Tz h2)];exact .ret _
   rw[Ad (Ty h2)];by_cases h3:x.q < -1
   .rw[Ag (Tz h3)];exact .ret _
   rw[Ad (Ty h3)];by_cases h4:8<=x.q
   .rw[Ag (Tz h4)];exact .ret _
   rw[Ad (Ty h4)];by_cases h5:x.ov<0
   .rw[Ag (Tz h5)];exact .ret _
   rw[Ad (Ty h5),Ag (Tz (by omega))];exact .ret _
  .refine .to (show EH l i=_ from rfl) ?_;unfold EH;have hp:=of_decide_eq_true hp;unfold TvP at hp;have:=(Tv.1 hx).1;rw[AZ hx,Ad (Ty (by omega)),Ad (Ty (by omega)),Ad (Ty (by omega)),Ad (Ty (by omega)),Ad (Ty (by omega)),Ad (Ty (by omega)),Bj i (by omega)];exact hr
  .refine .to (show EH l (l.length:Nat)=_ from rfl) ?_;unfold EH;rw[AQ];exact .ret _
theorem OA(l:List TsD)(hl:l.length<=1000000):CT Uu 121 [] [.lst (l.map tsA)] [] (.int .i64 (tcZ l)):=by
 refine aqd_ct l ([],_) ?_;rw[PQ];have key:∀(d i:Nat),i+d=l.length->Ac (QM l) (some (.inl (.l0 (coZ (fun x=>x.s==0) (l.take i)) (i:Int)))) (([],.int .i64 (coZ (fun x=>x.s==0) l)):Ret):=by
  intro d;induction d with
  | zero=>
   intro i hi;obtain rfl:i=l.length:=by omega
   refine .to (show Ib l _ (l.length:Nat)=_ from rfl) ?_;unfold Ib;rw[AQ,List.take_length];exact .ret _
  | succ d ih=>
   intro i hi;have hx:l[i]?=some l[i]:=Tt (by omega);have h1:=F2 (fun x:TsD=>x.s==0) (l.take i) l[i];have h2:=H1 (fun x:TsD=>x.s==0) (l.take i);have h3:(l.take i).length<=i:=by rw[TY];omega
   have e:l.take (i+1)=l.take i++[l[i]]:=by rw[List.take_add_one,hx];rfl
   rw[<-e] at h1;have:=ih (i+1) (by omega);rw[h1] at this;refine .to (show Ib l _ (i:Nat)=_ from rfl) ?_;unfold Ib;rw[AZ hx,Bj i (by omega)];cases hq:l[i].s==0 with
   | true=>rw[Ag rfl,CW (by omega) (by omega)];simp only[hq] at this;exact this
   | false=>rw[Ad rfl];simp only[hq] at this;simpa using this
 exact key l.length 0 (by omega)
def Lz(l:List TsD):Option (Empty⊕Ret):=br (!tvB l) (some (.inr ([],AV.tup [iV 0,iV 20]))) (gu (l.length<=1000000) <|some (.inr ([],AV.tup [iV (tcZ l),iV 0])))
theorem aQd_ct(l:List TsD)(r:Ret)(h:Ac emT (Lz l) r):CT Uu 70 ([]) ([.lst (l.map tsA)]) r.1 r.2:=
 CT.mach (fn:=Tryz.f70) (c:=zB Tryz.f70) (S:=emS) (hd:=emH) Tryz.func70 (by kernel_rfl) (nL rfl)
  (fun s o ho=>match s,ho with
   | x,_=>x.elim)
  (fun o ho=>Scr.ok (X:=Lz l) ho mix (
 have c0:=avl_c (l);
 .rn 1 [] [] [(5,hK c0 [] [])] [] (aj t3 (al (u2 (aj (k2 (al (c0))) s2)))) <|
 .br (fun a0=>
 .rt [13] [] [] [] [] [] (aj (aj a0 (al t3)) (al t3)))
 (fun a0=>
 .gu fun a1=>
 have c1:=OA l a1;
 .rt [12] [] [(8,hK c1 [] [])] [] [] [] (aj (aj a0 (al (u2 (aj (k2 (al (c1))) (u2 t2))))) (al t3)))) (by kernel_rfl)) h
def DH(l:List TsD)(q p d:Int):Option (Empty⊕Ret):=br (!tvB l) (some (.inr ([],AV.tup [AV.nils,iV 0,iV 20]))) (br (decide (q<1)) (some (.inr ([],AV.tup [AV.nils,iV 0,iV 19]))) (br (decide (8<q)) (some (.inr ([],AV.tup [AV.nils,iV 0,iV 19]))) (gu (l.length<=1000000) <|br (decide (q<=tcZ l)) (some (.inr ([],AV.tup [AV.nils,iV 0,iV 23]))) (br (iN (Un tsA l).length==32) (some (.inr ([],AV.tup [AV.nils,iV 0,iV 23]))) (gu (l.length<=1000) <|gu ((Un tsA l).length+[AV.agg [iV p,iV d,iV 0,iV (-1),iV 0]].length<=9223372036854775807) <|gu (((Un tsA l).length+[AV.agg [iV p,iV d,iV 0,iV (-1),iV 0]].length) * 40<=140737488355328) <|some (.inr ([some (bK (Un tsA l++[AV.agg [iV p,iV d,iV 0,iV (-1),iV 0]]) 5)],AV.tup [AV.sl 0 0 ((Un tsA l).length+[AV.agg [iV p,iV d,iV 0,iV (-1),iV 0]].length),iV (iN (Un tsA l).length),iV 0])))))))
theorem PT(l:List TsD)(q p d:Int)(r:Ret)(h:Ac emT (DH l q p d) r):CT Uu 78 ([]) ([.lst (l.map tsA),.int .i64 q,.int .i64 p,.int .i64 d]) r.1 r.2:=
 CT.mach (fn:=Tryz.f78) (c:=zB Tryz.f78) (S:=emS) (hd:=emH) Tryz.func78 (by kernel_rfl) (nL rfl)
  (fun s o ho=>match s,ho with
   | x,_=>x.elim)
  (fun o ho=>Scr.ok (X:=DH l q p d) ho mix (
 have c0:=avl_c (l);
 .rn 1 [] [] [(13,hK c0 [] [])] [] (aj t4 (al (u2 (aj (k2 (al (c0))) (u2 s2))))) <|
 .br (fun a0=>
 .rt [23] [] [] [] [] [] (aj (aj a0 (al t4)) (al t4)))
 (fun a0=>
 .br (fun a1=>
  .rt [22,37] [] [] [] [] [] (aj (aj a0 (aj (u2 (u2 (u2 (aj a1 (aj a1 (ag a1 s2)))))) (ak (al t4)))) (al t4)))
 (fun a1=>
  .rn 0 [22,36] [] [] [] (aj a0 (al (u2 (u2 (u2 (ag a1 (ag a1 (ag a1 s2)))))))) <|
  .br (fun a2=>
  .rt [36,31] [] [] [] [] [] (aj (aj a2 (al t4)) (al t4)))
  (fun a2=>
  .gu fun a3=>
  .br (fun a4=>
   have c1:=OA l a3;
   .rt [36,30,55] [] [(24,hK c1 [] [])] [] [] [] (aj (aj a2 (aj (u2 (aj (k2 (al (c1))) (u2 (aj t3 (u2 (aj a4 (aj a4 (aj a4 (ag a4 s2))))))))) (ak (al t4)))) (al t4)))
  (fun a4=>
   have c1:=OA l a3;
   .rn 0 [36,30,54] [] [(24,hK c1 [] [])] [] (aj a2 (al (u2 (aj (k2 (al (c1))) (u2 (aj t3 (u2 (ag a4 (ag a4 (ag a4 (ag a4 s2))))))))))) <|
   .br (fun a5=>
   .rt [36,54,45] [] [] [] [] [] (aj (aj a5 (al t4)) (al t4)))
   (fun a5=>
   .gu fun a6=>
   .gu fun a7=>
   .gu fun a8=>
   have c2:=c74_c l a6;
   .rt [36,54,44] [] [(33,hK c2 [] [])] [] [2] [] (aj (aj a5 (al (u2 (aj (k2 (al (c2))) (u2 (u2 (aj t3 (u2 (aj (k2 (aj (show(Un tsA l).length=l.length by simp) (aj (aj (show nat_lit 5=nat_lit 5 from rfl) (show 1<=[AV.agg [iv p,iv d,iv 0,iv (-1),iv 0]].length by simp)) (aj a7 a8)))) (u2 (u2 (u2 (u2 t2))))))))))))) (aj t4 t2)))))))) (by kernel_rfl)) h
inductive G8 where | l0 (v0:Int)
def ifsSt(l:List Au)(w:ByteArray):G8->St | .l0 v0=>St.mk 19 [(0,Ut (Un sA l)),(1,AV.fn 127 [AV.ptr 0 0 0]),(7,iv (iN (Un sA l).length)),(8,iv v0)] [some (bK [AV.str w] 1)]
def ifsEn(l:List Au)(w:ByteArray):Option (G8⊕Ret):=some (.inl (.l0 ((0:Int))))
def Gl(l:List Au)(w:ByteArray)(v0:Int):Option (G8⊕Ret):=br (decide (v0<iN (Un sA l).length)) (gu (0<=v0) <|el l (v0.toNat) fun(x14:Au)=>br (x14.nm.toList==w.toList) (some (.inr ([some (bK [.str w] 1)],iV v0))) (some (.inl (.l0 (i64.wrap (v0+1)))))) (some (.inr ([some (bK [.str w] 1)],iV (-1))))
def Qo(l:List Au)(w:ByteArray):G8->Option (G8⊕Ret) | .l0 v0=>Gl l w v0
theorem ifs_ct(l:List Au)(w:ByteArray)(r:Ret)(h:Ac (Qo l w) (ifsEn l w) r):CT Uu 126 ([some (bK [.str w] 1)]) ([.lst (l.map sA),.fn 127 [.ptr 0 0 0]]) r.1 r.2:=
 CT.mach (fn:=Tryz.f126) (c:=zB Tryz.f126) (S:=(ifsSt l w)) (hd:=G8.ctorIdx) Tryz.func126 (by kernel_rfl) (nL rfl)
  (fun s o ho=>match s,ho with
 | .l0 v0,ho=>Scr.ok (X:=Gl l w v0) ho mix (
 .rn 0 [] [] [] [] (al (al t3)) <|
 .br (fun a0=>
 .rn 0 [19] [] [] [] (aj a0 (al (u2 s2))) <|
 .gu fun a1=>
 .el fun x14 a2=>
 have c0:=sp1_c (x14.nm) (x14.dep) (x14.i) (x14.o) (x14.k) (x14.b) (w);
 .rn 0 [] [(14,sA x14)] [(16,hK c0 [0] [])] [] (al (u2 (u2 (u2 (aj (k2 (aj a1 (Af (f:=sA) a2))) (u2 (al (k2 (aj t7 (k2 (al (c0)))))))))))) <|
 .br (fun a3=>
  .rt [33] [] [] [] [0] [] (aj (aj a3 (al (u2 s2))) t3))
 (fun a3=>
  .lp [32] [] [] [] [] [0] [0,1,7,8] (aj (aj a3 (al (u2 s2))) (ak (u2 t4)))))
 (fun a0=>
 .rt [18] [] [] [] [0] [] (aj (aj a0 s2) t3))) (by kernel_rfl)
  )
  (fun o ho=>Scr.ok (X:=ifsEn l w) ho mix (
 .lp [] [] [] [] [] [0] [0,1,7,8] (aj (u2 (al (u2 (u2 t2)))) (ak (u2 t4)))) (by kernel_rfl)) h
inductive Hz where | l0 (v0:Int)
def ifbSt(l:List AA)(w:ByteArray):Hz->St | .l0 v0=>St.mk 19 [(0,Ut (Un bA l)),(1,AV.fn 131 [AV.ptr 0 0 0]),(7,iv (iN (Un bA l).length)),(8,iv v0)] [some (bK [AV.str w] 1)]
def ifbEn(l:List AA)(w:ByteArray):Option (Hz⊕Ret):=some (.inl (.l0 ((0:Int))))
def G7(l:List AA)(w:ByteArray)(v0:Int):Option (Hz⊕Ret):=br (decide (v0<iN (Un bA l).length)) (gu (0<=v0) <|el l (v0.toNat) fun(x14:AA)=>br (x14.nm.toList==w.toList) (some (.inr ([some (bK [.str w] 1)],iV v0))) (some (.inl (.l0 (i64.wrap (v0+1)))))) (some (.inr ([some (bK [.str w] 1)],iV (-1))))
def Pp(l:List AA)(w:ByteArray):Hz->Option (Hz⊕Ret) | .l0 v0=>G7 l w v0
theorem ifb_ct(l:List AA)(w:ByteArray)(r:Ret)(h:Ac (Pp l w) (ifbEn l w) r):CT Uu 130 ([some (bK [.str w] 1)]) ([.lst (l.map bA),.fn 131 [.ptr 0 0 0]]) r.1 r.2:=
 CT.mach (fn:=Tryz.f130) (c:=zB Tryz.f130) (S:=(ifbSt l w)) (hd:=Hz.ctorIdx) Tryz.func130 (by kernel_rfl) (nL rfl)
  (fun s o ho=>match s,ho with
 | .l0 v0,ho=>Scr.ok (X:=G7 l w v0) ho mix (
 .rn 0 [] [] [] [] (al (al t3)) <|
 .br (fun a0=>
 .rn 0 [19] [] [] [] (aj a0 (al (u2 s2))) <|
 .gu fun a1=>
 .el fun x14 a2=>
 have c0:=bl1_c (x14.nm) (x14.x) (x14.y) (w);
 .rn 0 [] [(14,bA x14)] [(16,hK c0 [0] [])] [] (al (u2 (u2 (u2 (aj (k2 (aj a1 (Af (f:=bA) a2))) (u2 (al (k2 (aj t4 (k2 (al (c0)))))))))))) <|
 .br (fun a3=>
  .rt [33] [] [] [] [0] [] (aj (aj a3 (al (u2 s2))) t3))
 (fun a3=>
  .lp [32] [] [] [] [] [0] [0,1,7,8] (aj (aj a3 (al (u2 s2))) (ak (u2 t4)))))
 (fun a0=>
 .rt [18] [] [] [] [0] [] (aj (aj a0 s2) t3))) (by kernel_rfl)
  )
  (fun o ho=>Scr.ok (X:=ifbEn l w) ho mix (
 .lp [] [] [] [] [] [0] [0,1,7,8] (aj (u2 (al (u2 (u2 t2)))) (ak (u2 t4)))) (by kernel_rfl)) h
@[irreducible] def aqZ(l:List TsD):Int:=match tvB l with | true=>tcZ l | false=>0
@[irreducible] def aqE(l:List TsD):Int:=match tvB l with | true=>0 | false=>20
theorem P2{l:List TsD}(h:tvB l=true):l.length<=32:=by
 unfold tvB at h;cases hd:decide (32<l.length) with
 | true=>rw[hd] at h;cases h
 | false=>have:=of_decide_eq_false hd;omega
theorem aQd_c(l:List TsD):CT Uu 70 [] [.lst (l.map tsA)] [] (.tup [.int .i64 (aqZ l),.int .i64 (aqE l)]):=by
 refine aQd_ct l ([],_) (.val ?_);unfold Lz aqZ aqE;cases h:tvB l with
 | true=>rw[Ad (by rfl),Ab (by have:=P2 h;omega)]
 | false=>rfl
theorem ifs_c(l:List Au)(w:ByteArray)(hl:l.length<=1000):CT Uu 126 [some (Blk.mk [.str w] 1 true true none)] [.lst (l.map sA),.fn 127 [.ptr 0 0 0]] [some (Blk.mk [.str w] 1 true true none)] (.int .i64 (fiZ (fun b:Au=>b.nm.toList==w.toList) l 0)):=by
 refine ifs_ct l w ([_],_) ?_;have key:∀(d i:Nat),i+d=l.length->Ac (Qo l w) (some (.inl (.l0 (i:Nat)))) (([some (Blk.mk [.str w] 1 true true none)],.int .i64 (fiZ (fun b:Au=>b.nm.toList==w.toList) (l.drop i) i)):Ret):=by
  intro d;induction d with
  | zero=>
   intro i hi;obtain rfl:i=l.length:=by omega
   refine .to (show Gl l w (l.length:Nat)=_ from rfl) ?_;unfold Gl;rw[AQ,List.drop_length];exact .ret _
  | succ d ih=>
   intro i hi;have hx:l[i]?=some l[i]:=Tt (by omega);refine .to (show Gl l w (i:Nat)=_ from rfl) ?_;unfold Gl;rw[AZ hx,Ug (by omega)];unfold fiZ;cases hp:l[i].nm.toList==w.toList with
   | true=>exact .ret _
   | false=>
    rw[Ad rfl,Bj i (by omega)];have:=ih (i+1) (by omega);rw[show (((i+1:Nat):Int))=(i:Int)+1 by omega] at this ⊢
    exact this
 exact key l.length 0 (by omega)
theorem ifb_c(l:List AA)(w:ByteArray)(hl:l.length<=1000):CT Uu 130 [some (Blk.mk [.str w] 1 true true none)] [.lst (l.map bA),.fn 131 [.ptr 0 0 0]] [some (Blk.mk [.str w] 1 true true none)] (.int .i64 (fiZ (fun b:AA=>b.nm.toList==w.toList) l 0)):=by
 refine ifb_ct l w ([_],_) ?_;have key:∀(d i:Nat),i+d=l.length->Ac (Pp l w) (some (.inl (.l0 (i:Nat)))) (([some (Blk.mk [.str w] 1 true true none)],.int .i64 (fiZ (fun b:AA=>b.nm.toList==w.toList) (l.drop i) i)):Ret):=by
  intro d;induction d with
  | zero=>
   intro i hi;obtain rfl:i=l.length:=by omega
   refine .to (show G7 l w (l.length:Nat)=_ from rfl) ?_;unfold G7;rw[AQ,List.drop_length];exact .ret _
  | succ d ih=>
   intro i hi;have hx:l[i]?=some l[i]:=Tt (by omega);refine .to (show G7 l w (i:Nat)=_ from rfl) ?_;unfold G7;rw[AZ hx,Ug (by omega)];unfold fiZ;cases hp:l[i].nm.toList==w.toList with
   | true=>exact .ret _
   | false=>
    rw[Ad rfl,Bj i (by omega)];have:=ih (i+1) (by omega);rw[show (((i+1:Nat):Int))=(i:Int)+1 by omega] at this ⊢
    exact this
 exact key l.length 0 (by omega)
theorem CT.ren{f:FuncId}{hin hout:List (Option Blk)}{args:List AV}{res:AV}{st1:St}(h:CT Uu f hin args hout res)(hr:Ren hin.length ⟨1,[(0,res)],hout⟩ st1):CT Uu f hin args st1.hp (AX.Av st1.fr 0):=by
 intro φ A w vs hA hh ho hl hv;refine(h φ A w vs hA hh ho hl hv).mono fun e w' ⟨v,φ',he,C⟩=>?_
 have hrel:Rel A w.heap.size hin.length φ' ⟨1,[(0,res)],hout⟩ {tmps:=#[v],defers:=[]} w':=by
  refine⟨rfl,rfl,fun s=>?_,C.heap,C.out,C.keep.size,C.own⟩;cases s with
  | zero=>exact C.val
  | succ s=>exact .imm _ _ (.unk _)
 obtain⟨φ2,r2,hm,tr⟩:=hr A w.heap.size φ' _ w' C.len hrel;refine⟨v,φ2,he,⟨fun b hb=>(tr.par b hb).trans (C.par b hb),C.keep,fun r hr2=>?_,r2.heap,r2.slot 0,r2.out,hm,r2.own⟩⟩;rcases tr.mutd r hr2 with h1 | h1
 .exact C.mutd r h1
 .exact .inr (Ud C.keep.size h1)
def aaB(tk:List TsD)(q:Int):Bool:=tvB tk&&decide (1<=q)&&decide (q<=8)&&decide (tcZ tk<q)&&decide (tk.length<32)
@[irreducible] def aaL(tk:List TsD)(q p d:Int):List TsD:=match aaB tk q with | true=>tk++[⟨p,d,0,-1,0⟩] | false=>[]
@[irreducible] def aaN(tk:List TsD)(q:Int):Int:=match aaB tk q with | true=>(tk.length:Int) | false=>0
@[irreducible] def aaE(tk:List TsD)(q:Int):Int:=match tvB tk with | false=>20 | true=>match decide (q<1)||decide (8<q) with | true=>19 | false=>match aaB tk q with | true=>0 | false=>23
theorem JC{tk:List TsD}{q p d e:Int}(h:Ac emT (DH tk q p d) (([],.tup [.nils,.int .i64 0,.int .i64 e]):Ret)):CT Uu 78 [] [.lst (tk.map tsA),.int .i64 q,.int .i64 p,.int .i64 d] [some (Blk.mk [] 5 true true none)] (.tup [.sl 0 0 0,.int .i64 0,.int .i64 e]):=by
 refine CT.ren (st1:=⟨1,[(0,.tup [.sl 0 0 0,.int .i64 0,.int .i64 e])],[some (Blk.mk [] 5 true true none)]⟩) (PT tk q p d _ h) (Ren.less rfl (TF _) (fun s=>?_) (fun b blk hb=>?_))
 .cases s with
  | zero=>
   refine⟨fun h=>Bool.noConfusion (show false=true from h),fun φ A w v hv=>?_⟩;obtain⟨vs,rfl,hn,hh⟩:=VR.tup_inv (show VR φ A w (.tup [.nils,.int .i64 0,.int .i64 e]) v from hv);refine .tup _ _ (by simpa using hn) fun i c u hc hu=>?_
   match i,hc with
   | 0,hc=>cases hc;rw[(hh 0 _ u rfl hu).nils_inv];exact .slnil 0 0 none
   | 1,hc=>cases hc;exact hh 1 _ u rfl hu
   | 2,hc=>cases hc;exact hh 2 _ u rfl hu
   | j+3,hc=>cases hc
  | succ s=>exact .refl _
 .cases b with
  | zero=>simp[nth] at hb;subst hb;exact .inr ⟨TE _,rfl,rfl,rfl,rfl⟩
  | succ b=>simp[nth] at hb
theorem aAd_c(tk:List TsD)(q p d:Int):CT Uu 78 [] [.lst (tk.map tsA),.int .i64 q,.int .i64 p,.int .i64 d] [some (Blk.mk ((aaL tk q p d).map tsA) 5 true true none)] (.tup [.sl 0 0 (aaL tk q p d).length,.int .i64 (aaN tk q),.int .i64 (aaE tk q)]):=by
 cases hv:tvB tk with
 | false=>
  have hb:aaB tk q=false:=by unfold aaB;rw[hv];rfl
  have:=JC (tk:=tk) (q:=q) (p:=p) (d:=d) (e:=20) (.val (by unfold DH;rw[hv];rfl));unfold aaL aaN aaE;rw[hb,hv];exact this
 | true=>
  have hl:=P2 hv;by_cases h1:q<1
  .have hb:aaB tk q=false:=by unfold aaB;rw[hv,Ty (show ¬1<=q by omega)];rfl
   have:=JC (tk:=tk) (q:=q) (p:=p) (d:=d) (e:=19) (.val (by unfold DH;rw[hv,Tz h1];rfl));unfold aaL aaN aaE;rw[hb,hv,Tz h1];exact this
  by_cases h2:8<q
  .have hb:aaB tk q=false:=by unfold aaB;rw[hv,Ty (show ¬q<=8 by omega),Bool.and_false];rfl
   have:=JC (tk:=tk) (q:=q) (p:=p) (d:=d) (e:=19) (.val (by unfold DH;rw[hv,Ty h1,Tz h2];rfl));unfold aaL aaN aaE;rw[hb,hv,Ty h1,Tz h2];exact this
  by_cases h3:q<=tcZ tk
  .have hb:aaB tk q=false:=by unfold aaB;rw[Ty (show ¬tcZ tk<q by omega),Bool.and_false];rfl
   have:=JC (tk:=tk) (q:=q) (p:=p) (d:=d) (e:=23) (.val (by unfold DH;rw[hv,Ty h1,Ty h2];show gu _ _=_;rw[Ab (by omega),Ag (Tz h3)]));unfold aaL aaN aaE;rw[hb,hv,Ty h1,Ty h2];exact this
  by_cases h4:tk.length=32
  .have hb:aaB tk q=false:=by unfold aaB;rw[Ty (show ¬tk.length<32 by omega),Bool.and_false]
   have:=JC (tk:=tk) (q:=q) (p:=p) (d:=d) (e:=23) (.val (by unfold DH;rw[hv,Ty h1,Ty h2];show gu _ _=_;rw[Ab (by omega),Ad (Ty h3),Ag (by simp[iN,h4])]));unfold aaL aaN aaE;rw[hb,hv,Ty h1,Ty h2];exact this
  .have hb:aaB tk q=true:=by unfold aaB;rw[hv,Tz (show 1<=q by omega),Tz (show q<=8 by omega),Tz (show tcZ tk<q by omega),Tz (show tk.length<32 by omega)];rfl
   unfold aaL aaN aaE;rw[hb,hv,Ty h1,Ty h2];refine PT tk q p d ([_],_) (.val ?_);unfold DH;rw[hv,Ty h1,Ty h2];show gu _ _=_;rw[Ab (by omega),Ad (Ty h3),Ad (by simp only[iN,Tw,T6];omega),Ab (by omega),Ab (by simp only[Tw,T9];omega),Ab (by simp only[Tw,T9];omega)];simp only[TG,TQ,Tw,iN];rfl
def OW(n:Aa)(cl:List Bool)(bw pe:List Int)(tk:List TsD)(us:List UsD)(n1 n2:Nat)(w:ByteArray):Option (Empty⊕Ret):=gu (n.ss.length<=1000) <|some (.inr (bkR n cl bw pe tk us n1 n2,iV (fiZ (fun b=>b.nm.toList==w.toList) n.ss 0)))
theorem bsp_ct(n:Aa)(cl:List Bool)(bw pe:List Int)(tk:List TsD)(us:List UsD)(n1 n2:Nat)(w:ByteArray)(r:Ret)(h:Ac emT (OW n cl bw pe tk us n1 n2 w) r):CT Uu 75 (bkR n cl bw pe tk us n1 n2) ([.ptr 0 0 0,.str w]) r.1 r.2:=
 CT.mach (fn:=Tryz.f75) (c:=zB Tryz.f75) (S:=emS) (hd:=emH) Tryz.func75 (by kernel_rfl) (nL rfl)
  (fun s o ho=>match s,ho with
   | x,_=>x.elim)
  (fun o ho=>Scr.ok (X:=OW n cl bw pe tk us n1 n2 w) ho mix (
 .rn 0 [] [] [] [] (al (u2 t2)) <|
 .gu fun a0=>
 have c0:=ifs_c (n.ss) w a0;
 .rt [] [] [(11,hK c0 [3] [])] [] [0,1,2] [] (aj (al (u2 (u2 (u2 (u2 (u2 (u2 (aj (k3 (u2 (ak (al (c0))))) s2)))))))) (ak (aj (al (k5 t9)) t3)))) (by kernel_rfl)) h
def Ow(n:Aa)(cl:List Bool)(bw pe:List Int)(tk:List TsD)(us:List UsD)(n1 n2:Nat)(w:ByteArray):Option (Empty⊕Ret):=gu (n.bs.length<=1000) <|some (.inr (bkR n cl bw pe tk us n1 n2,iV (fiZ (fun b=>b.nm.toList==w.toList) n.bs 0)))
theorem bbl_ct(n:Aa)(cl:List Bool)(bw pe:List Int)(tk:List TsD)(us:List UsD)(n1 n2:Nat)(w:ByteArray)(r:Ret)(h:Ac emT (Ow n cl bw pe tk us n1 n2 w) r):CT Uu 81 (bkR n cl bw pe tk us n1 n2) ([.ptr 0 0 0,.str w]) r.1 r.2:=
 CT.mach (fn:=Tryz.f81) (c:=zB Tryz.f81) (S:=emS) (hd:=emH) Tryz.func81 (by kernel_rfl) (nL rfl)
  (fun s o ho=>match s,ho with
   | x,_=>x.elim)
  (fun o ho=>Scr.ok (X:=Ow n cl bw pe tk us n1 n2 w) ho mix (
 .rn 0 [] [] [] [] (al (u2 t2)) <|
 .gu fun a0=>
 have c0:=ifb_c (n.bs) w a0;
 .rt [] [] [(11,hK c0 [3] [])] [] [0,1,2] [] (aj (al (u2 (u2 (u2 (u2 (u2 (u2 (aj (k3 (u2 (ak (al (c0))))) s2)))))))) (ak (aj (al (k5 t9)) t3)))) (by kernel_rfl)) h
def Na(n:Aa)(cl:List Bool)(bw pe:List Int)(tk:List TsD)(us:List UsD)(n1 n2:Nat):Option (Empty⊕Ret):=gu (RwV n) <|some (.inr (bkR n cl bw pe tk us n1 n2,Ut (boL (shO n (Ak.mk cl bw pe)))))
theorem bsh_ct(n:Aa)(cl:List Bool)(bw pe:List Int)(tk:List TsD)(us:List UsD)(n1 n2:Nat)(r:Ret)(h:Ac emT (Na n cl bw pe tk us n1 n2) r):CT Uu 77 (bkR n cl bw pe tk us n1 n2) ([.ptr 0 0 0]) r.1 r.2:=
 CT.mach (fn:=Tryz.f77) (c:=zB Tryz.f77) (S:=emS) (hd:=emH) Tryz.func77 (by kernel_rfl) (nL rfl)
  (fun s o ho=>match s,ho with
   | x,_=>x.elim)
  (fun o ho=>Scr.ok (X:=Na n cl bw pe tk us n1 n2) ho mix (
 .rn 0 [] [] [] [] s2 <|
 .gu fun a0=>
 have c0:=ssh_c (cl) (bw) (pe) a0;
 .rt [] [] [(15,hK c0 [] [])] [] [0,1,2] [] (aj (aj (u2 (u2 (u2 (u2 (u2 (u2 (u2 (u2 (u2 (aj (k2 (aj t9 (aj t4 (al (c0))))) (u2 (u2 (u2 (u2 s2)))))))))))))) (al (u2 s2))) (ak (aj (al (k5 t9)) t3)))) (by kernel_rfl)) h
def OM(n:Aa)(cl:List Bool)(bw pe:List Int)(tk:List TsD)(us:List UsD)(n1 n2:Nat)(w:Int):Option (Empty⊕Ret):=br (decide (0<=w)) (some (.inr (bkR n cl bw pe tk us n1 n2,bV (decide (w<iN n1))))) (some (.inr (bkR n cl bw pe tk us n1 n2,bV false)))
theorem bit_ct(n:Aa)(cl:List Bool)(bw pe:List Int)(tk:List TsD)(us:List UsD)(n1 n2:Nat)(w:Int)(r:Ret)(h:Ac emT (OM n cl bw pe tk us n1 n2 w) r):CT Uu 80 (bkR n cl bw pe tk us n1 n2) ([.ptr 0 0 0,.int .i64 w]) r.1 r.2:=
 CT.mach (fn:=Tryz.f80) (c:=zB Tryz.f80) (S:=emS) (hd:=emH) Tryz.func80 (by kernel_rfl) (nL rfl)
  (fun s o ho=>match s,ho with
   | x,_=>x.elim)
  (fun o ho=>Scr.ok (X:=OM n cl bw pe tk us n1 n2 w) ho mix (
 .rn 0 [] [] [] [] s2 <|
 .br (fun a0=>
 .rt [15] [] [] [] [0,1,2] [] (aj (al (u2 (u2 (u2 (ag a0 (ag a0 (ag a0 (ag a0 (ag a0 (ag a0 (ag a0 (aj (aj a0 t3) (ag a0 s2))))))))))))) (ak (aj (al (k5 t9)) t3))))
 (fun a0=>
 .rt [14] [] [] [] [0,1,2] [] (aj (al (u2 (u2 (u2 (aj a0 (aj a0 (aj a0 (aj a0 (aj a0 (aj a0 (aj a0 (aj a0 (ag a0 s2))))))))))))) (ak (aj (al (k5 t9)) t3))))) (by kernel_rfl)) h
inductive Fw where | l0 (v0 v1:Int)
def bc1St(n:Aa)(cl:List Bool)(bw pe:List Int)(tk:List TsD)(us:List UsD)(n1 n2:Nat):Fw->St | .l0 v0 v1=>St.mk 25 [(1,AV.fn 88 []),(5,iv v0),(12,AV.sl 2 0 n2),(13,iv (iN n2)),(14,iv v1)] [some (Blk.mk [AV.agg [Ut (Un bA n.bs),Ut (gL n.nx),Ut (Un sA n.ss),Ut (Un iv n.rs),iv n.q,iv n.a,iv n.d,iv n.p,Ut (boL cl),Ut (Un iv bw),Ut (Un iv pe),AV.sl 1 0 n1,AV.sl 2 0 n2]] 13 false false none),some (Blk.mk (Un tsA tk) 5 true false none),some (Blk.mk (Un usA us) 13 true false none)]
def bc1En(n:Aa)(cl:List Bool)(bw pe:List Int)(tk:List TsD)(us:List UsD)(n1 n2:Nat):Option (Fw⊕Ret):=some (.inl (.l0 ((0:Int)) ((0:Int))))
def Hs(n:Aa)(cl:List Bool)(bw pe:List Int)(tk:List TsD)(us:List UsD)(n1 n2:Nat)(v0 v1:Int):Option (Fw⊕Ret):=br (decide (v1<iN n2)) (gu (0<=v1) <|gu (v1<iN n2) <|el (us) (0+v1.toNat) fun(x17:UsD)=>br (x17.s != 3) (some (.inl (.l0 (i64.wrap (v0+1)) (i64.wrap (v1+1))))) (some (.inl (.l0 v0 (i64.wrap (v1+1)))))) (some (.inr (bkR n cl bw pe tk us n1 n2,iV v0)))
def bc1Step(n:Aa)(cl:List Bool)(bw pe:List Int)(tk:List TsD)(us:List UsD)(n1 n2:Nat):Fw->Option (Fw⊕Ret) | .l0 v0 v1=>Hs n cl bw pe tk us n1 n2 v0 v1
theorem bc1_ct(n:Aa)(cl:List Bool)(bw pe:List Int)(tk:List TsD)(us:List UsD)(n1 n2:Nat)(r:Ret)(h:Ac (bc1Step n cl bw pe tk us n1 n2) (bc1En n cl bw pe tk us n1 n2) r):CT Uu 83 (bkR n cl bw pe tk us n1 n2) ([.ptr 0 0 0,.fn 88 []]) r.1 r.2:=
 CT.mach (fn:=Tryz.f83) (c:=zB Tryz.f83) (S:=(bc1St n cl bw pe tk us n1 n2)) (hd:=Fw.ctorIdx) Tryz.func83 (by kernel_rfl) (nL rfl)
  (fun s o ho=>match s,ho with
 | .l0 v0 v1,ho=>Scr.ok (X:=Hs n cl bw pe tk us n1 n2 v0 v1) ho mix (
 .rn 0 [] [] [] [] (al (al t3)) <|
 .br (fun a0=>
 .gu fun a1=>
 .gu fun a2=>
 .el fun x17 a3=>
 have c0:=prs_c (x17.s) (x17.lv) (x17.hm);
 .rn 1 [31] [(17,usA x17)] [(20,hK c0 [] [])] [] (aj a0 (aj (aj (k2 (aj a1 a2)) (aj (ak (Af (f:=usA) a3)) (ak (al (k2 n11))))) (al (u2 (u2 (al (k2 (aj (k5 t9) (al (c0)))))))))) <|
 .br (fun a4=>
  .lp [41] [] [] [] [] [0,1,2] [1,5,12,13,14] (aj (aj a4 (aj (u2 (u2 s2)) (al (u2 s2)))) (k5 (aj (al (k5 t9)) t3))))
 (fun a4=>
  .lp [40] [] [] [] [] [0,1,2] [1,5,12,13,14] (aj (aj a4 (al (u2 s2))) (k5 (aj (al (k5 t9)) t3)))))
 (fun a0=>
 .rt [30] [] [] [] [0,1,2] [] (aj (aj a0 (al (u2 s2))) (ak (aj (al (k5 t9)) t3))))) (by kernel_rfl)
  )
  (fun o ho=>Scr.ok (X:=bc1En n cl bw pe tk us n1 n2) ho mix (
 .lp [] [] [] [] [] [0,1,2] [1,5,12,13,14] (aj (u2 (u2 (al (u2 (u2 (u2 (u2 (u2 (u2 t2))))))))) (k5 (aj (al (k5 t9)) t3)))) (by kernel_rfl)) h
inductive E2 where | l0 (v0 v1:Int)
def bc2St(n:Aa)(cl:List Bool)(bw pe:List Int)(tk:List TsD)(us:List UsD)(n1 n2:Nat):E2->St | .l0 v0 v1=>St.mk 25 [(1,AV.fn 84 []),(5,iv v0),(12,AV.sl 2 0 n2),(13,iv (iN n2)),(14,iv v1)] [some (Blk.mk [AV.agg [Ut (Un bA n.bs),Ut (gL n.nx),Ut (Un sA n.ss),Ut (Un iv n.rs),iv n.q,iv n.a,iv n.d,iv n.p,Ut (boL cl),Ut (Un iv bw),Ut (Un iv pe),AV.sl 1 0 n1,AV.sl 2 0 n2]] 13 false false none),some (Blk.mk (Un tsA tk) 5 true false none),some (Blk.mk (Un usA us) 13 true false none)]
def bc2En(n:Aa)(cl:List Bool)(bw pe:List Int)(tk:List TsD)(us:List UsD)(n1 n2:Nat):Option (E2⊕Ret):=some (.inl (.l0 ((0:Int)) ((0:Int))))
def Gu(n:Aa)(cl:List Bool)(bw pe:List Int)(tk:List TsD)(us:List UsD)(n1 n2:Nat)(v0 v1:Int):Option (E2⊕Ret):=br (decide (v1<iN n2)) (gu (0<=v1) <|gu (v1<iN n2) <|el (us) (0+v1.toNat) fun(x17:UsD)=>br (Bk x17.s) (some (.inl (.l0 (i64.wrap (v0+1)) (i64.wrap (v1+1))))) (some (.inl (.l0 v0 (i64.wrap (v1+1)))))) (some (.inr (bkR n cl bw pe tk us n1 n2,iV v0)))
def bc2Step(n:Aa)(cl:List Bool)(bw pe:List Int)(tk:List TsD)(us:List UsD)(n1 n2:Nat):E2->Option (E2⊕Ret) | .l0 v0 v1=>Gu n cl bw pe tk us n1 n2 v0 v1
theorem bc2_ct(n:Aa)(cl:List Bool)(bw pe:List Int)(tk:List TsD)(us:List UsD)(n1 n2:Nat)(r:Ret)(h:Ac (bc2Step n cl bw pe tk us n1 n2) (bc2En n cl bw pe tk us n1 n2) r):CT Uu 83 (bkR n cl bw pe tk us n1 n2) ([.ptr 0 0 0,.fn 84 []]) r.1 r.2:=
 CT.mach (fn:=Tryz.f83) (c:=zB Tryz.f83) (S:=(bc2St n cl bw pe tk us n1 n2)) (hd:=E2.ctorIdx) Tryz.func83 (by kernel_rfl) (nL rfl)
  (fun s o ho=>match s,ho with
 | .l0 v0 v1,ho=>Scr.ok (X:=Gu n cl bw pe tk us n1 n2 v0 v1) ho mix (
 .rn 0 [] [] [] [] (al (al t3)) <|
 .br (fun a0=>
 .gu fun a1=>
 .gu fun a2=>
 .el fun x17 a3=>
 have c0:=inf_c (x17.s) (x17.lv) (x17.hm);
 .rn 1 [31] [(17,usA x17)] [(20,hK c0 [] [])] [] (aj a0 (aj (aj (k2 (aj a1 a2)) (aj (ak (Af (f:=usA) a3)) (ak (al (k2 n11))))) (al (u2 (u2 (al (k2 (aj (k5 t9) (al (c0)))))))))) <|
 .br (fun a4=>
  .lp [41] [] [] [] [] [0,1,2] [1,5,12,13,14] (aj (aj a4 (aj (u2 (u2 s2)) (al (u2 s2)))) (k5 (aj (al (k5 t9)) t3))))
 (fun a4=>
  .lp [40] [] [] [] [] [0,1,2] [1,5,12,13,14] (aj (aj a4 (al (u2 s2))) (k5 (aj (al (k5 t9)) t3)))))
 (fun a0=>
 .rt [30] [] [] [] [0,1,2] [] (aj (aj a0 (al (u2 s2))) (ak (aj (al (k5 t9)) t3))))) (by kernel_rfl)
  )
  (fun o ho=>Scr.ok (X:=bc2En n cl bw pe tk us n1 n2) ho mix (
 .lp [] [] [] [] [] [0,1,2] [1,5,12,13,14] (aj (u2 (u2 (al (u2 (u2 (u2 (u2 (u2 (u2 t2))))))))) (k5 (aj (al (k5 t9)) t3)))) (by kernel_rfl)) h
theorem bsp_c(n:Aa)(cl:List Bool)(bw pe:List Int)(tk:List TsD)(us:List UsD)(n1 n2:Nat)(w:ByteArray)(h:n.ss.length<=1000):CT Uu 75 (bkR n cl bw pe tk us n1 n2) [.ptr 0 0 0,.str w] (bkR n cl bw pe tk us n1 n2) (.int .i64 (Aw n w)):=by unfold Aw;refine bsp_ct n cl bw pe tk us n1 n2 w (_,_) (.val ?_);unfold OW;rw[Ab h];rfl
theorem bbl_c(n:Aa)(cl:List Bool)(bw pe:List Int)(tk:List TsD)(us:List UsD)(n1 n2:Nat)(w:ByteArray)(h:n.bs.length<=1000):CT Uu 81 (bkR n cl bw pe tk us n1 n2) [.ptr 0 0 0,.str w] (bkR n cl bw pe tk us n1 n2) (.int .i64 (Ay n w)):=by unfold Ay;refine bbl_ct n cl bw pe tk us n1 n2 w (_,_) (.val ?_);unfold Ow;rw[Ab h];rfl
theorem bsh_c(n:Aa)(cl:List Bool)(bw pe:List Int)(tk:List TsD)(us:List UsD)(n1 n2:Nat)(h:RwV n):CT Uu 77 (bkR n cl bw pe tk us n1 n2) [.ptr 0 0 0] (bkR n cl bw pe tk us n1 n2) (.lst (boL (shO n ⟨cl,bw,pe⟩))):=by refine bsh_ct n cl bw pe tk us n1 n2 (_,_) (.val ?_);unfold Na;rw[Ab h];rfl
def EF(tk:List TsD)(w:Int):Bool:=decide (0<=w)&&decide (w<(tk.length:Int))
theorem bit_c(n:Aa)(cl:List Bool)(bw pe:List Int)(tk:List TsD)(us:List UsD)(n2:Nat)(w:Int):CT Uu 80 (bkR n cl bw pe tk us tk.length n2) [.ptr 0 0 0,.int .i64 w] (bkR n cl bw pe tk us tk.length n2) (.bool (EF tk w)):=by refine bit_ct n cl bw pe tk us tk.length n2 w (_,_) (.val ?_);unfold OM EF;cases decide (0<=w)<;>rfl
theorem CT.frzS{f:FuncId}{args es:List AV}{n:Nat}(h:CT Uu f [] args [some (Blk.mk es 1 true true none)] (.sl 0 0 n))(hn:n=es.length):CT Uu f [] args [] (.lst es):=CT.ren h (Ren.of (st':=⟨1,[(0,.lst es)],[]⟩) [] [0] [0] (p:=n=es.length/\True) rfl ⟨hn,trivial⟩ rfl rfl rfl)
theorem clb_i(l:List Bool)(hl:l.length<=1000000):CT Uu 45 [] [.lst (boL l)] [] (.lst (boL l)):=CT.frzS (On l hl) rfl
theorem cli_i(l:List Int)(hl:l.length<=1000000):CT Uu 73 [] [lI l] [] (lI l):=CT.frzS (OD l hl) (Tw ..).symm
theorem co_lp{α σ ρ:Type}{step:σ->Option (σ⊕ρ)}{p:α->Bool}{l:List α}{L:Int->Int->σ}{r:ρ}(hl:l.length<=1000000)
  (hs:∀(i:Nat) x v,l[i]?=some x->step (L v i)=br (p x) (some (.inl (L (i64.wrap (v+1)) (i64.wrap ((i:Int)+1))))) (some (.inl (L v (i64.wrap ((i:Int)+1))))))
  (he:Ac step (some (.inl (L (coZ p l) (l.length:Nat)))) r):Ac step (some (.inl (L 0 0))) r:=by
 have key:∀(d i:Nat),i+d=l.length->Ac step (some (.inl (L (coZ p (l.take i)) (i:Nat)))) r:=by
  intro d;induction d with
  | zero=>
   intro i hi;obtain rfl:i=l.length:=by omega
   rw[List.take_length];exact he
  | succ d ih=>
   intro i hi;have hx:l[i]?=some l[i]:=Tt (by omega);have h1:=F2 p (l.take i) l[i];have h2:=H1 p (l.take i);have h3:(l.take i).length<=i:=by rw[TY];omega
   have e:l.take (i+1)=l.take i++[l[i]]:=by rw[List.take_add_one,hx];rfl
   rw[<-e] at h1;have:=ih (i+1) (by omega);rw[h1] at this;refine .to (hs i _ _ hx) ?_;rw[Bj i (by omega)];cases hq:p l[i] with
   | true=>rw[Ag rfl,CW (by omega) (by omega)];simpa [hq] using this
   | false=>rw[Ad rfl];simpa [hq] using this
 exact key l.length 0 (by omega)
theorem PN{α σ ρ:Type}{step:σ->Option (σ⊕ρ)}{p:α->Bool}{l:List α}{L:Int->Int->σ}{r:Int->ρ}(hl:l.length<=1000000) (hs:∀(i:Nat) x v,l[i]?=some x->step (L v i)=br (p x) (some (.inl (L (i64.wrap (v+1)) (i64.wrap ((i:Int)+1))))) (some (.inl (L v (i64.wrap ((i:Int)+1)))))) (he:∀v,step (L v (l.length:Nat))=some (.inr (r v))):Ac step (some (.inl (L 0 0))) (r (coZ p l)):=co_lp hl hs (.to (he _) (.ret _))
theorem bc1_c(n:Aa)(cl:List Bool)(bw pe:List Int)(tk:List TsD)(us:List UsD)(n1 n2:Nat)(e:n2=us.length)(hl:us.length<=1000):CT Uu 83 (bkR n cl bw pe tk us n1 n2) [.ptr 0 0 0,.fn 88 []] (bkR n cl bw pe tk us n1 n2) (.int .i64 (cnP us)):=by
 subst e;rw[LW];refine bc1_ct n cl bw pe tk us n1 us.length (_,_) (PN (L:=fun v i=>Fw.l0 v i) (l:=us) (r:=fun v=>((bkR n cl bw pe tk us n1 us.length,AV.int .i64 v):Ret)) (p:=fun x:UsD=>x.s != 3) (by omega) (fun i x v hx=>?_) (fun v=>?_))
 .have hi:=(Tv.1 hx).1;show Hs n cl bw pe tk us n1 us.length v i=_;unfold Hs;rw[Ag (Tz (by simp only[iN];omega)),Ab (by omega),Ab (by simp only[iN];omega),TI,TC,Ar hx]
 .show Hs n cl bw pe tk us n1 us.length v us.length=_;unfold Hs;rw[Ad (Ty (by simp only[iN];omega))]
theorem bc2_c(n:Aa)(cl:List Bool)(bw pe:List Int)(tk:List TsD)(us:List UsD)(n1 n2:Nat)(e:n2=us.length)(hl:us.length<=1000):CT Uu 83 (bkR n cl bw pe tk us n1 n2) [.ptr 0 0 0,.fn 84 []] (bkR n cl bw pe tk us n1 n2) (.int .i64 (cnF us)):=by
 subst e;rw[NK];refine bc2_ct n cl bw pe tk us n1 us.length (_,_) (PN (L:=fun v i=>E2.l0 v i) (l:=us) (r:=fun v=>((bkR n cl bw pe tk us n1 us.length,AV.int .i64 v):Ret)) (p:=fun x:UsD=>Bk x.s) (by omega) (fun i x v hx=>?_) (fun v=>?_))
 .have hi:=(Tv.1 hx).1;show Gu n cl bw pe tk us n1 us.length v i=_;unfold Gu;rw[Ag (Tz (by simp only[iN];omega)),Ab (by omega),Ab (by simp only[iN];omega),TI,TC,Ar hx]
 .show Gu n cl bw pe tk us n1 us.length v us.length=_;unfold Gu;rw[Ad (Ty (by simp only[iN];omega))]
def Mz(n:Aa)(q:Ak)(c:Int):Option (Empty⊕Ret):=gu (RwV n) <|br (scE n q c != 0) (some (.inr ([],AV.tup [AV.agg [AV.nils,AV.nils,AV.nils],iV (scE n q c)]))) (br (decide (iN (Un bA n.bs).length<=c)) (some (.inr ([],AV.tup [AV.agg [AV.nils,AV.nils,AV.nils],iV 19]))) (gu (0<=c) <|el (q.cl) (c.toNat) fun(x29:Bool)=>br x29 (some (.inr ([],AV.tup [AV.agg [AV.nils,AV.nils,AV.nils],iV 24]))) (gu (q.pe.length<=9223372036854775807) <|br (AU q.pe c) (some (.inr ([],AV.tup [AV.agg [AV.nils,AV.nils,AV.nils],iV 24]))) (gu (q.cl.length<=1000000) <|gu (q.bw.length<=1000000) <|gu (q.pe.length<=1000000) <|gu ((Un iV q.pe).length+[iV c].length<=9223372036854775807) <|gu (((Un iV q.pe).length+[iV c].length) * 8<=140737488355328) <|some (.inr ([],AV.tup [AV.agg [Ut (boL q.cl),Ut (Un iV q.bw),Ut (Un iV q.pe++[iV c])],iV 0]))))))
theorem ann_ct(n:Aa)(q:Ak)(c:Int)(r:Ret)(h:Ac emT (Mz n q c) r):CT Uu 85 ([]) ([Aj n,sgA q,.int .i64 c]) r.1 r.2:=
 CT.mach (fn:=Tryz.f85) (c:=zB Tryz.f85) (S:=emS) (hd:=emH) Tryz.func85 (by kernel_rfl) (nL rfl)
  (fun s o ho=>match s,ho with
   | x,_=>x.elim)
  (fun o ho=>Scr.ok (X:=Mz n q c) ho mix (
 .rn 0 [] [] [] [] (al (u2 (u2 t3))) <|
 .gu fun a0=>
 have c0:=sch_c (q.cl) (q.bw) (q.pe) c a0;
 .rn 1 [] [] [(12,hK c0 [] [])] [] (aj (u2 (u2 (u2 (aj (k3 (aj t9 (aj t4 (ak (al (c0)))))) s2)))) (al (u2 (u2 s2)))) <|
 .br (fun a1=>
 .rt [27] [] [] [] [] [] (aj (aj a1 (al (ak (u2 (aj (k2 n11) s2))))) (al (aj t4 t2))))
 (fun a1=>
 .rn 0 [26] [] [] [] (aj a1 (al (u2 (u2 (u2 (u2 (aj t3 s2))))))) <|
 .br (fun a2=>
  .rt [37] [] [] [] [] [] (aj (aj a2 (al (ak (aj (k2 n11) t2)))) (al (aj t4 t2))))
 (fun a2=>
  .gu fun a3=>
  .el fun x29 a4=>
  .br (fun a5=>
  .rt [36,63] [(29,bV x29)] [] [] [] [] (aj (aj a2 (aj (u2 (u2 (u2 (aj (k2 (aj a3 (Af (f:=bV) a4))) (u2 (u2 (aj a5 (aj a5 (aj a5 (aj a5 (ag a5 s2))))))))))) (ak (al (ak (aj (k2 n11) t2)))))) (al (aj t4 t2))))
  (fun a5=>
  .gu fun a6=>
  have c1:=con_c (q.pe) c a6;
  .rn 0 [36,62] [(29,bV x29)] [(35,hK c1 [] [])] [] (aj a2 (al (u2 (u2 (u2 (aj (k2 (aj a3 (Af (f:=bV) a4))) (u2 (u2 (ag a5 (ag a5 (ag a5 (aj (aj a5 (ak (k3 (al (c1))))) (ag a5 s2))))))))))))) <|
  .br (fun a7=>
   .rt [62,51] [] [] [] [] [] (aj (aj a7 (al (ak (aj (k2 n11) t2)))) (al (aj t4 t2))))
  (fun a7=>
   .gu fun a8=>
   .gu fun a9=>
   .gu fun a10=>
   have c2:=cln_c (q.cl) (q.bw) (q.pe) a8 a9 a10;
   .rn 0 [62,50] [] [(39,hK c2 [] [])] [] (aj a7 (al (u2 (aj (ak (aj t4 (al (c2)))) (al (k2 (show Nat.le 1 [AV.agg [Ut (boL q.cl),Ut (Un iv q.bw),Ut (Un iv q.pe)]].length from(nL rfl)))))))) <|
   .gu fun a11=>
   .gu fun a12=>
   .rt [62] [] [] [] [] [3,4,7] (aj (aj (u2 (u2 (u2 (u2 (aj (k2 (aj (show(Un iv q.pe).length=q.pe.length by simp) (aj (aj (show nat_lit 1=nat_lit 1 from rfl) (show 1<=[iv c].length by simp)) (aj a11 a12)))) (u2 (al t3))))))) (al (u2 (aj (k2 n11) t2)))) (al (aj (aj (show(boL q.cl).length=(boL q.cl).length from rfl) (aj (show q.bw.length=(Un iv q.bw).length by simp) (al (show(Un iv q.pe).length+[iv c].length=(Un iv q.pe++[iv c]).length by simp)))) t2)))))))) (by kernel_rfl)) h
theorem scE_eq{n:Aa}{s:Ak}{c:Int}:scE n s c=0↔BB n s=true/\0<=c/\c<(s.cl.length:Int):=by
 unfold scE;cases BB n s with
 | false=>simp
 | true=>
  rw[Tq rfl];split
  .simp;omega
  .simp;omega
theorem ann_c{n:Aa}(cl:List Bool)(bw pe:List Int)(x:Int)(hrw:RwV n):CT Uu 85 [] [Aj n,sgA ⟨cl,bw,pe⟩,.int .i64 x] [] (.tup [sgA (anO n ⟨cl,bw,pe⟩ x),.int .i64 (anE n ⟨cl,bw,pe⟩ x)]):=by
 generalize hs:(⟨cl,bw,pe⟩:Ak)=s;have k:=ann_ct n s x;unfold Mz at k;rw[Ab hrw] at k;unfold anO;have hbad:anE n s x≠0->(.tup [sgA (if anE n s x=0 then anS s x else ⟨[],[],[]⟩),.int .i64 (anE n s x)]:AV)=wk2 (.tup [.agg [.nils,.nils,.nils],.int .i64 (anE n s x)]):=fun h=>by rw[Ts h];rfl
 by_cases h1:scE n s x=0
 case neg=>
  have e:anE n s x=scE n s x:=by
   unfold anE;unfold scE at h1 ⊢
   cases h:BB n s with
   | false=>rfl
   | true=>
    obtain⟨_,_,_,_,_,l4,_⟩:=L9 h;rw[h,Tq rfl] at h1;rw[Tq rfl,Tq rfl];split at h1
    .rename_i h2;rw[Ts (by omega),Tq h2]
    .exact absurd rfl h1
  rw[hbad (by rw[e];exact h1),e];exact CT.w2 (k ([],_) (.val (by rw[Ag (Ui.2 h1)])))
 obtain⟨h,h0,hl⟩:=scE_eq.1 h1;obtain⟨hv,hS,l1,l2,l3,l4,l5⟩:=L9 h;rw[h1,Ad (by rfl)] at k;have hsl:=Pt hv hS x.toNat;rw[TX h0] at hsl;by_cases h2:(n.bs.length:Int)<=x
 .have e:anE n s x=19:=by unfold anE;rw[Tq h,Ts (by omega)]
  rw[hbad (by rw[e];decide),e];exact CT.w2 (k ([],_) (.val (by rw[Ag (AC (by rw[Tw];exact h2))])))
 rw[Ad (AD (by rw[Tw];exact h2)),Ab h0,Ar (Az true (show x.toNat<s.cl.length by omega))] at k;have eE:anE n s x=if (s.cl.getD x.toNat true||AU s.pe x)=true then 24 else 0:=by unfold anE;rw[Tq h,Tq ⟨h0,by omega⟩,hsl]
 cases hc:s.cl.getD x.toNat true with
 | true=>
  rw[hc] at k eE;have e:anE n s x=24:=by rw[eE];rfl
  rw[hbad (by rw[e];decide),e];exact CT.w2 (k ([],_) (.val (by rw[Ag rfl])))
 | false=>
  rw[hc,Ad rfl,Ab (by omega)] at k;rw[hc,Tm] at eE;cases hp:AU s.pe x with
  | true=>
   rw[hp] at k eE;have e:anE n s x=24:=by rw[eE];rfl
   rw[hbad (by rw[e];decide),e];exact CT.w2 (k ([],_) (.val (by rw[Ag rfl])))
  | false=>
   rw[hp,Ad rfl,Ab (by omega),Ab (by omega),Ab (by omega),Ab (by simp only[Tw,Ua,Ub];omega),Ab (by simp only[Tw,Ua,Ub];omega)] at k;rw[hp] at eE;have e:anE n s x=0:=by rw[eE];rfl
   rw[e,Tq rfl];have e2:(.tup [sgA (anS s x),.int .i64 0]:AV) = .tup [.agg [.lst (boL s.cl),.lst (Un (AV.int .i64) s.bw),.lst (Un (AV.int .i64) s.pe++[.int .i64 x])],.int .i64 0]:=by unfold anS sgA lI;rw[TG];rfl
   rw[e2];exact k ([],_) (.ret _)
theorem ks_b{n:Aa}(hv:Aq n){s:Ak}(h:BA n s):BB n s=true:=PO.2 ⟨hv,h⟩
theorem n14_v{n:Aa}(hv:Aq n)(hrw:RwV n):CT Uu 49 [] [Aj n] [] (.tup [sgA ⟨(AN n).cl,(AN n).bw,[]⟩,.int .i64 0]):=by
 have h:=n14_c hrw;have e1:nsS n=AN n:=by unfold nsS;rw[BH.2 hv];rfl
 have e2:nsE n=0:=by unfold nsE;rw[BH.2 hv];rfl
 rw[e1,e2] at h;exact h
theorem an_v{n:Aa}(cl:List Bool)(bw pe:List Int)(x:Int)(hv:Aq n)(hrw:RwV n)(hs:BA n ⟨cl,bw,pe⟩)(hx:0<=x/\x<(n.bs.length:Int))(hc:(AB ⟨cl,bw,pe⟩).getD x.toNat true=false):CT Uu 85 [] [Aj n,sgA ⟨cl,bw,pe⟩,.int .i64 x] [] (.tup [sgA ⟨cl,bw,pe++[x]⟩,.int .i64 0]):=by
 have h:=ann_c (n:=n) cl bw pe x hrw;have e1:anE n ⟨cl,bw,pe⟩ x=0:=by unfold anE;rw[Tq (ks_b hv hs),Tq hx,hc];rfl
 have e2:anO n ⟨cl,bw,pe⟩ x=⟨cl,bw,pe++[x]⟩:=by unfold anO;rw[Tq e1];rfl
 rw[e1,e2] at h;exact h
theorem Nk(n:Aa)(cl:List Bool)(bw pe:List Int)(tk:List TsD)(us:List UsD)(n1 n2:Nat)(hrw:RwV n)(hv:Aq n)(hs:BA n ⟨cl,bw,pe⟩):CT Uu 77 (bkR n cl bw pe tk us n1 n2) [.ptr 0 0 0] (bkR n cl bw pe tk us n1 n2) (.lst (boL (AB ⟨cl,bw,pe⟩))):=by have h:=bsh_c n cl bw pe tk us n1 n2 hrw;unfold shO at h;rw[ks_b hv hs] at h;exact h
def NR(n:Aa)(q:Int):Option (Empty⊕Ret):=gu (RwV n) <|br (ckE n q != 0) (some (.inr ([],AV.tup [iV 0,iV 0,iV (ckE n q)]))) (gu (Aq n) <|gu (-1000<=q/\q<=1000) <|some (.inr ([],AV.tup [iV (plI n q),iV (plJ n q),iV 0])))
theorem cpl_ct(n:Aa)(q:Int)(r:Ret)(h:Ac emT (NR n q) r):CT Uu 50 ([]) ([Aj n,.int .i64 q]) r.1 r.2:=
 CT.mach (fn:=Tryz.f50) (c:=zB Tryz.f50) (S:=emS) (hd:=emH) Tryz.func50 (by kernel_rfl) (nL rfl)
  (fun s o ho=>match s,ho with
   | x,_=>x.elim)
  (fun o ho=>Scr.ok (X:=NR n q) ho mix (
 .rn 0 [] [] [] [] (al (u2 t4)) <|
 .gu fun a0=>
 have c0:=ck_c n q a0;
 .rn 1 [] [] [(12,hK c0 [] [])] [] (aj (u2 (u2 (aj (k2 (aj t9 (ak (al (c0))))) s2))) (al (u2 s2))) <|
 .br (fun a1=>
 .rt [29] [] [] [] [] [] (aj (aj a1 (al (u2 (k2 s2)))) (al t4)))
 (fun a1=>
 .gu fun a2=>
 .gu fun a3=>
 have c1:=place_ct a2 q a3;
 .rt [28] [] [(19,hK c1 [] [])] [] [] [] (aj (aj a1 (aj (u2 (u2 (aj (k2 (aj t9 (ak (al (c1))))) (u2 (u2 (u2 (u2 s2))))))) (al (u2 (u2 (u2 (u2 t2))))))) (al t4)))) (by kernel_rfl)) h
theorem cpl_c(n:Aa)(c:Int)(hr:RwV n)(hv:Aq n)(hc:0<=c/\c<(Ao n:Int)):CT Uu 50 [] [Aj n,.int .i64 c] [] (.tup [.int .i64 (plI n c),.int .i64 (plJ n c),.int .i64 0]):=by
 refine cpl_ct n c ([],_) (.val ?_);have e:ckE n c=0:=by unfold ckE;rw[Tq (BH.2 hv),Ts (by omega)]
 have:=hv.cel;unfold NR;rw[Ab hr,e,Ad (by rfl),Ab hv,Ab (by omega)]
inductive HL where | l0 (v0:Int) (v1:List UsD)
def Mp(n:Aa):HL->St | .l0 v0 v1=>St.mk 46 [(1,AV.ptr 0 0 0),(2,AV.ptr 1 0 0),(6,AV.ptr 2 0 0),(24,Ut (Un iv n.rs)),(25,iv (iN (Un iv n.rs).length)),(26,iv v0)] [some (bK [Aj n] 8),some (bK [AV.agg [AV.nils,AV.nils,AV.nils,AV.nils,AV.nils]] 5),some (Blk.mk [AV.agg [Ut (boL (AN n).cl),Ut (Un iv (AN n).bw),Ut [],AV.nils,AV.sl 3 0 v1.length]] 5 false true none),some (bK (Un usA v1) 13)]
def N8(n:Aa):Option (HL⊕Ret):=gu (Aq n) <|gu (RwV n) <|some (.inl (.l0 ((0:Int)) ([])))
def FV(n:Aa)(v0:Int)(v1:List UsD):Option (HL⊕Ret):=br (decide (v0<iN (Un iV n.rs).length)) (gu (0<=v0) <|el (n.rs) (v0.toNat) fun(x28:Int)=>gu (RwV n) <|gu (Aq n) <|gu (0<=x28/\x28<iN (Ao n)) <|gu ((Un usA v1).length+[AV.agg [iV 1,bV false,iV (plI n x28),iV 0,iV 0,uV 0,bV false,bV false,iV 0,iV 0,Ut [],iV 0,iV 0]].length<=9223372036854775807) <|gu (((Un usA v1).length+[AV.agg [iV 1,bV false,iV (plI n x28),iV 0,iV 0,uV 0,bV false,bV false,iV 0,iV 0,Ut [],iV 0,iV 0]].length) * 112<=140737488355328) <|some (.inl (.l0 (i64.wrap (v0+1)) (v1++[UsD.mk 1 false (plI n x28)])))) (some (.inr ([],AV.tup [AV.agg [Ut (boL (AN n).cl),Ut (Un iV (AN n).bw),Ut [],AV.nils,Ut (Un usA v1)],iV 0])))
def K9(n:Aa):HL->Option (HL⊕Ret) | .l0 v0 v1=>FV n v0 v1
theorem lNw_ct(n:Aa)(r:Ret)(h:Ac (K9 n) (N8 n) r):CT Uu 18 ([]) ([Aj n]) r.1 r.2:=
 CT.mach (fn:=Tryz.f18) (c:=zB Tryz.f18) (S:=(Mp n)) (hd:=HL.ctorIdx) Tryz.func18 (by kernel_rfl) (nL rfl)
  (fun s o ho=>match s,ho with
 | .l0 v0 v1,ho=>Scr.ok (X:=FV n v0 v1) ho mix (
 .rn 0 [] [] [] [] (al (al t3)) <|
 .br (fun a0=>
 .gu fun a1=>
 .el fun x28 a2=>
 .rn 0 [55] [(28,iv x28)] [] [] (aj a0 (al (aj (k2 (aj a1 (Af (f:=iv) a2))) (u2 s2)))) <|
 .gu fun a3=>
 .gu fun a4=>
 .gu fun a5=>
 have c0:=cpl_c n x28 a3 a4 a5;
 .rn 0 [] [] [(33,hK c0 [] [])] [] (al (u2 (u2 (aj (k2 (aj t9 (ak (al (c0))))) (u2 (u2 (u2 (u2 (u2 (u2 s2)))))))))) <|
 .gu fun a6=>
 .gu fun a7=>
 .lq [] [(41,AV.tup [])] [] [] [] [0,1,2,5] [1,2,6,24,25,26] (up [] [(2,[AV.agg [Ut (boL (AN n).cl),Ut (Un iv (AN n).bw),Ut [],AV.nils,AV.sl 3 0 ((Un usA v1).length+[AV.agg [iv 1,bV false,iv (plI n x28),iv 0,iv 0,uV 0,bV false,bV false,iv 0,iv 0,Ut [],iv 0,iv 0]].length)]]),(3,Un usA v1++[AV.agg [iv 1,bV false,iv (plI n x28),iv 0,iv 0,uV 0,bV false,bV false,iv 0,iv 0,Ut [],iv 0,iv 0]])] (Mp n (.l0 (i64.wrap (v0+1)) (v1++[UsD.mk 1 false (plI n x28)])))) (aj (aj (u2 (u2 (u2 (u2 (u2 (aj (k2 (aj (show(Un usA v1).length=v1.length by simp) (aj (aj (show nat_lit 13=nat_lit 13 from rfl) (show 1<=[AV.agg [iv 1,bV false,iv (plI n x28),iv 0,iv 0,uV 0,bV false,bV false,iv 0,iv 0,Ut [],iv 0,iv 0]].length by simp)) (aj a6 a7)))) (u2 (al t3)))))))) (al (u2 s2))) (k3 (k5 (aj (al t6) t2)))) (by simp[up,upF,upV,upH,upB,Mp,gL,boL,lI,sA,bA,tsA,usA]))
 (fun a0=>
 .rt [54] [] [] [] [] [3] (aj (aj a0 (al (u2 (aj (k2 n11) t2)))) (al (aj (ak (k3 (al (show v1.length=(Un usA v1).length by simp)))) t2))))) (by kernel_rfl)
  )
  (fun o ho=>Scr.ok (X:=N8 n) ho mix (
 .rn 0 [] [] [] [] (al (u2 t3)) <|
 .gu fun a0=>
 .gu fun a1=>
 have c0:=n14_v a0 a1;
 .lp [] [] [(14,hK c0 [] [])] [] [(5006,13)] [0,1,3,4] [1,2,6,24,25,26] (aj (aj (u2 (aj (ak (aj t9 (al (c0)))) (u2 (u2 (u2 (ak (aj (k2 n11) s2))))))) (aj (u2 s2) (ak (aj (u2 (u2 (ak (al (k2 n11))))) (al (u2 (u2 (u2 t2)))))))) (k3 (k5 (aj (al t6) t2))))) (by kernel_rfl)) h
inductive C7 where | l0 (v0:Int) | l1 (v0:Int) | l2 (v0:Int) (v1:List UsD)
def Oq(n:Aa)(cl:List Bool)(bw pe:List Int)(tk:List TsD)(us:List UsD):C7->St | .l0 v0=>St.mk 153 [(2,AV.ptr 0 0 0),(3,AV.ptr 1 0 0),(42,Ut (Un tsA tk)),(43,iv (iN (Un tsA tk).length)),(44,iv v0)] [some (bK [Aj n] 8),some (bK [AV.agg [Ut (boL cl),Ut (Un iv bw),Ut (Un iv pe),Ut (Un tsA tk),Ut (Un usA us)]] 5)] | .l1 v0=>St.mk 153 [(2,AV.ptr 0 0 0),(3,AV.ptr 1 0 0),(62,Ut (Un usA us)),(63,iv (iN (Un usA us).length)),(64,iv v0)] [some (bK [Aj n] 8),some (bK [AV.agg [Ut (boL cl),Ut (Un iv bw),Ut (Un iv pe),Ut (Un tsA tk),Ut (Un usA us)]] 5)] | .l2 v0 v1=>St.mk 153 [(12,AV.ptr 0 0 0),(127,Ut (Un usA us)),(128,iv (iN (Un usA us).length)),(129,iv v0)] [some (Blk.mk [AV.agg [Ut (Un bA n.bs),Ut (gL n.nx),Ut (Un sA n.ss),Ut (Un iv n.rs),iv n.q,iv n.a,iv n.d,iv n.p,Ut (boL cl),Ut (Un iv bw),Ut (Un iv pe),AV.sl 1 0 tk.length,AV.sl 2 0 v1.length]] 13 false true none),some (bK (Un tsA tk) 5),some (bK (Un usA v1) 13)]
def L4(n:Aa)(cl:List Bool)(bw pe:List Int)(tk:List TsD)(us:List UsD):Option (C7⊕Ret):=gu (RwV n) <|br (!Bc n) (some (.inr ([],AV.tup [AV.con (Value.pointer none),iV 20]))) (br (!BB n (Ak.mk cl bw pe)) (some (.inr ([],AV.tup [AV.con (Value.pointer none),iV 20]))) (br (aqE tk != 0) (some (.inr ([],AV.tup [AV.con (Value.pointer none),iV 20]))) (br (decide (8<iN (Un usA us).length)) (some (.inr ([],AV.tup [AV.con (Value.pointer none),iV 20]))) (some (.inl (.l0 ((0:Int))))))))
def G2(n:Aa)(cl:List Bool)(bw pe:List Int)(tk:List TsD)(us:List UsD)(v0:Int):Option (C7⊕Ret):=br (decide (v0<iN (Un tsA tk).length)) (gu (0<=v0) <|el (tk) (v0.toNat) fun(x46:TsD)=>br (!Cd n x46.p false) (some (.inr ([],AV.tup [AV.con (Value.pointer none),iV 20]))) (br (!Cd n x46.d false) (some (.inr ([],AV.tup [AV.con (Value.pointer none),iV 20]))) (some (.inl (.l0 (i64.wrap (v0+1))))))) (some (.inl (.l1 ((0:Int)))))
def GV(n:Aa)(cl:List Bool)(bw pe:List Int)(tk:List TsD)(us:List UsD)(v0:Int):Option (C7⊕Ret):=br (decide (v0<iN (Un usA us).length)) (gu (0<=v0) <|el (us) (v0.toNat) fun(x66:UsD)=>br (decide (x66.s<0)) (some (.inr ([],AV.tup [AV.con (Value.pointer none),iV 20]))) (br (decide (3<x66.s)) (some (.inr ([],AV.tup [AV.con (Value.pointer none),iV 20]))) (br (decide (x66.hm < -2)) (some (.inr ([],AV.tup [AV.con (Value.pointer none),iV 20]))) (br (decide (0<=x66.hm)) (br (!Cd n x66.hm true) (some (.inr ([],AV.tup [AV.con (Value.pointer none),iV 20]))) (some (.inl (.l1 (i64.wrap (v0+1)))))) (some (.inl (.l1 (i64.wrap (v0+1))))))))) (gu (cl.length<=1000000) <|gu (bw.length<=1000000) <|gu (pe.length<=1000000) <|gu (tk.length<=1000) <|some (.inl (.l2 ((0:Int)) ([]))))
def G1(n:Aa)(cl:List Bool)(bw pe:List Int)(tk:List TsD)(us:List UsD)(v0:Int)(v1:List UsD):Option (C7⊕Ret):=br (decide (v0<iN (Un usA us).length)) (gu (0<=v0) <|el (us) (v0.toNat) fun(x131:UsD)=>gu ((Un usA v1).length+[AV.agg [iV x131.s,bV x131.lv,iV x131.hm,iV 0,iV 0,uV 0,bV false,bV false,iV 0,iV 0,Ut [],iV 0,iV 0]].length<=9223372036854775807) <|gu (((Un usA v1).length+[AV.agg [iV x131.s,bV x131.lv,iV x131.hm,iV 0,iV 0,uV 0,bV false,bV false,iV 0,iV 0,Ut [],iV 0,iV 0]].length) * 112<=140737488355328) <|some (.inl (.l2 (i64.wrap (v0+1)) (v1++[x131])))) (some (.inr ([some (Blk.mk [AV.agg [Ut (Un bA n.bs),Ut (gL n.nx),Ut (Un sA n.ss),Ut (Un iV n.rs),iV n.q,iV n.a,iV n.d,iV n.p,Ut (boL cl),Ut (Un iV bw),Ut (Un iV pe),AV.sl 1 0 tk.length,AV.sl 2 0 v1.length]] 13 false true none),some (bK (Un tsA tk) 5),some (bK (Un usA v1) 13)],AV.tup [AV.ptr 0 0 0,iV 0])))
def Pv(n:Aa)(cl:List Bool)(bw pe:List Int)(tk:List TsD)(us:List UsD):C7->Option (C7⊕Ret) | .l0 v0=>G2 n cl bw pe tk us v0 | .l1 v0=>GV n cl bw pe tk us v0 | .l2 v0 v1=>G1 n cl bw pe tk us v0 v1
theorem bop_ct(n:Aa)(cl:List Bool)(bw pe:List Int)(tk:List TsD)(us:List UsD)(r:Ret)(h:Ac (Pv n cl bw pe tk us) (L4 n cl bw pe tk us) r):CT Uu 25 ([]) ([Aj n,lgA ⟨cl,bw,pe,tk,us⟩]) r.1 r.2:=
 CT.mach (fn:=Tryz.f25) (c:=zB Tryz.f25) (S:=(Oq n cl bw pe tk us)) (hd:=C7.ctorIdx) Tryz.func25 (by kernel_rfl) (nL rfl)
  (fun s o ho=>match s,ho with
 | .l0 v0,ho=>Scr.ok (X:=G2 n cl bw pe tk us v0) ho mix (
 .rn 0 [] [] [] [] (al (al t3)) <|
 .br (fun a0=>
 .gu fun a1=>
 .el fun x46 a2=>
 .rn 0 [91] [(46,tsA x46)] [] [] (aj a0 (al (aj (k2 (aj a1 (Af (f:=tsA) a2))) (u2 (ak (al (k2 n11))))))) <|
 .br (fun a3=>
  have c0:=Fx n (x46.p) (false);
  .rt [107] [] [(51,hK c0 [] [])] [] [] [] (aj (aj (u2 (u2 (u2 (aj (k2 (aj t9 (k2 (al (c0))))) (u2 (u2 (aj a3 (aj a3 (aj a3 (aj a3 (aj a3 (al (aj a3 t2))))))))))))) (ak (al t3))) (al t3)))
 (fun a3=>
  have c0:=Fx n (x46.p) (false);
  have c1:=Fx n (x46.d) (false);
  .rn 0 [106] [] [(51,hK c0 [] []),(57,hK c1 [] [])] [] (al (u2 (u2 (u2 (aj (k2 (aj t9 (k2 (al (c0))))) (u2 (u2 (ag a3 (ag a3 (ag a3 (aj (aj a3 (k2 (aj t9 (k2 (al (c1)))))) (ag a3 (al (aj a3 t2)))))))))))))) <|
  .br (fun a4=>
  .rt [106,119] [] [] [] [] [] (aj (aj a4 (al t3)) (al t3)))
  (fun a4=>
  .lp [106,118] [] [] [] [] [0,1] [2,3,42,43,44] (aj (aj a4 (al (u2 s2))) t8))))
 (fun a0=>
 .lp [90] [] [] [] [] [0,1] [2,3,62,63,64] (aj (aj a0 (al (u2 (u2 (u2 t2))))) t8))) (by kernel_rfl)
 | .l1 v0,ho=>Scr.ok (X:=GV n cl bw pe tk us v0) ho mix (
 .rn 0 [] [] [] [] (al (al t3)) <|
 .br (fun a0=>
 .gu fun a1=>
 .el fun x66 a2=>
 .rn 0 [131] [(66,usA x66)] [] [] (aj a0 (al (aj (k2 (aj a1 (Af (f:=usA) a2))) (u2 (ak (al (k2 n11))))))) <|
 .br (fun a3=>
  .rt [143] [] [] [] [] [] (aj (aj (u2 (u2 (u2 (u2 (aj a3 (aj a3 (aj a3 (ag a3 (u2 (k3 (aj t3 (u2 (k5 (k5 (al t3))))))))))))))) (ak (al t3))) (al t3)))
 (fun a3=>
  .br (fun a4=>
  .rt [142,153] [] [] [] [] [] (aj (aj (u2 (u2 (u2 (u2 (ag a3 (ag a3 (ag a3 (ag a3 (u2 (aj a4 (aj a4 (aj a4 (ag a4 (u2 (k5 (k5 (al t3))))))))))))))))) (ak (al t3))) (al t3)))
  (fun a4=>
  .br (fun a5=>
   .rt [142,152,163] [] [] [] [] [] (aj (aj (u2 (u2 (u2 (u2 (ag a3 (ag a3 (ag a3 (ag a3 (u2 (ag a4 (ag a4 (ag a4 (ag a4 (u2 (aj a5 (aj a5 (aj a5 (aj a5 (k5 (aj a5 (al (aj a5 t2)))))))))))))))))))))) (ak (al t3))) (al t3)))
  (fun a5=>
   .br (fun a6=>
   have c0:=Fx n (x66.hm) (true);
   .rn 0 [142,152,162,171] [] [(89,hK c0 [] [])] [] (al (u2 (u2 (u2 (u2 (ag a3 (ag a3 (ag a3 (ag a3 (u2 (ag a4 (ag a4 (ag a4 (ag a4 (u2 (ag a5 (ag a5 (ag a5 (ag a5 (ag a6 (ag a6 (ag a6 (aj (aj a6 (k2 (aj t9 (k2 (al (c0)))))) (ag a6 (aj (aj a5 (aj a6 t2)) (al (aj a5 t2))))))))))))))))))))))))))) <|
   .br (fun a7=>
    .rt [142,152,162,171,185] [] [] [] [] [] (aj (aj a7 (al t3)) (al t3)))
   (fun a7=>
    .lp [142,152,162,171,184] [] [] [] [] [0,1] [2,3,62,63,64] (aj (aj a7 (al (u2 s2))) t8)))
   (fun a6=>
   .lp [142,152,162,170] [] [] [] [] [0,1] [2,3,62,63,64] (aj (aj (u2 (u2 (u2 (u2 (ag a3 (ag a3 (ag a3 (ag a3 (u2 (ag a4 (ag a4 (ag a4 (ag a4 (u2 (ag a5 (ag a5 (ag a5 (ag a5 (aj a6 (aj a6 (aj a6 (aj a6 (aj a6 (aj (aj a5 (aj a6 t2)) (al (aj a5 t2)))))))))))))))))))))))))) (ak (al (u2 s2)))) t8))))))
 (fun a0=>
 .rn 0 [130] [] [] [] (aj a0 (al (u2 (u2 (aj t3 (u2 s2)))))) <|
 .gu fun a1=>
 .gu fun a2=>
 .gu fun a3=>
 have c0:=clb_i (cl) a1;
 have c1:=cli_i (bw) a2;
 have c2:=cli_i (pe) a3;
 .rn 0 [] [] [(102,hK c0 [] []),(106,hK c1 [] []),(110,hK c2 [] [])] [] (al (u2 (u2 (u2 (u2 (aj (k2 (al (c0))) (u2 (u2 (u2 (aj (k2 (al (c1))) (u2 (u2 (u2 (aj (k2 (al (c2))) (aj t4 (u2 (u2 (u2 (al t3))))))))))))))))))) <|
 .gu fun a4=>
 have c3:=c74_c (tk) a4;
 .lp [] [] [(119,hK c3 [] [])] [] [(13012,13)] [2,3,4] [12,127,128,129] (aj (aj (u2 (u2 (u2 (u2 (aj (k2 (al (c3))) (u2 (u2 (u2 (aj t3 (u2 (u2 (u2 s2)))))))))))) (al (u2 (u2 (u2 t2))))) (ak (k3 (aj (al (k5 t9)) t3)))))) (by kernel_rfl)
 | .l2 v0 v1,ho=>Scr.ok (X:=G1 n cl bw pe tk us v0 v1) ho mix (
 .rn 0 [] [] [] [] (al (al t3)) <|
 .br (fun a0=>
 .gu fun a1=>
 .el fun x131 a2=>
 .rn 0 [261] [(131,usA x131)] [] [] (aj a0 (al (aj (k2 (aj a1 (Af (f:=usA) a2))) (u2 (ak (al (k2 n11))))))) <|
 .gu fun a3=>
 .gu fun a4=>
 .lq [] [(146,AV.tup [])] [] [] [] [0,1,5] [12,127,128,129] (up [] [(0,[AV.agg [Ut (Un bA n.bs),Ut (gL n.nx),Ut (Un sA n.ss),Ut (Un iv n.rs),iv n.q,iv n.a,iv n.d,iv n.p,Ut (boL cl),Ut (Un iv bw),Ut (Un iv pe),AV.sl 1 0 tk.length,AV.sl 2 0 ((Un usA v1).length+[AV.agg [iv x131.s,bV x131.lv,iv x131.hm,iv 0,iv 0,uV 0,bV false,bV false,iv 0,iv 0,Ut [],iv 0,iv 0]].length)]]),(2,Un usA v1++[AV.agg [iv x131.s,bV x131.lv,iv x131.hm,iv 0,iv 0,uV 0,bV false,bV false,iv 0,iv 0,Ut [],iv 0,iv 0]])] (Oq n cl bw pe tk us (.l2 (i64.wrap (v0+1)) (v1++[x131])))) (aj (aj (u2 (u2 (u2 (u2 (u2 (u2 (u2 (u2 (u2 (u2 (u2 (u2 (aj t4 (u2 (aj (k2 (aj (show(Un usA v1).length=v1.length by simp) (aj (aj (show nat_lit 13=nat_lit 13 from rfl) (show 1<=[AV.agg [iv x131.s,bV x131.lv,iv x131.hm,iv 0,iv 0,uV 0,bV false,bV false,iv 0,iv 0,Ut [],iv 0,iv 0]].length by simp)) (aj a3 a4)))) (u2 (u2 (u2 (al t3))))))))))))))))))) (al (u2 s2))) (ak (k3 (aj (al (k5 t9)) t3)))) (by simp[up,upF,upV,upH,upB,Oq,gL,boL,lI,sA,bA,tsA,usA]))
 (fun a0=>
 .rt [260] [] [] [] [0,1,2] [] (aj (aj a0 (al (u2 (u2 t2)))) (aj t3 (aj (al (k5 t9)) t3))))) (by kernel_rfl)
  )
  (fun o ho=>Scr.ok (X:=L4 n cl bw pe tk us) ho mix (
 have c0:=aQd_c (tk);
 .rn 1 [] [] [(18,hK c0 [] [])] [] (aj (u2 (u2 t3)) (al (u2 (u2 (aj (k2 (al (c0))) (u2 (u2 (u2 (u2 s2))))))))) <|
 .gu fun a0=>
 .br (fun a1=>
 have c1:=FP a0;
 .rt [49] [] [(22,hK c1 [] [])] [] [] [] (aj (aj (u2 (aj (ak (aj t9 (al (c1)))) (u2 (u2 (aj a1 (aj a1 (aj a1 (aj a1 (aj a1 (ag a1 (u2 (k2 (aj t3 (u2 (ak (k3 (al t3))))))))))))))))) (ak (al t3))) (al t3)))
 (fun a1=>
 .br (fun a2=>
  have c1:=FP a0;
  have c2:=IJ (cl) (bw) (pe) a0;
  .rt [48,63] [] [(22,hK c1 [] []),(28,hK c2 [] [])] [] [] [] (aj (aj (u2 (aj (ak (aj t9 (al (c1)))) (u2 (u2 (ag a1 (ag a1 (ag a1 (aj (aj a1 (k2 (aj t9 (aj t4 (al (c2)))))) (ag a1 (ag a1 (u2 (aj a2 (aj a2 (ag a2 (u2 (ak (k3 (al t3)))))))))))))))))) (ak (al t3))) (al t3)))
 (fun a2=>
  .br (fun a3=>
  have c1:=FP a0;
  have c2:=IJ (cl) (bw) (pe) a0;
  .rt [48,62,71] [] [(22,hK c1 [] []),(28,hK c2 [] [])] [] [] [] (aj (aj (u2 (aj (ak (aj t9 (al (c1)))) (u2 (u2 (ag a1 (ag a1 (ag a1 (aj (aj a1 (k2 (aj t9 (aj t4 (al (c2)))))) (ag a1 (ag a1 (u2 (ag a2 (ag a2 (ag a2 (u2 (aj a3 (aj a3 (aj a3 (aj a3 (al (aj a3 t2))))))))))))))))))))) (ak (al t3))) (al t3)))
  (fun a3=>
  have c1:=FP a0;
  have c2:=IJ (cl) (bw) (pe) a0;
  .rn 0 [48,62,70] [] [(22,hK c1 [] []),(28,hK c2 [] [])] [] (al (u2 (aj (ak (aj t9 (al (c1)))) (u2 (u2 (ag a1 (ag a1 (ag a1 (aj (aj a1 (k2 (aj t9 (aj t4 (al (c2)))))) (ag a1 (ag a1 (u2 (ag a2 (ag a2 (ag a2 (u2 (ag a3 (ag a3 (ag a3 (ag a3 (al (aj a3 t2)))))))))))))))))))))) <|
  .br (fun a4=>
   .rt [48,62,70,81] [] [] [] [] [] (aj (aj a4 (al t3)) (al t3)))
  (fun a4=>
   .lp [48,62,70,80] [] [] [] [] [0,1] [2,3,42,43,44] (aj (aj a4 (al (u2 (u2 (u2 t2))))) t8)))))) (by kernel_rfl)) h
theorem L1{n:Aa}{q:Int}(h:stB n q):Cd n q false=true:=by obtain⟨h0,s,hs,hd⟩:=h;unfold Cd;rw[hs,Tz h0];show(s.dep==false)=true;rw[hd];rfl
theorem isSB_dp{n:Aa}{q:Int}:Cd n q true=dpB n q:=by
 unfold Cd dpB;cases n.ss[q.toNat]? with
 | none=>rfl
 | some s=>show(_&&(s.dep==true))=(_&&s.dep);cases s.dep<;>rfl
theorem LgV.aq{n:Aa}{x:LgD}(h:LgV n x):tvB x.tk=true:=by unfold tvB;rw[Ty (by have:=h.tl;omega)];exact TH.2 fun t ht=>Tz (h.tv t ht).1
theorem LgV.aqE{n:Aa}{x:LgD}(h:LgV n x):aqE x.tk=0:=by unfold _root_.Go.Proofs.YthjgbnbibebigaaGreat.aqE;rw[h.aq]
theorem I7(n:Aa)(cl:List Bool)(bw pe:List Int)(tk:List TsD)(us:List UsD)(hV:LgV n ⟨cl,bw,pe,tk,us⟩):CT Uu 25 [] [Aj n,lgA ⟨cl,bw,pe,tk,us⟩] (bkH n cl bw pe tk us tk.length us.length) (.tup [.ptr 0 0 0,.int .i64 0]):=by
 have hb:=hV.bd;have hu:=hV.ul;have ht:=hV.tl;have hE:=hV.aqE;simp only at hb hu ht hE;refine bop_ct n cl bw pe tk us (_,_) ?_;unfold L4;rw[Ab hV.rw,Ad (by rw[BH.2 hV.nv];rfl),Ad (by rw[ks_b hV.nv hV.sg];rfl),Ad (by rw[hE];rfl),Ad (Ty (by simp only[iN,Tw];omega))];refine Br (fun i=>C7.l0 (i:Int)) tk.length (fun i hi h=>.to (show G2 n cl bw pe tk us i=_ from ?_) h) (.to (show G2 n cl bw pe tk us tk.length=some (.inl (.l1 0)) from ?_) ?_)
 .have hx:tk[i]?=some tk[i]:=Tt hi;have hm:=hV.tv _ (Tx hx);unfold G2;rw[AZ hx,Ad (by rw[L1 hm.2.1];rfl),Ad (by rw[L1 hm.2.2];rfl),Bj i (by omega)]
 .unfold G2;rw[AQ]
 refine Br (fun i=>C7.l1 (i:Int)) us.length (fun i hi h=>.to (show GV n cl bw pe tk us i=_ from ?_) h) (.to (show GV n cl bw pe tk us us.length=some (.inl (.l2 0 [])) from ?_) ?_)
 .have hx:us[i]?=some us[i]:=Tt hi;obtain⟨g1,g2,g3,g4⟩:=hV.uv _ (Tx hx);unfold GV;rw[AZ hx,Ad (Ty (by omega)),Ad (Ty (by omega)),Ad (Ty (by omega)),Bj i (by omega)];by_cases h0:0<=us[i].hm
  .rw[Ag (Tz h0),isSB_dp,Ad (by rw[g4 h0];rfl)]
  .rw[Ad (Ty h0)]
 .unfold GV;rw[AQ,Ab (by omega),Ab (by omega),Ab (by omega),Ab (by omega)]
 have key:∀(d i:Nat),i+d=us.length->Ac (Pv n cl bw pe tk us) (some (.inl (.l2 (i:Nat) (us.take i)))) ((bkH n cl bw pe tk us tk.length us.length,.tup [.ptr 0 0 0,.int .i64 0]):Ret):=by
  intro d;induction d with
  | zero=>
   intro i hi;obtain rfl:i=us.length:=by omega
   refine .to (show G1 n cl bw pe tk us us.length _=_ from rfl) ?_;unfold G1;rw[AQ,List.take_length];exact .ret _
  | succ d ih=>
   intro i hi;have hx:us[i]?=some us[i]:=Tt (by omega);have e:us.take (i+1)=us.take i++[us[i]]:=by rw[List.take_add_one,hx];rfl
   have:=ih (i+1) (by omega);rw[e] at this;refine .to (show G1 n cl bw pe tk us i _=_ from rfl) ?_;unfold G1;rw[AZ hx,Ab (by simp only[Tw,TY,T9];omega),Ab (by simp only[Tw,TY,T9];omega),Bj i (by omega)];exact this
 exact key us.length 0 (by omega)
def LN(n:Aa)(cl:List Bool)(bw pe:List Int)(tk:List TsD)(us:List UsD)(c:CmD):Option (Empty⊕Ret):=gu (n.ss.length<=1000) <|br (c.a.toList==c.b.toList) (some (.inr (bkH n cl bw pe tk us tk.length us.length,AV.agg [iV 0,iV 0]))) (br (!Cd n (Aw n c.a) false) (some (.inr (bkH n cl bw pe tk us tk.length us.length,AV.agg [iV 3,iV 0]))) (br (!Cd n (Aw n c.b) false) (some (.inr (bkH n cl bw pe tk us tk.length us.length,AV.agg [iV 3,iV 0]))) (gu (RwV n) <|gu (Aq n) <|gu (BA n (Ak.mk cl bw pe)) <|br (!cOB n (AB (Ak.mk cl bw pe)) (Aw n c.a)) (some (.inr (bkH n cl bw pe tk us tk.length us.length,AV.agg [iV 4,iV 0]))) (br (!cOB n (AB (Ak.mk cl bw pe)) (Aw n c.b)) (some (.inr (bkH n cl bw pe tk us tk.length us.length,AV.agg [iV 4,iV 0]))) (gu (∀(blk:Blk),blk∈[bK (Un tsA (aaL tk n.q (Aw n c.a) (Aw n c.b))) 5]->A7 blk) <|br (aaE tk n.q != 0) (some (.inr (bkH n cl bw pe tk us tk.length us.length,AV.agg [iV 2,iV 0]))) (some (.inr ([some (Blk.mk [AV.agg [Ut (Un bA n.bs),Ut (gL n.nx),Ut (Un sA n.ss),Ut (Un iV n.rs),iV n.q,iV n.a,iV n.d,iV n.p,Ut (boL cl),Ut (Un iV bw),Ut (Un iV pe),AV.sl 1 0 (aaL tk n.q (Aw n c.a) (Aw n c.b)).length,AV.sl 2 0 us.length]] 13 false true none),some (bK (Un tsA (aaL tk n.q (Aw n c.a) (Aw n c.b))) 5),some (bK (Un usA us) 13)],AV.agg [iV 1,iV (aaN tk n.q)]))))))))
theorem tas_ct(n:Aa)(cl:List Bool)(bw pe:List Int)(tk:List TsD)(us:List UsD)(c:CmD)(r:Ret)(h:Ac emT (LN n cl bw pe tk us c) r):CTX Uu 26 (bkH n cl bw pe tk us tk.length us.length) ([.ptr 0 0 0,cmA c]) r.1 r.2:=
 CTX.mach (fn:=Tryz.f26) (c:=zB Tryz.f26) (S:=emS) (hd:=emH) Tryz.func26 (by kernel_rfl) (nL rfl) (nL rfl)
  (fun s o ho=>match s,ho with
   | x,_=>x.elim)
  (fun o ho=>Scr.ok (X:=LN n cl bw pe tk us c) ho mix (
 .rn 0 [] [] [] [] (al (u2 t2)) <|
 .gu fun a0=>
 have c0:=bsp_c n (cl) (bw) (pe) (tk) (us) (tk.length) (us.length) (c.a) a0;
 have c1:=bsp_c n (cl) (bw) (pe) (tk) (us) (tk.length) (us.length) (c.b) a0;
 .rn 1 [] [] [(17,hK c0 [0,1,2] []),(21,hK c1 [0,1,2] [])] [] (aj (u2 (u2 (u2 (aj (ak (k3 (aj (al (k5 t9)) (k2 (al (c0)))))) (u2 (u2 (u2 (aj (ak (k3 (aj (al (k5 t9)) (k2 (al (c1)))))) (u2 s2))))))))) (al (u2 (u2 (u2 (u2 (aj t3 s2))))))) <|
 .br (fun a1=>
 .rt [45] [] [] [] [0,1,2] [] (aj (aj a1 (al (ak (al (k2 n11))))) (aj t3 (aj (al (k5 t9)) t3))))
 (fun a1=>
 .br (fun a2=>
  have c2:=Fx n (Aw n c.a) (false);
  .rt [44,75] [] [(35,hK c2 [] [])] [] [0,1,2] [] (aj (aj a1 (aj (u2 (u2 (u2 (u2 (u2 (aj (k2 (aj t9 (k2 (al (c2))))) (u2 (u2 (aj a2 (aj a2 (aj a2 (aj a2 (aj a2 (aj a2 (aj a2 (ag a2 s2)))))))))))))))) (ak (al (ak (al (k2 n11))))))) (aj t3 (aj (al (k5 t9)) t3))))
 (fun a2=>
  have c2:=Fx n (Aw n c.a) (false);
  have c3:=Fx n (Aw n c.b) (false);
  .rn 0 [44,74] [] [(35,hK c2 [] []),(43,hK c3 [] [])] [] (aj a1 (al (u2 (u2 (u2 (u2 (u2 (aj (k2 (aj t9 (k2 (al (c2))))) (u2 (u2 (ag a2 (ag a2 (ag a2 (ag a2 (ag a2 (aj (aj a2 (k2 (aj t9 (k2 (al (c3)))))) (ag a2 (ag a2 s2)))))))))))))))))) <|
  .br (fun a3=>
  .rt [74,59] [] [] [] [0,1,2] [] (aj (aj a3 (al (ak (al (k2 n11))))) (aj t3 (aj (al (k5 t9)) t3))))
  (fun a3=>
  .gu fun a4=>
  .gu fun a5=>
  .gu fun a6=>
  have c4:=Nk n (cl) (bw) (pe) (tk) (us) (tk.length) (us.length) a4 a5 a6;
  have c5:=Mf a4 (AB (Ak.mk cl bw pe)) (Aw n c.a);
  have c6:=Nk n (cl) (bw) (pe) (tk) (us) (tk.length) (us.length) a4 a5 a6;
  have c7:=Mf a4 (AB (Ak.mk cl bw pe)) (Aw n c.b);
  .rn 1 [74,58] [] [(53,hK c4 [0,1,2] []),(55,hK c5 [] []),(64,hK c6 [0,1,2] []),(66,hK c7 [] [])] [] (aj a3 (aj (u2 (u2 (u2 (u2 (u2 (aj (k2 (aj (al (k5 t9)) (k2 (al (c4))))) (u2 (aj (k3 (aj t9 (k2 (al (c5))))) (u2 (u2 (u2 (u2 s2)))))))))))) (al (u2 (u2 (u2 (u2 (u2 (aj (k2 (aj (al (k5 t9)) (k2 (al (c6))))) (u2 (aj (k3 (aj t9 (k2 (al (c7))))) (u2 (u2 (u2 (u2 s2))))))))))))))) <|
  .br (fun a7=>
   .rt [74,143] [] [] [] [0,1,2] [] (aj (aj (u2 (u2 (u2 (aj a7 (aj a7 (al (aj a7 t2))))))) (ak (al (ak (al (k2 n11)))))) (aj t3 (aj (al (k5 t9)) t3))))
  (fun a7=>
   .rn 0 [74,142] [] [] [] (al (u2 (u2 (u2 (ag a7 (ag a7 (al (aj a7 t2)))))))) <|
   .br (fun a8=>
   .rt [74,142,149] [] [] [] [0,1,2] [] (aj (aj a8 (al (ak (al (k2 n11))))) (aj t3 (aj (al (k5 t9)) t3))))
   (fun a8=>
   .gu fun a9=>
   have c8:=aAd_c (tk) (n.q) (Aw n c.a) (Aw n c.b);
   .rn 1 [74,142,148] [] [(90,hK c8 [] [1])] [] (aj a8 (aj (u2 (u2 (u2 (u2 (u2 (u2 (u2 (u2 (u2 (u2 (u2 (u2 (u2 (aj (ak (k3 (aj (show tk.length=(Un tsA tk).length by simp) (k3 (aj (c8) a9))))) (u2 (u2 (u2 (u2 (u2 (u2 s2)))))))))))))))))))) (al (u2 s2)))) <|
   .br (fun a10=>
    .rt [74,142,191] [] [] [] [0,1,2] [] (aj (aj a10 (al (ak (al (k2 n11))))) (aj t3 (aj (al (k5 t9)) t3))))
   (fun a10=>
    have c9:=OJ (aaN tk n.q);
    .rt [74,142,190] [] [(103,hK c9 [] [])] [] [0,5,2] [] (aj (aj a10 (aj (u2 (u2 (u2 (u2 (u2 (al t3)))))) (al (u2 (aj (k2 (al (c9))) (al (k2 n11))))))) (aj t3 (aj (al (k5 t9)) t3)))))))))) (by kernel_rfl)) h
def Mx(n:Aa)(cl:List Bool)(bw pe:List Int)(tk:List TsD)(us:List UsD)(c:CmD):Option (Empty⊕Ret):=br (!EF tk c.q) (some (.inr (bkH n cl bw pe tk us tk.length us.length,AV.agg [iV 3,iV 0]))) (gu (0<=c.q) <|gu (c.q<iN tk.length) <|el (tk) (0+c.q.toNat) fun(x20:TsD)=>br (decide (3<=x20.s)) (some (.inr (bkH n cl bw pe tk us tk.length us.length,AV.agg [iV 11,iV 0]))) (el (tk) (0+c.q.toNat) fun(x31:TsD)=>some (.inr ([some (Blk.mk [AV.agg [Ut (Un bA n.bs),Ut (gL n.nx),Ut (Un sA n.ss),Ut (Un iV n.rs),iV n.q,iV n.a,iV n.d,iV n.p,Ut (boL cl),Ut (Un iV bw),Ut (Un iV pe),AV.sl 1 0 tk.length,AV.sl 2 0 us.length]] 13 false true none),some (bK ((Un tsA tk).set (0+c.q.toNat) (AV.agg [iV x31.p,iV x31.d,iV 4,iV x31.q,iV x31.ov])) 5),some (bK (Un usA us) 13)],AV.agg [iV 1,iV 0]))))
theorem bcn_ct(n:Aa)(cl:List Bool)(bw pe:List Int)(tk:List TsD)(us:List UsD)(c:CmD)(r:Ret)(h:Ac emT (Mx n cl bw pe tk us c) r):CTX Uu 27 (bkH n cl bw pe tk us tk.length us.length) ([.ptr 0 0 0,cmA c]) r.1 r.2:=
 CTX.mach (fn:=Tryz.f27) (c:=zB Tryz.f27) (S:=emS) (hd:=emH) Tryz.func27 (by kernel_rfl) (nL rfl) (nL rfl)
  (fun s o ho=>match s,ho with
   | x,_=>x.elim)
  (fun o ho=>Scr.ok (X:=Mx n cl bw pe tk us c) ho mix (
 have c0:=bit_c n (cl) (bw) (pe) (tk) (us) (us.length) (c.q);
 .rn 1 [] [] [(8,hK c0 [0,1,2] [])] [] (ag t2 (al (u2 (u2 (u2 (aj (ak (k3 (aj (al (k5 t9)) (k2 (al (c0)))))) s2)))))) <|
 .br (fun a0=>
 .rt [19] [] [] [] [0,1,2] [] (aj (aj a0 (al (ak (al (k2 n11))))) (aj t3 (aj (al (k5 t9)) t3))))
 (fun a0=>
 .gu fun a1=>
 .gu fun a2=>
 .el fun x20 a3=>
 .rn 0 [18] [(20,tsA x20)] [] [] (aj a0 (al (u2 (u2 (u2 (u2 (u2 (u2 (u2 (aj (k2 (aj a1 a2)) (u2 (aj (ak (Af (f:=tsA) a3)) s2)))))))))))) <|
 .br (fun a4=>
  .rt [43] [] [] [] [0,1,2] [] (aj (aj a4 (al (ak (al (k2 n11))))) (aj t3 (aj (al (k5 t9)) t3))))
 (fun a4=>
  .el fun x31 a5=>
  have c1:=OJ (0);
  .rt [42] [(31,tsA x31)] [(32,hK c1 [] [])] [] [0,1,2] [] (aj (aj a4 (aj (u2 (u2 (u2 (u2 (u2 (u2 (u2 (aj (k2 (aj a1 a2)) (u2 (al (ak (Af (f:=tsA) a5)))))))))))) (al (aj (ak (al (c1))) (al (k2 n11)))))) (aj t3 (aj (al (k5 t9)) t3)))))) (by kernel_rfl)) h
def Ob(n:Aa)(cl:List Bool)(bw pe:List Int)(tk:List TsD)(us:List UsD)(c:CmD):Option (Empty⊕Ret):=br (!EF tk c.q) (some (.inr (bkH n cl bw pe tk us tk.length us.length,AV.agg [iV 3,iV 0]))) (gu (0<=c.q) <|gu (c.q<iN tk.length) <|el (tk) (0+c.q.toNat) fun(x20:TsD)=>some (.inr (bkH n cl bw pe tk us tk.length us.length,AV.agg [iV 12,iV x20.s])))
theorem bst_ct(n:Aa)(cl:List Bool)(bw pe:List Int)(tk:List TsD)(us:List UsD)(c:CmD)(r:Ret)(h:Ac emT (Ob n cl bw pe tk us c) r):CTX Uu 32 (bkH n cl bw pe tk us tk.length us.length) ([.ptr 0 0 0,cmA c]) r.1 r.2:=
 CTX.mach (fn:=Tryz.f32) (c:=zB Tryz.f32) (S:=emS) (hd:=emH) Tryz.func32 (by kernel_rfl) (nL rfl) (nL rfl)
  (fun s o ho=>match s,ho with
   | x,_=>x.elim)
  (fun o ho=>Scr.ok (X:=Ob n cl bw pe tk us c) ho mix (
 have c0:=bit_c n (cl) (bw) (pe) (tk) (us) (us.length) (c.q);
 .rn 1 [] [] [(8,hK c0 [0,1,2] [])] [] (ag t2 (al (u2 (u2 (u2 (aj (ak (k3 (aj (al (k5 t9)) (k2 (al (c0)))))) s2)))))) <|
 .br (fun a0=>
 .rt [19] [] [] [] [0,1,2] [] (aj (aj a0 (al (ak (al (k2 n11))))) (aj t3 (aj (al (k5 t9)) t3))))
 (fun a0=>
 .gu fun a1=>
 .gu fun a2=>
 .el fun x20 a3=>
 have c1:=isA_c (x20.s);
 .rt [18] [(20,tsA x20)] [(21,hK c1 [] [])] [] [0,1,2] [] (aj (aj a0 (al (u2 (u2 (u2 (u2 (u2 (u2 (u2 (aj (k2 (aj a1 a2)) (u2 (aj (ak (Af (f:=tsA) a3)) (aj (k2 (al (c1))) (al (k2 n11))))))))))))))) (aj t3 (aj (al (k5 t9)) t3))))) (by kernel_rfl)) h
def bkF(n:Aa)(x:LgD):List (Option Blk):=[some (Blk.mk [bkB n (.lst (boL x.cl)) (lI x.bw) (lI x.pe) (.lst (x.tk.map tsA)) (.lst (x.us.map usA))] 13 true true none)]
def bkO(n:Aa)(x:LgD):List (Option Blk):=bkH n x.cl x.bw x.pe x.tk x.us x.tk.length x.us.length
theorem frzB{f:FuncId}{hin:List (Option Blk)}{args:List AV}{n:Aa}{x:LgD}{a b:Int}(h:CTX Uu f hin args (bkO n x) (.agg [.int .i64 a,.int .i64 b])):CTX Uu f hin args (bkF n x) (.agg [.int .i64 a,.int .i64 b]):=by
 refine⟨CTO.ren (st1:=⟨1,[(0,.agg [.int .i64 a,.int .i64 b])],bkF n x⟩) h.ct (by show 1<=3;omega) (fun b hb=>?_) (Ren.of [0] [1,2] [0] (p:=_) rfl ?_ rfl rfl rfl)⟩
 .match b,hb with
  | 0,_=>exact⟨_,rfl,rfl⟩
  | 1,_=>exact⟨_,rfl,rfl⟩
  | 2,_=>exact⟨_,rfl,rfl⟩
  | b+3,h=>exact absurd h (by show ¬(b+3<3);omega)
 .simp;exact⟨trivial,trivial,trivial⟩
abbrev MtQ:=Aa->LgD->CmD->LgD×Int×Int->Prop
def MtP(f:FuncId)(Q:MtQ):Prop:=∀n x c,LgV n x->∃p:LgD×Int×Int,(LgV n p.1/\Q n x c p)/\CTX Uu f (bkO n x) [.ptr 0 0 0,cmA c] (bkF n p.1) (.agg [.int .i64 p.2.1,.int .i64 p.2.2])
theorem MtP.fn{f:FuncId}{Q:MtQ}(h:MtP f Q):∃F:Aa->LgD->CmD->LgD×Int×Int,∀n x c,LgV n x->(LgV n (F n x c).1/\Q n x c (F n x c))/\CTX Uu f (bkO n x) [.ptr 0 0 0,cmA c] (bkF n (F n x c).1) (.agg [.int .i64 (F n x c).2.1,.int .i64 (F n x c).2.2]):=by
 have h':∀n x c,∃p:LgD×Int×Int,LgV n x->(LgV n p.1/\Q n x c p)/\CTX Uu f (bkO n x) [.ptr 0 0 0,cmA c] (bkF n p.1) (.agg [.int .i64 p.2.1,.int .i64 p.2.2]):=fun n x c=>by
  by_cases hV:LgV n x
  .obtain⟨p,hp⟩:=h n x c hV;exact⟨p,fun _=>hp⟩
  .exact⟨(x,0,0),fun q=>absurd q hV⟩
 exact⟨fun n x c=>Classical.choose (h' n x c),fun n x c=>T8 (h' n x c)⟩
def bkT(n:Aa)(p:LgD×Int×Int):Ret:=(bkO n p.1,.agg [.int .i64 p.2.1,.int .i64 p.2.2])
theorem B3{n:Aa}{Q:LgD×Int×Int->Prop}{σ:Type}{step:σ->Option (σ⊕Ret)}{y:LgD}(hV:LgV n y){a b:Int}(hQ:Q (y,a,b)){r:Ret}(h:r=(bkO n y,.agg [.int .i64 a,.int .i64 b])):∃p:{p:LgD×Int×Int // LgV n p.1/\Q p},Ac step (some (.inr r)) (bkT n p.1):=⟨⟨(y,a,b),hV,hQ⟩,by rw[h];exact .ret _⟩
theorem JD{n:Aa}{Q:LgD×Int×Int->Prop}{f:FuncId}{hin:List (Option Blk)}{args:List AV}{σ:Type}{step:σ->Option (σ⊕Ret)}{en:Option (σ⊕Ret)}(h:∀r,Ac step en r->CTX Uu f hin args r.1 r.2)
  (he:∃p:{p:LgD×Int×Int // LgV n p.1/\Q p},Ac step en (bkT n p.1)):∃p:LgD×Int×Int,(LgV n p.1/\Q p)/\CTX Uu f hin args (bkF n p.1) (.agg [.int .i64 p.2.1,.int .i64 p.2.2]):=by
 obtain⟨p,hp⟩:=he;exact⟨p.1,p.2,frzB (h _ hp)⟩
theorem aa_zero{tk:List TsD}{q:Int}(h:aaE tk q=0):aaB tk q=true:=by
 unfold aaE at h;cases hb:aaB tk q with
 | true=>rfl
 | false=>
  rw[hb] at h;cases hv:tvB tk with
  | false=>rw[hv] at h;cases h
  | true=>
   rw[hv] at h;cases hq:decide (q<1)||decide (8<q) with
   | true=>rw[hq] at h;cases h
   | false=>rw[hq] at h;cases h
def MqT:MtQ:=fun n x c p=>(p.2.1≠1/\p.1=x/\(c.a.toList≠c.b.toList->Cd n (Aw n c.a) false=true->Cd n (Aw n c.b) false=true->p.2.1=4\/p.2.1=2))\/(p.2.1=1/\p.2.2=x.tk.length/\∃t:TsD,t.s=0/\p.1=⟨x.cl,x.bw,x.pe,x.tk++[t],x.us⟩)
theorem P6{n:Aa}{q:Int}(h:Cd n q false=true):stB n q:=by
 unfold Cd at h;rw[TB,decide_eq_true_eq] at h;obtain⟨h0,h⟩:=h;cases hs:n.ss[q.toNat]? with
 | none=>rw[hs] at h;cases h
 | some s=>rw[hs] at h;exact⟨h0,s,hs,by simpa using h⟩
theorem tas_P:MtP 26 MqT:=fun n x c hV=>JD (tas_ct n x.cl x.bw x.pe x.tk x.us c) (by
 have hb:=hV.bd;unfold LN;refine Ah (by omega) (Am (fun h=>B3 hV (.inl ⟨by simp,rfl,fun e=>absurd (by simpa using h) e⟩) rfl) fun _=>Am (fun h=>B3 hV (.inl ⟨by simp,rfl,fun _ e=>by rw[e] at h;cases h⟩) rfl) fun h1=>Am (fun h=>B3 hV (.inl ⟨by simp,rfl,fun _ _ e=>by rw[e] at h;cases h⟩) rfl) fun h2=>?_);refine Ah hV.rw (Ah hV.nv (Ah hV.sg (Am (fun _=>B3 hV (.inl ⟨by simp,rfl,fun _ _ _=>.inl rfl⟩) rfl) fun _=>Am (fun _=>B3 hV (.inl ⟨by simp,rfl,fun _ _ _=>.inl rfl⟩) rfl) fun _=>Ah ?_ (Am (fun _=>B3 hV (.inl ⟨by simp,rfl,fun _ _ _=>.inr rfl⟩) rfl) fun he=>?_))))
 .intro blk hb;rw[Tj] at hb;subst hb;intro e he c hc;obtain⟨t,_,rfl⟩:=T1.1 he;rw[show (tsA t).cells=[.int .i64 t.p,.int .i64 t.d,.int .i64 t.s,.int .i64 t.q,.int .i64 t.ov] from rfl] at hc;simp only[TZ,List.not_mem_nil,or_false] at hc;rcases hc with rfl | rfl | rfl | rfl | rfl<;>rfl
 .have ha:=aa_zero (tk:=x.tk) (q:=n.q) (by simpa using he);have e1:aaL x.tk n.q (Aw n c.a) (Aw n c.b)=x.tk++[⟨Aw n c.a,Aw n c.b,0,-1,0⟩]:=by unfold aaL;rw[ha]
  have e2:aaN x.tk n.q=x.tk.length:=by unfold aaN;rw[ha]
  have hl:x.tk.length<32:=by unfold aaB at ha;simp only[TB,decide_eq_true_eq] at ha;exact ha.2
  rw[e1,e2];exact B3 (y:=⟨x.cl,x.bw,x.pe,x.tk++[⟨Aw n c.a,Aw n c.b,0,-1,0⟩],x.us⟩) (hV.tk (by simp only[TQ,T9];omega) (LA hV.tv ⟨by unfold TvP;simp,P6 (by simpa using h1),P6 (by simpa using h2)⟩)) (.inr ⟨rfl,rfl,_,rfl,rfl⟩) rfl)
def MqC:MtQ:=fun _ x c p=>(p.2.1≠1->p.1=x)/\∀t,0<=c.q->x.tk[c.q.toNat]?=some t->(3<=t.s->p.2=(11,0))/\(t.s<3->p.2=(1,0)/\∃t',p.1.tk[c.q.toNat]?=some t'/\t'.s=4)
theorem bit_f{tk:List TsD}{w:Int}(h:(!EF tk w)=false):0<=w/\w<(tk.length:Int):=by unfold EF at h;simpa using h
theorem bit_t{tk:List TsD}{w:Int}(h:(!EF tk w)=true):∀t,0<=w->¬tk[w.toNat]?=some t:=fun t h0 ht=>by have:=(Tv.1 ht).1;unfold EF at h;rw[Tz h0,Tz (show w<(tk.length:Int) by omega)] at h;cases h
theorem bcn_P:MtP 27 MqC:=fun n x c hV=>JD (bcn_ct n x.cl x.bw x.pe x.tk x.us c) (by
 have ht:=hV.tl;unfold Mx;refine Am (fun h=>B3 hV ⟨fun _=>rfl,fun t h0 h1=>absurd h1 (bit_t h t h0)⟩ rfl) fun h=>?_
 have hi:=bit_f h;refine Ah hi.1 (Ah (by simp only[iN];omega) (AY (by omega) fun y hy=>Cy (fun h3=>B3 hV ⟨fun _=>rfl,fun t h0 h1=>?_⟩ rfl) fun h3=>AY (by omega) fun z hz=>?_))
 .rw[TI] at hy hz;rw[hy] at hz;cases hz;have hm:=hV.tv y (Tx hy);refine B3 (a:=1) (b:=0) (y:=⟨x.cl,x.bw,x.pe,x.tk.set (0+c.q.toNat) ⟨y.p,y.d,4,y.q,y.ov⟩,x.us⟩) (hV.tk (by rw[T4];omega) (IH hV.tv ⟨?_,hm.2.1,hm.2.2⟩)) ⟨fun h=>absurd rfl h,fun t h0 h1=>?_⟩ ?_
  .have:=hm.1;unfold TvP at this ⊢;simp only;omega
  .simp only[bkO,bkH,Uj,T4];rfl
  .rw[hy] at h1;cases h1;refine⟨fun h=>absurd h h3,fun _=>⟨rfl,⟨y.p,y.d,4,y.q,y.ov⟩,?_,rfl⟩⟩;show(x.tk.set (0+c.q.toNat) _)[c.q.toNat]?=_;rw[TI,List.getElem?_set_self (by omega)]
 .rw[TI,h1] at hy;cases hy;exact⟨fun _=>rfl,fun h=>by omega⟩)
def MqS:MtQ:=fun _ x c p=>p.1=x/\∀t,0<=c.q->x.tk[c.q.toNat]?=some t->p.2=(12,t.s)
theorem bst_P:MtP 32 MqS:=fun n x c hV=>JD (bst_ct n x.cl x.bw x.pe x.tk x.us c) (by
 unfold Ob;refine Am (fun h=>B3 hV ⟨rfl,fun t h0 h1=>absurd h1 (bit_t h t h0)⟩ rfl) fun h=>?_
 have hi:=bit_f h;refine Ah hi.1 (Ah (by simp only[iN];omega) (AY (by omega) fun y hy=>B3 hV ⟨rfl,fun t h0 h1=>?_⟩ rfl));rw[TI,h1] at hy;cases hy;rfl)
def NB(n:Aa)(cl:List Bool)(bw pe:List Int)(tk:List TsD)(us:List UsD)(c:CmD):Option (Empty⊕Ret):=gu (n.bs.length<=1000) <|gu (RwV n) <|gu (Aq n) <|gu (BA n (Ak.mk cl bw pe)) <|br (decide (Ay n c.a<0)) (some (.inr (bkH n cl bw pe tk us tk.length us.length,AV.agg [iV 3,iV 0]))) (gu (0<=Ay n c.a) <|el (AB (Ak.mk cl bw pe)) ((Ay n c.a).toNat) fun(x22:Bool)=>br x22 (some (.inr (bkH n cl bw pe tk us tk.length us.length,AV.agg [iV 6,iV 0]))) (gu (us.length<=1000) <|br (!alO n (AB (Ak.mk cl bw pe)) (Ay n c.a) (cnF us)) (some (.inr (bkH n cl bw pe tk us tk.length us.length,AV.agg [iV 5,iV 0]))) (gu (0<=Ay n c.a/\Ay n c.a<iN n.bs.length) <|br ((AB (Ak.mk cl bw pe)).getD (Ay n c.a).toNat true) (none) (some (.inr ([some (Blk.mk [AV.agg [Ut (Un bA n.bs),Ut (gL n.nx),Ut (Un sA n.ss),Ut (Un iV n.rs),iV n.q,iV n.a,iV n.d,iV n.p,Ut (boL cl),Ut (Un iV bw),Ut (Un iV (pe++[Ay n c.a])),AV.sl 1 0 tk.length,AV.sl 2 0 us.length]] 13 false true none),some (bK (Un tsA tk) 5),some (bK (Un usA us) 13)],AV.agg [iV 1,iV 0]))))))
theorem bcl_ct(n:Aa)(cl:List Bool)(bw pe:List Int)(tk:List TsD)(us:List UsD)(c:CmD)(r:Ret)(h:Ac emT (NB n cl bw pe tk us c) r):CTX Uu 28 (bkH n cl bw pe tk us tk.length us.length) ([.ptr 0 0 0,cmA c]) r.1 r.2:=
 CTX.mach (fn:=Tryz.f28) (c:=zB Tryz.f28) (S:=emS) (hd:=emH) Tryz.func28 (by kernel_rfl) (nL rfl) (nL rfl)
  (fun s o ho=>match s,ho with
   | x,_=>x.elim)
  (fun o ho=>Scr.ok (X:=NB n cl bw pe tk us c) ho mix (
 .rn 0 [] [] [] [] (al (u2 t2)) <|
 .gu fun a0=>
 .gu fun a1=>
 .gu fun a2=>
 .gu fun a3=>
 have c0:=bbl_c n (cl) (bw) (pe) (tk) (us) (tk.length) (us.length) (c.a) a0;
 have c1:=Nk n (cl) (bw) (pe) (tk) (us) (tk.length) (us.length) a1 a2 a3;
 .rn 1 [] [] [(12,hK c0 [0,1,2] []),(14,hK c1 [0,1,2] [])] [] (aj (u2 (u2 (u2 (aj (ak (k3 (aj (al (k5 t9)) (k2 (al (c0)))))) (u2 (aj (k2 (aj (al (k5 t9)) (k2 (al (c1))))) (u2 s2))))))) (al (u2 (u2 s2)))) <|
 .br (fun a4=>
 .rt [31] [] [] [] [0,1,2] [] (aj (aj a4 (al (ak (al (k2 n11))))) (aj t3 (aj (al (k5 t9)) t3))))
 (fun a4=>
 .gu fun a5=>
 .el fun x22 a6=>
 .rn 0 [30] [(22,bV x22)] [] [] (aj a4 (al (u2 (u2 (aj (k2 (aj a5 (Af (f:=bV) a6))) (u2 s2)))))) <|
 .br (fun a7=>
  .rt [39] [] [] [] [0,1,2] [] (aj (aj a7 (al (ak (al (k2 n11))))) (aj t3 (aj (al (k5 t9)) t3))))
 (fun a7=>
  .gu fun a8=>
  have c2:=bc2_c n (cl) (bw) (pe) (tk) (us) (tk.length) (us.length) (show us.length=us.length from rfl) a8;
  have c3:=all_c (AB (Ak.mk cl bw pe)) (Ay n c.a) (cnF us) a1;
  .rn 1 [38] [] [(33,hK c2 [0,1,2] []),(34,hK c3 [] [])] [] (aj a7 (aj (u2 (u2 (u2 (u2 (u2 (u2 (u2 (aj (k3 (aj (al (k5 t9)) (k2 (al (c2))))) (aj (ak (k3 (aj t9 (k3 (al (c3)))))) (u2 (u2 (u2 (u2 s2))))))))))))) (al (u2 s2)))) <|
  .br (fun a9=>
  .rt [77] [] [] [] [0,1,2] [] (aj (aj a9 (al (ak (al (k2 n11))))) (aj t3 (aj (al (k5 t9)) t3))))
  (fun a9=>
  .gu fun a10=>
  .br (fun a11=>
   .no)
  (fun a11=>
   have c4:=an_v (cl) (bw) (pe) (Ay n c.a) a2 a1 a3 a10 a11;
   have c5:=OJ (0);
   .rt [76] [] [(52,hK c4 [] []),(58,hK c5 [] [])] [] [0,1,2] [] (aj (aj a9 (aj (u2 (u2 (u2 (u2 (u2 (u2 (u2 (u2 (u2 (u2 (u2 (aj (k3 (aj t9 (aj t4 (ak (al (c4)))))) (u2 (u2 (u2 (u2 (u2 (u2 (al t3))))))))))))))))))) (al (aj (ak (al (c5))) (al (k2 n11)))))) (aj t3 (aj (al (k5 t9)) t3)))))))) (by kernel_rfl)) h
def bflEn(n:Aa)(cl:List Bool)(bw pe:List Int)(tk:List TsD)(us:List UsD)(c:CmD):Option (Empty⊕Ret):=gu (us.length<=1000) <|some (.inr (bkH n cl bw pe tk us tk.length us.length,AV.agg [iV 12,iV (cnP us)]))
theorem bfl_ct(n:Aa)(cl:List Bool)(bw pe:List Int)(tk:List TsD)(us:List UsD)(c:CmD)(r:Ret)(h:Ac emT (bflEn n cl bw pe tk us c) r):CTX Uu 34 (bkH n cl bw pe tk us tk.length us.length) ([.ptr 0 0 0,cmA c]) r.1 r.2:=
 CTX.mach (fn:=Tryz.f34) (c:=zB Tryz.f34) (S:=emS) (hd:=emH) Tryz.func34 (by kernel_rfl) (nL rfl) (nL rfl)
  (fun s o ho=>match s,ho with
   | x,_=>x.elim)
  (fun o ho=>Scr.ok (X:=bflEn n cl bw pe tk us c) ho mix (
 .rn 0 [] [] [] [] (al (u2 t2)) <|
 .gu fun a0=>
 have c0:=bc1_c n (cl) (bw) (pe) (tk) (us) (tk.length) (us.length) (show us.length=us.length from rfl) a0;
 have c1:=isA_c (cnP us);
 .rt [] [] [(6,hK c0 [0,1,2] []),(7,hK c1 [] [])] [] [0,1,2] [] (aj (al (u2 (aj (k3 (aj (al (k5 t9)) (k2 (al (c0))))) (aj (k2 (al (c1))) (al (k2 n11)))))) (aj t3 (aj (al (k5 t9)) t3)))) (by kernel_rfl)) h
def MqL:MtQ:=fun n x c p=>(p.2.1≠1->p.1=x)/\(0<=Ay n c.a->(p.2.1=1↔(AB ⟨x.cl,x.bw,x.pe⟩).getD (Ay n c.a).toNat true=false/\alO n (AB ⟨x.cl,x.bw,x.pe⟩) (Ay n c.a) (cnF x.us)=true)/\(p.2.1=1->p.1.pe=x.pe++[Ay n c.a])/\((AB ⟨x.cl,x.bw,x.pe⟩).getD (Ay n c.a).toNat true=false->alO n (AB ⟨x.cl,x.bw,x.pe⟩) (Ay n c.a) (cnF x.us)=false->p.2=(5,0)))
theorem bcl_P:MtP 28 MqL:=fun n x c hV=>JD (bcl_ct n x.cl x.bw x.pe x.tk x.us c) (by
 have hb:=hV.bd;have hu:=hV.ul;have hS:=DT ⟨x.cl,x.bw,x.pe⟩;simp only at hS;unfold NB;refine Ah (by omega) (Ah hV.rw (Ah hV.nv (Ah hV.sg (Am (fun h=>B3 hV ⟨fun _=>rfl,fun h0=>by have:=of_decide_eq_true h;omega⟩ rfl) fun ha=>?_))));have ha:=M2 ha;refine Ah ha.1 (AY (by omega) fun y hy=>?_);have hg:(AB ⟨x.cl,x.bw,x.pe⟩).getD (Ay n c.a).toNat true=y:=by rw[Tu,hy];rfl
 refine Am (fun h=>B3 hV ⟨fun _=>rfl,fun h0=>⟨⟨fun e=>by simp at e,fun e=>by rw[hg,h] at e;cases e.1⟩,fun e=>by simp at e,fun e=>by rw[hg,h] at e;cases e⟩⟩ rfl) fun hy0=>Ah (by omega) (Am (fun h=>B3 hV ⟨fun _=>rfl,fun h0=>⟨⟨fun e=>by simp at e,fun e=>by rw[e.2] at h;cases h⟩,fun e=>by simp at e,fun _ _=>rfl⟩⟩ rfl) fun h=>Ah ⟨ha.1,by simp only[iN];omega⟩ ?_)
 rw[hg,hy0,Ad rfl];have hg2:=Pt hV.nv hV.sg (Ay n c.a).toNat;rw[hg,hy0,show(((Ay n c.a).toNat:Nat):Int)=Ay n c.a by omega] at hg2;have hg1:x.cl.getD (Ay n c.a).toNat true=false:=by cases hq:x.cl.getD (Ay n c.a).toNat true with | false=>rfl | true=>simp only at hg2;rw[hq] at hg2;cases hg2
 have hg3:Ay n c.a∉x.pe:=fun hm=>by simp only at hg2;rw[Ff.2 hm,Bool.or_true] at hg2;cases hg2
 exact B3 (y:=⟨x.cl,x.bw,x.pe++[Ay n c.a],x.tk,x.us⟩) (a:=1) (b:=0) (hV.sig (PH hV.sg ⟨ha.1,ha.2.1⟩ hg1 hg3)) ⟨fun e=>absurd rfl e,fun _=>⟨⟨fun _=>⟨by rw[hg];exact hy0,by simpa using h⟩,fun _=>rfl⟩,fun _=>rfl,fun _ e=>by rw[e] at h;cases h⟩⟩ rfl)
def MqF:MtQ:=fun _ x _ p=>p=(x,12,cnP x.us)
theorem bfl_P:MtP 34 MqF:=fun n x c hV=>JD (bfl_ct n x.cl x.bw x.pe x.tk x.us c) (Ah (by have:=hV.ul;omega) (B3 (Q:=MqF n x c) hV rfl rfl))
theorem lNw_c(n:Aa)(hv:Aq n)(hr:RwV n):CT Uu 18 [] [Aj n] [] (.tup [lgA ⟨(AN n).cl,(AN n).bw,(AN n).pe,[],neU n⟩,.int .i64 0]):=by
 have hnr:=hv.nr;refine CT.wkT (cs:=[.lst (boL (AN n).cl),lI (AN n).bw,lI (AN n).pe,.nils,.lst ((neU n).map usA)]) (lNw_ct n ([],_) ?_);unfold N8;rw[Ab hv,Ab hr];have key:∀(d i:Nat),i+d=n.rs.length->Ac (K9 n) (some (.inl (.l0 (i:Int) ((n.rs.take i).map fun c=>⟨1,false,plI n c⟩)))) (([],.tup [.agg [.lst (boL (AN n).cl),lI (AN n).bw,lI (AN n).pe,.nils,.lst ((neU n).map usA)],.int .i64 0]):Ret):=by
  intro d;induction d with
  | zero=>
   intro i hi;obtain rfl:i=n.rs.length:=by omega
   refine .to (show K9 n (.l0 (n.rs.length:Nat) _)=FV n (n.rs.length:Nat) _ from rfl) ?_;unfold FV;rw[AQ,List.take_length];exact .ret _
  | succ d ih=>
   intro i hi;have hx:n.rs[i]?=some n.rs[i]:=Tt (by omega);have e:(n.rs.take (i+1)).map (fun c=>(⟨1,false,plI n c⟩:UsD))=(n.rs.take i).map (fun c=>(⟨1,false,plI n c⟩:UsD))++[⟨1,false,plI n n.rs[i]⟩]:=by rw[List.take_add_one,hx,TG];rfl
   have:=ih (i+1) (by omega);rw[e] at this;have hl2:(Un usA ((n.rs.take i).map (fun c=>(⟨1,false,plI n c⟩:UsD)))).length<=i:=by simp only[Tw,TY];omega
   obtain⟨t,ht,hd,h3⟩:=(hv.rob i _ hx).1;obtain⟨j,hj⟩:=List.getElem?_of_mem (List.mem_of_mem_take ht);have g1:=hv.sb hj;have g2:=hv.ends hj;refine .to (show K9 n (.l0 (i:Nat) _)=FV n (i:Nat) _ from rfl) ?_;unfold FV;rw[AZ hx,Ab hr,Ab hv,Ab (by simp only[iN];omega),Ab (by simp only[T9];omega),Ab (by simp only[T9];omega),Bj i (by omega)];exact this
 exact key n.rs.length 0 (by omega)
@[irreducible] def Ax:Aa->LgD->CmD->LgD×Int×Int:=Classical.choose tas_P.fn
theorem tas_s(n:Aa)(x:LgD)(c:CmD)(hV:LgV n x):(LgV n (Ax n x c).1/\MqT n x c (Ax n x c))/\CTX Uu 26 (bkO n x) [.ptr 0 0 0,cmA c] (bkF n (Ax n x c).1) (.agg [.int .i64 (Ax n x c).2.1,.int .i64 (Ax n x c).2.2]):=by unfold Ax;exact T8 tas_P.fn n x c hV
theorem tas_c(n:Aa)(cl:List Bool)(bw pe:List Int)(tk:List TsD)(us:List UsD)(c:CmD)(n1 n2:Nat)(e1:n1=tk.length)(e2:n2=us.length)(hV:LgV n ⟨cl,bw,pe,tk,us⟩):CTX Uu 26 (bkH n cl bw pe tk us n1 n2) [.ptr 0 0 0,cmA c] (bkF n (Ax n ⟨cl,bw,pe,tk,us⟩ c).1) (.agg [.int .i64 (Ax n ⟨cl,bw,pe,tk,us⟩ c).2.1,.int .i64 (Ax n ⟨cl,bw,pe,tk,us⟩ c).2.2]):=by subst e1 e2;exact(tas_s n ⟨cl,bw,pe,tk,us⟩ c hV).2
@[irreducible] def AS:Aa->LgD->CmD->LgD×Int×Int:=Classical.choose bcn_P.fn
theorem OO(n:Aa)(x:LgD)(c:CmD)(hV:LgV n x):(LgV n (AS n x c).1/\MqC n x c (AS n x c))/\CTX Uu 27 (bkO n x) [.ptr 0 0 0,cmA c] (bkF n (AS n x c).1) (.agg [.int .i64 (AS n x c).2.1,.int .i64 (AS n x c).2.2]):=by unfold AS;exact T8 bcn_P.fn n x c hV
theorem bcn_c(n:Aa)(cl:List Bool)(bw pe:List Int)(tk:List TsD)(us:List UsD)(c:CmD)(n1 n2:Nat)(e1:n1=tk.length)(e2:n2=us.length)(hV:LgV n ⟨cl,bw,pe,tk,us⟩):CTX Uu 27 (bkH n cl bw pe tk us n1 n2) [.ptr 0 0 0,cmA c] (bkF n (AS n ⟨cl,bw,pe,tk,us⟩ c).1) (.agg [.int .i64 (AS n ⟨cl,bw,pe,tk,us⟩ c).2.1,.int .i64 (AS n ⟨cl,bw,pe,tk,us⟩ c).2.2]):=by subst e1 e2;exact(OO n ⟨cl,bw,pe,tk,us⟩ c hV).2
@[irreducible] def BT:Aa->LgD->CmD->LgD×Int×Int:=Classical.choose bcl_P.fn
theorem bcl_s(n:Aa)(x:LgD)(c:CmD)(hV:LgV n x):(LgV n (BT n x c).1/\MqL n x c (BT n x c))/\CTX Uu 28 (bkO n x) [.ptr 0 0 0,cmA c] (bkF n (BT n x c).1) (.agg [.int .i64 (BT n x c).2.1,.int .i64 (BT n x c).2.2]):=by unfold BT;exact T8 bcl_P.fn n x c hV
theorem bcl_c(n:Aa)(cl:List Bool)(bw pe:List Int)(tk:List TsD)(us:List UsD)(c:CmD)(n1 n2:Nat)(e1:n1=tk.length)(e2:n2=us.length)(hV:LgV n ⟨cl,bw,pe,tk,us⟩):CTX Uu 28 (bkH n cl bw pe tk us n1 n2) [.ptr 0 0 0,cmA c] (bkF n (BT n ⟨cl,bw,pe,tk,us⟩ c).1) (.agg [.int .i64 (BT n ⟨cl,bw,pe,tk,us⟩ c).2.1,.int .i64 (BT n ⟨cl,bw,pe,tk,us⟩ c).2.2]):=by subst e1 e2;exact(bcl_s n ⟨cl,bw,pe,tk,us⟩ c hV).2
@[irreducible] def Bt:Aa->LgD->CmD->LgD×Int×Int:=Classical.choose bst_P.fn
theorem NE(n:Aa)(x:LgD)(c:CmD)(hV:LgV n x):(LgV n (Bt n x c).1/\MqS n x c (Bt n x c))/\CTX Uu 32 (bkO n x) [.ptr 0 0 0,cmA c] (bkF n (Bt n x c).1) (.agg [.int .i64 (Bt n x c).2.1,.int .i64 (Bt n x c).2.2]):=by unfold Bt;exact T8 bst_P.fn n x c hV
theorem bst_c(n:Aa)(cl:List Bool)(bw pe:List Int)(tk:List TsD)(us:List UsD)(c:CmD)(n1 n2:Nat)(e1:n1=tk.length)(e2:n2=us.length)(hV:LgV n ⟨cl,bw,pe,tk,us⟩):CTX Uu 32 (bkH n cl bw pe tk us n1 n2) [.ptr 0 0 0,cmA c] (bkF n (Bt n ⟨cl,bw,pe,tk,us⟩ c).1) (.agg [.int .i64 (Bt n ⟨cl,bw,pe,tk,us⟩ c).2.1,.int .i64 (Bt n ⟨cl,bw,pe,tk,us⟩ c).2.2]):=by subst e1 e2;exact(NE n ⟨cl,bw,pe,tk,us⟩ c hV).2
@[irreducible] def BI:Aa->LgD->CmD->LgD×Int×Int:=Classical.choose bfl_P.fn
theorem bfl_s(n:Aa)(x:LgD)(c:CmD)(hV:LgV n x):(LgV n (BI n x c).1/\MqF n x c (BI n x c))/\CTX Uu 34 (bkO n x) [.ptr 0 0 0,cmA c] (bkF n (BI n x c).1) (.agg [.int .i64 (BI n x c).2.1,.int .i64 (BI n x c).2.2]):=by unfold BI;exact T8 bfl_P.fn n x c hV
theorem bfl_c(n:Aa)(cl:List Bool)(bw pe:List Int)(tk:List TsD)(us:List UsD)(c:CmD)(n1 n2:Nat)(e1:n1=tk.length)(e2:n2=us.length)(hV:LgV n ⟨cl,bw,pe,tk,us⟩):CTX Uu 34 (bkH n cl bw pe tk us n1 n2) [.ptr 0 0 0,cmA c] (bkF n (BI n ⟨cl,bw,pe,tk,us⟩ c).1) (.agg [.int .i64 (BI n ⟨cl,bw,pe,tk,us⟩ c).2.1,.int .i64 (BI n ⟨cl,bw,pe,tk,us⟩ c).2.2]):=by subst e1 e2;exact(bfl_s n ⟨cl,bw,pe,tk,us⟩ c hV).2
def ON(n:Aa)(cl:List Bool)(bw pe:List Int)(tk:List TsD)(us:List UsD)(u w:ByteArray)(q:Int):Option (Empty⊕Ret):=gu (LgV n (LgD.mk cl bw pe tk us)) <|some (.inr ([],AV.tup [AV.agg [Ut (boL (Ax n (LgD.mk cl bw pe tk us) (CmD.mk 1 u w q)).fst.cl),Ut (Un iV (Ax n (LgD.mk cl bw pe tk us) (CmD.mk 1 u w q)).fst.bw),Ut (Un iV (Ax n (LgD.mk cl bw pe tk us) (CmD.mk 1 u w q)).fst.pe),Ut (Un tsA (Ax n (LgD.mk cl bw pe tk us) (CmD.mk 1 u w q)).fst.tk),Ut (Un usA (Ax n (LgD.mk cl bw pe tk us) (CmD.mk 1 u w q)).fst.us)],AV.agg [iV (Ax n (LgD.mk cl bw pe tk us) (CmD.mk 1 u w q)).snd.fst,iV (Ax n (LgD.mk cl bw pe tk us) (CmD.mk 1 u w q)).snd.snd],iV 0]))
theorem cm1_ct(n:Aa)(cl:List Bool)(bw pe:List Int)(tk:List TsD)(us:List UsD)(u w:ByteArray)(q:Int)(r:Ret)(h:Ac emT (ON n cl bw pe tk us u w q) r):CT Uu 9 ([]) ([Aj n,lgA ⟨cl,bw,pe,tk,us⟩,cmA ⟨1,u,w,q⟩]) r.1 r.2:=
 CT.mach (fn:=Tryz.f9) (c:=zB Tryz.f9) (S:=emS) (hd:=emH) Tryz.func9 (by kernel_rfl) (nL rfl)
  (fun s o ho=>match s,ho with
   | x,_=>x.elim)
  (fun o ho=>Scr.ok (X:=ON n cl bw pe tk us u w q) ho mix (
 .rn 0 [] [] [] [] (al (u2 (u2 (u2 t4)))) <|
 .gu fun a0=>
 have c0:=I7 n (cl) (bw) (pe) (tk) (us) a0;
 have c1:=tas_c n (cl) (bw) (pe) (tk) (us) (CmD.mk 1 (CmD.mk 1 u w q).a (CmD.mk 1 u w q).b q) (tk.length) (us.length) (show tk.length=tk.length from rfl) (show us.length=us.length from rfl) a0;
 .rt [] [] [(18,hK c0 [] []),(45,hKO c1 [5,6,7] [])] [] [] [] (aj (aj (u2 (u2 (aj (k2 (aj t9 (aj t6 (al (c0))))) (u2 (u2 (u2 (u2 s2))))))) (aj (u2 s2) (ak (aj (ak (u2 (u2 (u2 (u2 (u2 (u2 (u2 (u2 (u2 (u2 (u2 s2)))))))))))) (aj (u2 (u2 (u2 (aj t3 (u2 (u2 (u2 (u2 s2)))))))) (aj (u2 s2) (ak (aj (u2 (u2 (u2 (aj (ak (k3 (aj t5 (aj (al (k5 t9)) (k2 (c1)))))) (ak (al (k2 n11))))))) (al (u2 (u2 (u2 (u2 (u2 (aj (k2 n11) (aj (k2 n11) t2)))))))))))))))) (al (aj t6 (aj t3 t2))))) (by kernel_rfl)) h
def Om(n:Aa)(cl:List Bool)(bw pe:List Int)(tk:List TsD)(us:List UsD)(u w:ByteArray)(q:Int):Option (Empty⊕Ret):=gu (LgV n (LgD.mk cl bw pe tk us)) <|some (.inr ([],AV.tup [AV.agg [Ut (boL (AS n (LgD.mk cl bw pe tk us) (CmD.mk 2 u w q)).fst.cl),Ut (Un iV (AS n (LgD.mk cl bw pe tk us) (CmD.mk 2 u w q)).fst.bw),Ut (Un iV (AS n (LgD.mk cl bw pe tk us) (CmD.mk 2 u w q)).fst.pe),Ut (Un tsA (AS n (LgD.mk cl bw pe tk us) (CmD.mk 2 u w q)).fst.tk),Ut (Un usA (AS n (LgD.mk cl bw pe tk us) (CmD.mk 2 u w q)).fst.us)],AV.agg [iV (AS n (LgD.mk cl bw pe tk us) (CmD.mk 2 u w q)).snd.fst,iV (AS n (LgD.mk cl bw pe tk us) (CmD.mk 2 u w q)).snd.snd],iV 0]))
theorem cm2_ct(n:Aa)(cl:List Bool)(bw pe:List Int)(tk:List TsD)(us:List UsD)(u w:ByteArray)(q:Int)(r:Ret)(h:Ac emT (Om n cl bw pe tk us u w q) r):CT Uu 9 ([]) ([Aj n,lgA ⟨cl,bw,pe,tk,us⟩,cmA ⟨2,u,w,q⟩]) r.1 r.2:=
 CT.mach (fn:=Tryz.f9) (c:=zB Tryz.f9) (S:=emS) (hd:=emH) Tryz.func9 (by kernel_rfl) (nL rfl)
  (fun s o ho=>match s,ho with
   | x,_=>x.elim)
  (fun o ho=>Scr.ok (X:=Om n cl bw pe tk us u w q) ho mix (
 .rn 0 [] [] [] [] (al (u2 (u2 (u2 t4)))) <|
 .gu fun a0=>
 have c0:=I7 n (cl) (bw) (pe) (tk) (us) a0;
 have c1:=bcn_c n (cl) (bw) (pe) (tk) (us) (CmD.mk 2 (CmD.mk 2 u w q).a (CmD.mk 2 u w q).b q) (tk.length) (us.length) (show tk.length=tk.length from rfl) (show us.length=us.length from rfl) a0;
 .rt [] [] [(18,hK c0 [] []),(45,hKO c1 [5,6,7] [])] [] [] [] (aj (aj (u2 (u2 (aj (k2 (aj t9 (aj t6 (al (c0))))) (u2 (u2 (u2 (u2 s2))))))) (aj (u2 s2) (ak (aj (ak (u2 (u2 (u2 (u2 (u2 (u2 (u2 (u2 (u2 (u2 (u2 s2)))))))))))) (aj (u2 (u2 (u2 (aj t3 (u2 (u2 (u2 (u2 s2)))))))) (aj (u2 s2) (ak (aj (u2 (u2 (u2 (aj (ak (k3 (aj t5 (aj (al (k5 t9)) (k2 (c1)))))) (ak (al (k2 n11))))))) (al (u2 (u2 (u2 (u2 (u2 (aj (k2 n11) (aj (k2 n11) t2)))))))))))))))) (al (aj t6 (aj t3 t2))))) (by kernel_rfl)) h
def MZ(n:Aa)(cl:List Bool)(bw pe:List Int)(tk:List TsD)(us:List UsD)(u w:ByteArray)(q:Int):Option (Empty⊕Ret):=gu (LgV n (LgD.mk cl bw pe tk us)) <|some (.inr ([],AV.tup [AV.agg [Ut (boL (BT n (LgD.mk cl bw pe tk us) (CmD.mk 3 u w q)).fst.cl),Ut (Un iV (BT n (LgD.mk cl bw pe tk us) (CmD.mk 3 u w q)).fst.bw),Ut (Un iV (BT n (LgD.mk cl bw pe tk us) (CmD.mk 3 u w q)).fst.pe),Ut (Un tsA (BT n (LgD.mk cl bw pe tk us) (CmD.mk 3 u w q)).fst.tk),Ut (Un usA (BT n (LgD.mk cl bw pe tk us) (CmD.mk 3 u w q)).fst.us)],AV.agg [iV (BT n (LgD.mk cl bw pe tk us) (CmD.mk 3 u w q)).snd.fst,iV (BT n (LgD.mk cl bw pe tk us) (CmD.mk 3 u w q)).snd.snd],iV 0]))
theorem cm3_ct(n:Aa)(cl:List Bool)(bw pe:List Int)(tk:List TsD)(us:List UsD)(u w:ByteArray)(q:Int)(r:Ret)(h:Ac emT (MZ n cl bw pe tk us u w q) r):CT Uu 9 ([]) ([Aj n,lgA ⟨cl,bw,pe,tk,us⟩,cmA ⟨3,u,w,q⟩]) r.1 r.2:=
 CT.mach (fn:=Tryz.f9) (c:=zB Tryz.f9) (S:=emS) (hd:=emH) Tryz.func9 (by kernel_rfl) (nL rfl)
  (fun s o ho=>match s,ho with
   | x,_=>x.elim)
  (fun o ho=>Scr.ok (X:=MZ n cl bw pe tk us u w q) ho mix (
 .rn 0 [] [] [] [] (al (u2 (u2 (u2 t4)))) <|
 .gu fun a0=>
 have c0:=I7 n (cl) (bw) (pe) (tk) (us) a0;
 have c1:=bcl_c n (cl) (bw) (pe) (tk) (us) (CmD.mk 3 (CmD.mk 3 u w q).a (CmD.mk 3 u w q).b q) (tk.length) (us.length) (show tk.length=tk.length from rfl) (show us.length=us.length from rfl) a0;
 .rt [] [] [(18,hK c0 [] []),(45,hKO c1 [5,6,7] [])] [] [] [] (aj (aj (u2 (u2 (aj (k2 (aj t9 (aj t6 (al (c0))))) (u2 (u2 (u2 (u2 s2))))))) (aj (u2 s2) (ak (aj (ak (u2 (u2 (u2 (u2 (u2 (u2 (u2 (u2 (u2 (u2 (u2 s2)))))))))))) (aj (u2 (u2 (u2 (aj t3 (u2 (u2 (u2 (u2 s2)))))))) (aj (u2 s2) (ak (aj (u2 (u2 (u2 (aj (ak (k3 (aj t5 (aj (al (k5 t9)) (k2 (c1)))))) (ak (al (k2 n11))))))) (al (u2 (u2 (u2 (u2 (u2 (aj (k2 n11) (aj (k2 n11) t2)))))))))))))))) (al (aj t6 (aj t3 t2))))) (by kernel_rfl)) h
def Mn(n:Aa)(cl:List Bool)(bw pe:List Int)(tk:List TsD)(us:List UsD)(u w:ByteArray)(q:Int):Option (Empty⊕Ret):=gu (LgV n (LgD.mk cl bw pe tk us)) <|some (.inr ([],AV.tup [AV.agg [Ut (boL (Bt n (LgD.mk cl bw pe tk us) (CmD.mk 7 u w q)).fst.cl),Ut (Un iV (Bt n (LgD.mk cl bw pe tk us) (CmD.mk 7 u w q)).fst.bw),Ut (Un iV (Bt n (LgD.mk cl bw pe tk us) (CmD.mk 7 u w q)).fst.pe),Ut (Un tsA (Bt n (LgD.mk cl bw pe tk us) (CmD.mk 7 u w q)).fst.tk),Ut (Un usA (Bt n (LgD.mk cl bw pe tk us) (CmD.mk 7 u w q)).fst.us)],AV.agg [iV (Bt n (LgD.mk cl bw pe tk us) (CmD.mk 7 u w q)).snd.fst,iV (Bt n (LgD.mk cl bw pe tk us) (CmD.mk 7 u w q)).snd.snd],iV 0]))
theorem cm7_ct(n:Aa)(cl:List Bool)(bw pe:List Int)(tk:List TsD)(us:List UsD)(u w:ByteArray)(q:Int)(r:Ret)(h:Ac emT (Mn n cl bw pe tk us u w q) r):CT Uu 9 ([]) ([Aj n,lgA ⟨cl,bw,pe,tk,us⟩,cmA ⟨7,u,w,q⟩]) r.1 r.2:=
 CT.mach (fn:=Tryz.f9) (c:=zB Tryz.f9) (S:=emS) (hd:=emH) Tryz.func9 (by kernel_rfl) (nL rfl)
  (fun s o ho=>match s,ho with
   | x,_=>x.elim)
  (fun o ho=>Scr.ok (X:=Mn n cl bw pe tk us u w q) ho mix (
 .rn 0 [] [] [] [] (al (u2 (u2 (u2 t4)))) <|
 .gu fun a0=>
 have c0:=I7 n (cl) (bw) (pe) (tk) (us) a0;
 have c1:=bst_c n (cl) (bw) (pe) (tk) (us) (CmD.mk 7 (CmD.mk 7 u w q).a (CmD.mk 7 u w q).b q) (tk.length) (us.length) (show tk.length=tk.length from rfl) (show us.length=us.length from rfl) a0;
 .rt [] [] [(18,hK c0 [] []),(45,hKO c1 [5,6,7] [])] [] [] [] (aj (aj (u2 (u2 (aj (k2 (aj t9 (aj t6 (al (c0))))) (u2 (u2 (u2 (u2 s2))))))) (aj (u2 s2) (ak (aj (ak (u2 (u2 (u2 (u2 (u2 (u2 (u2 (u2 (u2 (u2 (u2 s2)))))))))))) (aj (u2 (u2 (u2 (aj t3 (u2 (u2 (u2 (u2 s2)))))))) (aj (u2 s2) (ak (aj (u2 (u2 (u2 (aj (ak (k3 (aj t5 (aj (al (k5 t9)) (k2 (c1)))))) (ak (al (k2 n11))))))) (al (u2 (u2 (u2 (u2 (u2 (aj (k2 n11) (aj (k2 n11) t2)))))))))))))))) (al (aj t6 (aj t3 t2))))) (by kernel_rfl)) h
def Lt(n:Aa)(cl:List Bool)(bw pe:List Int)(tk:List TsD)(us:List UsD)(u w:ByteArray)(q:Int):Option (Empty⊕Ret):=gu (LgV n (LgD.mk cl bw pe tk us)) <|some (.inr ([],AV.tup [AV.agg [Ut (boL (BI n (LgD.mk cl bw pe tk us) (CmD.mk 9 u w q)).fst.cl),Ut (Un iV (BI n (LgD.mk cl bw pe tk us) (CmD.mk 9 u w q)).fst.bw),Ut (Un iV (BI n (LgD.mk cl bw pe tk us) (CmD.mk 9 u w q)).fst.pe),Ut (Un tsA (BI n (LgD.mk cl bw pe tk us) (CmD.mk 9 u w q)).fst.tk),Ut (Un usA (BI n (LgD.mk cl bw pe tk us) (CmD.mk 9 u w q)).fst.us)],AV.agg [iV (BI n (LgD.mk cl bw pe tk us) (CmD.mk 9 u w q)).snd.fst,iV (BI n (LgD.mk cl bw pe tk us) (CmD.mk 9 u w q)).snd.snd],iV 0]))
theorem cm9_ct(n:Aa)(cl:List Bool)(bw pe:List Int)(tk:List TsD)(us:List UsD)(u w:ByteArray)(q:Int)(r:Ret)(h:Ac emT (Lt n cl bw pe tk us u w q) r):CT Uu 9 ([]) ([Aj n,lgA ⟨cl,bw,pe,tk,us⟩,cmA ⟨9,u,w,q⟩]) r.1 r.2:=
 CT.mach (fn:=Tryz.f9) (c:=zB Tryz.f9) (S:=emS) (hd:=emH) Tryz.func9 (by kernel_rfl) (nL rfl)
  (fun s o ho=>match s,ho with
   | x,_=>x.elim)
  (fun o ho=>Scr.ok (X:=Lt n cl bw pe tk us u w q) ho mix (
 .rn 0 [] [] [] [] (al (u2 (u2 (u2 t4)))) <|
 .gu fun a0=>
 have c0:=I7 n (cl) (bw) (pe) (tk) (us) a0;
 have c1:=bfl_c n (cl) (bw) (pe) (tk) (us) (CmD.mk 9 (CmD.mk 9 u w q).a (CmD.mk 9 u w q).b q) (tk.length) (us.length) (show tk.length=tk.length from rfl) (show us.length=us.length from rfl) a0;
 .rt [] [] [(18,hK c0 [] []),(45,hKO c1 [5,6,7] [])] [] [] [] (aj (aj (u2 (u2 (aj (k2 (aj t9 (aj t6 (al (c0))))) (u2 (u2 (u2 (u2 s2))))))) (aj (u2 s2) (ak (aj (ak (u2 (u2 (u2 (u2 (u2 (u2 (u2 (u2 (u2 (u2 (u2 s2)))))))))))) (aj (u2 (u2 (u2 (aj t3 (u2 (u2 (u2 (u2 s2)))))))) (aj (u2 s2) (ak (aj (u2 (u2 (u2 (aj (ak (k3 (aj t5 (aj (al (k5 t9)) (k2 (c1)))))) (ak (al (k2 n11))))))) (al (u2 (u2 (u2 (u2 (u2 (aj (k2 n11) (aj (k2 n11) t2)))))))))))))))) (al (aj t6 (aj t3 t2))))) (by kernel_rfl)) h
def KT:Option (Empty⊕Ret):=some (.inr ([],AV.agg [Ut [AV.agg [AV.str (ByteArray.mk #[97]),iV 0,iV 0],AV.agg [AV.str (ByteArray.mk #[98]),iV 0,iV 0]],Ut [Ut [iV 1],Ut [iV 0]],Ut [AV.agg [AV.str (ByteArray.mk #[100]),bV true,iV 0,iV 1,iV 2,iV 2]],Ut [iV 3],iV 4,iV 2,iV 1,iV 8]))
theorem exm_ct(r:Ret)(h:Ac emT (KT) r):CT Uu 19 ([]) ([]) r.1 r.2:=
 CT.mach (fn:=Tryz.f19) (c:=zB Tryz.f19) (S:=emS) (hd:=emH) Tryz.func19 (by kernel_rfl) (nL rfl)
  (fun s o ho=>match s,ho with
   | x,_=>x.elim)
  (fun o ho=>Scr.ok (X:=KT) ho mix (
 .rt [] [(3,Ut []),(4,Ut []),(5,Ut []),(6,Ut []),(8,Ut []),(9,Ut [])] [] [] [] [] (aj (u2 (al (k2 (aj t3 (k2 (aj t3 (ak (u2 (k2 (aj t6 (al (k2 n11)))))))))))) (al t9))) (by kernel_rfl)) h
theorem cm1_c(n:Aa)(cl:List Bool)(bw pe:List Int)(tk:List TsD)(us:List UsD)(u w:ByteArray)(q:Int)(hV:LgV n ⟨cl,bw,pe,tk,us⟩):CT Uu 9 [] [Aj n,lgA ⟨cl,bw,pe,tk,us⟩,cmA ⟨1,u,w,q⟩] [] (.tup [lgA (Ax n ⟨cl,bw,pe,tk,us⟩ ⟨1,u,w,q⟩).1,.agg [.int .i64 (Ax n ⟨cl,bw,pe,tk,us⟩ ⟨1,u,w,q⟩).2.1,.int .i64 (Ax n ⟨cl,bw,pe,tk,us⟩ ⟨1,u,w,q⟩).2.2],.int .i64 0]):=cm1_ct n cl bw pe tk us u w q ([],_) (.val (by unfold ON;rw[Ab hV];rfl))
theorem cm2_c(n:Aa)(cl:List Bool)(bw pe:List Int)(tk:List TsD)(us:List UsD)(u w:ByteArray)(q:Int)(hV:LgV n ⟨cl,bw,pe,tk,us⟩):CT Uu 9 [] [Aj n,lgA ⟨cl,bw,pe,tk,us⟩,cmA ⟨2,u,w,q⟩] [] (.tup [lgA (AS n ⟨cl,bw,pe,tk,us⟩ ⟨2,u,w,q⟩).1,.agg [.int .i64 (AS n ⟨cl,bw,pe,tk,us⟩ ⟨2,u,w,q⟩).2.1,.int .i64 (AS n ⟨cl,bw,pe,tk,us⟩ ⟨2,u,w,q⟩).2.2],.int .i64 0]):=cm2_ct n cl bw pe tk us u w q ([],_) (.val (by unfold Om;rw[Ab hV];rfl))
theorem cm3_c(n:Aa)(cl:List Bool)(bw pe:List Int)(tk:List TsD)(us:List UsD)(u w:ByteArray)(q:Int)(hV:LgV n ⟨cl,bw,pe,tk,us⟩):CT Uu 9 [] [Aj n,lgA ⟨cl,bw,pe,tk,us⟩,cmA ⟨3,u,w,q⟩] [] (.tup [lgA (BT n ⟨cl,bw,pe,tk,us⟩ ⟨3,u,w,q⟩).1,.agg [.int .i64 (BT n ⟨cl,bw,pe,tk,us⟩ ⟨3,u,w,q⟩).2.1,.int .i64 (BT n ⟨cl,bw,pe,tk,us⟩ ⟨3,u,w,q⟩).2.2],.int .i64 0]):=cm3_ct n cl bw pe tk us u w q ([],_) (.val (by unfold MZ;rw[Ab hV];rfl))
theorem cm7_c(n:Aa)(cl:List Bool)(bw pe:List Int)(tk:List TsD)(us:List UsD)(u w:ByteArray)(q:Int)(hV:LgV n ⟨cl,bw,pe,tk,us⟩):CT Uu 9 [] [Aj n,lgA ⟨cl,bw,pe,tk,us⟩,cmA ⟨7,u,w,q⟩] [] (.tup [lgA (Bt n ⟨cl,bw,pe,tk,us⟩ ⟨7,u,w,q⟩).1,.agg [.int .i64 (Bt n ⟨cl,bw,pe,tk,us⟩ ⟨7,u,w,q⟩).2.1,.int .i64 (Bt n ⟨cl,bw,pe,tk,us⟩ ⟨7,u,w,q⟩).2.2],.int .i64 0]):=cm7_ct n cl bw pe tk us u w q ([],_) (.val (by unfold Mn;rw[Ab hV];rfl))
theorem cm9_c(n:Aa)(cl:List Bool)(bw pe:List Int)(tk:List TsD)(us:List UsD)(u w:ByteArray)(q:Int)(hV:LgV n ⟨cl,bw,pe,tk,us⟩):CT Uu 9 [] [Aj n,lgA ⟨cl,bw,pe,tk,us⟩,cmA ⟨9,u,w,q⟩] [] (.tup [lgA (BI n ⟨cl,bw,pe,tk,us⟩ ⟨9,u,w,q⟩).1,.agg [.int .i64 (BI n ⟨cl,bw,pe,tk,us⟩ ⟨9,u,w,q⟩).2.1,.int .i64 (BI n ⟨cl,bw,pe,tk,us⟩ ⟨9,u,w,q⟩).2.2],.int .i64 0]):=cm9_ct n cl bw pe tk us u w q ([],_) (.val (by unfold Lt;rw[Ab hV];rfl))
theorem P5:∃n:Aa,n=⟨[⟨⟨#[97]⟩,0,0⟩,⟨⟨#[98]⟩,0,0⟩],[[1],[0]],[⟨⟨#[100]⟩,true,0,1,2,2⟩],[3],4,2,1,8⟩:=⟨_,rfl⟩
@[irreducible] def exN:Aa:=Classical.choose P5
theorem El:exN=⟨[⟨⟨#[97]⟩,0,0⟩,⟨⟨#[98]⟩,0,0⟩],[[1],[0]],[⟨⟨#[100]⟩,true,0,1,2,2⟩],[3],4,2,1,8⟩:=by unfold exN;exact T8 P5
theorem My:CT Uu 19 [] [] [] (Aj exN):=by rw[El];exact exm_ct _ (.val (show KT=some (.inr _) by unfold KT;exact rfl))
theorem Qb:Rows exN.nx:=by
 rw[El];intro v hv;match v,hv with
 | 0,_=>decide
 | 1,_=>decide
 | v+2,hv=>simp at hv;try omega
theorem Jk:Aq exN:=by
 rw[El];refine⟨by decide +kernel,rfl,by decide,by decide,by decide +kernel,?_,?_,?_,?_,?_⟩
 .intro i b h;match i,h with
  | 0,h=>cases h;exact⟨by decide +kernel,by decide +kernel,by decide +kernel,by decide +kernel⟩
  | 1,h=>cases h;exact⟨by decide +kernel,by decide +kernel,by decide +kernel,by decide +kernel⟩
  | i+2,h=>simp at h
 .intro i s h;match i,h with
  | 0,h=>cases h;exact⟨by decide +kernel,by decide +kernel,by decide +kernel,by decide +kernel,by decide +kernel⟩
  | i+1,h=>simp at h
 .decide +kernel
 .exact⟨2,⟨⟨#[100]⟩,true,0,1,2,2⟩,by simp,rfl,by decide,by decide⟩
 .intro i c h;match i,h with
  | 0,h=>cases h;exact⟨⟨⟨⟨#[100]⟩,true,0,1,2,2⟩,by simp,rfl,by decide,by decide⟩,by simp⟩
  | i+1,h=>simp at h
theorem QS:∃x:LgD,x=⟨(AN exN).cl,(AN exN).bw,(AN exN).pe,[],neU exN⟩:=⟨_,rfl⟩
@[irreducible] def exL:LgD:=Classical.choose QS
theorem JV:exL=⟨(AN exN).cl,(AN exN).bw,(AN exN).pe,[],neU exN⟩:=by unfold exL;exact T8 QS
theorem Ke:LgV exN exL:=JV ▸ neV Jk ⟨Jk,Qb⟩
theorem lNw_k:CT Uu 18 [] [Aj exN] [] (.tup [lgA exL,.int .i64 0]):=by rw[JV];exact lNw_c exN Jk ⟨Jk,Qb⟩
theorem ex_cn:cnF exL.us=1/\cnP exL.us=1:=by rw[JV,NK,LW];unfold neU Bk;rw[El];exact⟨rfl,rfl⟩
theorem ex_b:Ay exN ⟨#[98]⟩=1:=by unfold Ay;rw[El];decide +kernel
theorem QC:Ao exN=4:=by rw[El];decide +kernel
theorem ex_sh:AB ⟨exL.cl,exL.bw,exL.pe⟩=[false,false,false,false]:=by rw[JV];show List.replicate (Ao exN) false=_;rw[QC];rfl
theorem ex_al:alO exN [false,false,false,false] 1 1=false:=by
 have h:=Mc (n:=exN) (sh:=[false,false,false,false]) (bk:=1) (fl:=1) (MP Jk (by rw[QC];rfl) (by omega)) (by rw[El];decide);rw[h.2];unfold alB caB;have h2:decide ((1:Int)<=slS exN (wth [false,false,false,false] 1))=false:=by rw[El];decide +kernel
 rw[h2,Bool.and_false,Bool.and_false]
theorem cm3_k:CT Uu 9 [] [Aj exN,lgA exL,cmA ⟨3,⟨#[98]⟩,⟨#[]⟩,0⟩] [] (.tup [lgA exL,.agg [.int .i64 5,.int .i64 0],.int .i64 0]):=by have h:=cm3_c exN exL.cl exL.bw exL.pe exL.tk exL.us ⟨#[98]⟩ ⟨#[]⟩ 0 Ke;have k:=(bcl_s exN exL ⟨3,⟨#[98]⟩,⟨#[]⟩,0⟩ Ke).1.2;unfold MqL at k;simp only at k;rw[ex_b,ex_sh,ex_cn.1] at k;have k2:=(k.2 (by decide)).2.2 rfl ex_al;have k1:=k.1 (by rw[k2];decide);rw[k2,k1] at h;exact h
theorem cm9_k:CT Uu 9 [] [Aj exN,lgA exL,cmA ⟨9,⟨#[]⟩,⟨#[]⟩,0⟩] [] (.tup [lgA exL,.agg [.int .i64 12,.int .i64 1],.int .i64 0]):=by have h:=cm9_c exN exL.cl exL.bw exL.pe exL.tk exL.us ⟨#[]⟩ ⟨#[]⟩ 0 Ke;have k:BI exN exL ⟨9,⟨#[]⟩,⟨#[]⟩,0⟩=(exL,12,cnP exL.us):=(bfl_s exN exL ⟨9,⟨#[]⟩,⟨#[]⟩,0⟩ Ke).1.2;rw[k,ex_cn.2] at h;exact h
def knoEn:Option (Empty⊕Ret):=some (.inr ([],bV true))
theorem kno_ct(r:Ret)(h:Ac emT (knoEn) r):CT Uu 7 ([]) ([]) r.1 r.2:=
 CT.mach (fn:=Tryz.f7) (c:=zB Tryz.f7) (S:=emS) (hd:=emH) Tryz.func7 (by kernel_rfl) (nL rfl)
  (fun s o ho=>match s,ho with
   | x,_=>x.elim)
  (fun o ho=>Scr.ok (X:=knoEn) ho mix (
 have c0:=My;
 have c1:=lNw_k;
 have c2:=My;
 have c3:=cm3_k;
 have c4:=My;
 have c5:=cm9_k;
 .rt [] [] [(10,hK c0 [] []),(11,hK c1 [] []),(15,hK c2 [] []),(18,hK c3 [] []),(23,hK c4 [] []),(26,hK c5 [] [])] [] [] [] (aj (u2 (aj (aj (al (c0)) (aj (ak (aj t9 (al (c1)))) (u2 (u2 (u2 (ak (aj (k2 n11) s2))))))) (aj (aj (al (c2)) (u2 (ak (aj (k3 (aj t9 (aj t6 (aj t5 (al (c3)))))) (u2 (u2 (u2 (u2 (k2 (aj (k2 n11) (aj (k2 n11) s2))))))))))) (aj (aj (al (c4)) (u2 (ak (aj (k3 (aj t9 (aj t6 (aj t5 (al (c5)))))) (u2 (u2 (u2 (u2 (k2 (aj (k2 n11) (aj (k2 n11) s2))))))))))) (al (u2 (u2 (u2 (aj t3 (aj t3 (aj t3 (u2 (aj t3 (aj t3 (aj t3 (u2 (aj t3 (u2 (aj t4 (aj t3 (u2 (aj t3 (u2 (aj t4 (aj t3 s2))))))))))))))))))))))))) t2)) (by kernel_rfl)) h
theorem kno_c:CT Uu 7 [] [] [] (.bool true):=kno_ct _ (.val rfl)
def LS(ls:List Int):Option (Empty⊕Ret):=el ((Ai ls 0 6).ss) (Int.toNat 1) fun(x35:Au)=>el ((Ai ls 0 6).ss) (Int.toNat 2) fun(x40:Au)=>gu (LgV (Ai ls 0 6) (liL ls 0 10)) <|br ((Ax (Ai ls 0 6) (liL ls 0 10) (CmD.mk 1 x35.nm x40.nm 0)).snd.fst != 1) (br ((Ax (Ai ls 0 6) (liL ls 0 10) (CmD.mk 1 x35.nm x40.nm 0)).snd.fst==4) (some (.inr ([],bV true))) (some (.inr ([],bV ((Ax (Ai ls 0 6) (liL ls 0 10) (CmD.mk 1 x35.nm x40.nm 0)).snd.fst==2))))) (gu (LgV (Ai ls 0 6) (Ax (Ai ls 0 6) (liL ls 0 10) (CmD.mk 1 x35.nm x40.nm 0)).1) <|gu (LgV (Ai ls 0 6) (AS (Ai ls 0 6) (Ax (Ai ls 0 6) (liL ls 0 10) (CmD.mk 1 x35.nm x40.nm 0)).1 (CmD.mk 2 (ByteArray.mk #[]) (ByteArray.mk #[]) (Ax (Ai ls 0 6) (liL ls 0 10) (CmD.mk 1 x35.nm x40.nm 0)).snd.snd)).1) <|br ((Ax (Ai ls 0 6) (liL ls 0 10) (CmD.mk 1 x35.nm x40.nm 0)).snd.snd==iN (Un tsA (liL ls 0 10).tk).length) (br ((Bt (Ai ls 0 6) (Ax (Ai ls 0 6) (liL ls 0 10) (CmD.mk 1 x35.nm x40.nm 0)).1 (CmD.mk 7 (ByteArray.mk #[]) (ByteArray.mk #[]) (Ax (Ai ls 0 6) (liL ls 0 10) (CmD.mk 1 x35.nm x40.nm 0)).snd.snd)).snd.fst==12&&((Bt (Ai ls 0 6) (Ax (Ai ls 0 6) (liL ls 0 10) (CmD.mk 1 x35.nm x40.nm 0)).1 (CmD.mk 7 (ByteArray.mk #[]) (ByteArray.mk #[]) (Ax (Ai ls 0 6) (liL ls 0 10) (CmD.mk 1 x35.nm x40.nm 0)).snd.snd)).snd.snd==0&&true)) (br ((AS (Ai ls 0 6) (Ax (Ai ls 0 6) (liL ls 0 10) (CmD.mk 1 x35.nm x40.nm 0)).1 (CmD.mk 2 (ByteArray.mk #[]) (ByteArray.mk #[]) (Ax (Ai ls 0 6) (liL ls 0 10) (CmD.mk 1 x35.nm x40.nm 0)).snd.snd)).snd.fst==1&&((AS (Ai ls 0 6) (Ax (Ai ls 0 6) (liL ls 0 10) (CmD.mk 1 x35.nm x40.nm 0)).1 (CmD.mk 2 (ByteArray.mk #[]) (ByteArray.mk #[]) (Ax (Ai ls 0 6) (liL ls 0 10) (CmD.mk 1 x35.nm x40.nm 0)).snd.snd)).snd.snd==0&&true)) (br ((AS (Ai ls 0 6) (AS (Ai ls 0 6) (Ax (Ai ls 0 6) (liL ls 0 10) (CmD.mk 1 x35.nm x40.nm 0)).1 (CmD.mk 2 (ByteArray.mk #[]) (ByteArray.mk #[]) (Ax (Ai ls 0 6) (liL ls 0 10) (CmD.mk 1 x35.nm x40.nm 0)).snd.snd)).1 (CmD.mk 2 (ByteArray.mk #[]) (ByteArray.mk #[]) (Ax (Ai ls 0 6) (liL ls 0 10) (CmD.mk 1 x35.nm x40.nm 0)).snd.snd)).snd.fst==11&&((AS (Ai ls 0 6) (AS (Ai ls 0 6) (Ax (Ai ls 0 6) (liL ls 0 10) (CmD.mk 1 x35.nm x40.nm 0)).1 (CmD.mk 2 (ByteArray.mk #[]) (ByteArray.mk #[]) (Ax (Ai ls 0 6) (liL ls 0 10) (CmD.mk 1 x35.nm x40.nm 0)).snd.snd)).1 (CmD.mk 2 (ByteArray.mk #[]) (ByteArray.mk #[]) (Ax (Ai ls 0 6) (liL ls 0 10) (CmD.mk 1 x35.nm x40.nm 0)).snd.snd)).snd.snd==0&&true)) (some (.inr ([],bV ((Bt (Ai ls 0 6) (AS (Ai ls 0 6) (Ax (Ai ls 0 6) (liL ls 0 10) (CmD.mk 1 x35.nm x40.nm 0)).1 (CmD.mk 2 (ByteArray.mk #[]) (ByteArray.mk #[]) (Ax (Ai ls 0 6) (liL ls 0 10) (CmD.mk 1 x35.nm x40.nm 0)).snd.snd)).1 (CmD.mk 7 (ByteArray.mk #[]) (ByteArray.mk #[]) (Ax (Ai ls 0 6) (liL ls 0 10) (CmD.mk 1 x35.nm x40.nm 0)).snd.snd)).snd.fst==12&&((Bt (Ai ls 0 6) (AS (Ai ls 0 6) (Ax (Ai ls 0 6) (liL ls 0 10) (CmD.mk 1 x35.nm x40.nm 0)).1 (CmD.mk 2 (ByteArray.mk #[]) (ByteArray.mk #[]) (Ax (Ai ls 0 6) (liL ls 0 10) (CmD.mk 1 x35.nm x40.nm 0)).snd.snd)).1 (CmD.mk 7 (ByteArray.mk #[]) (ByteArray.mk #[]) (Ax (Ai ls 0 6) (liL ls 0 10) (CmD.mk 1 x35.nm x40.nm 0)).snd.snd)).snd.snd==4&&true))))) (some (.inr ([],bV false)))) (some (.inr ([],bV false)))) (some (.inr ([],bV false)))) (some (.inr ([],bV false))))
theorem lta_ct(ls:List Int)(r:Ret)(h:Ac emT (LS ls) r):CT Uu 5 ([]) ([lI ls]) r.1 r.2:=
 CT.mach (fn:=Tryz.f5) (c:=zB Tryz.f5) (S:=emS) (hd:=emH) Tryz.func5 (by kernel_rfl) (nL rfl)
  (fun s o ho=>match s,ho with
   | x,_=>x.elim)
  (fun o ho=>Scr.ok (X:=LS ls) ho mix (
 have c0:=kno_c;
 have c1:=li_c (ls) (0) (10) (show nat_lit 0<=(5000:Nat) from(by first | exact nL rfl | decide)) (show(0:Int)<=(10:Int)/\(10:Int)<=(100:Int) from ⟨(by first | exact nL rfl | decide),(by first | exact nL rfl | decide)⟩);
 .rn 3 [] [] [(23,hK c0 [] []),(30,hK c1 [0] [])] [] (u2 (aj (aj (al (c0)) s2) (ak (aj (u2 (u2 (u2 s2))) (al (u2 (aj (ak (k3 (al (c1)))) (u2 (u2 (u2 (k2 (aj (k2 n11) (al (k2 n11)))))))))))))) <|
 .el fun x35 a0=>
 .el fun x40 a1=>
 .rn 0 [] [(35,sA x35),(40,sA x40)] [] [] (al (u2 (u2 (aj (ak (aj (show(0:Int)<=(1:Int) from(by first | exact nL rfl | decide)) (Af (f:=sA) a0))) (u2 (u2 (u2 (u2 (aj (ak (aj (show(0:Int)<=(2:Int) from(by first | exact nL rfl | decide)) (Af (f:=sA) a1))) (u2 (u2 (u2 s2)))))))))))) <|
 .gu fun a2=>
 have c2:=cm1_c (Ai ls 0 6) ((liL ls 0 10).cl) ((liL ls 0 10).bw) ((liL ls 0 10).pe) ((liL ls 0 10).tk) ((liL ls 0 10).us) (x35.nm) (x40.nm) (0) a2;
 .rn 2 [] [] [(49,hK c2 [] [])] [] (aj (u2 (u2 (u2 (u2 (aj t3 (aj (k3 (aj t9 (aj t6 (aj t5 (al (c2)))))) (u2 (u2 (u2 (u2 (k2 (aj (k2 n11) (aj (k2 n11) s2))))))))))))) (aj (u2 s2) (ak (al (u2 (u2 s2)))))) <|
 .br (fun a3=>
 .br (fun a4=>
  .rt [115,123] [] [] [] [] [] (aj (aj a3 (al (u2 (u2 (u2 (u2 (aj a4 (aj a4 (aj a4 (ag a4 s2)))))))))) t2))
 (fun a4=>
  .rt [115,122] [] [] [] [] [] (aj (aj a3 (al (u2 (u2 (u2 (u2 (ag a4 (ag a4 (ag a4 (ag a4 s2)))))))))) t2)))
 (fun a3=>
 .gu fun a4=>
 have c3:=cm7_c (Ai ls 0 6) ((Ax (Ai ls 0 6) (liL ls 0 10) (CmD.mk 1 x35.nm x40.nm 0)).1.cl) ((Ax (Ai ls 0 6) (liL ls 0 10) (CmD.mk 1 x35.nm x40.nm 0)).1.bw) ((Ax (Ai ls 0 6) (liL ls 0 10) (CmD.mk 1 x35.nm x40.nm 0)).1.pe) ((Ax (Ai ls 0 6) (liL ls 0 10) (CmD.mk 1 x35.nm x40.nm 0)).1.tk) ((Ax (Ai ls 0 6) (liL ls 0 10) (CmD.mk 1 x35.nm x40.nm 0)).1.us) (ByteArray.mk #[]) (ByteArray.mk #[]) ((Ax (Ai ls 0 6) (liL ls 0 10) (CmD.mk 1 x35.nm x40.nm 0)).snd.snd) a4;
 have c4:=cm2_c (Ai ls 0 6) ((Ax (Ai ls 0 6) (liL ls 0 10) (CmD.mk 1 x35.nm x40.nm 0)).1.cl) ((Ax (Ai ls 0 6) (liL ls 0 10) (CmD.mk 1 x35.nm x40.nm 0)).1.bw) ((Ax (Ai ls 0 6) (liL ls 0 10) (CmD.mk 1 x35.nm x40.nm 0)).1.pe) ((Ax (Ai ls 0 6) (liL ls 0 10) (CmD.mk 1 x35.nm x40.nm 0)).1.tk) ((Ax (Ai ls 0 6) (liL ls 0 10) (CmD.mk 1 x35.nm x40.nm 0)).1.us) (ByteArray.mk #[]) (ByteArray.mk #[]) ((Ax (Ai ls 0 6) (liL ls 0 10) (CmD.mk 1 x35.nm x40.nm 0)).snd.snd) a4;
 .rn 1 [114] [] [(72,hK c3 [] []),(82,hK c4 [] [])] [] (aj a3 (aj (u2 (u2 (u2 (u2 (u2 (aj (k3 (aj t9 (aj t6 (aj t5 (al (c3)))))) (u2 (u2 (u2 (u2 (k2 (aj (k2 n11) (aj (k2 n11) s2))))))))))))) (al (u2 (u2 (u2 (u2 (u2 (aj (k3 (aj t9 (aj t6 (aj t5 (al (c4)))))) (u2 (u2 (u2 (u2 (k2 (aj (k2 n11) (aj (k2 n11) s2)))))))))))))))) <|
 .gu fun a5=>
 have c5:=cm2_c (Ai ls 0 6) ((AS (Ai ls 0 6) (Ax (Ai ls 0 6) (liL ls 0 10) (CmD.mk 1 x35.nm x40.nm 0)).1 (CmD.mk 2 (ByteArray.mk #[]) (ByteArray.mk #[]) (Ax (Ai ls 0 6) (liL ls 0 10) (CmD.mk 1 x35.nm x40.nm 0)).snd.snd)).1.cl) ((AS (Ai ls 0 6) (Ax (Ai ls 0 6) (liL ls 0 10) (CmD.mk 1 x35.nm x40.nm 0)).1 (CmD.mk 2 (ByteArray.mk #[]) (ByteArray.mk #[]) (Ax (Ai ls 0 6) (liL ls 0 10) (CmD.mk 1 x35.nm x40.nm 0)).snd.snd)).1.bw) ((AS (Ai ls 0 6) (Ax (Ai ls 0 6) (liL ls 0 10) (CmD.mk 1 x35.nm x40.nm 0)).1 (CmD.mk 2 (ByteArray.mk #[]) (ByteArray.mk #[]) (Ax (Ai ls 0 6) (liL ls 0 10) (CmD.mk 1 x35.nm x40.nm 0)).snd.snd)).1.pe) ((AS (Ai ls 0 6) (Ax (Ai ls 0 6) (liL ls 0 10) (CmD.mk 1 x35.nm x40.nm 0)).1 (CmD.mk 2 (ByteArray.mk #[]) (ByteArray.mk #[]) (Ax (Ai ls 0 6) (liL ls 0 10) (CmD.mk 1 x35.nm x40.nm 0)).snd.snd)).1.tk) ((AS (Ai ls 0 6) (Ax (Ai ls 0 6) (liL ls 0 10) (CmD.mk 1 x35.nm x40.nm 0)).1 (CmD.mk 2 (ByteArray.mk #[]) (ByteArray.mk #[]) (Ax (Ai ls 0 6) (liL ls 0 10) (CmD.mk 1 x35.nm x40.nm 0)).snd.snd)).1.us) (ByteArray.mk #[]) (ByteArray.mk #[]) ((Ax (Ai ls 0 6) (liL ls 0 10) (CmD.mk 1 x35.nm x40.nm 0)).snd.snd) a5;
 have c6:=cm7_c (Ai ls 0 6) ((AS (Ai ls 0 6) (Ax (Ai ls 0 6) (liL ls 0 10) (CmD.mk 1 x35.nm x40.nm 0)).1 (CmD.mk 2 (ByteArray.mk #[]) (ByteArray.mk #[]) (Ax (Ai ls 0 6) (liL ls 0 10) (CmD.mk 1 x35.nm x40.nm 0)).snd.snd)).1.cl) ((AS (Ai ls 0 6) (Ax (Ai ls 0 6) (liL ls 0 10) (CmD.mk 1 x35.nm x40.nm 0)).1 (CmD.mk 2 (ByteArray.mk #[]) (ByteArray.mk #[]) (Ax (Ai ls 0 6) (liL ls 0 10) (CmD.mk 1 x35.nm x40.nm 0)).snd.snd)).1.bw) ((AS (Ai ls 0 6) (Ax (Ai ls 0 6) (liL ls 0 10) (CmD.mk 1 x35.nm x40.nm 0)).1 (CmD.mk 2 (ByteArray.mk #[]) (ByteArray.mk #[]) (Ax (Ai ls 0 6) (liL ls 0 10) (CmD.mk 1 x35.nm x40.nm 0)).snd.snd)).1.pe) ((AS (Ai ls 0 6) (Ax (Ai ls 0 6) (liL ls 0 10) (CmD.mk 1 x35.nm x40.nm 0)).1 (CmD.mk 2 (ByteArray.mk #[]) (ByteArray.mk #[]) (Ax (Ai ls 0 6) (liL ls 0 10) (CmD.mk 1 x35.nm x40.nm 0)).snd.snd)).1.tk) ((AS (Ai ls 0 6) (Ax (Ai ls 0 6) (liL ls 0 10) (CmD.mk 1 x35.nm x40.nm 0)).1 (CmD.mk 2 (ByteArray.mk #[]) (ByteArray.mk #[]) (Ax (Ai ls 0 6) (liL ls 0 10) (CmD.mk 1 x35.nm x40.nm 0)).snd.snd)).1.us) (ByteArray.mk #[]) (ByteArray.mk #[]) ((Ax (Ai ls 0 6) (liL ls 0 10) (CmD.mk 1 x35.nm x40.nm 0)).snd.snd) a5;
 .rn 1 [] [] [(92,hK c5 [] []),(102,hK c6 [] [])] [] (aj (u2 (u2 (u2 (u2 (u2 (aj (k3 (aj t9 (aj t6 (aj t5 (al (c5)))))) (u2 (u2 (u2 (u2 (k2 (aj (k2 n11) (aj (k2 n11) s2))))))))))))) (al (u2 (u2 (u2 (u2 (u2 (aj (k3 (aj t9 (aj t6 (aj t5 (al (c6)))))) (u2 (u2 (u2 (u2 (k2 (aj (k2 n11) (aj (k2 n11) s2))))))))))))))) <|
 .br (fun a6=>
  .br (fun a7=>
  .br (fun a8=>
   .br (fun a9=>
   .rt [257,267,277,287] [] [] [] [] [] (aj (al (u2 (u2 (u2 (aj t3 (aj t3 (aj t3 (u2 (aj t3 (aj t3 (aj t3 (u2 (aj t3 (aj t3 (aj t3 (u2 (aj t3 (aj t3 (aj t3 (aj t3 (aj t3 (aj t4 (aj t3 (u2 (ag a6 (aj (al a6) (aj (aj a6 t3) (ag a6 (u2 (ag a7 (aj (al a7) (aj (aj a7 t3) (ag a7 (u2 (ag a8 (aj (al a8) (aj (aj a8 t3) (ag a8 (u2 (ag a9 (aj (al a9) (aj (aj a9 t3) (ag a9 s2))))))))))))))))))))))))))))))))))))))))))) t2))
   (fun a9=>
   .rt [257,267,277,286] [] [] [] [] [] (aj (al (u2 (u2 (u2 (aj t3 (aj t3 (aj t3 (u2 (aj t3 (aj t3 (aj t3 (u2 (aj t3 (aj t3 (aj t3 (u2 (aj t3 (aj t3 (aj t3 (aj t3 (aj t3 (aj t4 (aj t3 (u2 (ag a6 (aj (al a6) (aj (aj a6 t3) (ag a6 (u2 (ag a7 (aj (al a7) (aj (aj a7 t3) (ag a7 (u2 (ag a8 (aj (al a8) (aj (aj a8 t3) (ag a8 (u2 (aj a9 (aj a9 (aj a9 (ag a9 s2))))))))))))))))))))))))))))))))))))))))))) t2)))
  (fun a8=>
   .rt [257,267,276] [] [] [] [] [] (aj (al (u2 (u2 (u2 (aj t3 (aj t3 (aj t3 (u2 (aj t3 (aj t3 (aj t3 (u2 (aj t3 (aj t3 (aj t3 (u2 (aj t3 (aj t3 (aj t3 (aj t3 (aj t3 (aj t4 (aj t3 (u2 (ag a6 (aj (al a6) (aj (aj a6 t3) (ag a6 (u2 (ag a7 (aj (al a7) (aj (aj a7 t3) (ag a7 (u2 (aj a8 (aj a8 (aj a8 (ag a8 (u2 (k3 (aj t3 s2))))))))))))))))))))))))))))))))))))))))) t2)))
  (fun a7=>
  .rt [257,266] [] [] [] [] [] (aj (al (u2 (u2 (u2 (aj t3 (aj t3 (aj t3 (u2 (aj t3 (aj t3 (aj t3 (u2 (aj t3 (aj t3 (aj t3 (u2 (aj t3 (aj t3 (aj t3 (aj t3 (aj t3 (aj t4 (aj t3 (u2 (ag a6 (aj (al a6) (aj (aj a6 t3) (ag a6 (u2 (aj a7 (aj a7 (aj a7 (ag a7 (u2 (k3 (aj t3 (u2 (k3 (aj t3 s2))))))))))))))))))))))))))))))))))))))) t2)))
 (fun a6=>
  .rt [256] [] [] [] [] [] (aj (al (u2 (u2 (u2 (aj t3 (aj t3 (aj t3 (u2 (aj t3 (aj t3 (aj t3 (u2 (aj t3 (aj t3 (aj t3 (u2 (aj t3 (aj t3 (aj t3 (aj t3 (aj t3 (aj t4 (aj t3 (u2 (aj a6 (aj a6 (aj a6 (ag a6 (u2 (k3 (aj t3 (u2 (k3 (aj t3 (u2 (k3 (aj t3 s2))))))))))))))))))))))))))))))))))))) t2)))) (by kernel_rfl)) h
theorem Qi{n:Aa}(hv:Aq n){i j:Nat}{s t:Au}(hs:n.ss[i]?=some s)(ht:n.ss[j]?=some t)(h:s.nm.toList=t.nm.toList):i=j:=by
 have hn:(n.ss.map (·.nm)).Nodup:=(List.nodup_append.1 hv.nod).2.1;have key:∀{i j:Nat} {s t:Au},n.ss[i]?=some s->n.ss[j]?=some t->s.nm=t.nm->¬i<j:=fun {i j s t} hs ht h hij=>by obtain⟨hi,rfl⟩:=Tv.1 hs;obtain⟨hj,rfl⟩:=Tv.1 ht;exact List.pairwise_iff_getElem.1 hn i j (by simpa using hi) (by simpa using hj) hij (by simpa using h)
 have h1:=key hs ht (MY h);have h2:=key ht hs (MY h).symm;omega
theorem spuZ_at{n:Aa}(hv:Aq n){i:Nat}{s:Au}(hs:n.ss[i]?=some s):Aw n s.nm=(i:Int):=by
 unfold Aw;rcases K3 (fun b:Au=>b.nm.toList==s.nm.toList) n.ss 0 with ⟨_,h⟩ | ⟨j,x,h,hx,hp⟩
 .have:=h s (Tx hs);simp at this
 .have:=Qi hv hx hs (by simpa using hp);have h:fiZ (fun b:Au=>b.nm.toList==s.nm.toList) n.ss 0=((0+j:Nat):Int):=h;omega
theorem lta_run(ls:List Int):CT Uu 5 [] [lI ls] [] (.bool true):=by
 have hN:=(KZ (L:=ls) (kk:=0) (most:=6) (by omega) (by omega)).1;have hV:=(li_s (L:=ls) (kk:=0) (w:=10) (by omega) (by omega)).2;refine lta_ct ls ([],_) (.val ?_);unfold LS;obtain⟨s1,h1⟩:∃s,(Ai ls 0 6).ss[1]?=some s:=⟨_,Tt (by have:=hN.ln;omega)⟩;obtain⟨s2,h2⟩:∃s,(Ai ls 0 6).ss[2]?=some s:=⟨_,Tt (by have:=hN.ln;omega)⟩;generalize Ai ls 0 6=n at *;generalize liL ls 0 10=x at *;rw[Ar (show n.ss[Int.toNat 1]?=_ from h1),Ar (show n.ss[Int.toNat 2]?=_ from h2),Ab hV];have hst:∀{i:Nat} {s:Au},n.ss[i]?=some s->s.dep=false->Cd n (Aw n s.nm) false=true:=fun {i s} hs hd=>L1 (by rw[spuZ_at hN.v hs];exact⟨by omega,s,by simpa using hs,hd⟩)
 have k:=(tas_s n x ⟨1,s1.nm,s2.nm,0⟩ hV).1;generalize Ax n x ⟨1,s1.nm,s2.nm,0⟩=p at *;obtain⟨hV1,k⟩:=k;rcases k with ⟨k1,_,k3⟩ | ⟨k1,k2,t,ht,k3⟩
 .rw[Ag (by simpa using k1)];have k3:=k3 (fun e=>absurd (Qi hN.v h1 h2 e) (by omega)) (hst h1 (hN.d1 _ h1)) (hst h2 (hN.d2 _ h2));rcases k3 with k3 | k3
  .rw[k3];rfl
  .rw[k3];rfl
 .obtain⟨x1,p2,p3⟩:=p;simp only at k1 k2 k3 hV1;subst k1;rw[Ad (by rfl),Ab hV1];have hg:x1.tk[Int.toNat p3]?=some t:=by rw[k2,k3,TC];exact List.getElem?_concat_length
  have b1:=(NE n x1 ⟨7,⟨#[]⟩,⟨#[]⟩,p3⟩ hV1).1.2.2 t (by rw[k2];exact Int.natCast_nonneg _) hg;have c1:=(OO n x1 ⟨2,⟨#[]⟩,⟨#[]⟩,p3⟩ hV1).1;obtain⟨hV2,c1⟩:=c1;obtain⟨c2,t2,c3,c4⟩:=(c1.2 t (by rw[k2];exact Int.natCast_nonneg _) hg).2 (by omega);have c5:=(OO n _ ⟨2,⟨#[]⟩,⟨#[]⟩,p3⟩ hV2).1.2;have c6:=(c5.2 t2 (by rw[k2];exact Int.natCast_nonneg _) c3).1 (by omega);have b2:=(NE n _ ⟨7,⟨#[]⟩,⟨#[]⟩,p3⟩ hV2).1.2.2 t2 (by rw[k2];exact Int.natCast_nonneg _) c3;rw[Ab hV2,Ag (by rw[k2,Tw];simp[iN]),b1,ht,Ag (by rfl),c2,Ag (by rfl),c6,Ag (by rfl),b2,c4];rfl
theorem rdInts{n:Nat}{es:List AV}(h:∀x∈es,ShV Uu n 3 x):∃L:List Int,es=L.map (AV.int .i64):=by
 induction es with
 | nil=>exact⟨[],rfl⟩
 | cons x es ih=>
  obtain⟨L,rfl⟩:=ih fun y hy=>h y (TN _ hy)
  obtain⟨i,_,rfl⟩:=(h x (by simp)).intD Tryz.underlying3;exact⟨i::L,rfl⟩
theorem ledgerTasks_row(avs:List AV)(h:Ee Uu 6 Tryz.f5.params.toList avs):CT Uu 5 [] avs [] (.bool true):=by rw[Tryz.params5] at h;obtain⟨a,_,rfl,ka,h⟩:=h.consD;obtain rfl:=h.nilD;obtain⟨_,_,he,rfl⟩:=ka.sliceD Tryz.underlying22;obtain⟨l,rfl⟩:=rdInts he;exact lta_run l
end Go.Proofs.YthjgbnbibebigaaGreat

/- Parts of the proof:LhC,LhD,Lh1m,LhA,LhE,Lh2m,LhF,Li1m,LiA,Li2m,LiB,LiC,Li3m,LiD,Sg6m,SgL,Sg5m,SgM,LkA,Lm1m,LmA,Lm2m,Lj1m,LkB,Lj2m,LkC,Lj3m,LkD,Lj5m,LkE,LmB,Lm3m,Lm4m,LmC,LmD,Lm6m,LmE,Lm8m,Lm7m,LmF,LmG. -/
import Derived.KernelRfl
import Derived.Test.YthjgbnbibebigaaGreatProg
import Derived.Test.YthjgbnbibebigaaGreatLedgerClosesM7
noncomputable section
set_option linter.unusedVariables false
set_option linter.unusedSimpArgs false
open Go Go.AX Go.Proofs
set_option maxRecDepth 100000
set_option linter.unusedVariables false
set_option linter.unusedSimpArgs false
open Go.IntKind (i64 u64)
open List renaming map->TY
open Go.AX.AV renaming lst->T4
open Go.Proofs.Tryz renaming prog->T5
namespace Go.Proofs.YthjgbnbibebigaaGreat
def stnR(L:List Int)(p:ByteArray×Nat):Ret:=([some (AE L p.2)],.str p.1)
theorem stn_ex(L:List Int)(kk:Nat)(n:Aa)(hv:Ao n)(h3:3<=n.ss.length)(hk:kk<=100000):∃p:{p:ByteArray×Nat // p.2<=kk+3/\∃s∈n.ss,s.nm=p.1},Ac emT (Kj L kk n) (stnR L p.1):=by
 have hn:=hv.ns;have r1:=BA L kk n.ss.length (by omega) (by omega);have r2:=BA L (kk+1+1) 2 (by omega) (by omega);unfold Kj;simp only[iN,S5];refine Ah (by omega) (Ah r1.1 (A6 (by omega) fun x hx=>Aq (fun _=>Ah (by omega) (Aq (fun _=>Ah (by omega) ?_) fun _=>?_)) fun _=>?_))
 .rw[CQ (by omega) (by omega)];exact Ah (by omega) (A6 (by omega) fun y hy=>⟨⟨(y.nm,kk+1+1+1),by show kk+1+1+1<=kk+3;omega,y,S6 hy,rfl⟩,.ret _⟩)
 .exact⟨⟨(x.nm,kk+1+1),by show kk+1+1<=kk+3;omega,x,S6 hx,rfl⟩,.ret _⟩
 .exact⟨⟨(x.nm,kk+1),by show kk+1<=kk+3;omega,x,S6 hx,rfl⟩,.ret _⟩
theorem JB(L:List Int)(kk:Nat)(n:Aa):∃p:ByteArray×Nat,Ao n->3<=n.ss.length->kk<=100000->(p.2<=kk+3/\∃s∈n.ss,s.nm=p.1)/\CT T5 40 [some (AE L kk)] [.ptr 0 0 0,Aj n] [some (AE L p.2)] (.str p.1):=by
 by_cases h:Ao n/\3<=n.ss.length/\kk<=100000
 .obtain⟨p,hp⟩:=stn_ex L kk n h.1 h.2.1 h.2.2;exact⟨p.1,fun _ _ _=>⟨p.2,stn_ct L kk n _ hp⟩⟩
 .exact⟨(⟨#[]⟩,0),fun a b c=>absurd ⟨a,b,c⟩ h⟩
@[irreducible] def AJ(L:List Int)(kk:Nat)(n:Aa):ByteArray:=(Classical.choose (JB L kk n)).1
@[irreducible] def AI(L:List Int)(kk:Nat)(n:Aa):Nat:=(Classical.choose (JB L kk n)).2
theorem stn_s{L:List Int}{kk:Nat}{n:Aa}(hv:Ao n)(h3:3<=n.ss.length)(hk:kk<=100000):AI L kk n<=kk+3/\∃s∈n.ss,s.nm=AJ L kk n:=by unfold AJ AI;exact(TE (JB L kk n) hv h3 hk).1
theorem Ch(L:List Int)(kk:Nat)(n:Aa)(hv:Ao n)(h3:3<=n.ss.length)(hk:kk<=100000):CT T5 40 [some (AE L kk)] [.ptr 0 0 0,Aj n] [some (AE L (AI L kk n))] (.str (AJ L kk n)):=by unfold AJ AI;exact(TE (JB L kk n) hv h3 hk).2
def fctR(L:List Int)(p:Nat×Int×Int×Int×Int):Ret:=([some (AE L p.1)],enA p.2.1 p.2.2.1 p.2.2.2.1 p.2.2.2.2)
theorem fct_ex(L:List Int)(kk:Nat)(n:Aa)(cl:List Bool)(bw pe:List Int)(tk:List TsD)(us:List UsD)(hv:Ao n)(hk:kk<=100000):∃p:{p:Nat×Int×Int×Int×Int // p.1<=kk+6},Ac emT (JW L kk n cl bw pe tk us) (fctR L p.1):=by
 unfold JW
 repeat' (first
  | exact⟨⟨(_,_,_,_,_),by show _<=kk+6;omega⟩,.ret _⟩
  | refine Ah (by first | exact hv | omega) ?_
  | refine Aq (fun h=>?_) (fun h=>?_))
theorem Mn(L:List Int)(kk:Nat)(n:Aa)(cl:List Bool)(bw pe:List Int)(tk:List TsD)(us:List UsD):∃p:Nat×Int×Int×Int×Int,Ao n->kk<=100000->p.1<=kk+6/\CT T5 24 [some (AE L kk)] [.ptr 0 0 0,Aj n,lgA ⟨cl,bw,pe,tk,us⟩] [some (AE L p.1)] (enA p.2.1 p.2.2.1 p.2.2.2.1 p.2.2.2.2):=by
 by_cases h:Ao n/\kk<=100000
 .obtain⟨p,hp⟩:=fct_ex L kk n cl bw pe tk us h.1 h.2;exact⟨p.1,fun _ _=>⟨p.2,fct_ct L kk n cl bw pe tk us _ hp⟩⟩
 .exact⟨(0,0,0,0,0),fun a b=>absurd ⟨a,b⟩ h⟩
@[irreducible] def FP(L:List Int)(kk:Nat)(n:Aa)(cl:List Bool)(bw pe:List Int)(tk:List TsD)(us:List UsD):Nat×Int×Int×Int×Int:=Classical.choose (Mn L kk n cl bw pe tk us)
@[irreducible] def F6(L:List Int)(kk:Nat)(n:Aa)(cl:List Bool)(bw pe:List Int)(tk:List TsD)(us:List UsD):Nat:=(FP L kk n cl bw pe tk us).1
@[irreducible] def DA(L:List Int)(kk:Nat)(n:Aa)(cl:List Bool)(bw pe:List Int)(tk:List TsD)(us:List UsD):Int:=(FP L kk n cl bw pe tk us).2.1
@[irreducible] def Dr(L:List Int)(kk:Nat)(n:Aa)(cl:List Bool)(bw pe:List Int)(tk:List TsD)(us:List UsD):Int:=(FP L kk n cl bw pe tk us).2.2.1
@[irreducible] def DM(L:List Int)(kk:Nat)(n:Aa)(cl:List Bool)(bw pe:List Int)(tk:List TsD)(us:List UsD):Int:=(FP L kk n cl bw pe tk us).2.2.2.1
@[irreducible] def Dw(L:List Int)(kk:Nat)(n:Aa)(cl:List Bool)(bw pe:List Int)(tk:List TsD)(us:List UsD):Int:=(FP L kk n cl bw pe tk us).2.2.2.2
theorem fct_s{L:List Int}{kk:Nat}{n:Aa}{cl:List Bool}{bw pe:List Int}{tk:List TsD}{us:List UsD}(hv:Ao n)(hk:kk<=100000):F6 L kk n cl bw pe tk us<=kk+6:=by unfold F6 FP;exact(TE (Mn L kk n cl bw pe tk us) hv hk).1
theorem fct_c(L:List Int)(kk:Nat)(n:Aa)(cl:List Bool)(bw pe:List Int)(tk:List TsD)(us:List UsD)(hv:Ao n)(hk:kk<=100000):CT T5 24 [some (AE L kk)] [.ptr 0 0 0,Aj n,lgA ⟨cl,bw,pe,tk,us⟩] [some (AE L (F6 L kk n cl bw pe tk us))] (enA (DA L kk n cl bw pe tk us) (Dr L kk n cl bw pe tk us) (DM L kk n cl bw pe tk us) (Dw L kk n cl bw pe tk us)):=by unfold F6 DA Dr DM Dw FP;exact(TE (Mn L kk n cl bw pe tk us) hv hk).2
@[irreducible] def Dn(x:Int):ByteArray:=AL x.toNat
theorem Nk(x:Int)(h:0<=x/\x<100):CT T5 41 [] [.int .i64 x] [] (.str (Dn x)):=by have:=I0 x.toNat (by omega);unfold Dn;rw[show iN x.toNat=x by simp only[iN];omega] at this;exact this
end Go.Proofs.YthjgbnbibebigaaGreat
set_option maxHeartbeats 4000000
namespace Go.Proofs.YthjgbnbibebigaaGreat
def K5(L:List Int)(kk:Nat)(n:Aa):Option (Empty⊕Ret):=gu (kk<9223372036854775807) <|gu (0<=Ae L kk (iN (TY bA n.bs).length)) <|el (n.bs) ((Ae L kk (iN (TY bA n.bs).length)).toNat) fun(x13:Az)=>gu (kk+1<9223372036854775807) <|br (Ae L (kk+1) 16==0) (gu (Ao n) <|gu (3<=n.ss.length) <|gu (kk+1+1<=100000) <|gu ((5+(AJ L (kk+1+1) n).size).le 9223372036854775807) <|gu (((ByteArray.mk #[116,97,115,107,32]++AJ L (kk+1+1) n).size+1).le 9223372036854775807) <|gu (AI L (kk+1+1) n<=100000) <|gu (((ByteArray.mk #[116,97,115,107,32]++AJ L (kk+1+1) n++ByteArray.mk #[32]).size+(AJ L (AI L (kk+1+1) n) n).size).le 9223372036854775807) <|some (.inr ([some (bK [AV.agg [T4 (TY iV L),iV (iN (AI L (AI L (kk+1+1) n) n))]] 2)],AV.str (ByteArray.mk #[116,97,115,107,32]++AJ L (kk+1+1) n++ByteArray.mk #[32]++AJ L (AI L (kk+1+1) n) n)))) (br (Ae L (kk+1) 16==1) (gu (Ao n) <|gu (3<=n.ss.length) <|gu (kk+1+1<=100000) <|gu ((5+(AJ L (kk+1+1) n).size).le 9223372036854775807) <|gu (((ByteArray.mk #[116,97,115,107,32]++AJ L (kk+1+1) n).size+1).le 9223372036854775807) <|gu (AI L (kk+1+1) n<=100000) <|gu (((ByteArray.mk #[116,97,115,107,32]++AJ L (kk+1+1) n++ByteArray.mk #[32]).size+(AJ L (AI L (kk+1+1) n) n).size).le 9223372036854775807) <|some (.inr ([some (bK [AV.agg [T4 (TY iV L),iV (iN (AI L (AI L (kk+1+1) n) n))]] 2)],AV.str (ByteArray.mk #[116,97,115,107,32]++AJ L (kk+1+1) n++ByteArray.mk #[32]++AJ L (AI L (kk+1+1) n) n)))) (br (Ae L (kk+1) 16==2) (gu (Ao n) <|gu (3<=n.ss.length) <|gu (kk+1+1<=100000) <|gu ((5+(AJ L (kk+1+1) n).size).le 9223372036854775807) <|gu (((ByteArray.mk #[116,97,115,107,32]++AJ L (kk+1+1) n).size+1).le 9223372036854775807) <|gu (AI L (kk+1+1) n<=100000) <|gu (((ByteArray.mk #[116,97,115,107,32]++AJ L (kk+1+1) n++ByteArray.mk #[32]).size+(AJ L (AI L (kk+1+1) n) n).size).le 9223372036854775807) <|some (.inr ([some (bK [AV.agg [T4 (TY iV L),iV (iN (AI L (AI L (kk+1+1) n) n))]] 2)],AV.str (ByteArray.mk #[116,97,115,107,32]++AJ L (kk+1+1) n++ByteArray.mk #[32]++AJ L (AI L (kk+1+1) n) n)))) (br (Ae L (kk+1) 16==3) (gu (Ao n) <|gu (3<=n.ss.length) <|gu (kk+1+1<=100000) <|gu ((5+(AJ L (kk+1+1) n).size).le 9223372036854775807) <|gu (((ByteArray.mk #[116,97,115,107,32]++AJ L (kk+1+1) n).size+1).le 9223372036854775807) <|gu (AI L (kk+1+1) n<=100000) <|gu (((ByteArray.mk #[116,97,115,107,32]++AJ L (kk+1+1) n++ByteArray.mk #[32]).size+(AJ L (AI L (kk+1+1) n) n).size).le 9223372036854775807) <|some (.inr ([some (bK [AV.agg [T4 (TY iV L),iV (iN (AI L (AI L (kk+1+1) n) n))]] 2)],AV.str (ByteArray.mk #[116,97,115,107,32]++AJ L (kk+1+1) n++ByteArray.mk #[32]++AJ L (AI L (kk+1+1) n) n)))) (br (Ae L (kk+1) 16==4) (gu (Ao n) <|gu (3<=n.ss.length) <|gu (kk+1+1<=100000) <|gu ((5+(AJ L (kk+1+1) n).size).le 9223372036854775807) <|gu (((ByteArray.mk #[116,97,115,107,32]++AJ L (kk+1+1) n).size+1).le 9223372036854775807) <|gu (AI L (kk+1+1) n<=100000) <|gu (((ByteArray.mk #[116,97,115,107,32]++AJ L (kk+1+1) n++ByteArray.mk #[32]).size+(AJ L (AI L (kk+1+1) n) n).size).le 9223372036854775807) <|some (.inr ([some (bK [AV.agg [T4 (TY iV L),iV (iN (AI L (AI L (kk+1+1) n) n))]] 2)],AV.str (ByteArray.mk #[116,97,115,107,32]++AJ L (kk+1+1) n++ByteArray.mk #[32]++AJ L (AI L (kk+1+1) n) n)))) (br (Ae L (kk+1) 16==5) (gu (Ao n) <|gu (3<=n.ss.length) <|gu (kk+1+1<=100000) <|gu ((5+(AJ L (kk+1+1) n).size).le 9223372036854775807) <|gu (((ByteArray.mk #[116,97,115,107,32]++AJ L (kk+1+1) n).size+1).le 9223372036854775807) <|gu (AI L (kk+1+1) n<=100000) <|gu (((ByteArray.mk #[116,97,115,107,32]++AJ L (kk+1+1) n++ByteArray.mk #[32]).size+(AJ L (AI L (kk+1+1) n) n).size).le 9223372036854775807) <|some (.inr ([some (bK [AV.agg [T4 (TY iV L),iV (iN (AI L (AI L (kk+1+1) n) n))]] 2)],AV.str (ByteArray.mk #[116,97,115,107,32]++AJ L (kk+1+1) n++ByteArray.mk #[32]++AJ L (AI L (kk+1+1) n) n)))) (br (Ae L (kk+1) 16==6) (gu (kk+1+1<9223372036854775807) <|gu (0<=Ae L (kk+1+1) 6/\Ae L (kk+1+1) 6<100) <|gu ((7+(Dn (Ae L (kk+1+1) 6)).size).le 9223372036854775807) <|some (.inr ([some (bK [AV.agg [T4 (TY iV L),iV (iN (kk+1+1+1))]] 2)],AV.str (ByteArray.mk #[99,97,110,99,101,108,32]++Dn (Ae L (kk+1+1) 6))))) (br (Ae L (kk+1) 16==7) (gu ((6+x13.nm.size).le 9223372036854775807) <|some (.inr ([some (bK [AV.agg [T4 (TY iV L),iV (iN (kk+1+1))]] 2)],AV.str (ByteArray.mk #[99,108,111,115,101,32]++x13.nm)))) (br (Ae L (kk+1) 16==8) (gu (kk+1+1<9223372036854775807) <|br (Ae L (kk+1+1) 2==0) (gu (Ao n) <|gu (3<=n.ss.length) <|gu (kk+1+1+1<=100000) <|gu ((5+(AJ L (kk+1+1+1) n).size).le 9223372036854775807) <|some (.inr ([some (bK [AV.agg [T4 (TY iV L),iV (iN (AI L (kk+1+1+1) n))]] 2)],AV.str (ByteArray.mk #[111,112,101,110,32]++AJ L (kk+1+1+1) n)))) (gu ((5+x13.nm.size).le 9223372036854775807) <|some (.inr ([some (bK [AV.agg [T4 (TY iV L),iV (iN (kk+1+1+1))]] 2)],AV.str (ByteArray.mk #[111,112,101,110,32]++x13.nm))))) (br (Ae L (kk+1) 16==9) (gu (kk+1+1<9223372036854775807) <|gu (0<=Ae L (kk+1+1) (iN (TY sA n.ss).length)) <|el (n.ss) ((Ae L (kk+1+1) (iN (TY sA n.ss).length)).toNat) fun(x64:Av)=>gu ((4+x64.nm.size).le 9223372036854775807) <|some (.inr ([some (bK [AV.agg [T4 (TY iV L),iV (iN (kk+1+1+1))]] 2)],AV.str (ByteArray.mk #[97,100,100,32]++x64.nm)))) (br (Ae L (kk+1) 16==10) (gu (kk+1+1<9223372036854775807) <|gu (0<=Ae L (kk+1+1) 4/\Ae L (kk+1+1) 4<100) <|gu ((7+(Dn (Ae L (kk+1+1) 4)).size).le 9223372036854775807) <|some (.inr ([some (bK [AV.agg [T4 (TY iV L),iV (iN (kk+1+1+1))]] 2)],AV.str (ByteArray.mk #[114,101,109,111,118,101,32]++Dn (Ae L (kk+1+1) 4))))) (br (Ae L (kk+1) 16==11) (gu (kk+1+1<9223372036854775807) <|gu (0<=Ae L (kk+1+1) 6/\Ae L (kk+1+1) 6<100) <|gu ((7+(Dn (Ae L (kk+1+1) 6)).size).le 9223372036854775807) <|some (.inr ([some (bK [AV.agg [T4 (TY iV L),iV (iN (kk+1+1+1))]] 2)],AV.str (ByteArray.mk #[115,116,97,116,117,115,32]++Dn (Ae L (kk+1+1) 6))))) (br (Ae L (kk+1) 16==12) (gu ((6+x13.nm.size).le 9223372036854775807) <|some (.inr ([some (bK [AV.agg [T4 (TY iV L),iV (iN (kk+1+1))]] 2)],AV.str (ByteArray.mk #[98,108,111,99,107,32]++x13.nm)))) (br (Ae L (kk+1) 16==13) (some (.inr ([some (bK [AV.agg [T4 (TY iV L),iV (iN (kk+1+1))]] 2)],AV.str (ByteArray.mk #[102,108,101,101,116])))) (br (Ae L (kk+1) 16==14) (some (.inr ([some (bK [AV.agg [T4 (TY iV L),iV (iN (kk+1+1))]] 2)],AV.str (ByteArray.mk #[113,117,101,117,101])))) (gu (Ao n) <|gu (3<=n.ss.length) <|gu (kk+1+1<=100000) <|gu ((6+(AJ L (kk+1+1) n).size).le 9223372036854775807) <|some (.inr ([some (bK [AV.agg [T4 (TY iV L),iV (iN (AI L (kk+1+1) n))]] 2)],AV.str (ByteArray.mk #[99,108,111,115,101,32]++AJ L (kk+1+1) n))))))))))))))))))
theorem ord_ct(L:List Int)(kk:Nat)(n:Aa)(r:Ret)(h:Ac emT (K5 L kk n) r):CT T5 11 ([some (AE L kk)]) ([.ptr 0 0 0,Aj n]) r.1 r.2:=
 CT.mach (fn:=Tryz.f11) (c:=zB Tryz.f11) (S:=emS) (hd:=emH) Tryz.func11 (by kernel_rfl) (nL rfl)
  (fun s o ho=>match s,ho with
   | x,_=>x.elim)
  (fun o ho=>Scr.ok (X:=K5 L kk n) ho mix (
 .rn 0 [] [] [] [] (al (u2 t2)) <|
 .gu fun a0=>
 .gu fun a1=>
 .el fun x13 a2=>
 have c0:=AG (L) (kk) (iN (TY bA n.bs).length) a0;
 .rn 0 [] [(13,bA x13)] [(12,hK c0 [0] [])] [] (al (u2 (u2 (u2 (u2 (u2 (u2 (aj (k5 (al (c0))) (aj (k2 (aj a1 (Af (f:=bA) a2))) (u2 (u2 s2))))))))))) <|
 .gu fun a3=>
 have c1:=AG (L) (kk+1) (16) a3;
 .rn 1 [] [] [(17,hK c1 [0] [])] [] (aj (u2 (al (ak (k3 (al (c1)))))) (al (u2 s2))) <|
 .br (fun a4=>
 .gu fun a5=>
 .gu fun a6=>
 .gu fun a7=>
 .gu fun a8=>
 .gu fun a9=>
 .gu fun a10=>
 .gu fun a11=>
 have c2:=Ch (L) (kk+1+1) n a5 a6 a7;
 have c3:=Ch (L) (AI L (kk+1+1) n) n a5 a6 a10;
 .rt [37] [] [(27,hK c2 [0] []),(32,hK c3 [0] [])] [] [0] [] (aj (aj a4 (ak (al (u2 (u2 (aj (k3 (aj t9 (ak (al (c2))))) (aj (ak a8) (aj (ak a9) (u2 (u2 (aj (k3 (aj t9 (ak (al (c3))))) (aj (k2 a11) s2)))))))))))) t3))
 (fun a4=>
 .rn 0 [36] [] [] [] (aj a4 (al (u2 s2))) <|
 .br (fun a5=>
  .gu fun a6=>
  .gu fun a7=>
  .gu fun a8=>
  .gu fun a9=>
  .gu fun a10=>
  .gu fun a11=>
  .gu fun a12=>
  have c2:=Ch (L) (kk+1+1) n a6 a7 a8;
  have c3:=Ch (L) (AI L (kk+1+1) n) n a6 a7 a11;
  .rt [37] [] [(27,hK c2 [0] []),(32,hK c3 [0] [])] [] [0] [] (aj (aj a5 (ak (al (u2 (u2 (aj (k3 (aj t9 (ak (al (c2))))) (aj (ak a9) (aj (ak a10) (u2 (u2 (aj (k3 (aj t9 (ak (al (c3))))) (aj (k2 a12) s2)))))))))))) t3))
 (fun a5=>
  .rn 0 [36] [] [] [] (aj a5 (al (u2 s2))) <|
  .br (fun a6=>
  .gu fun a7=>
  .gu fun a8=>
  .gu fun a9=>
  .gu fun a10=>
  .gu fun a11=>
  .gu fun a12=>
  .gu fun a13=>
  have c2:=Ch (L) (kk+1+1) n a7 a8 a9;
  have c3:=Ch (L) (AI L (kk+1+1) n) n a7 a8 a12;
  .rt [37] [] [(27,hK c2 [0] []),(32,hK c3 [0] [])] [] [0] [] (aj (aj a6 (ak (al (u2 (u2 (aj (k3 (aj t9 (ak (al (c2))))) (aj (ak a10) (aj (ak a11) (u2 (u2 (aj (k3 (aj t9 (ak (al (c3))))) (aj (k2 a13) s2)))))))))))) t3))
  (fun a6=>
  .rn 0 [36] [] [] [] (aj a6 (al (u2 s2))) <|
  .br (fun a7=>
   .gu fun a8=>
   .gu fun a9=>
   .gu fun a10=>
   .gu fun a11=>
   .gu fun a12=>
   .gu fun a13=>
   .gu fun a14=>
   have c2:=Ch (L) (kk+1+1) n a8 a9 a10;
   have c3:=Ch (L) (AI L (kk+1+1) n) n a8 a9 a13;
   .rt [37] [] [(27,hK c2 [0] []),(32,hK c3 [0] [])] [] [0] [] (aj (aj a7 (ak (al (u2 (u2 (aj (k3 (aj t9 (ak (al (c2))))) (aj (ak a11) (aj (ak a12) (u2 (u2 (aj (k3 (aj t9 (ak (al (c3))))) (aj (k2 a14) s2)))))))))))) t3))
  (fun a7=>
   .rn 0 [36] [] [] [] (aj a7 (al (u2 s2))) <|
   .br (fun a8=>
   .gu fun a9=>
   .gu fun a10=>
   .gu fun a11=>
   .gu fun a12=>
   .gu fun a13=>
   .gu fun a14=>
   .gu fun a15=>
   have c2:=Ch (L) (kk+1+1) n a9 a10 a11;
   have c3:=Ch (L) (AI L (kk+1+1) n) n a9 a10 a14;
   .rt [37] [] [(27,hK c2 [0] []),(32,hK c3 [0] [])] [] [0] [] (aj (aj a8 (ak (al (u2 (u2 (aj (k3 (aj t9 (ak (al (c2))))) (aj (ak a12) (aj (ak a13) (u2 (u2 (aj (k3 (aj t9 (ak (al (c3))))) (aj (k2 a15) s2)))))))))))) t3))
   (fun a8=>
   .rn 0 [36] [] [] [] (aj a8 (al (u2 s2))) <|
   .br (fun a9=>
    .gu fun a10=>
    .gu fun a11=>
    .gu fun a12=>
    .gu fun a13=>
    .gu fun a14=>
    .gu fun a15=>
    .gu fun a16=>
    have c2:=Ch (L) (kk+1+1) n a10 a11 a12;
    have c3:=Ch (L) (AI L (kk+1+1) n) n a10 a11 a15;
    .rt [37] [] [(27,hK c2 [0] []),(32,hK c3 [0] [])] [] [0] [] (aj (aj a9 (al (u2 (u2 (aj (k3 (aj t9 (ak (al (c2))))) (aj (ak a13) (aj (ak a14) (u2 (u2 (aj (k3 (aj t9 (ak (al (c3))))) (aj (k2 a16) s2))))))))))) t3))
   (fun a9=>
    .rn 0 [36] [] [] [] (aj a9 (al (u2 s2))) <|
    .br (fun a10=>
    .gu fun a11=>
    .gu fun a12=>
    .gu fun a13=>
    have c2:=AG (L) (kk+1+1) (6) a11;
    have c3:=Nk (Ae L (kk+1+1) 6) a12;
    .rt [69] [] [(37,hK c2 [0] []),(38,hK c3 [] [])] [] [0] [] (aj (aj a10 (al (u2 (aj (ak (k3 (al (c2)))) (aj (k2 (al (c3))) (aj (ak a13) s2)))))) t3))
    (fun a10=>
    .rn 0 [68] [] [] [] (aj a10 (al (u2 s2))) <|
    .br (fun a11=>
     .gu fun a12=>
     .rt [81] [] [] [] [0] [] (aj (aj a11 (al (u2 (aj (ak a12) s2)))) t3))
    (fun a11=>
     .rn 0 [80] [] [] [] (aj a11 (al (u2 s2))) <|
     .br (fun a12=>
     .gu fun a13=>
     have c2:=AG (L) (kk+1+1) (2) a13;
     .rn 0 [89] [] [(47,hK c2 [0] [])] [] (aj a12 (al (u2 (aj (ak (k3 (al (c2)))) s2)))) <|
     .br (fun a14=>
      .gu fun a15=>
      .gu fun a16=>
      .gu fun a17=>
      .gu fun a18=>
      have c3:=Ch (L) (kk+1+1+1) n a15 a16 a17;
      .rt [97] [] [(51,hK c3 [0] [])] [] [0] [] (aj (aj a14 (al (u2 (u2 (aj (k3 (aj t9 (ak (al (c3))))) (aj (ak a18) s2)))))) t3))
     (fun a14=>
      .gu fun a15=>
      .rt [96] [] [] [] [0] [] (aj (aj a14 (al (u2 (aj (ak a15) s2)))) t3)))
     (fun a12=>
     .rn 0 [88] [] [] [] (aj a12 (al (u2 s2))) <|
     .br (fun a13=>
      .gu fun a14=>
      .gu fun a15=>
      .el fun x64 a16=>
      .gu fun a17=>
      have c2:=AG (L) (kk+1+1) (iN (TY sA n.ss).length) a14;
      .rt [111] [(64,sA x64)] [(63,hK c2 [0] [])] [] [0] [] (aj (aj a13 (al (u2 (u2 (u2 (u2 (u2 (u2 (aj (k5 (al (c2))) (aj (k2 (aj a15 (Af (f:=sA) a16))) (u2 (u2 (aj (ak a17) s2))))))))))))) t3))
     (fun a13=>
      .rn 0 [110] [] [] [] (aj a13 (al (u2 s2))) <|
      .br (fun a14=>
      .gu fun a15=>
      .gu fun a16=>
      .gu fun a17=>
      have c2:=AG (L) (kk+1+1) (4) a15;
      have c3:=Nk (Ae L (kk+1+1) 4) a16;
      .rt [137] [] [(71,hK c2 [0] []),(72,hK c3 [] [])] [] [0] [] (aj (aj a14 (al (u2 (aj (ak (k3 (al (c2)))) (aj (k2 (al (c3))) (aj (ak a17) s2)))))) t3))
      (fun a14=>
      .rn 0 [136] [] [] [] (aj a14 (al (u2 s2))) <|
      .br (fun a15=>
       .gu fun a16=>
       .gu fun a17=>
       .gu fun a18=>
       have c2:=AG (L) (kk+1+1) (6) a16;
       have c3:=Nk (Ae L (kk+1+1) 6) a17;
       .rt [149] [] [(77,hK c2 [0] []),(78,hK c3 [] [])] [] [0] [] (aj (aj a15 (al (u2 (aj (ak (k3 (al (c2)))) (aj (k2 (al (c3))) (aj (ak a18) s2)))))) t3))
      (fun a15=>
       .rn 0 [148] [] [] [] (aj a15 (al (u2 s2))) <|
       .br (fun a16=>
       .gu fun a17=>
       .rt [161] [] [] [] [0] [] (aj (aj a16 (al (u2 (aj (ak a17) s2)))) t3))
       (fun a16=>
       .rn 0 [160] [] [] [] (aj a16 (al (u2 s2))) <|
       .br (fun a17=>
        .rt [169] [] [] [] [0] [] (aj (aj a17 s2) t3))
       (fun a17=>
        .rn 0 [168] [] [] [] (aj a17 (al (u2 s2))) <|
        .br (fun a18=>
        .rt [173] [] [] [] [0] [] (aj (aj a18 s2) t3))
        (fun a18=>
        .gu fun a19=>
        .gu fun a20=>
        .gu fun a21=>
        .gu fun a22=>
        have c2:=Ch (L) (kk+1+1) n a19 a20 a21;
        .rt [172] [] [(90,hK c2 [0] [])] [] [0] [] (aj (aj a18 (al (u2 (u2 (aj (k3 (aj t9 (ak (al (c2))))) (aj (ak a22) s2)))))) t3))))))))))))))))) (by kernel_rfl)) h
def cmR(c:CmD):Ret:=([],cmA c)
theorem OM(q:ByteArray)(v0:LnD)(v1:Int)(v2:Bool)(v4:Int)(h1:0<=v1/\v1<=2)(hl:(v0.f.length:Int)=1+v1+(if v2=true then 1 else 0))(hs:∀s∈v0.f,s.size<=6000):∀(d i:Nat),(i:Int)+d=v1+1->∃c:CmD,Ac (IA q) (some (.inl (.l0 v0 v1 v2 (i:Int) v4))) (cmR c):=by
 have hlen:1+v1<=(v0.f.length:Int):=by split at hl<;>omega
 have hlen2:v2=true->2<=v0.f.length:=fun h=>by rw[S0 h] at hl;omega
 have hsz:∀{i:Nat} {y:ByteArray},v0.f[i]?=some y->y.size<=1000000:=fun hy=>by have:=hs _ (S6 hy);omega
 intro d
 induction d with
 | zero=>
  intro i hi
  refine AD (show IA q (.l0 v0 v1 v2 (i:Int) v4)=Gv q v0 v1 v2 i v4 from rfl) ?_
  unfold Gv
  rw[Ad (S7 (by omega))]
  repeat' (first
   | exact⟨⟨_,_,_,_⟩,.ret _⟩
   | refine Ah (hsz ‹_›) ?_
   | refine Aq (fun h=>?_) (fun h=>?_)
   | refine A6 (by first | (have:=hlen2 ‹_›;show 1<_;omega) | (simp only[decide_eq_true_eq] at *;first | (show 1<_;omega) | (show 2<_;omega))) (fun x hx=>?_))
 | succ d ih=>
  intro i hi
  refine AD (show IA q (.l0 v0 v1 v2 (i:Int) v4)=Gv q v0 v1 v2 i v4 from rfl) ?_
  have nx:=ih (i+1) (by omega)
  rw[<-Bk i (by omega)] at nx
  unfold Gv
  rw[Ag (S8 (by omega))]
  exact Ah (by omega) (A6 (by omega) fun x hx=>Aq (fun _=>⟨⟨_,_,_,_⟩,.ret _⟩) fun _=>nx)
theorem par_ex(q:ByteArray):∃c:CmD,Ac (IA q) (Ku q) (cmR c):=by
 have hL:=(O5 q).1;unfold Ku;refine Aq (fun _=>⟨⟨_,_,_,_⟩,.ret _⟩) fun _=>Aq (fun _=>⟨⟨_,_,_,_⟩,.ret _⟩) fun hn=>?_
 have hn:((Fm q).length:Int)=1:=by simpa [iN] using hn
 refine A6 (by show 0<_;omega) fun x hx=>?_
 obtain⟨hf,hs⟩:=hL x (S6 hx);refine A6 (by show 0<_;exact List.length_pos_iff.2 hf) fun y hy=>?_
 have hk:=kinN_rng y;refine Aq (fun hb=>Aq (fun _=>⟨⟨_,_,_,_⟩,.ret _⟩) fun _=>Aq (fun _=>⟨⟨_,_,_,_⟩,.ret _⟩) fun hw=>?_) (fun hb=>Aq (fun _=>⟨⟨_,_,_,_⟩,.ret _⟩) fun _=>Aq (fun _=>⟨⟨_,_,_,_⟩,.ret _⟩) fun hw=>?_)
 .rw[CQ (x:=B5 y+1) (by omega) (by omega),CQ (by omega) (by omega)] at hw;have hw:(x.f.length:Int)=1+(B5 y+1):=by simpa [iN] using hw
  exact OM q x (B5 y) (Fh y) (EJ y) hk (by rw[S0 hb];omega) hs (B5 y).toNat 1 (by omega)
 .rw[CQ (by omega) (by omega)] at hw;have hw:(x.f.length:Int)=1+B5 y:=by simpa [iN] using hw
  exact OM q x (B5 y) (Fh y) (EJ y) hk (by rw[S1 (by rw[hb];simp)];omega) hs (B5 y).toNat 1 (by omega)
theorem Po(q:ByteArray):∃c:CmD,CT T5 10 [] [.str q] [] (cmA c):=by obtain⟨c,h⟩:=par_ex q;exact⟨c,par_ct q _ h⟩
@[irreducible] def paC(q:ByteArray):CmD:=Classical.choose (Po q)
theorem par_c(q:ByteArray):CT T5 10 [] [.str q] [] (cmA (paC q)):=by unfold paC;exact TE (Po q)
theorem leN{a b:Nat}(h:a<=b):Nat.le a b:=h
theorem M7{s:ByteArray}(h:nmB s=true):s.size<=12:=by unfold nmB at h;rw[Ta,Ta,Ta] at h;have h2:=h.1.1.2;simp only[TR,decide_eq_false_iff_not,iN] at h2;omega
theorem PD:∀x:Int,0<=x/\x<100->(Dn x).size<=2:=by
 have:∀n,n<100->(AL n).size<=2:=by decide +kernel
 intro x hx;unfold Dn;exact this x.toNat (by omega)
def ordR(L:List Int)(p:ByteArray×Nat):Ret:=([some (AE L p.2)],.str p.1)
theorem ord_ex(L:List Int)(kk:Nat)(n:Aa)(hv:Ao n)(h3:3<=n.ss.length)(hk:kk<=90000):∃p:{p:ByteArray×Nat // p.2<=kk+8},Ac emT (K5 L kk n) (ordR L p.1):=by
 have hns:=hv.ns
 have hnb:=hv.nb24
 have hS:∀k,k<=100000->(AJ L k n).size<=12:=fun k h=>by
  obtain⟨_,s,hs,he⟩:=stn_s (L:=L) hv h3 h
  obtain⟨i,hi⟩:=List.getElem?_of_mem hs
  rw[<-he];exact M7 (hv.spu i s hi).nm
 have hK:∀k,k<=100000->AI L k n<=k+3:=fun k h=>(stn_s (L:=L) hv h3 h).1
 have k1:=hK (kk+1+1) (by omega)
 have k2:=hK (AI L (kk+1+1) n) (by omega)
 have k3:=hK (kk+1+1+1) (by omega)
 have s1:=hS (kk+1+1) (by omega)
 have s2:=hS (AI L (kk+1+1) n) (by omega)
 have s3:=hS (kk+1+1+1) (by omega)
 have r0:=BA L kk n.bs.length (by omega) (by omega)
 have r1:=BA L (kk+1+1) n.ss.length (by omega) (by omega)
 have r6:=BA L (kk+1+1) 6 (by omega) (by omega)
 have r4:=BA L (kk+1+1) 4 (by omega) (by omega)
 have d6:=PD (Ae L (kk+1+1) 6) (by omega)
 have d4:=PD (Ae L (kk+1+1) 4) (by omega)
 have e5:(ByteArray.mk #[116,97,115,107,32]).size=5:=rfl
 have e1:(ByteArray.mk #[32]).size=1:=rfl
 unfold K5
 simp only[iN,S5]
 refine Ah (by omega) (Ah r0.1 (A6 (by omega) fun x hx=>?_))
 have sx:=M7 (hv.blk _ x hx).nm
 repeat' (first
  | exact⟨⟨(_,_),by show _<=kk+8;omega⟩,.ret _⟩
  | refine Ah (by first | exact hv | omega | (refine leN ?_;(try simp only[ByteArray.size_append,e5,e1]);omega)) ?_
  | refine Aq (fun h=>?_) (fun h=>?_)
  | refine A6 (by omega) (fun y hy=>?_)
  | refine Ah (by have:=M7 (hv.spu _ _ ‹_›).nm;refine leN ?_;omega) ?_)
theorem Kg(L:List Int)(kk:Nat)(n:Aa):∃p:ByteArray×Nat,Ao n->3<=n.ss.length->kk<=90000->p.2<=kk+8/\CT T5 11 [some (AE L kk)] [.ptr 0 0 0,Aj n] [some (AE L p.2)] (.str p.1):=by
 by_cases h:Ao n/\3<=n.ss.length/\kk<=90000
 .obtain⟨p,hp⟩:=ord_ex L kk n h.1 h.2.1 h.2.2;exact⟨p.1,fun _ _ _=>⟨p.2,ord_ct L kk n _ hp⟩⟩
 .exact⟨(⟨#[]⟩,0),fun a b c=>absurd ⟨a,b,c⟩ h⟩
@[irreducible] def Du(L:List Int)(kk:Nat)(n:Aa):ByteArray:=(Classical.choose (Kg L kk n)).1
@[irreducible] def Jt(L:List Int)(kk:Nat)(n:Aa):Nat:=(Classical.choose (Kg L kk n)).2
theorem ord_s{L:List Int}{kk:Nat}{n:Aa}(hv:Ao n)(h3:3<=n.ss.length)(hk:kk<=90000):Jt L kk n<=kk+8:=by unfold Jt;exact(TE (Kg L kk n) hv h3 hk).1
theorem ord_c(L:List Int)(kk:Nat)(n:Aa)(hv:Ao n)(h3:3<=n.ss.length)(hk:kk<=90000):CT T5 11 [some (AE L kk)] [.ptr 0 0 0,Aj n] [some (AE L (Jt L kk n))] (.str (Du L kk n)):=by unfold Du Jt;exact(TE (Kg L kk n) hv h3 hk).2
inductive Gk where | l0 (v0:Int) (v1:Nat) (v2:List Bool) (v3 v4:List Int) (v5:List TsD) (v6:List UsD)
def lifSt(L:List Int)(kk:Nat)(w:Int):Gk->St | .l0 v0 v1 v2 v3 v4 v5 v6=>St.mk 52 [(0,AV.ptr 0 0 0),(1,iv w),(4,AV.ptr 1 0 0),(5,AV.ptr 2 0 0),(6,AV.ptr 3 0 0),(7,AV.ptr 4 0 0),(9,iv v0)] [some (AE L v1),some (bK [AV.agg [AV.nils,AV.nils,AV.nils,AV.nils,iv 0,iv 0,iv 0,iv 0]] 8),some (bK [AV.agg [AV.nils,AV.nils,AV.nils,AV.nils,AV.nils]] 5),some (bK [Aj (Ar L kk 6)] 8),some (bK [AV.agg [T4 (TY bV v2),T4 (TY iv v3),T4 (TY iv v4),T4 (TY tsA v5),T4 (TY usA v6)]] 5)]
def KR(L:List Int)(kk:Nat)(w:Int):Option (Gk⊕Ret):=gu (kk<=5000) <|gu (Ao (Ar L kk 6)) <|gu (RwV (Ar L kk 6)) <|some (.inl (.l0 ((0:Int)) (Iw L kk 6) ((AM (Ar L kk 6)).cl) ((AM (Ar L kk 6)).bw) ([]) ([]) (neU (Ar L kk 6))))
def HF(L:List Int)(kk:Nat)(w v0:Int)(v1:Nat)(v2:List Bool)(v3 v4:List Int)(v5:List TsD)(v6:List UsD):Option (Gk⊕Ret):=br (decide (v0<w)) (gu (v1<9223372036854775807) <|br (decide (0<Ae L v1 3)) (gu (Ao (Ar L kk 6)) <|gu (3<=(Ar L kk 6).ss.length) <|gu (v1+1<=90000) <|gu (LgV (Ar L kk 6) (LgD.mk v2 v3 v4 v5 v6)) <|some (.inl (.l0 (i64.wrap (v0+1)) (Jt L (v1+1) (Ar L kk 6)) ((doL (Ar L kk 6) v2 v3 v4 v5 v6 (paC (Du L (v1+1) (Ar L kk 6)))).cl) ((doL (Ar L kk 6) v2 v3 v4 v5 v6 (paC (Du L (v1+1) (Ar L kk 6)))).bw) ((doL (Ar L kk 6) v2 v3 v4 v5 v6 (paC (Du L (v1+1) (Ar L kk 6)))).pe) ((doL (Ar L kk 6) v2 v3 v4 v5 v6 (paC (Du L (v1+1) (Ar L kk 6)))).tk) ((doL (Ar L kk 6) v2 v3 v4 v5 v6 (paC (Du L (v1+1) (Ar L kk 6)))).us)))) (gu (Ao (Ar L kk 6)) <|gu (v1+1<=100000) <|gu (LgV (Ar L kk 6) (LgD.mk v2 v3 v4 v5 v6)) <|br (Jp (Ar L kk 6) v2 v3 v4 v5 v6 (DA L (v1+1) (Ar L kk 6) v2 v3 v4 v5 v6) (Dr L (v1+1) (Ar L kk 6) v2 v3 v4 v5 v6) (DM L (v1+1) (Ar L kk 6) v2 v3 v4 v5 v6) (Dw L (v1+1) (Ar L kk 6) v2 v3 v4 v5 v6)==0) (some (.inl (.l0 (i64.wrap (v0+1)) (F6 L (v1+1) (Ar L kk 6) v2 v3 v4 v5 v6) ((DL (Ar L kk 6) v2 v3 v4 v5 v6 (DA L (v1+1) (Ar L kk 6) v2 v3 v4 v5 v6) (Dr L (v1+1) (Ar L kk 6) v2 v3 v4 v5 v6) (DM L (v1+1) (Ar L kk 6) v2 v3 v4 v5 v6) (Dw L (v1+1) (Ar L kk 6) v2 v3 v4 v5 v6)).cl) ((DL (Ar L kk 6) v2 v3 v4 v5 v6 (DA L (v1+1) (Ar L kk 6) v2 v3 v4 v5 v6) (Dr L (v1+1) (Ar L kk 6) v2 v3 v4 v5 v6) (DM L (v1+1) (Ar L kk 6) v2 v3 v4 v5 v6) (Dw L (v1+1) (Ar L kk 6) v2 v3 v4 v5 v6)).bw) ((DL (Ar L kk 6) v2 v3 v4 v5 v6 (DA L (v1+1) (Ar L kk 6) v2 v3 v4 v5 v6) (Dr L (v1+1) (Ar L kk 6) v2 v3 v4 v5 v6) (DM L (v1+1) (Ar L kk 6) v2 v3 v4 v5 v6) (Dw L (v1+1) (Ar L kk 6) v2 v3 v4 v5 v6)).pe) ((DL (Ar L kk 6) v2 v3 v4 v5 v6 (DA L (v1+1) (Ar L kk 6) v2 v3 v4 v5 v6) (Dr L (v1+1) (Ar L kk 6) v2 v3 v4 v5 v6) (DM L (v1+1) (Ar L kk 6) v2 v3 v4 v5 v6) (Dw L (v1+1) (Ar L kk 6) v2 v3 v4 v5 v6)).tk) ((DL (Ar L kk 6) v2 v3 v4 v5 v6 (DA L (v1+1) (Ar L kk 6) v2 v3 v4 v5 v6) (Dr L (v1+1) (Ar L kk 6) v2 v3 v4 v5 v6) (DM L (v1+1) (Ar L kk 6) v2 v3 v4 v5 v6) (Dw L (v1+1) (Ar L kk 6) v2 v3 v4 v5 v6)).us)))) (some (.inl (.l0 (i64.wrap (v0+1)) (F6 L (v1+1) (Ar L kk 6) v2 v3 v4 v5 v6) v2 v3 v4 v5 v6))))) (some (.inr ([some (bK [AV.agg [T4 (TY iV L),iV (iN v1)]] 2)],AV.tup [AV.agg [T4 (TY bA (Ar L kk 6).bs),T4 (gL (Ar L kk 6).nx),T4 (TY sA (Ar L kk 6).ss),T4 (TY iV (Ar L kk 6).rs),iV (Ar L kk 6).q,iV (Ar L kk 6).a,iV (Ar L kk 6).d,iV (Ar L kk 6).p],AV.agg [T4 (TY bV v2),T4 (TY iV v3),T4 (TY iV v4),T4 (TY tsA v5),T4 (TY usA v6)]])))
def IK(L:List Int)(kk:Nat)(w:Int):Gk->Option (Gk⊕Ret) | .l0 v0 v1 v2 v3 v4 v5 v6=>HF L kk w v0 v1 v2 v3 v4 v5 v6
theorem lif_ct(L:List Int)(kk:Nat)(w:Int)(r:Ret)(h:Ac (IK L kk w) (KR L kk w) r):CT T5 8 ([some (AE L kk)]) ([.ptr 0 0 0,.int .i64 w]) r.1 r.2:=
 CT.mach (fn:=Tryz.f8) (c:=zB Tryz.f8) (S:=(lifSt L kk w)) (hd:=Gk.ctorIdx) Tryz.func8 (by kernel_rfl) (nL rfl)
  (fun s o ho=>match s,ho with
 | .l0 v0 v1 v2 v3 v4 v5 v6,ho=>Scr.ok (X:=HF L kk w v0 v1 v2 v3 v4 v5 v6) ho mix (
 .rn 0 [] [] [] [] (al (u2 (u2 (al t3)))) <|
 .br (fun a0=>
 .gu fun a1=>
 have c0:=AG (L) v1 (3) a1;
 .rn 0 [43] [] [(25,hK c0 [0] [])] [] (aj a0 (al (u2 (aj (ak (k3 (al (c0)))) s2)))) <|
 .br (fun a2=>
  .gu fun a3=>
  .gu fun a4=>
  .gu fun a5=>
  .gu fun a6=>
  have c1:=ord_c (L) (v1+1) (Ar L kk 6) a3 a4 a5;
  have c2:=par_c (Du L (v1+1) (Ar L kk 6));
  have c3:=do_c (Ar L kk 6) v2 v3 v4 v5 v6 (paC (Du L (v1+1) (Ar L kk 6))) a6;
  .lp [53] [] [(32,hK c1 [0] []),(33,hK c2 [] []),(34,hK c3 [] [])] [] [] [0,1,2,3,4] [0,1,4,5,6,7,9] (aj (aj a2 (aj (u2 (u2 (u2 (u2 (aj (k3 (aj t9 (ak (al (c1))))) (aj (k2 (al (c2))) (aj (k3 (aj t9 (aj t6 (aj t5 (al (c3)))))) (u2 (u2 (u2 (al (k2 (show Nat.le 1 [AV.agg [T4 (TY bV v2),T4 (TY iv v3),T4 (TY iv v4),T4 (TY tsA v5),T4 (TY usA v6)]].length from(nL rfl)))))))))))))) (al (u2 (u2 s2))))) (ak (k3 t9))))
 (fun a2=>
  .gu fun a3=>
  .gu fun a4=>
  .gu fun a5=>
  have c1:=fct_c (L) (v1+1) (Ar L kk 6) v2 v3 v4 v5 v6 a3 a4;
  have c2:=fa6_c (Ar L kk 6) v2 v3 v4 v5 v6 (DA L (v1+1) (Ar L kk 6) v2 v3 v4 v5 v6) (Dr L (v1+1) (Ar L kk 6) v2 v3 v4 v5 v6) (DM L (v1+1) (Ar L kk 6) v2 v3 v4 v5 v6) (Dw L (v1+1) (Ar L kk 6) v2 v3 v4 v5 v6) a5;
  .rn 1 [52] [] [(43,hK c1 [0] []),(44,hK c2 [] [])] [] (aj a2 (aj (u2 (u2 (u2 (u2 (u2 (aj (ak (k3 (aj t9 (aj t6 (ak (al (c1))))))) (aj (k3 (aj t9 (aj t6 (aj t5 (al (c2)))))) (u2 (u2 (u2 (ak (aj (k2 n11) s2)))))))))))) (al (u2 s2)))) <|
  .br (fun a6=>
  .lp [97] [] [] [] [] [0,1,2,3,4] [0,1,4,5,6,7,9] (aj (aj a6 (aj (u2 (al (k2 (show Nat.le 1 [AV.agg [T4 (TY bV v2),T4 (TY iv v3),T4 (TY iv v4),T4 (TY tsA v5),T4 (TY usA v6)]].length from(nL rfl))))) (al (u2 (u2 s2))))) (ak (k3 t9))))
  (fun a6=>
  .lp [96] [] [] [] [] [0,1,2,3,4] [0,1,4,5,6,7,9] (aj (aj a6 (al (u2 (u2 s2)))) (ak (k3 t9))))))
 (fun a0=>
 .rt [42] [] [] [] [0] [] (aj (aj a0 (al (u2 (u2 (aj (k2 n11) (al (k2 n11))))))) (aj (aj t9 (al t6)) t2)))) (by kernel_rfl)
  )
  (fun o ho=>Scr.ok (X:=KR L kk w) ho mix (
 .rn 0 [] [] [] [] (al t3) <|
 .gu fun a0=>
 have c0:=net_ct (L) (kk) (6) a0 (show(1:Int)<=(6:Int)/\(6:Int)<=(20:Int) from ⟨(by first | exact nL rfl | decide),(by first | exact nL rfl | decide)⟩);
 .rn 0 [] [] [(13,hK c0 [0] [])] [] (al (u2 (aj (ak (k3 (al (c0)))) (ak (al (k2 n11)))))) <|
 .gu fun a1=>
 .gu fun a2=>
 have c1:=ne6_c (Ar L kk 6) a1 a2;
 .lp [] [] [(16,hK c1 [] [])] [] [] [0,1,2,3,4] [0,1,4,5,6,7,9] (aj (aj (u2 (aj (ak (aj t9 (al (c1)))) (u2 (u2 (u2 (ak (aj (k2 n11) s2))))))) s2) (ak (k3 t9)))) (by kernel_rfl)) h
def lifR(L:List Int)(kk:Nat)(p:LgD×Nat):Ret:=([some (AE L p.2)],.tup [Aj (Ar L kk 6),lgA p.1])
theorem lif_loop(L:List Int)(kk:Nat)(w:Int)(hk:kk<=5000)(hw:0<=w/\w<=100):∀(d i:Nat) (v1:Nat) (v2:List Bool) (v3 v4:List Int) (v5:List TsD) (v6:List UsD),(i:Int)+d=w->v1<=kk+200+9 * i->LgV (Ar L kk 6) ⟨v2,v3,v4,v5,v6⟩->∃p:{p:LgD×Nat // p.2<=kk+1200/\LgV (Ar L kk 6) p.1},Ac (IK L kk w) (some (.inl (.l0 (i:Int) v1 v2 v3 v4 v5 v6))) (lifR L kk p.1):=by
 have hN:=(KW (L:=L) hk (show(1:Int)<=6/\(6:Int)<=20 by omega)).1;intro d;induction d with
 | zero=>intro i v1 v2 v3 v4 v5 v6 hi h1 hV;refine AD (show IK L kk w (.l0 (i:Int) v1 v2 v3 v4 v5 v6)=HF L kk w i v1 v2 v3 v4 v5 v6 from rfl) ?_;unfold HF;rw[Ad (S7 (by omega))];exact⟨⟨(⟨v2,v3,v4,v5,v6⟩,v1),by show v1<=_;omega,hV⟩,.ret _⟩
 | succ d ih=>
  intro i v1 v2 v3 v4 v5 v6 hi h1 hV;refine AD (show IK L kk w (.l0 (i:Int) v1 v2 v3 v4 v5 v6)=HF L kk w i v1 v2 v3 v4 v5 v6 from rfl) ?_;unfold HF;rw[Ag (S8 (by omega)),Bk i (by omega)];refine Ah (by omega) (Aq (fun _=>?_) fun _=>?_)
  .have h2:=ord_s (L:=L) (kk:=v1+1) hN.v hN.ln.1 (by omega);exact Ah hN.v (Ah hN.ln.1 (Ah (by omega) (Ah hV (ih (i+1) _ _ _ _ _ _ (by omega) (by omega) (do_v hV)))))
  .have h2:=fct_s (L:=L) (kk:=v1+1) (cl:=v2) (bw:=v3) (pe:=v4) (tk:=v5) (us:=v6) hN.v (by omega);exact Ah hN.v (Ah (by omega) (Ah hV (Aq (fun he=>ih (i+1) _ _ _ _ _ _ (by omega) (by omega) (fa6_v hV (by simpa using he))) fun _=>ih (i+1) _ _ _ _ _ _ (by omega) (by omega) hV)))
theorem JK(L:List Int)(kk:Nat)(w:Int):∃p:LgD×Nat,kk<=5000->(0<=w/\w<=100)->(p.2<=kk+1200/\LgV (Ar L kk 6) p.1)/\CT T5 8 [some (AE L kk)] [.ptr 0 0 0,.int .i64 w] [some (AE L p.2)] (.tup [Aj (Ar L kk 6),lgA p.1]):=by
 by_cases h:kk<=5000/\(0<=w/\w<=100)
 .have hN:=KW (L:=L) h.1 (show(1:Int)<=6/\(6:Int)<=20 by omega);obtain⟨p,hp⟩:∃p:{p:LgD×Nat // p.2<=kk+1200/\LgV (Ar L kk 6) p.1},Ac (IK L kk w) (KR L kk w) (lifR L kk p.1):=by unfold KR;exact Ah h.1 (Ah hN.1.v (Ah hN.1.rwv (lif_loop L kk w h.1 h.2 w.toNat 0 _ _ _ _ _ _ (by omega) (by have:=hN.2.1;omega) (neV hN.1.v hN.1.rwv))))
  exact⟨p.1,fun _ _=>⟨p.2,lif_ct L kk w _ hp⟩⟩
 .exact⟨(⟨[],[],[],[],[]⟩,0),fun a b=>absurd ⟨a,b⟩ h⟩
@[irreducible] def liL(L:List Int)(kk:Nat)(w:Int):LgD:=(Classical.choose (JK L kk w)).1
@[irreducible] def liK(L:List Int)(kk:Nat)(w:Int):Nat:=(Classical.choose (JK L kk w)).2
theorem li_s{L:List Int}{kk:Nat}{w:Int}(hk:kk<=5000)(hw:0<=w/\w<=100):liK L kk w<=kk+1200/\LgV (Ar L kk 6) (liL L kk w):=by unfold liL liK;exact(TE (JK L kk w) hk hw).1
theorem li_c(L:List Int)(kk:Nat)(w:Int)(hk:kk<=5000)(hw:0<=w/\w<=100):CT T5 8 [some (AE L kk)] [.ptr 0 0 0,.int .i64 w] [some (AE L (liK L kk w))] (.tup [Aj (Ar L kk 6),lgA (liL L kk w)]):=by unfold liL liK;exact(TE (JK L kk w) hk hw).2
def bkB(n:Aa)(a b c d e:AV):AV:=.agg [.lst (n.bs.map bA),.lst (gL n.nx),.lst (n.ss.map sA),.lst (n.rs.map (AV.int .i64)),.int .i64 n.q,.int .i64 n.a,.int .i64 n.d,.int .i64 n.p,a,b,c,d,e]
def bkH(n:Aa)(cl:List Bool)(bw pe:List Int)(tk:List TsD)(us:List UsD)(n1 n2:Nat):List (Option Blk):=[some {es:=[bkB n (.lst (boL cl)) (lI bw) (lI pe) (.sl 1 0 n1) (.sl 2 0 n2)],z:=13,flat:=false},some {es:=tk.map tsA,z:=5},some {es:=us.map usA,z:=13}]
def bkR(n:Aa)(cl:List Bool)(bw pe:List Int)(tk:List TsD)(us:List UsD)(n1 n2:Nat):List (Option Blk):=[some {es:=[bkB n (.lst (boL cl)) (lI bw) (lI pe) (.sl 1 0 n1) (.sl 2 0 n2)],z:=13,flat:=false,wr:=false},some {es:=tk.map tsA,z:=5,wr:=false},some {es:=us.map usA,z:=13,wr:=false}]
def L5(n:Aa)(q:Int)(l:Bool):Option (Empty⊕Ret):=br (decide (0<=q)) (br (decide (q<iN (TY sA n.ss).length)) (gu (0<=q) <|el (n.ss) (q.toNat) fun(x20:Av)=>some (.inr ([],bV (x20.dep==l)))) (some (.inr ([],bV false)))) (some (.inr ([],bV false)))
theorem isS_ct(n:Aa)(q:Int)(l:Bool)(r:Ret)(h:Ac emT (L5 n q l) r):CT T5 72 ([]) ([Aj n,.int .i64 q,.bool l]) r.1 r.2:=
 CT.mach (fn:=Tryz.f72) (c:=zB Tryz.f72) (S:=emS) (hd:=emH) Tryz.func72 (by kernel_rfl) (nL rfl)
  (fun s o ho=>match s,ho with
   | x,_=>x.elim)
  (fun o ho=>Scr.ok (X:=L5 n q l) ho mix (
 .rn 0 [] [] [] [] (al (u2 t2)) <|
 .br (fun a0=>
 .br (fun a1=>
  .gu fun a2=>
  .el fun x20 a3=>
  .rt [19,33] [(20,sA x20)] [] [] [] [] (aj (al (u2 (u2 (u2 (ag a0 (ag a0 (ag a0 (ag a0 (aj (aj a0 t3) (ag a0 (u2 (ag a1 (ag a1 (ag a1 (aj (aj a1 (k2 (aj a2 (Af (f:=sA) a3)))) (ag a1 (ag a1 (ag a1 (aj (aj a1 t3) (ag a1 s2)))))))))))))))))))) t2))
 (fun a1=>
  .rt [19,32] [] [] [] [] [] (aj (al (u2 (u2 (u2 (ag a0 (ag a0 (ag a0 (ag a0 (aj (aj a0 t3) (ag a0 (u2 (aj a1 (aj a1 (aj a1 (aj a1 (aj a1 (aj a1 (aj a1 (aj a1 (ag a1 s2)))))))))))))))))))) t2)))
 (fun a0=>
 .rt [18] [] [] [] [] [] (aj (al (u2 (u2 (u2 (aj a0 (aj a0 (aj a0 (aj a0 (aj a0 (ag a0 (u2 (k3 (k5 (aj t3 s2)))))))))))))) t2))) (by kernel_rfl)) h
def prsEn(x:UsD):Option (Empty⊕Ret):=some (.inr ([],bV (x.s != 3)))
theorem prs_ct(x:UsD)(r:Ret)(h:Ac emT (prsEn x) r):CT T5 88 ([]) ([usA x]) r.1 r.2:=
 CT.mach (fn:=Tryz.f88) (c:=zB Tryz.f88) (S:=emS) (hd:=emH) Tryz.func88 (by kernel_rfl) (nL rfl)
  (fun s o ho=>match s,ho with
   | x,_=>x.elim)
  (fun o ho=>Scr.ok (X:=prsEn x) ho mix (
 .rt [] [] [] [] [] [] (aj (ag t2 (al (u2 (u2 (u2 s2))))) t2)) (by kernel_rfl)) h
def LJ(x:UsD):Option (Empty⊕Ret):=br (x.s==0) (some (.inr ([],bV true))) (some (.inr ([],bV (x.s==1))))
theorem inf_ct(x:UsD)(r:Ret)(h:Ac emT (LJ x) r):CT T5 84 ([]) ([usA x]) r.1 r.2:=
 CT.mach (fn:=Tryz.f84) (c:=zB Tryz.f84) (S:=emS) (hd:=emH) Tryz.func84 (by kernel_rfl) (nL rfl)
  (fun s o ho=>match s,ho with
   | x,_=>x.elim)
  (fun o ho=>Scr.ok (X:=LJ x) ho mix (
 .rn 0 [] [] [] [] (al (u2 t2)) <|
 .br (fun a0=>
 .rt [13] [] [] [] [] [] (aj (al (u2 (u2 (u2 (u2 (aj a0 (aj a0 (aj a0 (ag a0 s2))))))))) t2))
 (fun a0=>
 .rt [12] [] [] [] [] [] (aj (al (u2 (u2 (u2 (u2 (ag a0 (ag a0 (ag a0 (ag a0 s2))))))))) t2))) (by kernel_rfl)) h
def isAEn(q:Int):Option (Empty⊕Ret):=some (.inr ([],AV.agg [iV 12,iV q]))
theorem isA_ct(q:Int)(r:Ret)(h:Ac emT (isAEn q) r):CT T5 91 ([]) ([.int .i64 q]) r.1 r.2:=
 CT.mach (fn:=Tryz.f91) (c:=zB Tryz.f91) (S:=emS) (hd:=emH) Tryz.func91 (by kernel_rfl) (nL rfl)
  (fun s o ho=>match s,ho with
   | x,_=>x.elim)
  (fun o ho=>Scr.ok (X:=isAEn q) ho mix (
 .rt [] [] [] [] [] [] (aj (u2 (al (u2 (u2 (al (k2 n11)))))) (al t3))) (by kernel_rfl)) h
def okAEn(q:Int):Option (Empty⊕Ret):=some (.inr ([],AV.agg [iV 1,iV q]))
theorem okA_ct(q:Int)(r:Ret)(h:Ac emT (okAEn q) r):CT T5 79 ([]) ([.int .i64 q]) r.1 r.2:=
 CT.mach (fn:=Tryz.f79) (c:=zB Tryz.f79) (S:=emS) (hd:=emH) Tryz.func79 (by kernel_rfl) (nL rfl)
  (fun s o ho=>match s,ho with
   | x,_=>x.elim)
  (fun o ho=>Scr.ok (X:=okAEn q) ho mix (
 .rt [] [] [] [] [] [] (aj (u2 (al (u2 (u2 (al (k2 n11)))))) (al t3))) (by kernel_rfl)) h
inductive EL where | l0 (v0:Int)
def avlSt(l:List TsD):EL->St | .l0 v0=>St.mk 43 [(8,T4 (TY tsA l)),(9,iv (iN (TY tsA l).length)),(10,iv v0)] []
def NC(l:List TsD):Option (EL⊕Ret):=br (decide (32<iN (TY tsA l).length)) (some (.inr ([],bV false))) (some (.inl (.l0 ((0:Int)))))
def EC(l:List TsD)(v0:Int):Option (EL⊕Ret):=br (decide (v0<iN (TY tsA l).length)) (gu (0<=v0) <|el l (v0.toNat) fun(x12:TsD)=>br (decide (x12.s<0)) (some (.inr ([],bV false))) (br (decide (5<x12.s)) (some (.inr ([],bV false))) (br (decide (x12.q < -1)) (some (.inr ([],bV false))) (br (decide (8<=x12.q)) (some (.inr ([],bV false))) (br (decide (x12.ov<0)) (some (.inr ([],bV false))) (br (decide (32<x12.ov)) (some (.inr ([],bV false))) (some (.inl (.l0 (i64.wrap (v0+1))))))))))) (some (.inr ([],bV true)))
def avlStep(l:List TsD):EL->Option (EL⊕Ret) | .l0 v0=>EC l v0
theorem avl_ct(l:List TsD)(r:Ret)(h:Ac (avlStep l) (NC l) r):CT T5 120 ([]) ([.lst (l.map tsA)]) r.1 r.2:=
 CT.mach (fn:=Tryz.f120) (c:=zB Tryz.f120) (S:=(avlSt l)) (hd:=EL.ctorIdx) Tryz.func120 (by kernel_rfl) (nL rfl)
  (fun s o ho=>match s,ho with
 | .l0 v0,ho=>Scr.ok (X:=EC l v0) ho mix (
 .rn 0 [] [] [] [] (al (al t3)) <|
 .br (fun a0=>
 .gu fun a1=>
 .el fun x12 a2=>
 .rn 0 [23] [(12,tsA x12)] [] [] (aj a0 (al (aj (k2 (aj a1 (Af (f:=tsA) a2))) (u2 (ak (al (k2 n11))))))) <|
 .br (fun a3=>
  .rt [35] [] [] [] [] [] (aj (aj (u2 (u2 (u2 (u2 (aj a3 (aj a3 (aj a3 (ag a3 (u2 (k3 (aj t3 (u2 (k3 (aj t3 (u2 (k3 (aj t3 (u2 (k3 (al t3)))))))))))))))))))) (ak s2)) t2))
 (fun a3=>
  .br (fun a4=>
  .rt [34,45] [] [] [] [] [] (aj (aj (u2 (u2 (u2 (u2 (ag a3 (ag a3 (ag a3 (ag a3 (u2 (aj a4 (aj a4 (aj a4 (ag a4 (u2 (k3 (aj t3 (u2 (k3 (aj t3 (u2 (k3 (al t3)))))))))))))))))))))) (ak s2)) t2))
  (fun a4=>
  .br (fun a5=>
   .rt [34,44,55] [] [] [] [] [] (aj (aj (u2 (u2 (u2 (u2 (ag a3 (ag a3 (ag a3 (ag a3 (u2 (ag a4 (ag a4 (ag a4 (ag a4 (u2 (aj a5 (aj a5 (aj a5 (ag a5 (u2 (k3 (aj t3 (u2 (k3 (al t3)))))))))))))))))))))))) (ak s2)) t2))
  (fun a5=>
   .br (fun a6=>
   .rt [34,44,54,65] [] [] [] [] [] (aj (aj (u2 (u2 (u2 (u2 (ag a3 (ag a3 (ag a3 (ag a3 (u2 (ag a4 (ag a4 (ag a4 (ag a4 (u2 (ag a5 (ag a5 (ag a5 (ag a5 (u2 (aj a6 (aj a6 (aj a6 (ag a6 (u2 (k3 (al t3)))))))))))))))))))))))))) (ak s2)) t2))
   (fun a6=>
   .br (fun a7=>
    .rt [34,44,54,64,75] [] [] [] [] [] (aj (aj (u2 (u2 (u2 (u2 (ag a3 (ag a3 (ag a3 (ag a3 (u2 (ag a4 (ag a4 (ag a4 (ag a4 (u2 (ag a5 (ag a5 (ag a5 (ag a5 (u2 (ag a6 (ag a6 (ag a6 (ag a6 (u2 (aj a7 (aj a7 (aj a7 (al (aj a7 t2))))))))))))))))))))))))))))) (ak s2)) t2))
   (fun a7=>
    .rn 0 [34,44,54,64,74] [] [] [] (al (u2 (u2 (u2 (u2 (ag a3 (ag a3 (ag a3 (ag a3 (u2 (ag a4 (ag a4 (ag a4 (ag a4 (u2 (ag a5 (ag a5 (ag a5 (ag a5 (u2 (ag a6 (ag a6 (ag a6 (ag a6 (u2 (ag a7 (ag a7 (ag a7 (al (aj a7 t2)))))))))))))))))))))))))))))) <|
    .br (fun a8=>
    .rt [34,44,54,64,74,83] [] [] [] [] [] (aj (aj a8 s2) t2))
    (fun a8=>
    .lp [34,44,54,64,74,82] [] [] [] [] [] [8,9,10] (aj (aj a8 (al (u2 s2))) t4))))))))
 (fun a0=>
 .rt [22] [] [] [] [] [] (aj (aj a0 s2) t2))) (by kernel_rfl)
  )
  (fun o ho=>Scr.ok (X:=NC l) ho mix (
 .rn 1 [] [] [] [] (u2 (al (u2 (u2 s2)))) <|
 .br (fun a0=>
 .rt [15] [] [] [] [] [] (aj (aj a0 s2) t2))
 (fun a0=>
 .lp [14] [] [] [] [] [] [8,9,10] (aj (aj a0 (al (u2 (u2 t2)))) t4))) (by kernel_rfl)) h
inductive Ha where | l0 (v0 v1:Int)
def aqdSt(l:List TsD):Ha->St | .l0 v0 v1=>St.mk 19 [(3,iv v0),(6,T4 (TY tsA l)),(7,iv (iN (TY tsA l).length)),(8,iv v1)] []
def aqdEn(l:List TsD):Option (Ha⊕Ret):=some (.inl (.l0 ((0:Int)) ((0:Int))))
def H3(l:List TsD)(v0 v1:Int):Option (Ha⊕Ret):=br (decide (v1<iN (TY tsA l).length)) (gu (0<=v1) <|el l (v1.toNat) fun(x10:TsD)=>br (x10.s==0) (some (.inl (.l0 (i64.wrap (v0+1)) (i64.wrap (v1+1))))) (some (.inl (.l0 v0 (i64.wrap (v1+1)))))) (some (.inr ([],iV v0)))
def Qn(l:List TsD):Ha->Option (Ha⊕Ret) | .l0 v0 v1=>H3 l v0 v1
theorem aqd_ct(l:List TsD)(r:Ret)(h:Ac (Qn l) (aqdEn l) r):CT T5 121 ([]) ([.lst (l.map tsA)]) r.1 r.2:=
 CT.mach (fn:=Tryz.f121) (c:=zB Tryz.f121) (S:=(aqdSt l)) (hd:=Ha.ctorIdx) Tryz.func121 (by kernel_rfl) (nL rfl)
  (fun s o ho=>match s,ho with
 | .l0 v0 v1,ho=>Scr.ok (X:=H3 l v0 v1) ho mix (
 .rn 0 [] [] [] [] (al (al t3)) <|
 .br (fun a0=>
 .gu fun a1=>
 .el fun x10 a2=>
 .rn 1 [19] [(10,tsA x10)] [] [] (aj a0 (aj (aj (k2 (aj a1 (Af (f:=tsA) a2))) (u2 (ak (al (k2 n11))))) (al (u2 (u2 s2))))) <|
 .br (fun a3=>
  .lp [29] [] [] [] [] [] [3,6,7,8] (aj (aj a3 (aj (u2 (u2 s2)) (al (u2 s2)))) t5))
 (fun a3=>
  .lp [28] [] [] [] [] [] [3,6,7,8] (aj (aj a3 (al (u2 s2))) t5)))
 (fun a0=>
 .rt [18] [] [] [] [] [] (aj (aj a0 (al (u2 s2))) t2))) (by kernel_rfl)
  )
  (fun o ho=>Scr.ok (X:=aqdEn l) ho mix (
 .lp [] [] [] [] [] [] [3,6,7,8] (aj (u2 (u2 (al (u2 (u2 t2))))) t5)) (by kernel_rfl)) h
def Mc(l:List TsD):Option (Empty⊕Ret):=gu (TY tsA l=[]->False) <|gu (∀(e:AV),e∈TY tsA l->e.cells.length=5) <|gu (0+(TY tsA l).length<=9223372036854775807) <|gu ((0+(TY tsA l).length) * 40<=140737488355328) <|some (.inr ([some (bK ([]++TY tsA l) 5)],AV.sl 0 0 (0+(TY tsA l).length)))
theorem c74_ct(l:List TsD)(r:Ret)(h:Ac emT (Mc l) r):CT T5 74 ([]) ([.lst (l.map tsA)]) r.1 r.2:=
 CT.mach (fn:=Tryz.f74) (c:=zB Tryz.f74) (S:=emS) (hd:=emH) Tryz.func74 (by kernel_rfl) (nL rfl)
  (fun s o ho=>match s,ho with
   | x,_=>x.elim)
  (fun o ho=>Scr.ok (X:=Mc l) ho mix (
 .rn 0 [] [] [] [] s2 <|
 .gu fun a0=>
 .rn 0 [] [] [] [] (al (u2 (al (ak a0)))) <|
 .gu fun a1=>
 .gu fun a2=>
 .gu fun a3=>
 .rt [] [] [] [] [1] [] (aj (ak (al (ak (u2 (aj (k2 (aj (show nat_lit 0=nat_lit 0 from rfl) (aj a1 (aj a2 a3)))) s2))))) t3)) (by kernel_rfl)) h
def bl1En(x:Az)(w:ByteArray):Option (Empty⊕Ret):=some (.inr ([some (bK [.str w] 1)],bV (x.nm.toList==w.toList)))
theorem bl1_ct(x:Az)(w:ByteArray)(r:Ret)(h:Ac emT (bl1En x w) r):CT T5 131 ([some (bK [.str w] 1)]) ([bA x,.ptr 0 0 0]) r.1 r.2:=
 CT.mach (fn:=Tryz.f131) (c:=zB Tryz.f131) (S:=emS) (hd:=emH) Tryz.func131 (by kernel_rfl) (nL rfl)
  (fun s o ho=>match s,ho with
   | x,_=>x.elim)
  (fun o ho=>Scr.ok (X:=bl1En x w) ho mix (
 .rt [] [] [] [] [0] [] (aj (ag t2 (al (u2 (u2 (u2 (aj t3 s2)))))) t3)) (by kernel_rfl)) h
@[irreducible] def D3(n:Aa)(q:Int)(l:Bool):Bool:=decide (0<=q)&&match n.ss[q.toNat]? with | some s=>s.dep==l | none=>false
theorem KF(n:Aa)(q:Int)(l:Bool):CT T5 72 [] [Aj n,.int .i64 q,.bool l] [] (.bool (D3 n q l)):=by
 refine isS_ct n q l ([],_) (.val ?_);unfold L5 D3;by_cases h0:0<=q
 .rw[Ag (S8 h0),S8 h0];by_cases h1:q<(n.ss.length:Int)
  .obtain⟨s,hs⟩:∃s,n.ss[q.toNat]?=some s:=⟨_,S2 (by omega)⟩;rw[Ag (S8 (by simpa [iN] using h1)),Ab h0,An hs,hs];rfl
  .rw[Ad (S7 (by simpa [iN] using h1)),Tp (by omega)];rfl
 .rw[Ad (S7 h0),S7 h0];rfl
theorem prs_c(s:Int)(lv:Bool)(hm:Int):CT T5 88 [] [usA ⟨s,lv,hm⟩] [] (.bool (s != 3)):=prs_ct ⟨s,lv,hm⟩ ([],_) (.val rfl)
theorem inf_c(s:Int)(lv:Bool)(hm:Int):CT T5 84 [] [usA ⟨s,lv,hm⟩] [] (.bool (Bd s)):=by
 refine inf_ct ⟨s,lv,hm⟩ ([],_) (.val ?_);unfold LJ Bd;cases h:s==0 with
 | true=>rfl
 | false=>rfl
theorem isA_c(q:Int):CT T5 91 [] [.int .i64 q] [] (.agg [.int .i64 12,.int .i64 q]):=isA_ct q ([],_) (.val rfl)
theorem okA_c(q:Int):CT T5 79 [] [.int .i64 q] [] (.agg [.int .i64 1,.int .i64 q]):=okA_ct q ([],_) (.val rfl)
theorem bl1_c(nm:ByteArray)(i j:Int)(w:ByteArray):CT T5 131 [some (Blk.mk [.str w] 1 true true none)] [bA ⟨nm,i,j⟩,.ptr 0 0 0] [some (Blk.mk [.str w] 1 true true none)] (.bool (nm.toList==w.toList)):=bl1_ct ⟨nm,i,j⟩ w _ (.val rfl)
theorem cl74_e:CT T5 74 [] [.lst []] [some (Blk.mk [] 5 true true none)] (.sl 0 0 0):=by
 refine CT.of Tryz.func74 (show Tryz.f74.body=some (zB Tryz.f74) from by kernel_rfl) (nL rfl) ?_;refine T.seq ?_;refine T.ops (st':=?st1) ?steps1 ?post1
 case steps1=>refine .av (.nils) rfl rfl rfl (by kernel_rfl) ?_;exact .nil _
 show T T5 0 _ _ _;refine T.seq (T.seq ?_);refine T.opsN (.val (v:=.lst []) (noG rfl) rfl (nL rfl) (BT rfl (hint:=.no) (R:={v:=.lst []}) (p:=True) (by kernel_rfl) trivial).1 (.one (S:=fun R=>∃b,R={v:=.bool b}) (noG rfl) (Ml (e:=125) rfl (by kernel_rfl) rfl rfl) (fun R hR=>?_) (fun R hR=>?_)))
 .obtain⟨b,rfl⟩:=hR;exact⟨OpR.fits_value _ _,fun b hb=>by simp at hb,fun d hd=>by cases hd;exact nL rfl⟩
 obtain⟨b,rfl⟩:=hR;refine .nil ?_;cases b with
 | true=>
  refine T.cond_true rfl (T.seq ?_);refine T.ops (st':=?st2) ?steps2 ?post2
  case steps2=>refine .av (.nils) rfl rfl rfl (by kernel_rfl) ?_;exact .nil _
  refine T.ret ?_;refine⟨.inr rfl,.nils,⟨Tryz.f74.ntmps,[(0,.sl 0 0 0)],[some (Blk.mk [] 5 true true none)]⟩,rfl,Ren.less rfl (Te _) (fun s=>?_) (fun b blk hb=>?_),rfl,rfl,(nL rfl)⟩
  .cases s with
   | zero=>exact .nilS _ _
   | succ s=>exact .refl _
  .cases b with
   | zero=>simp[nth] at hb;subst hb;exact .inr ⟨Td _,rfl,rfl,rfl,rfl⟩
   | succ b=>simp[nth] at hb
 | false=>
  refine T.cond_false rfl (T.skip ?_);refine T.seq ?_;refine T.ops (st':=?st3) ?steps3 ?post3
  case steps3=>refine .new (v:=.sl 0 0 0) (blk:=Blk.mk [] 5 true true none) rfl rfl (nL rfl) (BT rfl (hint:=.no) (R:={v:=.sl 0 0 0,new:=[Blk.mk [] 5 true true none]}) (p:=True) (by kernel_rfl) trivial).1 ?_;refine .av (.lst []) rfl rfl rfl (by kernel_rfl) ?_;refine .move (v:=.sl 1 0 0) (b:=0) (blk:=Blk.mk [] 5 true true none) rfl rfl (nL rfl) rfl rfl (Te _) (BT rfl (hint:=.no) (R:={v:=.sl 1 0 0,dead:=[0],new:=[Blk.mk [] 5 true true none]}) (p:=0=0/\BC (nth [some (Blk.mk [] 5 true true none)]) 5 (.lst [])/\0+0<=9223372036854775807/\(0+0) * 40<=140737488355328) (by kernel_rfl) ⟨rfl,(fun e he=>by cases he),(by omega),(by omega)⟩).1 ?_;refine .av (.sl 1 0 0) rfl rfl rfl (by kernel_rfl) ?_;exact .nil _
  refine T.ret ?_;exact⟨.inr rfl,.sl 1 0 0,⟨Tryz.f74.ntmps,[(0,.sl 0 0 0)],[some (Blk.mk [] 5 true true none)]⟩,rfl,Ren.of (p:=True/\True/\True) [1] [] [0] (by kernel_rfl) ⟨trivial,trivial,trivial⟩ rfl rfl rfl,rfl,rfl,(nL rfl)⟩
theorem ts5(l:List TsD):∀(e:AV),e∈TY tsA l->e.cells.length=5:=fun e he=>by obtain⟨x,_,rfl⟩:=Tx.1 he;rfl
theorem c74_c(l:List TsD)(hl:l.length<=1000):CT T5 74 [] [.lst (l.map tsA)] [some (Blk.mk (l.map tsA) 5 true true none)] (.sl 0 0 l.length):=by
 by_cases h:l=[]
 .subst h;exact cl74_e
 refine c74_ct l ([_],_) (.val ?_);unfold Mc;rw[Ab (fun e=>h (List.map_eq_nil_iff.1 e)),Ab (ts5 _),Ab (by rw[S5];omega),Ab (by rw[S5];omega),List.nil_append,Th,S5]
theorem avl_c(l:List TsD):CT T5 120 [] [.lst (l.map tsA)] [] (.bool (tvB l)):=by
 refine avl_ct l ([],_) ?_;unfold NC tvB;have e:decide (32<iN (TY tsA l).length)=decide (32<l.length):=decide_eq_decide.2 (by simp only[iN,S5];omega);rw[e];cases hd:decide (32<l.length) with
 | true=>exact .val rfl
 | false=>
  have hl:=of_decide_eq_false hd;rw[Ad rfl];refine Ac.res (PQ (l:=l) (L:=fun i=>EL.l0 (i:Nat)) (p:=fun x=>decide (TvP x)) (rF:=([],.bool false)) (r:=([],.bool true)) (fun i x hx hp=>?_) (fun i x r hx hp hr=>?_) (fun _=>?_)) (by cases l.all fun x=>decide (TvP x)<;>rfl)
  .refine .to (show EC l i=_ from rfl) ?_;unfold EC;rw[AU hx];have hp:=of_decide_eq_false hp;unfold TvP at hp;by_cases h1:x.s<0
   .rw[Ag (S8 h1)];exact .ret _
   rw[Ad (S7 h1)];by_cases h2:5<x.s
   .rw[Ag (S8 h2)];exact .ret _
   rw[Ad (S7 h2)];by_cases h3:x.q < -1
   .rw[Ag (S8 h3)];exact .ret _
   rw[Ad (S7 h3)];by_cases h4:8<=x.q
   .rw[Ag (S8 h4)];exact .ret _
   rw[Ad (S7 h4)];by_cases h5:x.ov<0
   .rw[Ag (S8 h5)];exact .ret _
   rw[Ad (S7 h5),Ag (S8 (by omega))];exact .ret _
  .refine .to (show EC l i=_ from rfl) ?_;unfold EC;have hp:=of_decide_eq_true hp;unfold TvP at hp;have:=(S4.1 hx).1;rw[AU hx,Ad (S7 (by omega)),Ad (S7 (by omega)),Ad (S7 (by omega)),Ad (S7 (by omega)),Ad (S7 (by omega)),Ad (S7 (by omega)),Bk i (by omega)];exact hr
  .refine .to (show EC l (l.length:Nat)=_ from rfl) ?_;unfold EC;rw[AQ];exact .ret _
theorem aqd_c(l:List TsD)(hl:l.length<=1000000):CT T5 121 [] [.lst (l.map tsA)] [] (.int .i64 (tcZ l)):=by
 refine aqd_ct l ([],_) ?_;rw[Pw];have key:∀(d i:Nat),i+d=l.length->Ac (Qn l) (some (.inl (.l0 (coZ (fun x=>x.s==0) (l.take i)) (i:Int)))) (([],.int .i64 (coZ (fun x=>x.s==0) l)):Ret):=by
  intro d;induction d with
  | zero=>
   intro i hi;obtain rfl:i=l.length:=by omega
   refine .to (show H3 l _ (l.length:Nat)=_ from rfl) ?_;unfold H3;rw[AQ,List.take_length];exact .ret _
  | succ d ih=>
   intro i hi;have hx:l[i]?=some l[i]:=S2 (by omega);have h1:=FW (fun x:TsD=>x.s==0) (l.take i) l[i];have h2:=FH (fun x:TsD=>x.s==0) (l.take i);have h3:(l.take i).length<=i:=by rw[Tu];omega
   have e:l.take (i+1)=l.take i++[l[i]]:=by rw[List.take_add_one,hx];rfl
   rw[<-e] at h1;have:=ih (i+1) (by omega);rw[h1] at this;refine .to (show H3 l _ (i:Nat)=_ from rfl) ?_;unfold H3;rw[AU hx,Bk i (by omega)];cases hq:l[i].s==0 with
   | true=>rw[Ag rfl,CQ (by omega) (by omega)];simp only[hq] at this;exact this
   | false=>rw[Ad rfl];simp only[hq] at this;simpa using this
 exact key l.length 0 (by omega)
def Lw(l:List TsD):Option (Empty⊕Ret):=br (!tvB l) (some (.inr ([],AV.tup [iV 0,iV 20]))) (gu (l.length<=1000000) <|some (.inr ([],AV.tup [iV (tcZ l),iV 0])))
theorem aQd_ct(l:List TsD)(r:Ret)(h:Ac emT (Lw l) r):CT T5 70 ([]) ([.lst (l.map tsA)]) r.1 r.2:=
 CT.mach (fn:=Tryz.f70) (c:=zB Tryz.f70) (S:=emS) (hd:=emH) Tryz.func70 (by kernel_rfl) (nL rfl)
  (fun s o ho=>match s,ho with
   | x,_=>x.elim)
  (fun o ho=>Scr.ok (X:=Lw l) ho mix (
 have c0:=avl_c (l);
 .rn 1 [] [] [(5,hK c0 [] [])] [] (aj t3 (al (u2 (aj (k2 (al (c0))) s2)))) <|
 .br (fun a0=>
 .rt [13] [] [] [] [] [] (aj (aj a0 (al t3)) (al t3)))
 (fun a0=>
 .gu fun a1=>
 have c1:=aqd_c l a1;
 .rt [12] [] [(8,hK c1 [] [])] [] [] [] (aj (aj a0 (al (u2 (aj (k2 (al (c1))) (u2 t2))))) (al t3)))) (by kernel_rfl)) h
inductive Hs where | l0 (v0:Int)
def ifbSt(l:List Az)(w:ByteArray):Hs->St | .l0 v0=>St.mk 19 [(0,T4 (TY bA l)),(1,AV.fn 131 [AV.ptr 0 0 0]),(7,iv (iN (TY bA l).length)),(8,iv v0)] [some (bK [AV.str w] 1)]
def ifbEn(l:List Az)(w:ByteArray):Option (Hs⊕Ret):=some (.inl (.l0 ((0:Int))))
def G1(l:List Az)(w:ByteArray)(v0:Int):Option (Hs⊕Ret):=br (decide (v0<iN (TY bA l).length)) (gu (0<=v0) <|el l (v0.toNat) fun(x14:Az)=>br (x14.nm.toList==w.toList) (some (.inr ([some (bK [.str w] 1)],iV v0))) (some (.inl (.l0 (i64.wrap (v0+1)))))) (some (.inr ([some (bK [.str w] 1)],iV (-1))))
def O2(l:List Az)(w:ByteArray):Hs->Option (Hs⊕Ret) | .l0 v0=>G1 l w v0
theorem ifb_ct(l:List Az)(w:ByteArray)(r:Ret)(h:Ac (O2 l w) (ifbEn l w) r):CT T5 130 ([some (bK [.str w] 1)]) ([.lst (l.map bA),.fn 131 [.ptr 0 0 0]]) r.1 r.2:=
 CT.mach (fn:=Tryz.f130) (c:=zB Tryz.f130) (S:=(ifbSt l w)) (hd:=Hs.ctorIdx) Tryz.func130 (by kernel_rfl) (nL rfl)
  (fun s o ho=>match s,ho with
 | .l0 v0,ho=>Scr.ok (X:=G1 l w v0) ho mix (
 .rn 0 [] [] [] [] (al (al t3)) <|
 .br (fun a0=>
 .rn 0 [19] [] [] [] (aj a0 (al (u2 s2))) <|
 .gu fun a1=>
 .el fun x14 a2=>
 have c0:=bl1_c (x14.nm) (x14.x) (x14.y) (w);
 .rn 0 [] [(14,bA x14)] [(16,hK c0 [0] [])] [] (al (u2 (u2 (u2 (aj (k2 (aj a1 (Af (f:=bA) a2))) (u2 (al (k2 (aj t4 (k2 (al (c0)))))))))))) <|
 .br (fun a3=>
  .rt [33] [] [] [] [0] [] (aj (aj a3 (al (u2 s2))) t3))
 (fun a3=>
  .lp [32] [] [] [] [] [0] [0,1,7,8] (aj (aj a3 (al (u2 s2))) (ak (u2 t4)))))
 (fun a0=>
 .rt [18] [] [] [] [0] [] (aj (aj a0 s2) t3))) (by kernel_rfl)
  )
  (fun o ho=>Scr.ok (X:=ifbEn l w) ho mix (
 .lp [] [] [] [] [] [0] [0,1,7,8] (aj (u2 (al (u2 (u2 t2)))) (ak (u2 t4)))) (by kernel_rfl)) h
@[irreducible] def aqZ(l:List TsD):Int:=match tvB l with | true=>tcZ l | false=>0
@[irreducible] def aqE(l:List TsD):Int:=match tvB l with | true=>0 | false=>20
theorem tvB_len{l:List TsD}(h:tvB l=true):l.length<=32:=by
 unfold tvB at h;cases hd:decide (32<l.length) with
 | true=>rw[hd] at h;cases h
 | false=>have:=of_decide_eq_false hd;omega
theorem aQd_c(l:List TsD):CT T5 70 [] [.lst (l.map tsA)] [] (.tup [.int .i64 (aqZ l),.int .i64 (aqE l)]):=by
 refine aQd_ct l ([],_) (.val ?_);unfold Lw aqZ aqE;cases h:tvB l with
 | true=>rw[Ad (by rfl),Ab (by have:=tvB_len h;omega)]
 | false=>rfl
theorem ifb_c(l:List Az)(w:ByteArray)(hl:l.length<=1000):CT T5 130 [some (Blk.mk [.str w] 1 true true none)] [.lst (l.map bA),.fn 131 [.ptr 0 0 0]] [some (Blk.mk [.str w] 1 true true none)] (.int .i64 (fiZ (fun b:Az=>b.nm.toList==w.toList) l 0)):=by
 refine ifb_ct l w ([_],_) ?_;have key:∀(d i:Nat),i+d=l.length->Ac (O2 l w) (some (.inl (.l0 (i:Nat)))) (([some (Blk.mk [.str w] 1 true true none)],.int .i64 (fiZ (fun b:Az=>b.nm.toList==w.toList) (l.drop i) i)):Ret):=by
  intro d;induction d with
  | zero=>
   intro i hi;obtain rfl:i=l.length:=by omega
   refine .to (show G1 l w (l.length:Nat)=_ from rfl) ?_;unfold G1;rw[AQ,List.drop_length];exact .ret _
  | succ d ih=>
   intro i hi;have hx:l[i]?=some l[i]:=S2 (by omega);refine .to (show G1 l w (i:Nat)=_ from rfl) ?_;unfold G1;rw[AU hx,TQ (by omega)];unfold fiZ;cases hp:l[i].nm.toList==w.toList with
   | true=>exact .ret _
   | false=>
    rw[Ad rfl,Bk i (by omega)];have:=ih (i+1) (by omega);rw[show (((i+1:Nat):Int))=(i:Int)+1 by omega] at this ⊢
    exact this
 exact key l.length 0 (by omega)
theorem CT.ren{f:FuncId}{hin hout:List (Option Blk)}{args:List AV}{res:AV}{st1:St}(h:CT T5 f hin args hout res)(hr:Ren hin.length ⟨1,[(0,res)],hout⟩ st1):CT T5 f hin args st1.hp (AX.Au st1.fr 0):=by
 intro φ A w vs hA hh ho hl hv;refine(h φ A w vs hA hh ho hl hv).mono fun e w' ⟨v,φ',he,C⟩=>?_
 have hrel:Rel A w.heap.size hin.length φ' ⟨1,[(0,res)],hout⟩ {tmps:=#[v],defers:=[]} w':=by
  refine⟨rfl,rfl,fun s=>?_,C.heap,C.out,C.keep.size,C.own⟩;cases s with
  | zero=>exact C.val
  | succ s=>exact .imm _ _ (.unk _)
 obtain⟨φ2,r2,hm,tr⟩:=hr A w.heap.size φ' _ w' C.len hrel;refine⟨v,φ2,he,⟨fun b hb=>(tr.par b hb).trans (C.par b hb),C.keep,fun r hr2=>?_,r2.heap,r2.slot 0,r2.out,hm,r2.own⟩⟩;rcases tr.mutd r hr2 with h1 | h1
 .exact C.mutd r h1
 .exact .inr (TM C.keep.size h1)
def Oc(n:Aa)(cl:List Bool)(bw pe:List Int)(tk:List TsD)(us:List UsD)(n1 n2:Nat)(w:ByteArray):Option (Empty⊕Ret):=gu (n.bs.length<=1000) <|some (.inr (bkR n cl bw pe tk us n1 n2,iV (fiZ (fun b=>b.nm.toList==w.toList) n.bs 0)))
theorem bbl_ct(n:Aa)(cl:List Bool)(bw pe:List Int)(tk:List TsD)(us:List UsD)(n1 n2:Nat)(w:ByteArray)(r:Ret)(h:Ac emT (Oc n cl bw pe tk us n1 n2 w) r):CT T5 81 (bkR n cl bw pe tk us n1 n2) ([.ptr 0 0 0,.str w]) r.1 r.2:=
 CT.mach (fn:=Tryz.f81) (c:=zB Tryz.f81) (S:=emS) (hd:=emH) Tryz.func81 (by kernel_rfl) (nL rfl)
  (fun s o ho=>match s,ho with
   | x,_=>x.elim)
  (fun o ho=>Scr.ok (X:=Oc n cl bw pe tk us n1 n2 w) ho mix (
 .rn 0 [] [] [] [] (al (u2 t2)) <|
 .gu fun a0=>
 have c0:=ifb_c (n.bs) w a0;
 .rt [] [] [(11,hK c0 [3] [])] [] [0,1,2] [] (aj (al (u2 (u2 (u2 (u2 (u2 (u2 (aj (k3 (u2 (ak (al (c0))))) s2)))))))) (ak (aj (al (k5 t9)) t3)))) (by kernel_rfl)) h
def M0(n:Aa)(cl:List Bool)(bw pe:List Int)(tk:List TsD)(us:List UsD)(n1 n2:Nat):Option (Empty⊕Ret):=gu (RwV n) <|some (.inr (bkR n cl bw pe tk us n1 n2,T4 (boL (shO n (Ai.mk cl bw pe)))))
theorem bsh_ct(n:Aa)(cl:List Bool)(bw pe:List Int)(tk:List TsD)(us:List UsD)(n1 n2:Nat)(r:Ret)(h:Ac emT (M0 n cl bw pe tk us n1 n2) r):CT T5 77 (bkR n cl bw pe tk us n1 n2) ([.ptr 0 0 0]) r.1 r.2:=
 CT.mach (fn:=Tryz.f77) (c:=zB Tryz.f77) (S:=emS) (hd:=emH) Tryz.func77 (by kernel_rfl) (nL rfl)
  (fun s o ho=>match s,ho with
   | x,_=>x.elim)
  (fun o ho=>Scr.ok (X:=M0 n cl bw pe tk us n1 n2) ho mix (
 .rn 0 [] [] [] [] s2 <|
 .gu fun a0=>
 have c0:=ssh_c (cl) (bw) (pe) a0;
 .rt [] [] [(15,hK c0 [] [])] [] [0,1,2] [] (aj (aj (u2 (u2 (u2 (u2 (u2 (u2 (u2 (u2 (u2 (aj (k2 (aj t9 (aj t4 (al (c0))))) (u2 (u2 (u2 (u2 s2)))))))))))))) (al (u2 s2))) (ak (aj (al (k5 t9)) t3)))) (by kernel_rfl)) h
inductive Fr where | l0 (v0 v1:Int)
def bc1St(n:Aa)(cl:List Bool)(bw pe:List Int)(tk:List TsD)(us:List UsD)(n1 n2:Nat):Fr->St | .l0 v0 v1=>St.mk 25 [(1,AV.fn 88 []),(5,iv v0),(12,AV.sl 2 0 n2),(13,iv (iN n2)),(14,iv v1)] [some (Blk.mk [AV.agg [T4 (TY bA n.bs),T4 (gL n.nx),T4 (TY sA n.ss),T4 (TY iv n.rs),iv n.q,iv n.a,iv n.d,iv n.p,T4 (boL cl),T4 (TY iv bw),T4 (TY iv pe),AV.sl 1 0 n1,AV.sl 2 0 n2]] 13 false false none),some (Blk.mk (TY tsA tk) 5 true false none),some (Blk.mk (TY usA us) 13 true false none)]
def bc1En(n:Aa)(cl:List Bool)(bw pe:List Int)(tk:List TsD)(us:List UsD)(n1 n2:Nat):Option (Fr⊕Ret):=some (.inl (.l0 ((0:Int)) ((0:Int))))
def Hk(n:Aa)(cl:List Bool)(bw pe:List Int)(tk:List TsD)(us:List UsD)(n1 n2:Nat)(v0 v1:Int):Option (Fr⊕Ret):=br (decide (v1<iN n2)) (gu (0<=v1) <|gu (v1<iN n2) <|el (us) (0+v1.toNat) fun(x17:UsD)=>br (x17.s != 3) (some (.inl (.l0 (i64.wrap (v0+1)) (i64.wrap (v1+1))))) (some (.inl (.l0 v0 (i64.wrap (v1+1)))))) (some (.inr (bkR n cl bw pe tk us n1 n2,iV v0)))
def bc1Step(n:Aa)(cl:List Bool)(bw pe:List Int)(tk:List TsD)(us:List UsD)(n1 n2:Nat):Fr->Option (Fr⊕Ret) | .l0 v0 v1=>Hk n cl bw pe tk us n1 n2 v0 v1
theorem bc1_ct(n:Aa)(cl:List Bool)(bw pe:List Int)(tk:List TsD)(us:List UsD)(n1 n2:Nat)(r:Ret)(h:Ac (bc1Step n cl bw pe tk us n1 n2) (bc1En n cl bw pe tk us n1 n2) r):CT T5 83 (bkR n cl bw pe tk us n1 n2) ([.ptr 0 0 0,.fn 88 []]) r.1 r.2:=
 CT.mach (fn:=Tryz.f83) (c:=zB Tryz.f83) (S:=(bc1St n cl bw pe tk us n1 n2)) (hd:=Fr.ctorIdx) Tryz.func83 (by kernel_rfl) (nL rfl)
  (fun s o ho=>match s,ho with
 | .l0 v0 v1,ho=>Scr.ok (X:=Hk n cl bw pe tk us n1 n2 v0 v1) ho mix (
 .rn 0 [] [] [] [] (al (al t3)) <|
 .br (fun a0=>
 .gu fun a1=>
 .gu fun a2=>
 .el fun x17 a3=>
 have c0:=prs_c (x17.s) (x17.lv) (x17.hm);
 .rn 1 [31] [(17,usA x17)] [(20,hK c0 [] [])] [] (aj a0 (aj (aj (k2 (aj a1 a2)) (aj (ak (Af (f:=usA) a3)) (ak (al (k2 n11))))) (al (u2 (u2 (al (k2 (aj (k5 t9) (al (c0)))))))))) <|
 .br (fun a4=>
  .lp [41] [] [] [] [] [0,1,2] [1,5,12,13,14] (aj (aj a4 (aj (u2 (u2 s2)) (al (u2 s2)))) (k5 (aj (al (k5 t9)) t3))))
 (fun a4=>
  .lp [40] [] [] [] [] [0,1,2] [1,5,12,13,14] (aj (aj a4 (al (u2 s2))) (k5 (aj (al (k5 t9)) t3)))))
 (fun a0=>
 .rt [30] [] [] [] [0,1,2] [] (aj (aj a0 (al (u2 s2))) (ak (aj (al (k5 t9)) t3))))) (by kernel_rfl)
  )
  (fun o ho=>Scr.ok (X:=bc1En n cl bw pe tk us n1 n2) ho mix (
 .lp [] [] [] [] [] [0,1,2] [1,5,12,13,14] (aj (u2 (u2 (al (u2 (u2 (u2 (u2 (u2 (u2 t2))))))))) (k5 (aj (al (k5 t9)) t3)))) (by kernel_rfl)) h
inductive EY where | l0 (v0 v1:Int)
def bc2St(n:Aa)(cl:List Bool)(bw pe:List Int)(tk:List TsD)(us:List UsD)(n1 n2:Nat):EY->St | .l0 v0 v1=>St.mk 25 [(1,AV.fn 84 []),(5,iv v0),(12,AV.sl 2 0 n2),(13,iv (iN n2)),(14,iv v1)] [some (Blk.mk [AV.agg [T4 (TY bA n.bs),T4 (gL n.nx),T4 (TY sA n.ss),T4 (TY iv n.rs),iv n.q,iv n.a,iv n.d,iv n.p,T4 (boL cl),T4 (TY iv bw),T4 (TY iv pe),AV.sl 1 0 n1,AV.sl 2 0 n2]] 13 false false none),some (Blk.mk (TY tsA tk) 5 true false none),some (Blk.mk (TY usA us) 13 true false none)]
def bc2En(n:Aa)(cl:List Bool)(bw pe:List Int)(tk:List TsD)(us:List UsD)(n1 n2:Nat):Option (EY⊕Ret):=some (.inl (.l0 ((0:Int)) ((0:Int))))
def Gn(n:Aa)(cl:List Bool)(bw pe:List Int)(tk:List TsD)(us:List UsD)(n1 n2:Nat)(v0 v1:Int):Option (EY⊕Ret):=br (decide (v1<iN n2)) (gu (0<=v1) <|gu (v1<iN n2) <|el (us) (0+v1.toNat) fun(x17:UsD)=>br (Bd x17.s) (some (.inl (.l0 (i64.wrap (v0+1)) (i64.wrap (v1+1))))) (some (.inl (.l0 v0 (i64.wrap (v1+1)))))) (some (.inr (bkR n cl bw pe tk us n1 n2,iV v0)))
def bc2Step(n:Aa)(cl:List Bool)(bw pe:List Int)(tk:List TsD)(us:List UsD)(n1 n2:Nat):EY->Option (EY⊕Ret) | .l0 v0 v1=>Gn n cl bw pe tk us n1 n2 v0 v1
theorem bc2_ct(n:Aa)(cl:List Bool)(bw pe:List Int)(tk:List TsD)(us:List UsD)(n1 n2:Nat)(r:Ret)(h:Ac (bc2Step n cl bw pe tk us n1 n2) (bc2En n cl bw pe tk us n1 n2) r):CT T5 83 (bkR n cl bw pe tk us n1 n2) ([.ptr 0 0 0,.fn 84 []]) r.1 r.2:=
 CT.mach (fn:=Tryz.f83) (c:=zB Tryz.f83) (S:=(bc2St n cl bw pe tk us n1 n2)) (hd:=EY.ctorIdx) Tryz.func83 (by kernel_rfl) (nL rfl)
  (fun s o ho=>match s,ho with
 | .l0 v0 v1,ho=>Scr.ok (X:=Gn n cl bw pe tk us n1 n2 v0 v1) ho mix (
 .rn 0 [] [] [] [] (al (al t3)) <|
 .br (fun a0=>
 .gu fun a1=>
 .gu fun a2=>
 .el fun x17 a3=>
 have c0:=inf_c (x17.s) (x17.lv) (x17.hm);
 .rn 1 [31] [(17,usA x17)] [(20,hK c0 [] [])] [] (aj a0 (aj (aj (k2 (aj a1 a2)) (aj (ak (Af (f:=usA) a3)) (ak (al (k2 n11))))) (al (u2 (u2 (al (k2 (aj (k5 t9) (al (c0)))))))))) <|
 .br (fun a4=>
  .lp [41] [] [] [] [] [0,1,2] [1,5,12,13,14] (aj (aj a4 (aj (u2 (u2 s2)) (al (u2 s2)))) (k5 (aj (al (k5 t9)) t3))))
 (fun a4=>
  .lp [40] [] [] [] [] [0,1,2] [1,5,12,13,14] (aj (aj a4 (al (u2 s2))) (k5 (aj (al (k5 t9)) t3)))))
 (fun a0=>
 .rt [30] [] [] [] [0,1,2] [] (aj (aj a0 (al (u2 s2))) (ak (aj (al (k5 t9)) t3))))) (by kernel_rfl)
  )
  (fun o ho=>Scr.ok (X:=bc2En n cl bw pe tk us n1 n2) ho mix (
 .lp [] [] [] [] [] [0,1,2] [1,5,12,13,14] (aj (u2 (u2 (al (u2 (u2 (u2 (u2 (u2 (u2 t2))))))))) (k5 (aj (al (k5 t9)) t3)))) (by kernel_rfl)) h
theorem bbl_c(n:Aa)(cl:List Bool)(bw pe:List Int)(tk:List TsD)(us:List UsD)(n1 n2:Nat)(w:ByteArray)(h:n.bs.length<=1000):CT T5 81 (bkR n cl bw pe tk us n1 n2) [.ptr 0 0 0,.str w] (bkR n cl bw pe tk us n1 n2) (.int .i64 (Aw n w)):=by unfold Aw;refine bbl_ct n cl bw pe tk us n1 n2 w (_,_) (.val ?_);unfold Oc;rw[Ab h];rfl
theorem bsh_c(n:Aa)(cl:List Bool)(bw pe:List Int)(tk:List TsD)(us:List UsD)(n1 n2:Nat)(h:RwV n):CT T5 77 (bkR n cl bw pe tk us n1 n2) [.ptr 0 0 0] (bkR n cl bw pe tk us n1 n2) (.lst (boL (shO n ⟨cl,bw,pe⟩))):=by refine bsh_ct n cl bw pe tk us n1 n2 (_,_) (.val ?_);unfold M0;rw[Ab h];rfl
theorem CT.frzS{f:FuncId}{args es:List AV}{n:Nat}(h:CT T5 f [] args [some (Blk.mk es 1 true true none)] (.sl 0 0 n))(hn:n=es.length):CT T5 f [] args [] (.lst es):=CT.ren h (Ren.of (st':=⟨1,[(0,.lst es)],[]⟩) [] [0] [0] (p:=n=es.length/\True) rfl ⟨hn,trivial⟩ rfl rfl rfl)
theorem clb_i(l:List Bool)(hl:l.length<=1000000):CT T5 45 [] [.lst (boL l)] [] (.lst (boL l)):=CT.frzS (N6 l hl) rfl
theorem cli_i(l:List Int)(hl:l.length<=1000000):CT T5 73 [] [lI l] [] (lI l):=CT.frzS (Oj l hl) (S5 ..).symm
theorem co_lp{α σ ρ:Type}{step:σ->Option (σ⊕ρ)}{p:α->Bool}{l:List α}{L:Int->Int->σ}{r:ρ}(hl:l.length<=1000000)
  (hs:∀(i:Nat) x v,l[i]?=some x->step (L v i)=br (p x) (some (.inl (L (i64.wrap (v+1)) (i64.wrap ((i:Int)+1))))) (some (.inl (L v (i64.wrap ((i:Int)+1))))))
  (he:Ac step (some (.inl (L (coZ p l) (l.length:Nat)))) r):Ac step (some (.inl (L 0 0))) r:=by
 have key:∀(d i:Nat),i+d=l.length->Ac step (some (.inl (L (coZ p (l.take i)) (i:Nat)))) r:=by
  intro d;induction d with
  | zero=>
   intro i hi;obtain rfl:i=l.length:=by omega
   rw[List.take_length];exact he
  | succ d ih=>
   intro i hi;have hx:l[i]?=some l[i]:=S2 (by omega);have h1:=FW p (l.take i) l[i];have h2:=FH p (l.take i);have h3:(l.take i).length<=i:=by rw[Tu];omega
   have e:l.take (i+1)=l.take i++[l[i]]:=by rw[List.take_add_one,hx];rfl
   rw[<-e] at h1;have:=ih (i+1) (by omega);rw[h1] at this;refine .to (hs i _ _ hx) ?_;rw[Bk i (by omega)];cases hq:p l[i] with
   | true=>rw[Ag rfl,CQ (by omega) (by omega)];simpa [hq] using this
   | false=>rw[Ad rfl];simpa [hq] using this
 exact key l.length 0 (by omega)
theorem Pt{α σ ρ:Type}{step:σ->Option (σ⊕ρ)}{p:α->Bool}{l:List α}{L:Int->Int->σ}{r:Int->ρ}(hl:l.length<=1000000) (hs:∀(i:Nat) x v,l[i]?=some x->step (L v i)=br (p x) (some (.inl (L (i64.wrap (v+1)) (i64.wrap ((i:Int)+1))))) (some (.inl (L v (i64.wrap ((i:Int)+1)))))) (he:∀v,step (L v (l.length:Nat))=some (.inr (r v))):Ac step (some (.inl (L 0 0))) (r (coZ p l)):=co_lp hl hs (.to (he _) (.ret _))
theorem bc1_c(n:Aa)(cl:List Bool)(bw pe:List Int)(tk:List TsD)(us:List UsD)(n1 n2:Nat)(e:n2=us.length)(hl:us.length<=1000):CT T5 83 (bkR n cl bw pe tk us n1 n2) [.ptr 0 0 0,.fn 88 []] (bkR n cl bw pe tk us n1 n2) (.int .i64 (cnP us)):=by
 subst e;rw[LQ];refine bc1_ct n cl bw pe tk us n1 us.length (_,_) (Pt (L:=fun v i=>Fr.l0 v i) (l:=us) (r:=fun v=>((bkR n cl bw pe tk us n1 us.length,AV.int .i64 v):Ret)) (p:=fun x:UsD=>x.s != 3) (by omega) (fun i x v hx=>?_) (fun v=>?_))
 .have hi:=(S4.1 hx).1;show Hk n cl bw pe tk us n1 us.length v i=_;unfold Hk;rw[Ag (S8 (by simp only[iN];omega)),Ab (by omega),Ab (by simp only[iN];omega),Th,Tb,An hx]
 .show Hk n cl bw pe tk us n1 us.length v us.length=_;unfold Hk;rw[Ad (S7 (by simp only[iN];omega))]
theorem bc2_c(n:Aa)(cl:List Bool)(bw pe:List Int)(tk:List TsD)(us:List UsD)(n1 n2:Nat)(e:n2=us.length)(hl:us.length<=1000):CT T5 83 (bkR n cl bw pe tk us n1 n2) [.ptr 0 0 0,.fn 84 []] (bkR n cl bw pe tk us n1 n2) (.int .i64 (cnF us)):=by
 subst e;rw[KH];refine bc2_ct n cl bw pe tk us n1 us.length (_,_) (Pt (L:=fun v i=>EY.l0 v i) (l:=us) (r:=fun v=>((bkR n cl bw pe tk us n1 us.length,AV.int .i64 v):Ret)) (p:=fun x:UsD=>Bd x.s) (by omega) (fun i x v hx=>?_) (fun v=>?_))
 .have hi:=(S4.1 hx).1;show Gn n cl bw pe tk us n1 us.length v i=_;unfold Gn;rw[Ag (S8 (by simp only[iN];omega)),Ab (by omega),Ab (by simp only[iN];omega),Th,Tb,An hx]
 .show Gn n cl bw pe tk us n1 us.length v us.length=_;unfold Gn;rw[Ad (S7 (by simp only[iN];omega))]
def Mp(n:Aa)(q:Ai)(c:Int):Option (Empty⊕Ret):=gu (RwV n) <|br (scE n q c != 0) (some (.inr ([],AV.tup [AV.agg [AV.nils,AV.nils,AV.nils],iV (scE n q c)]))) (br (decide (iN (TY bA n.bs).length<=c)) (some (.inr ([],AV.tup [AV.agg [AV.nils,AV.nils,AV.nils],iV 19]))) (gu (0<=c) <|el (q.cl) (c.toNat) fun(x29:Bool)=>br x29 (some (.inr ([],AV.tup [AV.agg [AV.nils,AV.nils,AV.nils],iV 24]))) (gu (q.pe.length<=9223372036854775807) <|br (AN q.pe c) (some (.inr ([],AV.tup [AV.agg [AV.nils,AV.nils,AV.nils],iV 24]))) (gu (q.cl.length<=1000000) <|gu (q.bw.length<=1000000) <|gu (q.pe.length<=1000000) <|gu ((TY iV q.pe).length+[iV c].length<=9223372036854775807) <|gu (((TY iV q.pe).length+[iV c].length) * 8<=140737488355328) <|some (.inr ([],AV.tup [AV.agg [T4 (boL q.cl),T4 (TY iV q.bw),T4 (TY iV q.pe++[iV c])],iV 0]))))))
theorem ann_ct(n:Aa)(q:Ai)(c:Int)(r:Ret)(h:Ac emT (Mp n q c) r):CT T5 85 ([]) ([Aj n,sgA q,.int .i64 c]) r.1 r.2:=
 CT.mach (fn:=Tryz.f85) (c:=zB Tryz.f85) (S:=emS) (hd:=emH) Tryz.func85 (by kernel_rfl) (nL rfl)
  (fun s o ho=>match s,ho with
   | x,_=>x.elim)
  (fun o ho=>Scr.ok (X:=Mp n q c) ho mix (
 .rn 0 [] [] [] [] (al (u2 (u2 t3))) <|
 .gu fun a0=>
 have c0:=sch_c (q.cl) (q.bw) (q.pe) c a0;
 .rn 1 [] [] [(12,hK c0 [] [])] [] (aj (u2 (u2 (u2 (aj (k3 (aj t9 (aj t4 (ak (al (c0)))))) s2)))) (al (u2 (u2 s2)))) <|
 .br (fun a1=>
 .rt [27] [] [] [] [] [] (aj (aj a1 (al (ak (u2 (aj (k2 n11) s2))))) (al (aj t4 t2))))
 (fun a1=>
 .rn 0 [26] [] [] [] (aj a1 (al (u2 (u2 (u2 (u2 (aj t3 s2))))))) <|
 .br (fun a2=>
  .rt [37] [] [] [] [] [] (aj (aj a2 (al (ak (aj (k2 n11) t2)))) (al (aj t4 t2))))
 (fun a2=>
  .gu fun a3=>
  .el fun x29 a4=>
  .br (fun a5=>
  .rt [36,63] [(29,bV x29)] [] [] [] [] (aj (aj a2 (aj (u2 (u2 (u2 (aj (k2 (aj a3 (Af (f:=bV) a4))) (u2 (u2 (aj a5 (aj a5 (aj a5 (aj a5 (ag a5 s2))))))))))) (ak (al (ak (aj (k2 n11) t2)))))) (al (aj t4 t2))))
  (fun a5=>
  .gu fun a6=>
  have c1:=con_c (q.pe) c a6;
  .rn 0 [36,62] [(29,bV x29)] [(35,hK c1 [] [])] [] (aj a2 (al (u2 (u2 (u2 (aj (k2 (aj a3 (Af (f:=bV) a4))) (u2 (u2 (ag a5 (ag a5 (ag a5 (aj (aj a5 (ak (k3 (al (c1))))) (ag a5 s2))))))))))))) <|
  .br (fun a7=>
   .rt [62,51] [] [] [] [] [] (aj (aj a7 (al (ak (aj (k2 n11) t2)))) (al (aj t4 t2))))
  (fun a7=>
   .gu fun a8=>
   .gu fun a9=>
   .gu fun a10=>
   have c2:=cln_c (q.cl) (q.bw) (q.pe) a8 a9 a10;
   .rn 0 [62,50] [] [(39,hK c2 [] [])] [] (aj a7 (al (u2 (aj (ak (aj t4 (al (c2)))) (al (k2 (show Nat.le 1 [AV.agg [T4 (boL q.cl),T4 (TY iv q.bw),T4 (TY iv q.pe)]].length from(nL rfl)))))))) <|
   .gu fun a11=>
   .gu fun a12=>
   .rt [62] [] [] [] [] [3,4,7] (aj (aj (u2 (u2 (u2 (u2 (aj (k2 (aj (show(TY iv q.pe).length=q.pe.length by simp) (aj (aj (show nat_lit 1=nat_lit 1 from rfl) (show 1<=[iv c].length by simp)) (aj a11 a12)))) (u2 (al t3))))))) (al (u2 (aj (k2 n11) t2)))) (al (aj (aj (show(boL q.cl).length=(boL q.cl).length from rfl) (aj (show q.bw.length=(TY iv q.bw).length by simp) (al (show(TY iv q.pe).length+[iv c].length=(TY iv q.pe++[iv c]).length by simp)))) t2)))))))) (by kernel_rfl)) h
theorem scE_eq{n:Aa}{s:Ai}{c:Int}:scE n s c=0↔Bz n s=true/\0<=c/\c<(s.cl.length:Int):=by
 unfold scE;cases Bz n s with
 | false=>simp
 | true=>
  rw[S0 rfl];split
  .simp;omega
  .simp;omega
theorem ann_c{n:Aa}(cl:List Bool)(bw pe:List Int)(x:Int)(hrw:RwV n):CT T5 85 [] [Aj n,sgA ⟨cl,bw,pe⟩,.int .i64 x] [] (.tup [sgA (anO n ⟨cl,bw,pe⟩ x),.int .i64 (anE n ⟨cl,bw,pe⟩ x)]):=by
 generalize hs:(⟨cl,bw,pe⟩:Ai)=s;have k:=ann_ct n s x;unfold Mp at k;rw[Ab hrw] at k;unfold anO;have hbad:anE n s x≠0->(.tup [sgA (if anE n s x=0 then anS s x else ⟨[],[],[]⟩),.int .i64 (anE n s x)]:AV)=wk2 (.tup [.agg [.nils,.nils,.nils],.int .i64 (anE n s x)]):=fun h=>by rw[S1 h];rfl
 by_cases h1:scE n s x=0
 case neg=>
  have e:anE n s x=scE n s x:=by
   unfold anE;unfold scE at h1 ⊢
   cases h:Bz n s with
   | false=>rfl
   | true=>
    obtain⟨_,_,_,_,_,l4,_⟩:=L3 h;rw[h,S0 rfl] at h1;rw[S0 rfl,S0 rfl];split at h1
    .rename_i h2;rw[S1 (by omega),S0 h2]
    .exact absurd rfl h1
  rw[hbad (by rw[e];exact h1),e];exact CT.w2 (k ([],_) (.val (by rw[Ag (TT.2 h1)])))
 obtain⟨h,h0,hl⟩:=scE_eq.1 h1;obtain⟨hv,hS,l1,l2,l3,l4,l5⟩:=L3 h;rw[h1,Ad (by rfl)] at k;have hsl:=O7 hv hS x.toNat;rw[Tt h0] at hsl;by_cases h2:(n.bs.length:Int)<=x
 .have e:anE n s x=19:=by unfold anE;rw[S0 h,S1 (by omega)]
  rw[hbad (by rw[e];decide),e];exact CT.w2 (k ([],_) (.val (by rw[Ag (AB (by rw[S5];exact h2))])))
 rw[Ad (AC (by rw[S5];exact h2)),Ab h0,An (AA true (show x.toNat<s.cl.length by omega))] at k;have eE:anE n s x=if (s.cl.getD x.toNat true||AN s.pe x)=true then 24 else 0:=by unfold anE;rw[S0 h,S0 ⟨h0,by omega⟩,hsl]
 cases hc:s.cl.getD x.toNat true with
 | true=>
  rw[hc] at k eE;have e:anE n s x=24:=by rw[eE];rfl
  rw[hbad (by rw[e];decide),e];exact CT.w2 (k ([],_) (.val (by rw[Ag rfl])))
 | false=>
  rw[hc,Ad rfl,Ab (by omega)] at k;rw[hc,SX] at eE;cases hp:AN s.pe x with
  | true=>
   rw[hp] at k eE;have e:anE n s x=24:=by rw[eE];rfl
   rw[hbad (by rw[e];decide),e];exact CT.w2 (k ([],_) (.val (by rw[Ag rfl])))
  | false=>
   rw[hp,Ad rfl,Ab (by omega),Ab (by omega),Ab (by omega),Ab (by simp only[S5,TG,TH];omega),Ab (by simp only[S5,TG,TH];omega)] at k;rw[hp] at eE;have e:anE n s x=0:=by rw[eE];rfl
   rw[e,S0 rfl];have e2:(.tup [sgA (anS s x),.int .i64 0]:AV) = .tup [.agg [.lst (boL s.cl),.lst (TY (AV.int .i64) s.bw),.lst (TY (AV.int .i64) s.pe++[.int .i64 x])],.int .i64 0]:=by unfold anS sgA lI;rw[Tf];rfl
   rw[e2];exact k ([],_) (.ret _)
theorem KB{n:Aa}(hv:Ao n){s:Ai}(h:Bw n s):Bz n s=true:=Pu.2 ⟨hv,h⟩
theorem n14_v{n:Aa}(hv:Ao n)(hrw:RwV n):CT T5 49 [] [Aj n] [] (.tup [sgA ⟨(AM n).cl,(AM n).bw,[]⟩,.int .i64 0]):=by
 have h:=n14_c hrw;have e1:nsS n=AM n:=by unfold nsS;rw[BG.2 hv];rfl
 have e2:nsE n=0:=by unfold nsE;rw[BG.2 hv];rfl
 rw[e1,e2] at h;exact h
theorem an_v{n:Aa}(cl:List Bool)(bw pe:List Int)(x:Int)(hv:Ao n)(hrw:RwV n)(hs:Bw n ⟨cl,bw,pe⟩)(hx:0<=x/\x<(n.bs.length:Int))(hc:(Ay ⟨cl,bw,pe⟩).getD x.toNat true=false):CT T5 85 [] [Aj n,sgA ⟨cl,bw,pe⟩,.int .i64 x] [] (.tup [sgA ⟨cl,bw,pe++[x]⟩,.int .i64 0]):=by
 have h:=ann_c (n:=n) cl bw pe x hrw;have e1:anE n ⟨cl,bw,pe⟩ x=0:=by unfold anE;rw[S0 (KB hv hs),S0 hx,hc];rfl
 have e2:anO n ⟨cl,bw,pe⟩ x=⟨cl,bw,pe++[x]⟩:=by unfold anO;rw[S0 e1];rfl
 rw[e1,e2] at h;exact h
theorem ssh_v{n:Aa}(cl:List Bool)(bw pe:List Int)(hrw:RwV n)(hv:Ao n)(hs:Bw n ⟨cl,bw,pe⟩):CT T5 14 [] [Aj n,sgA ⟨cl,bw,pe⟩] [] (.tup [.lst (boL (Ay ⟨cl,bw,pe⟩)),.int .i64 0]):=by have h:=ssh_c (n:=n) cl bw pe hrw;unfold shO shE at h;rw[KB hv hs] at h;exact h
theorem bsh_v(n:Aa)(cl:List Bool)(bw pe:List Int)(tk:List TsD)(us:List UsD)(n1 n2:Nat)(hrw:RwV n)(hv:Ao n)(hs:Bw n ⟨cl,bw,pe⟩):CT T5 77 (bkR n cl bw pe tk us n1 n2) [.ptr 0 0 0] (bkR n cl bw pe tk us n1 n2) (.lst (boL (Ay ⟨cl,bw,pe⟩))):=by have h:=bsh_c n cl bw pe tk us n1 n2 hrw;unfold shO at h;rw[KB hv hs] at h;exact h
def NE(n:Aa)(q:Int):Option (Empty⊕Ret):=gu (RwV n) <|br (ckE n q != 0) (some (.inr ([],AV.tup [iV 0,iV 0,iV (ckE n q)]))) (gu (Ao n) <|gu (-1000<=q/\q<=1000) <|some (.inr ([],AV.tup [iV (plI n q),iV (plJ n q),iV 0])))
theorem cpl_ct(n:Aa)(q:Int)(r:Ret)(h:Ac emT (NE n q) r):CT T5 50 ([]) ([Aj n,.int .i64 q]) r.1 r.2:=
 CT.mach (fn:=Tryz.f50) (c:=zB Tryz.f50) (S:=emS) (hd:=emH) Tryz.func50 (by kernel_rfl) (nL rfl)
  (fun s o ho=>match s,ho with
   | x,_=>x.elim)
  (fun o ho=>Scr.ok (X:=NE n q) ho mix (
 .rn 0 [] [] [] [] (al (u2 t4)) <|
 .gu fun a0=>
 have c0:=ck_c n q a0;
 .rn 1 [] [] [(12,hK c0 [] [])] [] (aj (u2 (u2 (aj (k2 (aj t9 (ak (al (c0))))) s2))) (al (u2 s2))) <|
 .br (fun a1=>
 .rt [29] [] [] [] [] [] (aj (aj a1 (al (u2 (k2 s2)))) (al t4)))
 (fun a1=>
 .gu fun a2=>
 .gu fun a3=>
 have c1:=place_ct a2 q a3;
 .rt [28] [] [(19,hK c1 [] [])] [] [] [] (aj (aj a1 (aj (u2 (u2 (aj (k2 (aj t9 (ak (al (c1))))) (u2 (u2 (u2 (u2 s2))))))) (al (u2 (u2 (u2 (u2 t2))))))) (al t4)))) (by kernel_rfl)) h
theorem cpl_c(n:Aa)(c:Int)(hr:RwV n)(hv:Ao n)(hc:0<=c/\c<(Am n:Int)):CT T5 50 [] [Aj n,.int .i64 c] [] (.tup [.int .i64 (plI n c),.int .i64 (plJ n c),.int .i64 0]):=by
 refine cpl_ct n c ([],_) (.val ?_);have e:ckE n c=0:=by unfold ckE;rw[S0 (BG.2 hv),S1 (by omega)]
 have:=hv.cel;unfold NE;rw[Ab hr,e,Ad (by rfl),Ab hv,Ab (by omega)]
inductive HE where | l0 (v0:Int) (v1:List UsD)
def Mg(n:Aa):HE->St | .l0 v0 v1=>St.mk 46 [(1,AV.ptr 0 0 0),(2,AV.ptr 1 0 0),(6,AV.ptr 2 0 0),(24,T4 (TY iv n.rs)),(25,iv (iN (TY iv n.rs).length)),(26,iv v0)] [some (bK [Aj n] 8),some (bK [AV.agg [AV.nils,AV.nils,AV.nils,AV.nils,AV.nils]] 5),some (Blk.mk [AV.agg [T4 (boL (AM n).cl),T4 (TY iv (AM n).bw),T4 [],AV.nils,AV.sl 3 0 v1.length]] 5 false true none),some (bK (TY usA v1) 13)]
def NV(n:Aa):Option (HE⊕Ret):=gu (Ao n) <|gu (RwV n) <|some (.inl (.l0 ((0:Int)) ([])))
def FQ(n:Aa)(v0:Int)(v1:List UsD):Option (HE⊕Ret):=br (decide (v0<iN (TY iV n.rs).length)) (gu (0<=v0) <|el (n.rs) (v0.toNat) fun(x28:Int)=>gu (RwV n) <|gu (Ao n) <|gu (0<=x28/\x28<iN (Am n)) <|gu ((TY usA v1).length+[AV.agg [iV 1,bV false,iV (plI n x28),iV 0,iV 0,uV 0,bV false,bV false,iV 0,iV 0,T4 [],iV 0,iV 0]].length<=9223372036854775807) <|gu (((TY usA v1).length+[AV.agg [iV 1,bV false,iV (plI n x28),iV 0,iV 0,uV 0,bV false,bV false,iV 0,iV 0,T4 [],iV 0,iV 0]].length) * 112<=140737488355328) <|some (.inl (.l0 (i64.wrap (v0+1)) (v1++[UsD.mk 1 false (plI n x28)])))) (some (.inr ([],AV.tup [AV.agg [T4 (boL (AM n).cl),T4 (TY iV (AM n).bw),T4 [],AV.nils,T4 (TY usA v1)],iV 0])))
def K6(n:Aa):HE->Option (HE⊕Ret) | .l0 v0 v1=>FQ n v0 v1
theorem lNw_ct(n:Aa)(r:Ret)(h:Ac (K6 n) (NV n) r):CT T5 18 ([]) ([Aj n]) r.1 r.2:=
 CT.mach (fn:=Tryz.f18) (c:=zB Tryz.f18) (S:=(Mg n)) (hd:=HE.ctorIdx) Tryz.func18 (by kernel_rfl) (nL rfl)
  (fun s o ho=>match s,ho with
 | .l0 v0 v1,ho=>Scr.ok (X:=FQ n v0 v1) ho mix (
 .rn 0 [] [] [] [] (al (al t3)) <|
 .br (fun a0=>
 .gu fun a1=>
 .el fun x28 a2=>
 .rn 0 [55] [(28,iv x28)] [] [] (aj a0 (al (aj (k2 (aj a1 (Af (f:=iv) a2))) (u2 s2)))) <|
 .gu fun a3=>
 .gu fun a4=>
 .gu fun a5=>
 have c0:=cpl_c n x28 a3 a4 a5;
 .rn 0 [] [] [(33,hK c0 [] [])] [] (al (u2 (u2 (aj (k2 (aj t9 (ak (al (c0))))) (u2 (u2 (u2 (u2 (u2 (u2 s2)))))))))) <|
 .gu fun a6=>
 .gu fun a7=>
 .lq [] [(41,AV.tup [])] [] [] [] [0,1,2,5] [1,2,6,24,25,26] (up [] [(2,[AV.agg [T4 (boL (AM n).cl),T4 (TY iv (AM n).bw),T4 [],AV.nils,AV.sl 3 0 ((TY usA v1).length+[AV.agg [iv 1,bV false,iv (plI n x28),iv 0,iv 0,uV 0,bV false,bV false,iv 0,iv 0,T4 [],iv 0,iv 0]].length)]]),(3,TY usA v1++[AV.agg [iv 1,bV false,iv (plI n x28),iv 0,iv 0,uV 0,bV false,bV false,iv 0,iv 0,T4 [],iv 0,iv 0]])] (Mg n (.l0 (i64.wrap (v0+1)) (v1++[UsD.mk 1 false (plI n x28)])))) (aj (aj (u2 (u2 (u2 (u2 (u2 (aj (k2 (aj (show(TY usA v1).length=v1.length by simp) (aj (aj (show nat_lit 13=nat_lit 13 from rfl) (show 1<=[AV.agg [iv 1,bV false,iv (plI n x28),iv 0,iv 0,uV 0,bV false,bV false,iv 0,iv 0,T4 [],iv 0,iv 0]].length by simp)) (aj a6 a7)))) (u2 (al t3)))))))) (al (u2 s2))) (k3 (k5 (aj (al t6) t2)))) (by simp[up,upF,upV,upH,upB,Mg,gL,boL,lI,sA,bA,tsA,usA]))
 (fun a0=>
 .rt [54] [] [] [] [] [3] (aj (aj a0 (al (u2 (aj (k2 n11) t2)))) (al (aj (ak (k3 (al (show v1.length=(TY usA v1).length by simp)))) t2))))) (by kernel_rfl)
  )
  (fun o ho=>Scr.ok (X:=NV n) ho mix (
 .rn 0 [] [] [] [] (al (u2 t3)) <|
 .gu fun a0=>
 .gu fun a1=>
 have c0:=n14_v a0 a1;
 .lp [] [] [(14,hK c0 [] [])] [] [(5006,13)] [0,1,3,4] [1,2,6,24,25,26] (aj (aj (u2 (aj (ak (aj t9 (al (c0)))) (u2 (u2 (u2 (ak (aj (k2 n11) s2))))))) (aj (u2 s2) (ak (aj (u2 (u2 (ak (al (k2 n11))))) (al (u2 (u2 (u2 t2)))))))) (k3 (k5 (aj (al t6) t2))))) (by kernel_rfl)) h
inductive C3 where | l0 (v0:Int) | l1 (v0:Int) | l2 (v0:Int) (v1:List UsD)
def N8(n:Aa)(cl:List Bool)(bw pe:List Int)(tk:List TsD)(us:List UsD):C3->St | .l0 v0=>St.mk 153 [(2,AV.ptr 0 0 0),(3,AV.ptr 1 0 0),(42,T4 (TY tsA tk)),(43,iv (iN (TY tsA tk).length)),(44,iv v0)] [some (bK [Aj n] 8),some (bK [AV.agg [T4 (boL cl),T4 (TY iv bw),T4 (TY iv pe),T4 (TY tsA tk),T4 (TY usA us)]] 5)] | .l1 v0=>St.mk 153 [(2,AV.ptr 0 0 0),(3,AV.ptr 1 0 0),(62,T4 (TY usA us)),(63,iv (iN (TY usA us).length)),(64,iv v0)] [some (bK [Aj n] 8),some (bK [AV.agg [T4 (boL cl),T4 (TY iv bw),T4 (TY iv pe),T4 (TY tsA tk),T4 (TY usA us)]] 5)] | .l2 v0 v1=>St.mk 153 [(12,AV.ptr 0 0 0),(127,T4 (TY usA us)),(128,iv (iN (TY usA us).length)),(129,iv v0)] [some (Blk.mk [AV.agg [T4 (TY bA n.bs),T4 (gL n.nx),T4 (TY sA n.ss),T4 (TY iv n.rs),iv n.q,iv n.a,iv n.d,iv n.p,T4 (boL cl),T4 (TY iv bw),T4 (TY iv pe),AV.sl 1 0 tk.length,AV.sl 2 0 v1.length]] 13 false true none),some (bK (TY tsA tk) 5),some (bK (TY usA v1) 13)]
def LY(n:Aa)(cl:List Bool)(bw pe:List Int)(tk:List TsD)(us:List UsD):Option (C3⊕Ret):=gu (RwV n) <|br (!Bb n) (some (.inr ([],AV.tup [AV.con (Value.pointer none),iV 20]))) (br (!Bz n (Ai.mk cl bw pe)) (some (.inr ([],AV.tup [AV.con (Value.pointer none),iV 20]))) (br (aqE tk != 0) (some (.inr ([],AV.tup [AV.con (Value.pointer none),iV 20]))) (br (decide (8<iN (TY usA us).length)) (some (.inr ([],AV.tup [AV.con (Value.pointer none),iV 20]))) (some (.inl (.l0 ((0:Int))))))))
def GW(n:Aa)(cl:List Bool)(bw pe:List Int)(tk:List TsD)(us:List UsD)(v0:Int):Option (C3⊕Ret):=br (decide (v0<iN (TY tsA tk).length)) (gu (0<=v0) <|el (tk) (v0.toNat) fun(x46:TsD)=>br (!D3 n x46.p false) (some (.inr ([],AV.tup [AV.con (Value.pointer none),iV 20]))) (br (!D3 n x46.d false) (some (.inr ([],AV.tup [AV.con (Value.pointer none),iV 20]))) (some (.inl (.l0 (i64.wrap (v0+1))))))) (some (.inl (.l1 ((0:Int)))))
def GP(n:Aa)(cl:List Bool)(bw pe:List Int)(tk:List TsD)(us:List UsD)(v0:Int):Option (C3⊕Ret):=br (decide (v0<iN (TY usA us).length)) (gu (0<=v0) <|el (us) (v0.toNat) fun(x66:UsD)=>br (decide (x66.s<0)) (some (.inr ([],AV.tup [AV.con (Value.pointer none),iV 20]))) (br (decide (3<x66.s)) (some (.inr ([],AV.tup [AV.con (Value.pointer none),iV 20]))) (br (decide (x66.hm < -2)) (some (.inr ([],AV.tup [AV.con (Value.pointer none),iV 20]))) (br (decide (0<=x66.hm)) (br (!D3 n x66.hm true) (some (.inr ([],AV.tup [AV.con (Value.pointer none),iV 20]))) (some (.inl (.l1 (i64.wrap (v0+1)))))) (some (.inl (.l1 (i64.wrap (v0+1))))))))) (gu (cl.length<=1000000) <|gu (bw.length<=1000000) <|gu (pe.length<=1000000) <|gu (tk.length<=1000) <|some (.inl (.l2 ((0:Int)) ([]))))
def GV(n:Aa)(cl:List Bool)(bw pe:List Int)(tk:List TsD)(us:List UsD)(v0:Int)(v1:List UsD):Option (C3⊕Ret):=br (decide (v0<iN (TY usA us).length)) (gu (0<=v0) <|el (us) (v0.toNat) fun(x131:UsD)=>gu ((TY usA v1).length+[AV.agg [iV x131.s,bV x131.lv,iV x131.hm,iV 0,iV 0,uV 0,bV false,bV false,iV 0,iV 0,T4 [],iV 0,iV 0]].length<=9223372036854775807) <|gu (((TY usA v1).length+[AV.agg [iV x131.s,bV x131.lv,iV x131.hm,iV 0,iV 0,uV 0,bV false,bV false,iV 0,iV 0,T4 [],iV 0,iV 0]].length) * 112<=140737488355328) <|some (.inl (.l2 (i64.wrap (v0+1)) (v1++[x131])))) (some (.inr ([some (Blk.mk [AV.agg [T4 (TY bA n.bs),T4 (gL n.nx),T4 (TY sA n.ss),T4 (TY iV n.rs),iV n.q,iV n.a,iV n.d,iV n.p,T4 (boL cl),T4 (TY iV bw),T4 (TY iV pe),AV.sl 1 0 tk.length,AV.sl 2 0 v1.length]] 13 false true none),some (bK (TY tsA tk) 5),some (bK (TY usA v1) 13)],AV.tup [AV.ptr 0 0 0,iV 0])))
def O9(n:Aa)(cl:List Bool)(bw pe:List Int)(tk:List TsD)(us:List UsD):C3->Option (C3⊕Ret) | .l0 v0=>GW n cl bw pe tk us v0 | .l1 v0=>GP n cl bw pe tk us v0 | .l2 v0 v1=>GV n cl bw pe tk us v0 v1
theorem bop_ct(n:Aa)(cl:List Bool)(bw pe:List Int)(tk:List TsD)(us:List UsD)(r:Ret)(h:Ac (O9 n cl bw pe tk us) (LY n cl bw pe tk us) r):CT T5 25 ([]) ([Aj n,lgA ⟨cl,bw,pe,tk,us⟩]) r.1 r.2:=
 CT.mach (fn:=Tryz.f25) (c:=zB Tryz.f25) (S:=(N8 n cl bw pe tk us)) (hd:=C3.ctorIdx) Tryz.func25 (by kernel_rfl) (nL rfl)
  (fun s o ho=>match s,ho with
 | .l0 v0,ho=>Scr.ok (X:=GW n cl bw pe tk us v0) ho mix (
 .rn 0 [] [] [] [] (al (al t3)) <|
 .br (fun a0=>
 .gu fun a1=>
 .el fun x46 a2=>
 .rn 0 [91] [(46,tsA x46)] [] [] (aj a0 (al (aj (k2 (aj a1 (Af (f:=tsA) a2))) (u2 (ak (al (k2 n11))))))) <|
 .br (fun a3=>
  have c0:=KF n (x46.p) (false);
  .rt [107] [] [(51,hK c0 [] [])] [] [] [] (aj (aj (u2 (u2 (u2 (aj (k2 (aj t9 (k2 (al (c0))))) (u2 (u2 (aj a3 (aj a3 (aj a3 (aj a3 (aj a3 (al (aj a3 t2))))))))))))) (ak (al t3))) (al t3)))
 (fun a3=>
  have c0:=KF n (x46.p) (false);
  have c1:=KF n (x46.d) (false);
  .rn 0 [106] [] [(51,hK c0 [] []),(57,hK c1 [] [])] [] (al (u2 (u2 (u2 (aj (k2 (aj t9 (k2 (al (c0))))) (u2 (u2 (ag a3 (ag a3 (ag a3 (aj (aj a3 (k2 (aj t9 (k2 (al (c1)))))) (ag a3 (al (aj a3 t2)))))))))))))) <|
  .br (fun a4=>
  .rt [106,119] [] [] [] [] [] (aj (aj a4 (al t3)) (al t3)))
  (fun a4=>
  .lp [106,118] [] [] [] [] [0,1] [2,3,42,43,44] (aj (aj a4 (al (u2 s2))) t8))))
 (fun a0=>
 .lp [90] [] [] [] [] [0,1] [2,3,62,63,64] (aj (aj a0 (al (u2 (u2 (u2 t2))))) t8))) (by kernel_rfl)
 | .l1 v0,ho=>Scr.ok (X:=GP n cl bw pe tk us v0) ho mix (
 .rn 0 [] [] [] [] (al (al t3)) <|
 .br (fun a0=>
 .gu fun a1=>
 .el fun x66 a2=>
 .rn 0 [131] [(66,usA x66)] [] [] (aj a0 (al (aj (k2 (aj a1 (Af (f:=usA) a2))) (u2 (ak (al (k2 n11))))))) <|
 .br (fun a3=>
  .rt [143] [] [] [] [] [] (aj (aj (u2 (u2 (u2 (u2 (aj a3 (aj a3 (aj a3 (ag a3 (u2 (k3 (aj t3 (u2 (k5 (k5 (al t3))))))))))))))) (ak (al t3))) (al t3)))
 (fun a3=>
  .br (fun a4=>
  .rt [142,153] [] [] [] [] [] (aj (aj (u2 (u2 (u2 (u2 (ag a3 (ag a3 (ag a3 (ag a3 (u2 (aj a4 (aj a4 (aj a4 (ag a4 (u2 (k5 (k5 (al t3))))))))))))))))) (ak (al t3))) (al t3)))
  (fun a4=>
  .br (fun a5=>
   .rt [142,152,163] [] [] [] [] [] (aj (aj (u2 (u2 (u2 (u2 (ag a3 (ag a3 (ag a3 (ag a3 (u2 (ag a4 (ag a4 (ag a4 (ag a4 (u2 (aj a5 (aj a5 (aj a5 (aj a5 (k5 (aj a5 (al (aj a5 t2)))))))))))))))))))))) (ak (al t3))) (al t3)))
  (fun a5=>
   .br (fun a6=>
   have c0:=KF n (x66.hm) (true);
   .rn 0 [142,152,162,171] [] [(89,hK c0 [] [])] [] (al (u2 (u2 (u2 (u2 (ag a3 (ag a3 (ag a3 (ag a3 (u2 (ag a4 (ag a4 (ag a4 (ag a4 (u2 (ag a5 (ag a5 (ag a5 (ag a5 (ag a6 (ag a6 (ag a6 (aj (aj a6 (k2 (aj t9 (k2 (al (c0)))))) (ag a6 (aj (aj a5 (aj a6 t2)) (al (aj a5 t2))))))))))))))))))))))))))) <|
   .br (fun a7=>
    .rt [142,152,162,171,185] [] [] [] [] [] (aj (aj a7 (al t3)) (al t3)))
   (fun a7=>
    .lp [142,152,162,171,184] [] [] [] [] [0,1] [2,3,62,63,64] (aj (aj a7 (al (u2 s2))) t8)))
   (fun a6=>
   .lp [142,152,162,170] [] [] [] [] [0,1] [2,3,62,63,64] (aj (aj (u2 (u2 (u2 (u2 (ag a3 (ag a3 (ag a3 (ag a3 (u2 (ag a4 (ag a4 (ag a4 (ag a4 (u2 (ag a5 (ag a5 (ag a5 (ag a5 (aj a6 (aj a6 (aj a6 (aj a6 (aj a6 (aj (aj a5 (aj a6 t2)) (al (aj a5 t2)))))))))))))))))))))))))) (ak (al (u2 s2)))) t8))))))
 (fun a0=>
 .rn 0 [130] [] [] [] (aj a0 (al (u2 (u2 (aj t3 (u2 s2)))))) <|
 .gu fun a1=>
 .gu fun a2=>
 .gu fun a3=>
 have c0:=clb_i (cl) a1;
 have c1:=cli_i (bw) a2;
 have c2:=cli_i (pe) a3;
 .rn 0 [] [] [(102,hK c0 [] []),(106,hK c1 [] []),(110,hK c2 [] [])] [] (al (u2 (u2 (u2 (u2 (aj (k2 (al (c0))) (u2 (u2 (u2 (aj (k2 (al (c1))) (u2 (u2 (u2 (aj (k2 (al (c2))) (aj t4 (u2 (u2 (u2 (al t3))))))))))))))))))) <|
 .gu fun a4=>
 have c3:=c74_c (tk) a4;
 .lp [] [] [(119,hK c3 [] [])] [] [(13012,13)] [2,3,4] [12,127,128,129] (aj (aj (u2 (u2 (u2 (u2 (aj (k2 (al (c3))) (u2 (u2 (u2 (aj t3 (u2 (u2 (u2 s2)))))))))))) (al (u2 (u2 (u2 t2))))) (ak (k3 (aj (al (k5 t9)) t3)))))) (by kernel_rfl)
 | .l2 v0 v1,ho=>Scr.ok (X:=GV n cl bw pe tk us v0 v1) ho mix (
 .rn 0 [] [] [] [] (al (al t3)) <|
 .br (fun a0=>
 .gu fun a1=>
 .el fun x131 a2=>
 .rn 0 [261] [(131,usA x131)] [] [] (aj a0 (al (aj (k2 (aj a1 (Af (f:=usA) a2))) (u2 (ak (al (k2 n11))))))) <|
 .gu fun a3=>
 .gu fun a4=>
 .lq [] [(146,AV.tup [])] [] [] [] [0,1,5] [12,127,128,129] (up [] [(0,[AV.agg [T4 (TY bA n.bs),T4 (gL n.nx),T4 (TY sA n.ss),T4 (TY iv n.rs),iv n.q,iv n.a,iv n.d,iv n.p,T4 (boL cl),T4 (TY iv bw),T4 (TY iv pe),AV.sl 1 0 tk.length,AV.sl 2 0 ((TY usA v1).length+[AV.agg [iv x131.s,bV x131.lv,iv x131.hm,iv 0,iv 0,uV 0,bV false,bV false,iv 0,iv 0,T4 [],iv 0,iv 0]].length)]]),(2,TY usA v1++[AV.agg [iv x131.s,bV x131.lv,iv x131.hm,iv 0,iv 0,uV 0,bV false,bV false,iv 0,iv 0,T4 [],iv 0,iv 0]])] (N8 n cl bw pe tk us (.l2 (i64.wrap (v0+1)) (v1++[x131])))) (aj (aj (u2 (u2 (u2 (u2 (u2 (u2 (u2 (u2 (u2 (u2 (u2 (u2 (aj t4 (u2 (aj (k2 (aj (show(TY usA v1).length=v1.length by simp) (aj (aj (show nat_lit 13=nat_lit 13 from rfl) (show 1<=[AV.agg [iv x131.s,bV x131.lv,iv x131.hm,iv 0,iv 0,uV 0,bV false,bV false,iv 0,iv 0,T4 [],iv 0,iv 0]].length by simp)) (aj a3 a4)))) (u2 (u2 (u2 (al t3))))))))))))))))))) (al (u2 s2))) (ak (k3 (aj (al (k5 t9)) t3)))) (by simp[up,upF,upV,upH,upB,N8,gL,boL,lI,sA,bA,tsA,usA]))
 (fun a0=>
 .rt [260] [] [] [] [0,1,2] [] (aj (aj a0 (al (u2 (u2 t2)))) (aj t3 (aj (al (k5 t9)) t3))))) (by kernel_rfl)
  )
  (fun o ho=>Scr.ok (X:=LY n cl bw pe tk us) ho mix (
 have c0:=aQd_c (tk);
 .rn 1 [] [] [(18,hK c0 [] [])] [] (aj (u2 (u2 t3)) (al (u2 (u2 (aj (k2 (al (c0))) (u2 (u2 (u2 (u2 s2))))))))) <|
 .gu fun a0=>
 .br (fun a1=>
 have c1:=FK a0;
 .rt [49] [] [(22,hK c1 [] [])] [] [] [] (aj (aj (u2 (aj (ak (aj t9 (al (c1)))) (u2 (u2 (aj a1 (aj a1 (aj a1 (aj a1 (aj a1 (ag a1 (u2 (k2 (aj t3 (u2 (ak (k3 (al t3))))))))))))))))) (ak (al t3))) (al t3)))
 (fun a1=>
 .br (fun a2=>
  have c1:=FK a0;
  have c2:=ID (cl) (bw) (pe) a0;
  .rt [48,63] [] [(22,hK c1 [] []),(28,hK c2 [] [])] [] [] [] (aj (aj (u2 (aj (ak (aj t9 (al (c1)))) (u2 (u2 (ag a1 (ag a1 (ag a1 (aj (aj a1 (k2 (aj t9 (aj t4 (al (c2)))))) (ag a1 (ag a1 (u2 (aj a2 (aj a2 (ag a2 (u2 (ak (k3 (al t3)))))))))))))))))) (ak (al t3))) (al t3)))
 (fun a2=>
  .br (fun a3=>
  have c1:=FK a0;
  have c2:=ID (cl) (bw) (pe) a0;
  .rt [48,62,71] [] [(22,hK c1 [] []),(28,hK c2 [] [])] [] [] [] (aj (aj (u2 (aj (ak (aj t9 (al (c1)))) (u2 (u2 (ag a1 (ag a1 (ag a1 (aj (aj a1 (k2 (aj t9 (aj t4 (al (c2)))))) (ag a1 (ag a1 (u2 (ag a2 (ag a2 (ag a2 (u2 (aj a3 (aj a3 (aj a3 (aj a3 (al (aj a3 t2))))))))))))))))))))) (ak (al t3))) (al t3)))
  (fun a3=>
  have c1:=FK a0;
  have c2:=ID (cl) (bw) (pe) a0;
  .rn 0 [48,62,70] [] [(22,hK c1 [] []),(28,hK c2 [] [])] [] (al (u2 (aj (ak (aj t9 (al (c1)))) (u2 (u2 (ag a1 (ag a1 (ag a1 (aj (aj a1 (k2 (aj t9 (aj t4 (al (c2)))))) (ag a1 (ag a1 (u2 (ag a2 (ag a2 (ag a2 (u2 (ag a3 (ag a3 (ag a3 (ag a3 (al (aj a3 t2)))))))))))))))))))))) <|
  .br (fun a4=>
   .rt [48,62,70,81] [] [] [] [] [] (aj (aj a4 (al t3)) (al t3)))
  (fun a4=>
   .lp [48,62,70,80] [] [] [] [] [0,1] [2,3,42,43,44] (aj (aj a4 (al (u2 (u2 (u2 t2))))) t8)))))) (by kernel_rfl)) h
theorem O3{n:Aa}{q:Int}(h:stB n q):D3 n q false=true:=by obtain⟨h0,s,hs,hd⟩:=h;unfold D3;rw[hs,S8 h0];show(s.dep==false)=true;rw[hd];rfl
theorem isSB_dp{n:Aa}{q:Int}:D3 n q true=dpB n q:=by
 unfold D3 dpB;cases n.ss[q.toNat]? with
 | none=>rfl
 | some s=>show(_&&(s.dep==true))=(_&&s.dep);cases s.dep<;>rfl
theorem LgV.aq{n:Aa}{x:LgD}(h:LgV n x):tvB x.tk=true:=by unfold tvB;rw[S7 (by have:=h.tl;omega)];exact Tg.2 fun t ht=>S8 (h.tv t ht).1
theorem LgV.aqE{n:Aa}{x:LgD}(h:LgV n x):aqE x.tk=0:=by unfold _root_.Go.Proofs.YthjgbnbibebigaaGreat.aqE;rw[h.aq]
theorem bop_c(n:Aa)(cl:List Bool)(bw pe:List Int)(tk:List TsD)(us:List UsD)(hV:LgV n ⟨cl,bw,pe,tk,us⟩):CT T5 25 [] [Aj n,lgA ⟨cl,bw,pe,tk,us⟩] (bkH n cl bw pe tk us tk.length us.length) (.tup [.ptr 0 0 0,.int .i64 0]):=by
 have hb:=hV.bd;have hu:=hV.ul;have ht:=hV.tl;have hE:=hV.aqE;simp only at hb hu ht hE;refine bop_ct n cl bw pe tk us (_,_) ?_;unfold LY;rw[Ab hV.rw,Ad (by rw[BG.2 hV.nv];rfl),Ad (by rw[KB hV.nv hV.sg];rfl),Ad (by rw[hE];rfl),Ad (S7 (by simp only[iN,S5];omega))];refine Bq (fun i=>C3.l0 (i:Int)) tk.length (fun i hi h=>.to (show GW n cl bw pe tk us i=_ from ?_) h) (.to (show GW n cl bw pe tk us tk.length=some (.inl (.l1 0)) from ?_) ?_)
 .have hx:tk[i]?=some tk[i]:=S2 hi;have hm:=hV.tv _ (S6 hx);unfold GW;rw[AU hx,Ad (by rw[O3 hm.2.1];rfl),Ad (by rw[O3 hm.2.2];rfl),Bk i (by omega)]
 .unfold GW;rw[AQ]
 refine Bq (fun i=>C3.l1 (i:Int)) us.length (fun i hi h=>.to (show GP n cl bw pe tk us i=_ from ?_) h) (.to (show GP n cl bw pe tk us us.length=some (.inl (.l2 0 [])) from ?_) ?_)
 .have hx:us[i]?=some us[i]:=S2 hi;obtain⟨g1,g2,g3,g4⟩:=hV.uv _ (S6 hx);unfold GP;rw[AU hx,Ad (S7 (by omega)),Ad (S7 (by omega)),Ad (S7 (by omega)),Bk i (by omega)];by_cases h0:0<=us[i].hm
  .rw[Ag (S8 h0),isSB_dp,Ad (by rw[g4 h0];rfl)]
  .rw[Ad (S7 h0)]
 .unfold GP;rw[AQ,Ab (by omega),Ab (by omega),Ab (by omega),Ab (by omega)]
 have key:∀(d i:Nat),i+d=us.length->Ac (O9 n cl bw pe tk us) (some (.inl (.l2 (i:Nat) (us.take i)))) ((bkH n cl bw pe tk us tk.length us.length,.tup [.ptr 0 0 0,.int .i64 0]):Ret):=by
  intro d;induction d with
  | zero=>
   intro i hi;obtain rfl:i=us.length:=by omega
   refine .to (show GV n cl bw pe tk us us.length _=_ from rfl) ?_;unfold GV;rw[AQ,List.take_length];exact .ret _
  | succ d ih=>
   intro i hi;have hx:us[i]?=some us[i]:=S2 (by omega);have e:us.take (i+1)=us.take i++[us[i]]:=by rw[List.take_add_one,hx];rfl
   have:=ih (i+1) (by omega);rw[e] at this;refine .to (show GV n cl bw pe tk us i _=_ from rfl) ?_;unfold GV;rw[AU hx,Ab (by simp only[S5,Tu,TF];omega),Ab (by simp only[S5,Tu,TF];omega),Bk i (by omega)];exact this
 exact key us.length 0 (by omega)
def bkF(n:Aa)(x:LgD):List (Option Blk):=[some (Blk.mk [bkB n (.lst (boL x.cl)) (lI x.bw) (lI x.pe) (.lst (x.tk.map tsA)) (.lst (x.us.map usA))] 13 true true none)]
def bkO(n:Aa)(x:LgD):List (Option Blk):=bkH n x.cl x.bw x.pe x.tk x.us x.tk.length x.us.length
theorem frzB{f:FuncId}{hin:List (Option Blk)}{args:List AV}{n:Aa}{x:LgD}{a b:Int}(h:CTX T5 f hin args (bkO n x) (.agg [.int .i64 a,.int .i64 b])):CTX T5 f hin args (bkF n x) (.agg [.int .i64 a,.int .i64 b]):=by
 refine⟨CTO.ren (st1:=⟨1,[(0,.agg [.int .i64 a,.int .i64 b])],bkF n x⟩) h.ct (by show 1<=3;omega) (fun b hb=>?_) (Ren.of [0] [1,2] [0] (p:=_) rfl ?_ rfl rfl rfl)⟩
 .match b,hb with
  | 0,_=>exact⟨_,rfl,rfl⟩
  | 1,_=>exact⟨_,rfl,rfl⟩
  | 2,_=>exact⟨_,rfl,rfl⟩
  | b+3,h=>exact absurd h (by show ¬(b+3<3);omega)
 .simp;exact⟨trivial,trivial,trivial⟩
abbrev MtQ:=Aa->LgD->CmD->LgD×Int×Int->Prop
def MtP(f:FuncId)(Q:MtQ):Prop:=∀n x c,LgV n x->∃p:LgD×Int×Int,(LgV n p.1/\Q n x c p)/\CTX T5 f (bkO n x) [.ptr 0 0 0,cmA c] (bkF n p.1) (.agg [.int .i64 p.2.1,.int .i64 p.2.2])
theorem MtP.fn{f:FuncId}{Q:MtQ}(h:MtP f Q):∃F:Aa->LgD->CmD->LgD×Int×Int,∀n x c,LgV n x->(LgV n (F n x c).1/\Q n x c (F n x c))/\CTX T5 f (bkO n x) [.ptr 0 0 0,cmA c] (bkF n (F n x c).1) (.agg [.int .i64 (F n x c).2.1,.int .i64 (F n x c).2.2]):=by
 have h':∀n x c,∃p:LgD×Int×Int,LgV n x->(LgV n p.1/\Q n x c p)/\CTX T5 f (bkO n x) [.ptr 0 0 0,cmA c] (bkF n p.1) (.agg [.int .i64 p.2.1,.int .i64 p.2.2]):=fun n x c=>by
  by_cases hV:LgV n x
  .obtain⟨p,hp⟩:=h n x c hV;exact⟨p,fun _=>hp⟩
  .exact⟨(x,0,0),fun q=>absurd q hV⟩
 exact⟨fun n x c=>Classical.choose (h' n x c),fun n x c=>TE (h' n x c)⟩
def bkT(n:Aa)(p:LgD×Int×Int):Ret:=(bkO n p.1,.agg [.int .i64 p.2.1,.int .i64 p.2.2])
theorem Im{n:Aa}{Q:LgD×Int×Int->Prop}{σ:Type}{step:σ->Option (σ⊕Ret)}{y:LgD}(hV:LgV n y){a b:Int}(hQ:Q (y,a,b)){r:Ret}(h:r=(bkO n y,.agg [.int .i64 a,.int .i64 b])):∃p:{p:LgD×Int×Int // LgV n p.1/\Q p},Ac step (some (.inr r)) (bkT n p.1):=⟨⟨(y,a,b),hV,hQ⟩,by rw[h];exact .ret _⟩
theorem mt_of{n:Aa}{Q:LgD×Int×Int->Prop}{f:FuncId}{hin:List (Option Blk)}{args:List AV}{σ:Type}{step:σ->Option (σ⊕Ret)}{en:Option (σ⊕Ret)}(h:∀r,Ac step en r->CTX T5 f hin args r.1 r.2)
  (he:∃p:{p:LgD×Int×Int // LgV n p.1/\Q p},Ac step en (bkT n p.1)):∃p:LgD×Int×Int,(LgV n p.1/\Q p)/\CTX T5 f hin args (bkF n p.1) (.agg [.int .i64 p.2.1,.int .i64 p.2.2]):=by
 obtain⟨p,hp⟩:=he;exact⟨p.1,p.2,frzB (h _ hp)⟩
def Nq(n:Aa)(cl:List Bool)(bw pe:List Int)(tk:List TsD)(us:List UsD)(c:CmD):Option (Empty⊕Ret):=gu (n.bs.length<=1000) <|gu (RwV n) <|gu (Ao n) <|gu (Bw n (Ai.mk cl bw pe)) <|br (decide (Aw n c.a<0)) (some (.inr (bkH n cl bw pe tk us tk.length us.length,AV.agg [iV 3,iV 0]))) (gu (0<=Aw n c.a) <|el (Ay (Ai.mk cl bw pe)) ((Aw n c.a).toNat) fun(x22:Bool)=>br x22 (some (.inr (bkH n cl bw pe tk us tk.length us.length,AV.agg [iV 6,iV 0]))) (gu (us.length<=1000) <|br (!alO n (Ay (Ai.mk cl bw pe)) (Aw n c.a) (cnF us)) (some (.inr (bkH n cl bw pe tk us tk.length us.length,AV.agg [iV 5,iV 0]))) (gu (0<=Aw n c.a/\Aw n c.a<iN n.bs.length) <|br ((Ay (Ai.mk cl bw pe)).getD (Aw n c.a).toNat true) (none) (some (.inr ([some (Blk.mk [AV.agg [T4 (TY bA n.bs),T4 (gL n.nx),T4 (TY sA n.ss),T4 (TY iV n.rs),iV n.q,iV n.a,iV n.d,iV n.p,T4 (boL cl),T4 (TY iV bw),T4 (TY iV (pe++[Aw n c.a])),AV.sl 1 0 tk.length,AV.sl 2 0 us.length]] 13 false true none),some (bK (TY tsA tk) 5),some (bK (TY usA us) 13)],AV.agg [iV 1,iV 0]))))))
theorem bcl_ct(n:Aa)(cl:List Bool)(bw pe:List Int)(tk:List TsD)(us:List UsD)(c:CmD)(r:Ret)(h:Ac emT (Nq n cl bw pe tk us c) r):CTX T5 28 (bkH n cl bw pe tk us tk.length us.length) ([.ptr 0 0 0,cmA c]) r.1 r.2:=
 CTX.mach (fn:=Tryz.f28) (c:=zB Tryz.f28) (S:=emS) (hd:=emH) Tryz.func28 (by kernel_rfl) (nL rfl) (nL rfl)
  (fun s o ho=>match s,ho with
   | x,_=>x.elim)
  (fun o ho=>Scr.ok (X:=Nq n cl bw pe tk us c) ho mix (
 .rn 0 [] [] [] [] (al (u2 t2)) <|
 .gu fun a0=>
 .gu fun a1=>
 .gu fun a2=>
 .gu fun a3=>
 have c0:=bbl_c n (cl) (bw) (pe) (tk) (us) (tk.length) (us.length) (c.a) a0;
 have c1:=bsh_v n (cl) (bw) (pe) (tk) (us) (tk.length) (us.length) a1 a2 a3;
 .rn 1 [] [] [(12,hK c0 [0,1,2] []),(14,hK c1 [0,1,2] [])] [] (aj (u2 (u2 (u2 (aj (ak (k3 (aj (al (k5 t9)) (k2 (al (c0)))))) (u2 (aj (k2 (aj (al (k5 t9)) (k2 (al (c1))))) (u2 s2))))))) (al (u2 (u2 s2)))) <|
 .br (fun a4=>
 .rt [31] [] [] [] [0,1,2] [] (aj (aj a4 (al (ak (al (k2 n11))))) (aj t3 (aj (al (k5 t9)) t3))))
 (fun a4=>
 .gu fun a5=>
 .el fun x22 a6=>
 .rn 0 [30] [(22,bV x22)] [] [] (aj a4 (al (u2 (u2 (aj (k2 (aj a5 (Af (f:=bV) a6))) (u2 s2)))))) <|
 .br (fun a7=>
  .rt [39] [] [] [] [0,1,2] [] (aj (aj a7 (al (ak (al (k2 n11))))) (aj t3 (aj (al (k5 t9)) t3))))
 (fun a7=>
  .gu fun a8=>
  have c2:=bc2_c n (cl) (bw) (pe) (tk) (us) (tk.length) (us.length) (show us.length=us.length from rfl) a8;
  have c3:=all_c (Ay (Ai.mk cl bw pe)) (Aw n c.a) (cnF us) a1;
  .rn 1 [38] [] [(33,hK c2 [0,1,2] []),(34,hK c3 [] [])] [] (aj a7 (aj (u2 (u2 (u2 (u2 (u2 (u2 (u2 (aj (k3 (aj (al (k5 t9)) (k2 (al (c2))))) (aj (ak (k3 (aj t9 (k3 (al (c3)))))) (u2 (u2 (u2 (u2 s2))))))))))))) (al (u2 s2)))) <|
  .br (fun a9=>
  .rt [77] [] [] [] [0,1,2] [] (aj (aj a9 (al (ak (al (k2 n11))))) (aj t3 (aj (al (k5 t9)) t3))))
  (fun a9=>
  .gu fun a10=>
  .br (fun a11=>
   .no)
  (fun a11=>
   have c4:=an_v (cl) (bw) (pe) (Aw n c.a) a2 a1 a3 a10 a11;
   have c5:=okA_c (0);
   .rt [76] [] [(52,hK c4 [] []),(58,hK c5 [] [])] [] [0,1,2] [] (aj (aj a9 (aj (u2 (u2 (u2 (u2 (u2 (u2 (u2 (u2 (u2 (u2 (u2 (aj (k3 (aj t9 (aj t4 (ak (al (c4)))))) (u2 (u2 (u2 (u2 (u2 (u2 (al t3))))))))))))))))))) (al (aj (ak (al (c5))) (al (k2 n11)))))) (aj t3 (aj (al (k5 t9)) t3)))))))) (by kernel_rfl)) h
def bflEn(n:Aa)(cl:List Bool)(bw pe:List Int)(tk:List TsD)(us:List UsD)(c:CmD):Option (Empty⊕Ret):=gu (us.length<=1000) <|some (.inr (bkH n cl bw pe tk us tk.length us.length,AV.agg [iV 12,iV (cnP us)]))
theorem bfl_ct(n:Aa)(cl:List Bool)(bw pe:List Int)(tk:List TsD)(us:List UsD)(c:CmD)(r:Ret)(h:Ac emT (bflEn n cl bw pe tk us c) r):CTX T5 34 (bkH n cl bw pe tk us tk.length us.length) ([.ptr 0 0 0,cmA c]) r.1 r.2:=
 CTX.mach (fn:=Tryz.f34) (c:=zB Tryz.f34) (S:=emS) (hd:=emH) Tryz.func34 (by kernel_rfl) (nL rfl) (nL rfl)
  (fun s o ho=>match s,ho with
   | x,_=>x.elim)
  (fun o ho=>Scr.ok (X:=bflEn n cl bw pe tk us c) ho mix (
 .rn 0 [] [] [] [] (al (u2 t2)) <|
 .gu fun a0=>
 have c0:=bc1_c n (cl) (bw) (pe) (tk) (us) (tk.length) (us.length) (show us.length=us.length from rfl) a0;
 have c1:=isA_c (cnP us);
 .rt [] [] [(6,hK c0 [0,1,2] []),(7,hK c1 [] [])] [] [0,1,2] [] (aj (al (u2 (aj (k3 (aj (al (k5 t9)) (k2 (al (c0))))) (aj (k2 (al (c1))) (al (k2 n11)))))) (aj t3 (aj (al (k5 t9)) t3)))) (by kernel_rfl)) h
def MqL:MtQ:=fun n x c p=>(p.2.1≠1->p.1=x)/\(0<=Aw n c.a->(p.2.1=1↔(Ay ⟨x.cl,x.bw,x.pe⟩).getD (Aw n c.a).toNat true=false/\alO n (Ay ⟨x.cl,x.bw,x.pe⟩) (Aw n c.a) (cnF x.us)=true)/\(p.2.1=1->p.1.pe=x.pe++[Aw n c.a])/\((Ay ⟨x.cl,x.bw,x.pe⟩).getD (Aw n c.a).toNat true=false->alO n (Ay ⟨x.cl,x.bw,x.pe⟩) (Aw n c.a) (cnF x.us)=false->p.2=(5,0)))
theorem bcl_P:MtP 28 MqL:=fun n x c hV=>mt_of (bcl_ct n x.cl x.bw x.pe x.tk x.us c) (by
 have hb:=hV.bd;have hu:=hV.ul;have hS:=De ⟨x.cl,x.bw,x.pe⟩;simp only at hS;unfold Nq;refine Ah (by omega) (Ah hV.rw (Ah hV.nv (Ah hV.sg (Aq (fun h=>Im hV ⟨fun _=>rfl,fun h0=>by have:=of_decide_eq_true h;omega⟩ rfl) fun ha=>?_))));have ha:=MR ha;refine Ah ha.1 (A6 (by omega) fun y hy=>?_);have hg:(Ay ⟨x.cl,x.bw,x.pe⟩).getD (Aw n c.a).toNat true=y:=by rw[S3,hy];rfl
 refine Aq (fun h=>Im hV ⟨fun _=>rfl,fun h0=>⟨⟨fun e=>by simp at e,fun e=>by rw[hg,h] at e;cases e.1⟩,fun e=>by simp at e,fun e=>by rw[hg,h] at e;cases e⟩⟩ rfl) fun hy0=>Ah (by omega) (Aq (fun h=>Im hV ⟨fun _=>rfl,fun h0=>⟨⟨fun e=>by simp at e,fun e=>by rw[e.2] at h;cases h⟩,fun e=>by simp at e,fun _ _=>rfl⟩⟩ rfl) fun h=>Ah ⟨ha.1,by simp only[iN];omega⟩ ?_)
 rw[hg,hy0,Ad rfl];have hg2:=O7 hV.nv hV.sg (Aw n c.a).toNat;rw[hg,hy0,show(((Aw n c.a).toNat:Nat):Int)=Aw n c.a by omega] at hg2;have hg1:x.cl.getD (Aw n c.a).toNat true=false:=by cases hq:x.cl.getD (Aw n c.a).toNat true with | false=>rfl | true=>simp only at hg2;rw[hq] at hg2;cases hg2
 have hg3:Aw n c.a∉x.pe:=fun hm=>by simp only at hg2;rw[Eo.2 hm,Bool.or_true] at hg2;cases hg2
 exact Im (y:=⟨x.cl,x.bw,x.pe++[Aw n c.a],x.tk,x.us⟩) (a:=1) (b:=0) (hV.sig (Pn hV.sg ⟨ha.1,ha.2.1⟩ hg1 hg3)) ⟨fun e=>absurd rfl e,fun _=>⟨⟨fun _=>⟨by rw[hg];exact hy0,by simpa using h⟩,fun _=>rfl⟩,fun _=>rfl,fun _ e=>by rw[e] at h;cases h⟩⟩ rfl)
def MqF:MtQ:=fun _ x _ p=>p=(x,12,cnP x.us)
theorem bfl_P:MtP 34 MqF:=fun n x c hV=>mt_of (bfl_ct n x.cl x.bw x.pe x.tk x.us c) (Ah (by have:=hV.ul;omega) (Im (Q:=MqF n x c) hV rfl rfl))
theorem lNw_c(n:Aa)(hv:Ao n)(hr:RwV n):CT T5 18 [] [Aj n] [] (.tup [lgA ⟨(AM n).cl,(AM n).bw,(AM n).pe,[],neU n⟩,.int .i64 0]):=by
 have hnr:=hv.nr;refine CT.wkT (cs:=[.lst (boL (AM n).cl),lI (AM n).bw,lI (AM n).pe,.nils,.lst ((neU n).map usA)]) (lNw_ct n ([],_) ?_);unfold NV;rw[Ab hv,Ab hr];have key:∀(d i:Nat),i+d=n.rs.length->Ac (K6 n) (some (.inl (.l0 (i:Int) ((n.rs.take i).map fun c=>⟨1,false,plI n c⟩)))) (([],.tup [.agg [.lst (boL (AM n).cl),lI (AM n).bw,lI (AM n).pe,.nils,.lst ((neU n).map usA)],.int .i64 0]):Ret):=by
  intro d;induction d with
  | zero=>
   intro i hi;obtain rfl:i=n.rs.length:=by omega
   refine .to (show K6 n (.l0 (n.rs.length:Nat) _)=FQ n (n.rs.length:Nat) _ from rfl) ?_;unfold FQ;rw[AQ,List.take_length];exact .ret _
  | succ d ih=>
   intro i hi;have hx:n.rs[i]?=some n.rs[i]:=S2 (by omega);have e:(n.rs.take (i+1)).map (fun c=>(⟨1,false,plI n c⟩:UsD))=(n.rs.take i).map (fun c=>(⟨1,false,plI n c⟩:UsD))++[⟨1,false,plI n n.rs[i]⟩]:=by rw[List.take_add_one,hx,Tf];rfl
   have:=ih (i+1) (by omega);rw[e] at this;have hl2:(TY usA ((n.rs.take i).map (fun c=>(⟨1,false,plI n c⟩:UsD)))).length<=i:=by simp only[S5,Tu];omega
   obtain⟨t,ht,hd,h3⟩:=(hv.rob i _ hx).1;obtain⟨j,hj⟩:=List.getElem?_of_mem (List.mem_of_mem_take ht);have g1:=hv.sb hj;have g2:=hv.ends hj;refine .to (show K6 n (.l0 (i:Nat) _)=FQ n (i:Nat) _ from rfl) ?_;unfold FQ;rw[AU hx,Ab hr,Ab hv,Ab (by simp only[iN];omega),Ab (by simp only[TF];omega),Ab (by simp only[TF];omega),Bk i (by omega)];exact this
 exact key n.rs.length 0 (by omega)
@[irreducible] def BB:Aa->LgD->CmD->LgD×Int×Int:=Classical.choose bcl_P.fn
theorem MF(n:Aa)(x:LgD)(c:CmD)(hV:LgV n x):(LgV n (BB n x c).1/\MqL n x c (BB n x c))/\CTX T5 28 (bkO n x) [.ptr 0 0 0,cmA c] (bkF n (BB n x c).1) (.agg [.int .i64 (BB n x c).2.1,.int .i64 (BB n x c).2.2]):=by unfold BB;exact TE bcl_P.fn n x c hV
theorem bcl_c(n:Aa)(cl:List Bool)(bw pe:List Int)(tk:List TsD)(us:List UsD)(c:CmD)(n1 n2:Nat)(e1:n1=tk.length)(e2:n2=us.length)(hV:LgV n ⟨cl,bw,pe,tk,us⟩):CTX T5 28 (bkH n cl bw pe tk us n1 n2) [.ptr 0 0 0,cmA c] (bkF n (BB n ⟨cl,bw,pe,tk,us⟩ c).1) (.agg [.int .i64 (BB n ⟨cl,bw,pe,tk,us⟩ c).2.1,.int .i64 (BB n ⟨cl,bw,pe,tk,us⟩ c).2.2]):=by subst e1 e2;exact(MF n ⟨cl,bw,pe,tk,us⟩ c hV).2
@[irreducible] def BH:Aa->LgD->CmD->LgD×Int×Int:=Classical.choose bfl_P.fn
theorem bfl_s(n:Aa)(x:LgD)(c:CmD)(hV:LgV n x):(LgV n (BH n x c).1/\MqF n x c (BH n x c))/\CTX T5 34 (bkO n x) [.ptr 0 0 0,cmA c] (bkF n (BH n x c).1) (.agg [.int .i64 (BH n x c).2.1,.int .i64 (BH n x c).2.2]):=by unfold BH;exact TE bfl_P.fn n x c hV
theorem bfl_c(n:Aa)(cl:List Bool)(bw pe:List Int)(tk:List TsD)(us:List UsD)(c:CmD)(n1 n2:Nat)(e1:n1=tk.length)(e2:n2=us.length)(hV:LgV n ⟨cl,bw,pe,tk,us⟩):CTX T5 34 (bkH n cl bw pe tk us n1 n2) [.ptr 0 0 0,cmA c] (bkF n (BH n ⟨cl,bw,pe,tk,us⟩ c).1) (.agg [.int .i64 (BH n ⟨cl,bw,pe,tk,us⟩ c).2.1,.int .i64 (BH n ⟨cl,bw,pe,tk,us⟩ c).2.2]):=by subst e1 e2;exact(bfl_s n ⟨cl,bw,pe,tk,us⟩ c hV).2
def MO(n:Aa)(cl:List Bool)(bw pe:List Int)(tk:List TsD)(us:List UsD)(u w:ByteArray)(q:Int):Option (Empty⊕Ret):=gu (LgV n (LgD.mk cl bw pe tk us)) <|some (.inr ([],AV.tup [AV.agg [T4 (boL (BB n (LgD.mk cl bw pe tk us) (CmD.mk 3 u w q)).fst.cl),T4 (TY iV (BB n (LgD.mk cl bw pe tk us) (CmD.mk 3 u w q)).fst.bw),T4 (TY iV (BB n (LgD.mk cl bw pe tk us) (CmD.mk 3 u w q)).fst.pe),T4 (TY tsA (BB n (LgD.mk cl bw pe tk us) (CmD.mk 3 u w q)).fst.tk),T4 (TY usA (BB n (LgD.mk cl bw pe tk us) (CmD.mk 3 u w q)).fst.us)],AV.agg [iV (BB n (LgD.mk cl bw pe tk us) (CmD.mk 3 u w q)).snd.fst,iV (BB n (LgD.mk cl bw pe tk us) (CmD.mk 3 u w q)).snd.snd],iV 0]))
theorem cm3_ct(n:Aa)(cl:List Bool)(bw pe:List Int)(tk:List TsD)(us:List UsD)(u w:ByteArray)(q:Int)(r:Ret)(h:Ac emT (MO n cl bw pe tk us u w q) r):CT T5 9 ([]) ([Aj n,lgA ⟨cl,bw,pe,tk,us⟩,cmA ⟨3,u,w,q⟩]) r.1 r.2:=
 CT.mach (fn:=Tryz.f9) (c:=zB Tryz.f9) (S:=emS) (hd:=emH) Tryz.func9 (by kernel_rfl) (nL rfl)
  (fun s o ho=>match s,ho with
   | x,_=>x.elim)
  (fun o ho=>Scr.ok (X:=MO n cl bw pe tk us u w q) ho mix (
 .rn 0 [] [] [] [] (al (u2 (u2 (u2 t4)))) <|
 .gu fun a0=>
 have c0:=bop_c n (cl) (bw) (pe) (tk) (us) a0;
 have c1:=bcl_c n (cl) (bw) (pe) (tk) (us) (CmD.mk 3 (CmD.mk 3 u w q).a (CmD.mk 3 u w q).b q) (tk.length) (us.length) (show tk.length=tk.length from rfl) (show us.length=us.length from rfl) a0;
 .rt [] [] [(18,hK c0 [] []),(45,hKO c1 [5,6,7] [])] [] [] [] (aj (aj (u2 (u2 (aj (k2 (aj t9 (aj t6 (al (c0))))) (u2 (u2 (u2 (u2 s2))))))) (aj (u2 s2) (ak (aj (ak (u2 (u2 (u2 (u2 (u2 (u2 (u2 (u2 (u2 (u2 (u2 s2)))))))))))) (aj (u2 (u2 (u2 (aj t3 (u2 (u2 (u2 (u2 s2)))))))) (aj (u2 s2) (ak (aj (u2 (u2 (u2 (aj (ak (k3 (aj t5 (aj (al (k5 t9)) (k2 (c1)))))) (ak (al (k2 n11))))))) (al (u2 (u2 (u2 (u2 (u2 (aj (k2 n11) (aj (k2 n11) t2)))))))))))))))) (al (aj t6 (aj t3 t2))))) (by kernel_rfl)) h
def Lq(n:Aa)(cl:List Bool)(bw pe:List Int)(tk:List TsD)(us:List UsD)(u w:ByteArray)(q:Int):Option (Empty⊕Ret):=gu (LgV n (LgD.mk cl bw pe tk us)) <|some (.inr ([],AV.tup [AV.agg [T4 (boL (BH n (LgD.mk cl bw pe tk us) (CmD.mk 9 u w q)).fst.cl),T4 (TY iV (BH n (LgD.mk cl bw pe tk us) (CmD.mk 9 u w q)).fst.bw),T4 (TY iV (BH n (LgD.mk cl bw pe tk us) (CmD.mk 9 u w q)).fst.pe),T4 (TY tsA (BH n (LgD.mk cl bw pe tk us) (CmD.mk 9 u w q)).fst.tk),T4 (TY usA (BH n (LgD.mk cl bw pe tk us) (CmD.mk 9 u w q)).fst.us)],AV.agg [iV (BH n (LgD.mk cl bw pe tk us) (CmD.mk 9 u w q)).snd.fst,iV (BH n (LgD.mk cl bw pe tk us) (CmD.mk 9 u w q)).snd.snd],iV 0]))
theorem cm9_ct(n:Aa)(cl:List Bool)(bw pe:List Int)(tk:List TsD)(us:List UsD)(u w:ByteArray)(q:Int)(r:Ret)(h:Ac emT (Lq n cl bw pe tk us u w q) r):CT T5 9 ([]) ([Aj n,lgA ⟨cl,bw,pe,tk,us⟩,cmA ⟨9,u,w,q⟩]) r.1 r.2:=
 CT.mach (fn:=Tryz.f9) (c:=zB Tryz.f9) (S:=emS) (hd:=emH) Tryz.func9 (by kernel_rfl) (nL rfl)
  (fun s o ho=>match s,ho with
   | x,_=>x.elim)
  (fun o ho=>Scr.ok (X:=Lq n cl bw pe tk us u w q) ho mix (
 .rn 0 [] [] [] [] (al (u2 (u2 (u2 t4)))) <|
 .gu fun a0=>
 have c0:=bop_c n (cl) (bw) (pe) (tk) (us) a0;
 have c1:=bfl_c n (cl) (bw) (pe) (tk) (us) (CmD.mk 9 (CmD.mk 9 u w q).a (CmD.mk 9 u w q).b q) (tk.length) (us.length) (show tk.length=tk.length from rfl) (show us.length=us.length from rfl) a0;
 .rt [] [] [(18,hK c0 [] []),(45,hKO c1 [5,6,7] [])] [] [] [] (aj (aj (u2 (u2 (aj (k2 (aj t9 (aj t6 (al (c0))))) (u2 (u2 (u2 (u2 s2))))))) (aj (u2 s2) (ak (aj (ak (u2 (u2 (u2 (u2 (u2 (u2 (u2 (u2 (u2 (u2 (u2 s2)))))))))))) (aj (u2 (u2 (u2 (aj t3 (u2 (u2 (u2 (u2 s2)))))))) (aj (u2 s2) (ak (aj (u2 (u2 (u2 (aj (ak (k3 (aj t5 (aj (al (k5 t9)) (k2 (c1)))))) (ak (al (k2 n11))))))) (al (u2 (u2 (u2 (u2 (u2 (aj (k2 n11) (aj (k2 n11) t2)))))))))))))))) (al (aj t6 (aj t3 t2))))) (by kernel_rfl)) h
def KQ:Option (Empty⊕Ret):=some (.inr ([],AV.agg [T4 [AV.agg [AV.str (ByteArray.mk #[97]),iV 0,iV 0],AV.agg [AV.str (ByteArray.mk #[98]),iV 0,iV 0]],T4 [T4 [iV 1],T4 [iV 0]],T4 [AV.agg [AV.str (ByteArray.mk #[100]),bV true,iV 0,iV 1,iV 2,iV 2]],T4 [iV 3],iV 4,iV 2,iV 1,iV 8]))
theorem exm_ct(r:Ret)(h:Ac emT (KQ) r):CT T5 19 ([]) ([]) r.1 r.2:=
 CT.mach (fn:=Tryz.f19) (c:=zB Tryz.f19) (S:=emS) (hd:=emH) Tryz.func19 (by kernel_rfl) (nL rfl)
  (fun s o ho=>match s,ho with
   | x,_=>x.elim)
  (fun o ho=>Scr.ok (X:=KQ) ho mix (
 .rt [] [(3,T4 []),(4,T4 []),(5,T4 []),(6,T4 []),(8,T4 []),(9,T4 [])] [] [] [] [] (aj (u2 (al (k2 (aj t3 (k2 (aj t3 (ak (u2 (k2 (aj t6 (al (k2 n11)))))))))))) (al t9))) (by kernel_rfl)) h
theorem cm3_c(n:Aa)(cl:List Bool)(bw pe:List Int)(tk:List TsD)(us:List UsD)(u w:ByteArray)(q:Int)(hV:LgV n ⟨cl,bw,pe,tk,us⟩):CT T5 9 [] [Aj n,lgA ⟨cl,bw,pe,tk,us⟩,cmA ⟨3,u,w,q⟩] [] (.tup [lgA (BB n ⟨cl,bw,pe,tk,us⟩ ⟨3,u,w,q⟩).1,.agg [.int .i64 (BB n ⟨cl,bw,pe,tk,us⟩ ⟨3,u,w,q⟩).2.1,.int .i64 (BB n ⟨cl,bw,pe,tk,us⟩ ⟨3,u,w,q⟩).2.2],.int .i64 0]):=cm3_ct n cl bw pe tk us u w q ([],_) (.val (by unfold MO;rw[Ab hV];rfl))
theorem cm9_c(n:Aa)(cl:List Bool)(bw pe:List Int)(tk:List TsD)(us:List UsD)(u w:ByteArray)(q:Int)(hV:LgV n ⟨cl,bw,pe,tk,us⟩):CT T5 9 [] [Aj n,lgA ⟨cl,bw,pe,tk,us⟩,cmA ⟨9,u,w,q⟩] [] (.tup [lgA (BH n ⟨cl,bw,pe,tk,us⟩ ⟨9,u,w,q⟩).1,.agg [.int .i64 (BH n ⟨cl,bw,pe,tk,us⟩ ⟨9,u,w,q⟩).2.1,.int .i64 (BH n ⟨cl,bw,pe,tk,us⟩ ⟨9,u,w,q⟩).2.2],.int .i64 0]):=cm9_ct n cl bw pe tk us u w q ([],_) (.val (by unfold Lq;rw[Ab hV];rfl))
theorem PJ:∃n:Aa,n=⟨[⟨⟨#[97]⟩,0,0⟩,⟨⟨#[98]⟩,0,0⟩],[[1],[0]],[⟨⟨#[100]⟩,true,0,1,2,2⟩],[3],4,2,1,8⟩:=⟨_,rfl⟩
@[irreducible] def exN:Aa:=Classical.choose PJ
theorem Eh:exN=⟨[⟨⟨#[97]⟩,0,0⟩,⟨⟨#[98]⟩,0,0⟩],[[1],[0]],[⟨⟨#[100]⟩,true,0,1,2,2⟩],[3],4,2,1,8⟩:=by unfold exN;exact TE PJ
theorem Mo:CT T5 19 [] [] [] (Aj exN):=by rw[Eh];exact exm_ct _ (.val (show KQ=some (.inr _) by unfold KQ;exact rfl))
theorem PO:Rows exN.nx:=by
 rw[Eh];intro v hv;match v,hv with
 | 0,_=>decide
 | 1,_=>decide
 | v+2,hv=>simp at hv;try omega
theorem Je:Ao exN:=by
 rw[Eh];refine⟨by decide +kernel,rfl,by decide,by decide,by decide +kernel,?_,?_,?_,?_,?_⟩
 .intro i b h;match i,h with
  | 0,h=>cases h;exact⟨by decide +kernel,by decide +kernel,by decide +kernel,by decide +kernel⟩
  | 1,h=>cases h;exact⟨by decide +kernel,by decide +kernel,by decide +kernel,by decide +kernel⟩
  | i+2,h=>simp at h
 .intro i s h;match i,h with
  | 0,h=>cases h;exact⟨by decide +kernel,by decide +kernel,by decide +kernel,by decide +kernel,by decide +kernel⟩
  | i+1,h=>simp at h
 .decide +kernel
 .exact⟨2,⟨⟨#[100]⟩,true,0,1,2,2⟩,by simp,rfl,by decide,by decide⟩
 .intro i c h;match i,h with
  | 0,h=>cases h;exact⟨⟨⟨⟨#[100]⟩,true,0,1,2,2⟩,by simp,rfl,by decide,by decide⟩,by simp⟩
  | i+1,h=>simp at h
theorem Qt:∃x:LgD,x=⟨(AM exN).cl,(AM exN).bw,(AM exN).pe,[],neU exN⟩:=⟨_,rfl⟩
@[irreducible] def exL:LgD:=Classical.choose Qt
theorem JO:exL=⟨(AM exN).cl,(AM exN).bw,(AM exN).pe,[],neU exN⟩:=by unfold exL;exact TE Qt
theorem J7:LgV exN exL:=JO ▸ neV Je ⟨Je,PO⟩
theorem lNw_k:CT T5 18 [] [Aj exN] [] (.tup [lgA exL,.int .i64 0]):=by rw[JO];exact lNw_c exN Je ⟨Je,PO⟩
theorem ex_cn:cnF exL.us=1/\cnP exL.us=1:=by rw[JO,KH,LQ];unfold neU Bd;rw[Eh];exact⟨rfl,rfl⟩
theorem ex_b:Aw exN ⟨#[98]⟩=1:=by unfold Aw;rw[Eh];decide +kernel
theorem Qd:Am exN=4:=by rw[Eh];decide +kernel
theorem ex_sh:Ay ⟨exL.cl,exL.bw,exL.pe⟩=[false,false,false,false]:=by rw[JO];show List.replicate (Am exN) false=_;rw[Qd];rfl
theorem ex_al:alO exN [false,false,false,false] 1 1=false:=by
 have h:=JX (n:=exN) (sh:=[false,false,false,false]) (bk:=1) (fl:=1) (IB Je (by rw[Qd];rfl) (by omega)) (by rw[Eh];decide);rw[h.2];unfold alB caB;have h2:decide ((1:Int)<=slS exN (wth [false,false,false,false] 1))=false:=by rw[Eh];decide +kernel
 rw[h2,Bool.and_false,Bool.and_false]
theorem cm3_k:CT T5 9 [] [Aj exN,lgA exL,cmA ⟨3,⟨#[98]⟩,⟨#[]⟩,0⟩] [] (.tup [lgA exL,.agg [.int .i64 5,.int .i64 0],.int .i64 0]):=by have h:=cm3_c exN exL.cl exL.bw exL.pe exL.tk exL.us ⟨#[98]⟩ ⟨#[]⟩ 0 J7;have k:=(MF exN exL ⟨3,⟨#[98]⟩,⟨#[]⟩,0⟩ J7).1.2;unfold MqL at k;simp only at k;rw[ex_b,ex_sh,ex_cn.1] at k;have k2:=(k.2 (by decide)).2.2 rfl ex_al;have k1:=k.1 (by rw[k2];decide);rw[k2,k1] at h;exact h
theorem cm9_k:CT T5 9 [] [Aj exN,lgA exL,cmA ⟨9,⟨#[]⟩,⟨#[]⟩,0⟩] [] (.tup [lgA exL,.agg [.int .i64 12,.int .i64 1],.int .i64 0]):=by have h:=cm9_c exN exL.cl exL.bw exL.pe exL.tk exL.us ⟨#[]⟩ ⟨#[]⟩ 0 J7;have k:BH exN exL ⟨9,⟨#[]⟩,⟨#[]⟩,0⟩=(exL,12,cnP exL.us):=(bfl_s exN exL ⟨9,⟨#[]⟩,⟨#[]⟩,0⟩ J7).1.2;rw[k,ex_cn.2] at h;exact h
def knoEn:Option (Empty⊕Ret):=some (.inr ([],bV true))
theorem kno_ct(r:Ret)(h:Ac emT (knoEn) r):CT T5 7 ([]) ([]) r.1 r.2:=
 CT.mach (fn:=Tryz.f7) (c:=zB Tryz.f7) (S:=emS) (hd:=emH) Tryz.func7 (by kernel_rfl) (nL rfl)
  (fun s o ho=>match s,ho with
   | x,_=>x.elim)
  (fun o ho=>Scr.ok (X:=knoEn) ho mix (
 have c0:=Mo;
 have c1:=lNw_k;
 have c2:=Mo;
 have c3:=cm3_k;
 have c4:=Mo;
 have c5:=cm9_k;
 .rt [] [] [(10,hK c0 [] []),(11,hK c1 [] []),(15,hK c2 [] []),(18,hK c3 [] []),(23,hK c4 [] []),(26,hK c5 [] [])] [] [] [] (aj (u2 (aj (aj (al (c0)) (aj (ak (aj t9 (al (c1)))) (u2 (u2 (u2 (ak (aj (k2 n11) s2))))))) (aj (aj (al (c2)) (u2 (ak (aj (k3 (aj t9 (aj t6 (aj t5 (al (c3)))))) (u2 (u2 (u2 (u2 (k2 (aj (k2 n11) (aj (k2 n11) s2))))))))))) (aj (aj (al (c4)) (u2 (ak (aj (k3 (aj t9 (aj t6 (aj t5 (al (c5)))))) (u2 (u2 (u2 (u2 (k2 (aj (k2 n11) (aj (k2 n11) s2))))))))))) (al (u2 (u2 (u2 (aj t3 (aj t3 (aj t3 (u2 (aj t3 (aj t3 (aj t3 (u2 (aj t3 (u2 (aj t4 (aj t3 (u2 (aj t3 (u2 (aj t4 (aj t3 s2))))))))))))))))))))))))) t2)) (by kernel_rfl)) h
theorem kno_c:CT T5 7 [] [] [] (.bool true):=kno_ct _ (.val rfl)
inductive ET where | l0 (v0 v1:Int) (v2:LgD×Int×Int)
def lclSt(ls:List Int)(q:Int):ET->St | .l0 v0 v1 v2=>St.mk 130 [(5,AV.ptr 0 0 0),(6,AV.ptr 1 0 0),(7,iv (A7 q (iN (TY bA (Ar ls 0 6).bs).length))),(8,AV.ptr 2 0 0),(9,AV.ptr 3 0 0),(11,T4 (boL (Ay (Ai.mk (liL ls 0 15).1 (liL ls 0 15).bw (liL ls 0 15).pe)))),(13,iv v0),(14,iv v1)] [some (bK [Aj (Ar ls 0 6)] 8),some (bK [AV.agg [T4 (boL (liL ls 0 15).cl),T4 (TY iv (liL ls 0 15).bw),T4 (TY iv (liL ls 0 15).pe),T4 (TY tsA (liL ls 0 15).tk),T4 (TY usA (liL ls 0 15).us)]] 5),some (bK [AV.agg [T4 (TY bV v2.fst.cl),T4 (TY iv v2.fst.bw),T4 (TY iv v2.fst.pe),T4 (TY tsA v2.fst.tk),T4 (TY usA v2.fst.us)]] 5),some (bK [AV.agg [iv v2.snd.fst,iv v2.snd.snd]] 2)]
def MZ(ls:List Int)(q:Int):Option (ET⊕Ret):=gu (0<=A7 q (iN (TY bA (Ar ls 0 6).bs).length)) <|el ((Ar ls 0 6).bs) ((A7 q (iN (TY bA (Ar ls 0 6).bs).length)).toNat) fun(x39:Az)=>gu (LgV (Ar ls 0 6) (liL ls 0 15)) <|gu (RwV (Ar ls 0 6)) <|gu (Ao (Ar ls 0 6)) <|gu (Bw (Ar ls 0 6) (Ai.mk (liL ls 0 15).1 (liL ls 0 15).bw (liL ls 0 15).pe)) <|br (decide (iN (boL (Ay (Ai.mk (liL ls 0 15).1 (liL ls 0 15).bw (liL ls 0 15).pe))).length<=A7 q (iN (TY bA (Ar ls 0 6).bs).length))) (some (.inr ([],bV false))) (some (.inl (.l0 ((0:Int)) ((0:Int)) (BB (Ar ls 0 6) (liL ls 0 15) (CmD.mk 3 x39.nm (ByteArray.mk #[]) 0)))))
def JM(ls:List Int)(q v0 v1:Int)(v2:LgD×Int×Int):Option (ET⊕Ret):=br (decide (v1<iN (TY usA (liL ls 0 15).us).length)) (gu (0<=v1) <|el ((liL ls 0 15).us) (v1.toNat) fun(x76:UsD)=>br (x76.s==0) (some (.inl (.l0 (i64.wrap (v0+1)) (i64.wrap (v1+1)) v2))) (el ((liL ls 0 15).us) (v1.toNat) fun(x84:UsD)=>br (x84.s==1) (some (.inl (.l0 (i64.wrap (v0+1)) (i64.wrap (v1+1)) v2))) (some (.inl (.l0 v0 (i64.wrap (v1+1)) v2))))) (gu (0<=A7 q (iN (TY bA (Ar ls 0 6).bs).length)) <|el (Ay (Ai.mk (liL ls 0 15).1 (liL ls 0 15).bw (liL ls 0 15).pe)) ((A7 q (iN (TY bA (Ar ls 0 6).bs).length)).toNat) fun(x93:Bool)=>gu (∀(e:AV),e∈boL (Ay (Ai.mk (liL ls 0 15).1 (liL ls 0 15).bw (liL ls 0 15).pe))->e.cells.length=1) <|gu ((boL (Ay (Ai.mk (liL ls 0 15).1 (liL ls 0 15).bw (liL ls 0 15).pe))).length<=9223372036854775807) <|gu ((boL (Ay (Ai.mk (liL ls 0 15).1 (liL ls 0 15).bw (liL ls 0 15).pe))).length * 1<=140737488355328) <|gu (A7 q (iN (TY bA (Ar ls 0 6).bs).length)<iN (boL (Ay (Ai.mk (liL ls 0 15).1 (liL ls 0 15).bw (liL ls 0 15).pe))).length) <|gu ((0+(A7 q (iN (TY bA (Ar ls 0 6).bs).length)).toNat).succ.le (boL (Ay (Ai.mk (liL ls 0 15).1 (liL ls 0 15).bw (liL ls 0 15).pe))).length) <|gu (RwV (Ar ls 0 6)) <|br (chE (Ar ls 0 6) ((Ay (Ai.mk (liL ls 0 15).1 (liL ls 0 15).bw (liL ls 0 15).pe)).set (0+(A7 q (iN (TY bA (Ar ls 0 6).bs).length)).toNat) true) v0 != 0) (some (.inr ([],bV false))) (br (!x93) (br (!(v2.snd.fst==1)==caO (Ar ls 0 6) ((Ay (Ai.mk (liL ls 0 15).1 (liL ls 0 15).bw (liL ls 0 15).pe)).set (0+(A7 q (iN (TY bA (Ar ls 0 6).bs).length)).toNat) true) v0) (some (.inr ([],bV false))) (br (v2.snd.fst != 1) (some (.inr ([],bV true))) (gu (v2.fst.pe.length<=9223372036854775807) <|some (.inr ([],bV (AN v2.fst.pe (A7 q (iN (TY bA (Ar ls 0 6).bs).length)))))))) (br (!(v2.snd.fst==1)==false) (some (.inr ([],bV false))) (br (v2.snd.fst != 1) (some (.inr ([],bV true))) (gu (v2.fst.pe.length<=9223372036854775807) <|some (.inr ([],bV (AN v2.fst.pe (A7 q (iN (TY bA (Ar ls 0 6).bs).length))))))))))
def Ic(ls:List Int)(q:Int):ET->Option (ET⊕Ret) | .l0 v0 v1 v2=>JM ls q v0 v1 v2
theorem lcl_ct(ls:List Int)(q:Int)(r:Ret)(h:Ac (Ic ls q) (MZ ls q) r):CT T5 4 ([]) ([lI ls,.int .i64 q]) r.1 r.2:=
 CT.mach (fn:=Tryz.f4) (c:=zB Tryz.f4) (S:=(lclSt ls q)) (hd:=ET.ctorIdx) Tryz.func4 (by kernel_rfl) (nL rfl)
  (fun s o ho=>match s,ho with
 | .l0 v0 v1 v2,ho=>Scr.ok (X:=JM ls q v0 v1 v2) ho mix (
 .rn 0 [] [] [] [] (al (u2 (u2 (u2 (u2 (al t3)))))) <|
 .br (fun a0=>
 .gu fun a1=>
 .el fun x76 a2=>
 .br (fun a3=>
  .lp [141,161] [(76,usA x76)] [] [] [] [0,1,2,3] [5,6,7,8,9,11,13,14] (aj (aj a0 (aj (u2 (u2 (u2 (aj (k2 (aj a1 (Af (f:=usA) a2))) (u2 (u2 (u2 (u2 (aj a3 (aj a3 (aj a3 (aj a3 (aj a3 (aj a3 (aj a3 (al (aj a3 t2))))))))))))))))) (ak (aj (u2 (u2 s2)) (al (u2 (u2 s2))))))) (ak (k3 t9))))
 (fun a3=>
  .el fun x84 a4=>
  .rn 0 [141,160] [(76,usA x76),(84,usA x84)] [] [] (aj a0 (al (u2 (u2 (u2 (aj (k2 (aj a1 (Af (f:=usA) a2))) (u2 (u2 (u2 (u2 (ag a3 (ag a3 (ag a3 (aj (aj a3 (k2 (aj a1 (Af (f:=usA) a4)))) (ag a3 (ag a3 (ag a3 (al (aj a3 t2))))))))))))))))))) <|
  .br (fun a5=>
  .lp [160,177] [] [] [] [] [0,1,2,3] [5,6,7,8,9,11,13,14] (aj (aj a5 (aj (u2 (u2 s2)) (al (u2 (u2 s2))))) (ak (k3 t9))))
  (fun a5=>
  .lp [160,176] [] [] [] [] [0,1,2,3] [5,6,7,8,9,11,13,14] (aj (aj a5 (al (u2 (u2 s2)))) (ak (k3 t9))))))
 (fun a0=>
 .gu fun a1=>
 .el fun x93 a2=>
 .rn 0 [140] [(93,bV x93)] [] [] (aj a0 (al (u2 (u2 (aj (k2 (aj a1 (Af (f:=bV) a2))) (u2 s2)))))) <|
 .gu fun a3=>
 .gu fun a4=>
 .gu fun a5=>
 .rn 0 [] [] [] [] (al (u2 (aj (ak (aj a3 (aj a4 a5))) s2))) <|
 .gu fun a6=>
 .gu fun a7=>
 .rn 0 [] [] [] [] (al (u2 (u2 (aj (k2 (aj a1 a6)) (al (ak a7)))))) <|
 .gu fun a8=>
 have c0:=car_c ((Ay (Ai.mk (liL ls 0 15).1 (liL ls 0 15).bw (liL ls 0 15).pe)).set (0+(A7 q (iN (TY bA (Ar ls 0 6).bs).length)).toNat) true) v0 a8;
 .rn 0 [] [] [(104,hK c0 [] [4])] [] (al (u2 (u2 (u2 (aj (k3 (aj t9 (aj (show(boL (Ay (Ai.mk (liL ls 0 15).1 (liL ls 0 15).bw (liL ls 0 15).pe))).length=((boL (Ay (Ai.mk (liL ls 0 15).1 (liL ls 0 15).bw (liL ls 0 15).pe))).set (0+(A7 q (iN (TY bA (Ar ls 0 6).bs).length)).toNat) (bV true)).length by simp) (ak (aj (show CT T5 15 [] [AV.agg [T4 (TY bA (Ar ls 0 6).bs),T4 (gL (Ar ls 0 6).nx),T4 (TY sA (Ar ls 0 6).ss),T4 (TY iv (Ar ls 0 6).rs),iv (Ar ls 0 6).q,iv (Ar ls 0 6).a,iv (Ar ls 0 6).d,iv (Ar ls 0 6).p],T4 ((boL (Ay (Ai.mk (liL ls 0 15).1 (liL ls 0 15).bw (liL ls 0 15).pe))).set (0+(A7 q (iN (TY bA (Ar ls 0 6).bs).length)).toNat) (bV true)),iv v0] [] (AV.tup [bV (caO (Ar ls 0 6) ((Ay (Ai.mk (liL ls 0 15).1 (liL ls 0 15).bw (liL ls 0 15).pe)).set (0+(A7 q (iN (TY bA (Ar ls 0 6).bs).length)).toNat) true) v0),iv (chE (Ar ls 0 6) ((Ay (Ai.mk (liL ls 0 15).1 (liL ls 0 15).bw (liL ls 0 15).pe)).set (0+(A7 q (iN (TY bA (Ar ls 0 6).bs).length)).toNat) true) v0)]) from CT.eqs (c0) (by first | (simp only[boL,Tf,TU,List.map_take,List.map_drop,List.map_replicate,List.nil_append];done) | (simp only[boL,Tf,TU,List.map_take,List.map_drop,List.map_replicate,List.nil_append];rfl) | (simp[gL,boL,lI,sA,bA,tsA,usA];done) | (simp[gL,boL,lI,sA,bA,tsA,usA];rfl) | (simp only[boL,Tf,TU,SY,SZ];rfl)) (by first | (simp only[boL,Tf,TU,List.map_take,List.map_drop,List.map_replicate,List.nil_append];done) | (simp only[boL,Tf,TU,List.map_take,List.map_drop,List.map_replicate,List.nil_append];rfl) | (simp[gL,boL,lI,sA,bA,tsA,usA];done) | (simp[gL,boL,lI,sA,bA,tsA,usA];rfl) | (simp only[boL,Tf,TU,SY,SZ];rfl))) (show ∀(blk:Blk),blk∈[]->A4 blk from(by intro _ h;cases h))))))) (u2 (u2 (u2 (u2 s2))))))))) <|
 .br (fun a9=>
  .rt [219] [] [] [] [] [] (aj (aj (u2 (u2 (u2 (aj a9 (aj a9 (aj a9 (aj a9 (aj a9 (aj a9 (ak (aj a9 (aj a9 (al (aj a9 t2)))))))))))))) (ak s2)) t2))
 (fun a9=>
  .br (fun a10=>
  .rn 0 [218,231] [] [] [] (al (u2 (u2 (u2 (ag a9 (ag a9 (ag a9 (ag a9 (ag a9 (ag a9 (ag a10 (aj (aj a9 (aj a10 t2)) (aj (aj a9 t3) (al (aj a9 t2))))))))))))))) <|
  .br (fun a11=>
   .rt [218,231,239] [] [] [] [] [] (aj (aj a11 s2) t2))
  (fun a11=>
   .br (fun a12=>
   .rt [218,231,238,247] [] [] [] [] [] (aj (aj a11 (al (u2 (u2 (u2 (u2 (aj a12 (aj a12 (aj a12 (aj a12 (aj a12 (ag a12 s2)))))))))))) t2))
   (fun a12=>
   .gu fun a13=>
   have c1:=Dd (v2.fst.pe) (A7 q (iN (TY bA (Ar ls 0 6).bs).length)) a13;
   .rt [218,231,238,246] [] [(128,hK c1 [] [])] [] [] [] (aj (aj a11 (al (u2 (u2 (u2 (u2 (ag a12 (ag a12 (ag a12 (ag a12 (aj (aj a12 (ak (k3 (al (c1))))) (ag a12 s2)))))))))))) t2))))
  (fun a10=>
  .rn 0 [218,230] [] [] [] (al (u2 (u2 (u2 (ag a9 (ag a9 (ag a9 (ag a9 (ag a9 (ag a9 (aj a10 (aj (aj a9 (aj a10 t2)) (aj (aj a9 t3) (al (aj a9 t2))))))))))))))) <|
  .br (fun a11=>
   .rt [218,230,239] [] [] [] [] [] (aj (aj a11 s2) t2))
  (fun a11=>
   .br (fun a12=>
   .rt [218,230,238,247] [] [] [] [] [] (aj (aj a11 (al (u2 (u2 (u2 (u2 (aj a12 (aj a12 (aj a12 (aj a12 (aj a12 (ag a12 s2)))))))))))) t2))
   (fun a12=>
   .gu fun a13=>
   have c1:=Dd (v2.fst.pe) (A7 q (iN (TY bA (Ar ls 0 6).bs).length)) a13;
   .rt [218,230,238,246] [] [(128,hK c1 [] [])] [] [] [] (aj (aj a11 (al (u2 (u2 (u2 (u2 (ag a12 (ag a12 (ag a12 (ag a12 (aj (aj a12 (ak (k3 (al (c1))))) (ag a12 s2)))))))))))) t2))))))) (by kernel_rfl)
  )
  (fun o ho=>Scr.ok (X:=MZ ls q) ho mix (
 have c0:=kno_c;
 have c1:=li_c (ls) (0) (15) (show nat_lit 0<=(5000:Nat) from(by first | exact nL rfl | decide)) (show(0:Int)<=(15:Int)/\(15:Int)<=(100:Int) from ⟨(by first | exact nL rfl | decide),(by first | exact nL rfl | decide)⟩);
 have c2:=LF q (iN (TY bA (Ar ls 0 6).bs).length);
 .rn 3 [] [] [(19,hK c0 [] []),(25,hK c1 [0] []),(32,hK c2 [] [])] [] (u2 (aj (aj (al (c0)) s2) (ak (aj (u2 (u2 (u2 (aj (ak (k3 (al (c1)))) (u2 (u2 (u2 (k2 (aj (k2 n11) (al (k2 n11))))))))))) (al (u2 (u2 (u2 (u2 (aj (ak (k3 (al (c2)))) s2)))))))))) <|
 .gu fun a0=>
 .el fun x39 a1=>
 .gu fun a2=>
 have c3:=cm3_c (Ar ls 0 6) ((liL ls 0 15).cl) ((liL ls 0 15).bw) ((liL ls 0 15).pe) ((liL ls 0 15).tk) ((liL ls 0 15).us) (x39.nm) (ByteArray.mk #[]) (0) a2;
 .rn 0 [] [(39,bA x39)] [(43,hK c3 [] [])] [] (al (u2 (u2 (u2 (u2 (u2 (aj (k2 (aj a0 (Af (f:=bA) a1))) (u2 (u2 (u2 (aj (k3 (aj t9 (aj t6 (aj t5 (al (c3)))))) (u2 (u2 (u2 (u2 (k2 (aj (k2 n11) (aj (k2 n11) s2)))))))))))))))))) <|
 .gu fun a3=>
 .gu fun a4=>
 .gu fun a5=>
 have c4:=ssh_v ((liL ls 0 15).1) ((liL ls 0 15).bw) ((liL ls 0 15).pe) a3 a4 a5;
 .rn 1 [] [] [(51,hK c4 [] [])] [] (aj (u2 (u2 (u2 (aj (k2 (aj t9 (aj t4 (al (c4))))) (u2 (u2 (u2 (u2 s2)))))))) (al (u2 (u2 (u2 (aj t3 (aj t3 (aj t3 (u2 (aj t3 (aj t3 (aj t3 (aj t4 (al t3)))))))))))))) <|
 .br (fun a6=>
 .rt [131] [] [] [] [] [] (aj (aj a6 s2) t2))
 (fun a6=>
 .lp [130] [] [] [] [] [1,2,3,4] [5,6,7,8,9,11,13,14] (aj (aj a6 (u2 s2)) (ak (k3 t9))))) (by kernel_rfl)) h
theorem rdInts{n:Nat}{es:List AV}(h:∀x∈es,ShV T5 n 3 x):∃L:List Int,es=L.map (AV.int .i64):=by
 induction es with
 | nil=>exact⟨[],rfl⟩
 | cons x es ih=>
  obtain⟨L,rfl⟩:=ih fun y hy=>h y (Tj _ hy)
  obtain⟨i,_,rfl⟩:=(h x (by simp)).intD Tryz.underlying3;exact⟨i::L,rfl⟩
theorem cuZ_rng(v n:Int)(h1:1<=n)(h2:n<=100000):0<=A7 v n/\A7 v n<n:=by
 unfold A7;split
 .omega
 .have ha:=Int.tmod_lt_of_pos v (show 0<n by omega);have hb:=Int.lt_tmod_of_pos v (show 0<n by omega);split
  .rw[AZ _ (by omega) (by omega)];omega
  .omega
theorem blo_at{n:Aa}(hv:Ao n){i:Nat}{s:Az}(hs:n.bs[i]?=some s):Aw n s.nm=(i:Int):=by
 have hn:(n.bs.map (·.nm)).Nodup:=(List.nodup_append.1 hv.nod).1;have key:∀{i j:Nat} {s t:Az},n.bs[i]?=some s->n.bs[j]?=some t->s.nm=t.nm->¬i<j:=fun {i j s t} hs ht h hij=>by obtain⟨hi,rfl⟩:=S4.1 hs;obtain⟨hj,rfl⟩:=S4.1 ht;exact List.pairwise_iff_getElem.1 hn i j (by simpa using hi) (by simpa using hj) hij (by simpa using h)
 unfold Aw;rcases K0 (fun b:Az=>b.nm.toList==s.nm.toList) n.bs 0 with ⟨_,h⟩ | ⟨j,x,h,hx,hp⟩
 .have:=h s (S6 hs);simp at this
 .have e:=nm_eq (show x.nm.toList=s.nm.toList by simpa using hp);have h1:=key hx hs e;have h2:=key hs hx e.symm;have h:fiZ (fun b:Az=>b.nm.toList==s.nm.toList) n.bs 0=((0+j:Nat):Int):=h;omega
theorem lcl_run(ls:List Int)(q:Int):CT T5 4 [] [lI ls,.int .i64 q] [] (.bool true):=by
 have hN:=(KW (L:=ls) (kk:=0) (most:=6) (by omega) (by omega)).1;have hV:=(li_s (L:=ls) (kk:=0) (w:=15) (by omega) (by omega)).2;refine lcl_ct ls q ([],_) ?_;unfold MZ;have hst:∀s,Ic ls q s=Ic ls q s:=fun _=>rfl
 have hS0:∀v0 v1 v2,Ic ls q (.l0 v0 v1 v2)=JM ls q v0 v1 v2:=fun _ _ _=>rfl
 unfold JM at hS0;generalize Ic ls q=step at *;generalize Ar ls 0 6=n at *;generalize liL ls 0 15=x at *;have hb:=hV.bd;have hu:=hV.ul;have hnb:=hN.v.nb24;have hc:=cuZ_rng q (iN (TY bA n.bs).length) (by simp only[iN,S5];omega) (by simp only[iN,S5];omega);rw[show iN (TY bA n.bs).length=(n.bs.length:Int) by simp only[iN,S5]] at *;generalize A7 q (n.bs.length:Int)=b at *;obtain⟨y,hy⟩:∃y,n.bs[b.toNat]?=some y:=⟨_,S2 (by omega)⟩;have hS:=De ⟨x.cl,x.bw,x.pe⟩;have hE:=blo_at hN.v hy;have k:=(MF n x ⟨3,y.nm,⟨#[]⟩,0⟩ hV).1;rw[Ab hc.1,An hy,Ab hV,Ab hN.rwv,Ab hN.v,Ab hV.sg];generalize BB n x ⟨3,y.nm,⟨#[]⟩,0⟩=p at *;obtain⟨hV2,_,k⟩:=k;simp only at k hS;rw[hE,show((b.toNat:Nat):Int)=b by omega] at k;obtain⟨k1,k2,_⟩:=k hc.1;generalize Ay ⟨x.cl,x.bw,x.pe⟩=sh at *;have hL:=A8 sh;rw[Ad (S7 (by simp only[iN];omega))];refine co_lp (p:=fun u:UsD=>Bd u.s) (l:=x.us) (L:=fun v i=>ET.l0 v i p) (by omega) (fun i u v hx=>?_) ?_
 .have hi:=(S4.1 hx).1;rw[hS0,AU hx,Tb];unfold Bd;cases h0:u.s==0 with
  | true=>rfl
  | false=>rw[Ad rfl,An hx,SX]
 .have hF:=FH (fun u:UsD=>Bd u.s) x.us;rw[<-KH] at *;generalize cnF x.us=F at *;refine .to (hS0 _ _ _) ?_;have hw:sh[b.toNat]?=some (sh.getD b.toNat true):=by rw[S3,S2 (by omega)];rfl
  have hb2:chE n sh F=0:=IB hN.v (by omega) (by omega);have hc2:chE n (sh.set b.toNat true) F=0:=IB hN.v (by rw[TA];omega) (by omega);have e1:=(JX (bk:=b) hb2 hc).2;have e2:caO n (sh.set b.toNat true) F=caB n (wth sh b) F:=by unfold caO;rw[S0 hc2];rfl
  rw[e1] at k1;unfold alB at k1;rw[AQ,Ab hc.1,An hw,Ab (Is _),Ab (by omega),Ab (by omega),Ab (by simp only[iN];omega),Th,Ab (show Nat.le _ _ from by show b.toNat+1<=_;omega),Ab hN.rwv,hc2,Ad (by rfl),e2];have hpe:p.1.pe.length<=9223372036854775807:=by have:=hV2.bd;omega
  generalize sh.getD b.toNat true=w at *;generalize caB n (wth sh b) F=cc at *;by_cases hk:p.2.1=1
  .have hp:=k2 hk;have hh:AN p.1.pe b=true:=by rw[hp];exact Eo.2 (by simp)
   obtain⟨hw0,hcc⟩:=k1.1 hk;rw[hw0] at hcc ⊢
   have hcc:cc=true:=by simpa using hcc
   rw[hcc,hk,Ag (by rfl),Ad (by rfl),Ad (by rfl),Ab hpe,hh];exact .ret _
  .have hne:¬(w=false/\(!w&&cc)=true):=fun h=>hk (k1.2 h)
   have hk0:(p.2.1==1)=false:=by simpa using hk
   have hk1:(p.2.1 != 1)=true:=by simpa using hk
   rw[hk0,hk1];cases w with
   | true=>rw[Ad (by rfl),Ad (by rfl),Ag rfl];exact .ret _
   | false=>
    have hcc:cc=false:=by cases cc with | false=>rfl | true=>exact absurd ⟨rfl,rfl⟩ hne
    rw[hcc,Ag (by rfl),Ad (by rfl),Ag rfl];exact .ret _
theorem ledgerCloses_row(avs:List AV)(h:Ea T5 6 Tryz.f4.params.toList avs):CT T5 4 [] avs [] (.bool true):=by rw[Tryz.params4] at h;obtain⟨a,_,rfl,ka,h⟩:=h.consD;obtain⟨a1,_,rfl,kb,h⟩:=h.consD;obtain rfl:=h.nilD;obtain⟨_,_,he,rfl⟩:=ka.sliceD Tryz.underlying22;obtain⟨l,rfl⟩:=rdInts he;obtain⟨q,_,rfl⟩:=kb.intD Tryz.underlying3;exact lcl_run l q
end Go.Proofs.YthjgbnbibebigaaGreat

/- Parts of the proof:RtD,Rt9p,RtU,Gi1p,GiA,GiB,Rt12p,RtB,GiC,Gi2p,GiD,NmA,Nm2p,NmC,NmD,NmE,NmF,Nm3p. -/
import Derived.KernelRfl
import Derived.Test.YtedjkebooffjpaaProg
import Derived.Test.YtedjkebooffjpaaItineraryLegsM3
noncomputable section
set_option linter.unusedVariables false
set_option linter.unusedSimpArgs false
open Go Go.AX Go.Proofs
set_option maxRecDepth 100000
set_option linter.unusedVariables false
set_option linter.unusedSimpArgs false
open Go.IntKind (i64 u64)
open List renaming map->Uq
open Int renaming toNat->Uv
open Go.AX.AV renaming lst->Uw
open Go.Proofs.Try renaming prog->Ux
namespace Go.Proofs.Ytedjkebooffjpaa
def KB(d:List Int)(b w:Int):Int:=if 0<=d.getD w.toNat 0 then (if b<0 then w else if d.getD w.toNat 0<d.getD b.toNat 0 then w else b) else b
def Cj(d r:List Int):Nat->Int | 0=> -1 | i+1=>KB d (Cj d r i) (r.getD i 0)
def BestOk(d r:List Int)(i:Nat)(b:Int):Prop:=(b = -1/\∀j,j<i->d.getD (r.getD j 0).toNat 0<0)\/ ∃k,k<i/\b=r.getD k 0/\0<=d.getD (r.getD k 0).toNat 0/\(∀j,j<i->0<=d.getD (r.getD j 0).toNat 0->d.getD (r.getD k 0).toNat 0<=d.getD (r.getD j 0).toNat 0)/\∀j,j<k->0<=d.getD (r.getD j 0).toNat 0->d.getD (r.getD k 0).toNat 0<d.getD (r.getD j 0).toNat 0
theorem PS{d r:List Int}(h0:∀j,j<r.length->0<=r.getD j 0):∀i,i<=r.length->BestOk d r i (Cj d r i):=by
 intro i;induction i with
 | zero=>intro _;exact .inl ⟨rfl,fun j hj=>by omega⟩
 | succ i ih=>
  intro hi;have ih:=ih (by omega);rw[Cj];generalize Cj d r i=b at ih;unfold KB;by_cases c1:0<=d.getD (r.getD i 0).toNat 0
  .rw[Ts c1];rcases ih with ⟨rfl,hn⟩ | ⟨k,hk,rfl,hk0,hmin,hfst⟩
   .rw[Ts (by decide)];refine .inr ⟨i,by omega,rfl,c1,fun j hj hj0=>?_,fun j hj hj0=>?_⟩
    .by_cases e:j=i
     .rw[e];exact Int.le_refl _
     .have:=hn j (by omega);omega
    .have:=hn j (by omega);omega
   .have:=h0 k (by omega);rw[Tt (by omega)];by_cases c2:d.getD (r.getD i 0).toNat 0<d.getD (r.getD k 0).toNat 0
    .rw[Ts c2];refine .inr ⟨i,by omega,rfl,c1,fun j hj hj0=>?_,fun j hj hj0=>?_⟩
     .by_cases e:j=i
      .rw[e];exact Int.le_refl _
      .have:=hmin j (by omega) hj0;omega
     .have:=hmin j (by omega) hj0;omega
    .rw[Tt c2];refine .inr ⟨k,by omega,rfl,hk0,fun j hj hj0=>?_,hfst⟩;by_cases e:j=i
     .rw[e];omega
     .exact hmin j (by omega) hj0
  .rw[Tt c1];rcases ih with ⟨rfl,hn⟩ | ⟨k,hk,rfl,hk0,hmin,hfst⟩
   .refine .inl ⟨rfl,fun j hj=>?_⟩;by_cases e:j=i
    .rw[e];omega
    .exact hn j (by omega)
   .refine .inr ⟨k,by omega,rfl,hk0,fun j hj hj0=>?_,hfst⟩;by_cases e:j=i
    .rw[e] at hj0;omega
    .exact hmin j (by omega) hj0
theorem OZ{g:List (List Int)}{s:List Bool}(hg:OkG g s){v:Nat}(hv:v<g.length):∀j,j<(g.getD v []).length->0<=(g.getD v []).getD j 0:=fun j hj=>by obtain⟨w,hw,_⟩:=F4 hg hv hj;omega
theorem row_mem{g:List (List Int)}{v j:Nat}(hj:j<(g.getD v []).length):(g.getD v []).getD j 0∈g.getD v []:=by rw[Tv (l:=g.getD v []),Tu hj];exact T2 hj
theorem PZ{g:List (List Int)}{v:Nat}{w:Int}(h:w∈g.getD v []):∃j,j<(g.getD v []).length/\(g.getD v []).getD j 0=w:=by obtain⟨j,hj,e⟩:=T7.1 h;exact⟨j,hj,by rw[Tv (l:=g.getD v []),Tu hj];exact e⟩
def thD(g:List (List Int))(d:List Int)(v:Nat)(b:Int):List Int:=if b<0 then [] else (v:Int)::(List.range (d.getD b.toNat 0).toNat).map (wkZ g d b.toNat)
def thZ(g:List (List Int))(s:List Bool)(v:Nat):List Int:=if s.getD v false=true then [] else thD g (AE g s v g.length) v (Cj (AE g s v g.length) (g.getD v []) (g.getD v []).length)
end Go.Proofs.Ytedjkebooffjpaa
set_option maxHeartbeats 4000000
namespace Go.Proofs.Ytedjkebooffjpaa
theorem chk_ok{g:List (List Int)}{s:List Bool}(hrw:Rows g){v w:Int}(h:C2 g s v w=0):OkG g s/\Asc g/\(0<=v/\v<(g.length:Int))/\(0<=w/\w<(g.length:Int)):=by
 unfold C2 at h;by_cases h1:24<g.length
 .rw[Ts h1] at h;cases h
 rw[Tt h1] at h;by_cases h2:Dp g=true
 .rw[Ts h2] at h;cases h
 rw[Tt h2] at h;by_cases h3:s.length≠g.length\/v<0\/(g.length:Int)<=v\/w<0\/(g.length:Int)<=w
 .rw[Ts h3] at h;cases h
 have hs:s.length=g.length:=Decidable.byContradiction fun e=>h3 (.inl e)
 have hv0:¬v<0:=fun e=>h3 (.inr (.inl e))
 have hv1:¬(g.length:Int)<=v:=fun e=>h3 (.inr (.inr (.inl e)))
 have hw0:¬w<0:=fun e=>h3 (.inr (.inr (.inr (.inl e))))
 have hw1:¬(g.length:Int)<=w:=fun e=>h3 (.inr (.inr (.inr (.inr e))))
 have hb:∀a,a<g.length->∀i,i<(g.getD a []).length->AM (g.getD a []) g.length a i=false:=by
  intro a ha i hi;have e1:fnd (Cs g) 0 g.length=none:=by unfold Dp at h2;simpa using h2
  have e2:=CH e1 a (TG _) (by omega);unfold Cs at e2;have e3:fnd (AM (g.getD a []) g.length a) 0 (g.getD a []).length=none:=by simpa using e2
  exact CH e3 i (TG _) (by omega)
 refine⟨⟨by omega,fun a ha=>⟨hrw a ha,fun x hx=>?_⟩,hs⟩,fun a ha i h0 hi=>?_,⟨by omega,by omega⟩,⟨by omega,by omega⟩⟩
 .obtain⟨i,hi,rfl⟩:=T7.1 hx;have hbad:=hb a ha i hi;have e:(g.getD a []).getD i 0=(g.getD a [])[i]:=by rw[Tv (l:=g.getD a []),Tu hi];rfl
  unfold AM at hbad;rw[e] at hbad;simp only[Bool.or_eq_false_iff,decide_eq_false_iff_not,T5,ne_eq] at hbad;exact⟨by omega,by omega,hbad.2.2.1⟩
 .have hbad:=hb a ha i hi;unfold AM at hbad;rw[TA h0,Bool.true_and] at hbad;simp only[Bool.or_eq_false_iff,decide_eq_false_iff_not] at hbad;omega
def Ah(g:List (List Int))(s:List Bool)(v w:Int):List Int×Int:=if C2 g s v w=0 then (if (AE g s w.toNat g.length).getD v.toNat 0<0 then ([],0) else (wkL g (AE g s w.toNat g.length) v.toNat ((AE g s w.toNat g.length).getD v.toNat 0).toNat,0)) else ([],C2 g s v w)
theorem toN{v:Int}(h:0<=v):((v.toNat:Nat):Int)=v:=TX h
theorem shutNeg{g:List (List Int)}{s:List Bool}{goal a:Nat}{d:List Int}(hD:Dst g s goal d)(ha:a<g.length)(h0:0<=d.getD a 0):s.getD goal false=false:=by
 cases h:s.getD goal false with
 | false=>rfl
 | true=>have:=hD.shut h a ha;omega
theorem P3{g:List (List Int)}{s:List Bool}(hg:OkG g s)(a goal:Nat)(hal:a<g.length)(hgo:goal<g.length):CT Ux 126 [] [.lst (gL g),.lst (boL s),.int .i64 (a:Nat),.int .i64 (goal:Nat)] [] (lI (if (AE g s goal g.length).getD a 0<0 then [] else wkL g (AE g s goal g.length) a ((AE g s goal g.length).getD a 0).toNat)):=by
 have hb:Try.f126.body=some (zB Try.f126):=by kernel_rfl
 have hn:[Uw (gL g),.lst (boL s),.int .i64 (a:Nat),.int .i64 (goal:Nat)].length<=Try.f126.ntmps:=nL rfl;have hgl:=hg.len;have cd:=I5 hg goal hgo;rw[Ko hg hgo] at cd;have ch:=Qv hg goal hgo;have hD:=D9 hg hgo;have hbd:=hD.bnd a hal;generalize AE g s goal g.length=d at cd ch hD hbd;have hda:=Bv (l:=d) (j:=a) (by rw[hD.len];exact hal);by_cases hneg:d.getD a 0<0
 .rw[Ts hneg];exact CT.pathW mix Try.func126 hb hn (rfn_0 ⟨g,s,d,a,goal,0,0,[],d.getD a 0,0,false,0,[],[]⟩ cd (by simp[iN]) hda (TA hneg)) rfl
 .rw[Tt hneg];obtain⟨m,hm⟩:∃m:Nat,d.getD a 0=(m:Int):=⟨(d.getD a 0).toNat,(toN (by omega)).symm⟩;have hgd:=shutNeg hD hal (by omega);have hok:=Il hg hgo hD hal hm hgd;rw[hm,TD];refine CT.path mix Try.func126 hb hn (rf_0 ⟨g,s,d,a,goal,0,0,[],d.getD a 0,0,false,0,BZ g d,[]⟩ cd (by simp[iN]) hda (Tz hneg) ch ?_);have key:T Ux 0 (.loop (zC (zB Try.f126) 0)) (GG ⟨g,s,d,(wkZ g d a 0).toNat,goal,0,0,wkL g d a 0,0,0,false,0,BZ g d,[]⟩) (TK Ux 0 (Fin Ux Try.f126 0 [] (lI (wkL g d a m))) (zK (zB Try.f126) 0)):=by
   refine T.loop (fun k:Nat=>GG ⟨g,s,d,(wkZ g d a k).toNat,goal,0,k,wkL g d a k,0,0,false,0,BZ g d,[]⟩) (fun k=>k<=m) (fun k=>m+1-k) 0 (TG _) ?_;intro k hk;obtain⟨w1,w2,w3⟩:=hok k hk;have hlen:=H0 g d a k;by_cases h:k<m
   .obtain⟨x1,x2,x3⟩:=hok (k+1) h;have hne:(wkZ g d a k).toNat≠goal:=by intro e;rw[e,hD.zero hgd] at w3;omega
    have hgt:(BZ g d).getD (wkZ g d a k).toNat 0=wkZ g d a (k+1):=by
     have hlt:(wkZ g d a k).toNat<g.length:=by omega
     simp[BZ,Tv,TT hlt,wkZ]
    have hg2:=Bv (l:=BZ g d) (j:=(wkZ g d a k).toNat) (by simp[BZ];omega);rw[hgt,<-toN x1] at hg2;refine T.path mix (rfe_0 ⟨g,s,d,(wkZ g d a k).toNat,goal,(wkZ g d a (k+1)).toNat,k,wkL g d a k,0,0,false,0,BZ g d,[]⟩ (by simp[iN];omega) (Int.natCast_nonneg _) hg2 (by simp[hlen]) (by simp) (by simp[hlen];omega) (by simp[hlen];omega) ?_);intro st hst;refine⟨k+1,?_,h,by omega⟩;have e2:∀y:AV,((wkL g d a k).map (AV.int .i64)).length+[y].length=k+1+1:=by intro y;simp[hlen]
    have e3:(wkL g d a (k+1)).map (AV.int .i64)=(wkL g d a k).map (AV.int .i64)++[.int .i64 (((wkZ g d a (k+1)).toNat:Nat):Int)]:=by rw[M2,TH,toN x1];rfl
    simp only[e2] at hst;show Ren 0 st (GG ⟨g,s,d,(wkZ g d a (k+1)).toNat,goal,0,k+1,wkL g d a (k+1),0,0,false,0,BZ g d,[]⟩);unfold GG dB;simp only[e3];exact hst
   .obtain rfl:k=m:=by omega
    have he:(wkZ g d a k).toNat=goal:=Ib hD (by omega) (by rw[w3];omega);exact T.out mix (rfex_0 ⟨g,s,d,(wkZ g d a k).toNat,goal,0,k,wkL g d a k,0,0,false,0,BZ g d,[]⟩ (by simp[iN,he]) (by simp[hlen]))
  exact key
structure QE where
 g:List (List Int)
 s:List Bool
 v:Int
 p:List Int
 o:List Int
 d:List Int
 r:List Int
 e:Int
 i:Nat
 a:Nat
 w:Nat
 x:Int
 y:Int
 z:Int
 bz:Int
 b:Bool
 sb:Bool
def cE(q:QE):Nat->FuncId->List AV->List (Option Blk)->AN:=fun dst f args hp=>match f with
 | 134=>.call [] [] [] (.int .i64 q.e)
 | 135=>.call [] [] [] (lI q.p)
 | 26=>.call [] [] [] (.bool q.b)
 | 125=>.call [] [] [] (lI q.d)
 | 126=>.call [] [] [] (lI q.p)
 | _=>.no
def eN(q:QE):List (Nat×AV):=[]
def st13(q:QE):St:={n:=Try.f103.ntmps,fr:=[(0,.lst (gL q.g)),(1,.lst (boL q.s))],hp:=[]}
def FC(q:QE):St:={n:=Try.f103.ntmps,fr:=[(0,.lst (gL q.g)),(1,.lst (boL q.s)),(8,lI q.o),(9,.int .i64 (iN q.i))],hp:=[]}
def st26(q:QE):St:={n:=Try.f135.ntmps,fr:=[(0,.lst (gL q.g)),(1,.lst (boL q.s)),(2,.int .i64 (iN q.a))],hp:=[]}
def DW(q:QE):St:={n:=Try.f135.ntmps,fr:=[(0,.lst (gL q.g)),(1,.lst (boL q.s)),(2,.int .i64 (iN q.a)),(7,lI q.d),(8,.int .i64 q.bz),(9,.int .i64 (iN q.i))],hp:=[]}
def e26(q:QE):List (Nat×AV):=[(14,.bool q.sb),(23,lI q.r),(31,lI q.r),(34,.int .i64 (iN q.w)),(38,.int .i64 q.x),(47,.int .i64 q.x),(51,.int .i64 q.y)]
theorem rgi_0(q:QE)(h1:(CT Ux 134 [] [Uw (gL q.g),Uw (boL q.s)] [] (iv q.e)))(h2:((q.e != 0)=true)):GoP Ux (hU [31] (eN q) (cE q)) 0 (zB Try.f103) (st13 q) (Fin Ux Try.f103 0 [] (AV.tup [iv 0,AV.nils,iv q.e])):=zF (σ:=[]) (fz:=[]) (by kernel_rfl) (aj (aj t4 (aj (u2 (u2 (aj (ak (k3 (al h1))) s2))) (aj (u2 s2) (aj h2 (al (u2 (k2 s2))))))) (al t4))
theorem rgi_1(q:QE)(h1:(CT Ux 134 [] [Uw (gL q.g),Uw (boL q.s)] [] (iv q.e)))(h2:((q.e != 0)=false)){post:Exit->St->Prop}(ht:T Ux 0 (.loop (zC (zB Try.f103) 0)) (St.mk 46 [(0,Uw (gL q.g)),(1,Uw (boL q.s)),(8,AV.nils),(9,iv 0)] []) (TK Ux 0 post (zK (zB Try.f103) 0))):GoP Ux (hU [30] (eN q) (cE q)) 0 (zB Try.f103) (st13 q) post:=zR (σ:=[]) (fz:=[]) (vars:=[0,1,8,9]) (by kernel_rfl) (aj (aj t4 (aj (u2 (u2 (aj (ak (k3 (al h1))) s2))) (aj (u2 s2) (aj h2 (u2 s2))))) t5) ht
theorem rgx_0(q:QE)(h1:(decide (iN q.i<iN (gL q.g).length)=false)):GoO Ux (hU [40] (eN q) (cE q)) 0 (zC (zB Try.f103) 0) (zK (zB Try.f103) 0) (FC q) (Fin Ux Try.f103 0 [] (AV.tup [iv (iN (Uq iv q.o).length),Uw (Uq iv q.o),iv 0])):=zF (σ:=[]) (fz:=[]) (by kernel_rfl) (aj (aj (aj (u2 (u2 (u2 (al t3)))) (al h1)) (al (u2 (u2 (u2 (u2 (u2 t2))))))) (al t4))
theorem rgr_0(q:QE)(h1:(decide (iN q.i<iN (gL q.g).length)=true))(h2:(CT Ux 135 [] [Uw (gL q.g),Uw (boL q.s),iv (iN q.i)] [] (Uw (Uq iv q.p))))(h3:(decide (0<iN (Uq iv q.p).length)=true))(h4:((iN (Uq iv q.o).length==0)=true)){post:Exit->St->Prop}{R:St->Prop}(hR:∀st,Ren 0 st (St.mk 46 [(0,Uw (gL q.g)),(1,Uw (boL q.s)),(8,Uw (Uq iv q.p)),(9,iv (i64.wrap (iN q.i+1)))] [])->R st):GoP Ux (hU [41,61,69] (eN q) (cE q)) 0 (zC (zB Try.f103) 0) (FC q) (andThen R post):=zN (σ:=[]) (fz:=[]) (vars:=[0,1,8,9]) (by kernel_rfl) (aj (aj (u2 (u2 (u2 (al t3)))) (aj h1 (aj (u2 (u2 (u2 (aj (ak (k5 (al h2))) s2)))) (aj (u2 (u2 (u2 (u2 (ag h3 (ag h3 (ag h3 (ag h3 (aj h4 (aj h4 (aj h4 (aj h4 (aj h4 (aj (aj h3 (aj h4 t2)) (al (aj h3 t2)))))))))))))))) (ak (aj (u2 s2) (al (u2 (u2 s2))))))))) t5) hR
theorem rgr_1(q:QE)(h1:(decide (iN q.i<iN (gL q.g).length)=true))(h2:(CT Ux 135 [] [Uw (gL q.g),Uw (boL q.s),iv (iN q.i)] [] (Uw (Uq iv q.p))))(h3:(decide (0<iN (Uq iv q.p).length)=true))(h4:((iN (Uq iv q.o).length==0)=false))(h5:(decide (iN (Uq iv q.p).length<iN (Uq iv q.o).length)=true)){post:Exit->St->Prop}{R:St->Prop}(hR:∀st,Ren 0 st (St.mk 46 [(0,Uw (gL q.g)),(1,Uw (boL q.s)),(8,Uw (Uq iv q.p)),(9,iv (i64.wrap (iN q.i+1)))] [])->R st):GoP Ux (hU [41,61,68,83] (eN q) (cE q)) 0 (zC (zB Try.f103) 0) (FC q) (andThen R post):=zN (σ:=[]) (fz:=[]) (vars:=[0,1,8,9]) (by kernel_rfl) (aj (aj (u2 (u2 (u2 (al t3)))) (aj h1 (aj (u2 (u2 (u2 (aj (ak (k5 (al h2))) s2)))) (aj (u2 (u2 (u2 (u2 (ag h3 (ag h3 (ag h3 (ag h3 (ag h4 (ag h4 (ag h4 (ag h4 (aj (aj h4 t3) (aj (aj h3 (aj h4 t2)) (al (aj h3 t2)))))))))))))))) (aj h5 (aj (u2 s2) (al (u2 (u2 s2))))))))) t5) hR
theorem rgr_2(q:QE)(h1:(decide (iN q.i<iN (gL q.g).length)=true))(h2:(CT Ux 135 [] [Uw (gL q.g),Uw (boL q.s),iv (iN q.i)] [] (Uw (Uq iv q.p))))(h3:(decide (0<iN (Uq iv q.p).length)=true))(h4:((iN (Uq iv q.o).length==0)=false))(h5:(decide (iN (Uq iv q.p).length<iN (Uq iv q.o).length)=false)){post:Exit->St->Prop}{R:St->Prop}(hR:∀st,Ren 0 st (St.mk 46 [(0,Uw (gL q.g)),(1,Uw (boL q.s)),(8,Uw (Uq iv q.o)),(9,iv (i64.wrap (iN q.i+1)))] [])->R st):GoP Ux (hU [41,61,68,82] (eN q) (cE q)) 0 (zC (zB Try.f103) 0) (FC q) (andThen R post):=zN (σ:=[]) (fz:=[]) (vars:=[0,1,8,9]) (by kernel_rfl) (aj (aj (u2 (u2 (u2 (al t3)))) (aj h1 (aj (u2 (u2 (u2 (aj (ak (k5 (al h2))) s2)))) (aj (u2 (u2 (u2 (u2 (ag h3 (ag h3 (ag h3 (ag h3 (ag h4 (ag h4 (ag h4 (ag h4 (aj (aj h4 t3) (aj (aj h3 (aj h4 t2)) (al (aj h3 t2)))))))))))))))) (aj h5 (al (u2 (u2 s2)))))))) t5) hR
theorem rgr_3(q:QE)(h1:(decide (iN q.i<iN (gL q.g).length)=true))(h2:(CT Ux 135 [] [Uw (gL q.g),Uw (boL q.s),iv (iN q.i)] [] (Uw (Uq iv q.p))))(h3:(decide (0<iN (Uq iv q.p).length)=false)){post:Exit->St->Prop}{R:St->Prop}(hR:∀st,Ren 0 st (St.mk 46 [(0,Uw (gL q.g)),(1,Uw (boL q.s)),(8,Uw (Uq iv q.o)),(9,iv (i64.wrap (iN q.i+1)))] [])->R st):GoP Ux (hU [41,60] (eN q) (cE q)) 0 (zC (zB Try.f103) 0) (FC q) (andThen R post):=zN (σ:=[]) (fz:=[]) (vars:=[0,1,8,9]) (by kernel_rfl) (aj (aj (u2 (u2 (u2 (al t3)))) (aj h1 (aj (u2 (u2 (u2 (aj (ak (k5 (al h2))) s2)))) (aj (u2 (u2 (u2 (u2 (aj h3 (aj h3 (aj h3 (aj h3 (k5 (aj h3 (al (aj h3 t2)))))))))))) (ak (al (u2 (u2 s2)))))))) t5) hR
theorem rwz_0(q:QE)(h1:(0<=iN q.a))(h2:((boL q.s)[(iN q.a).toNat]?=some (AV.bool q.sb)))(h3:(q.sb=true)):GoP Ux (hU [31] (e26 q) (cE q)) 0 (zB Try.f135) (st26 q) (Fin Ux Try.f135 0 [] (AV.nils)):=zF (σ:=[]) (fz:=[]) (by kernel_rfl) (aj (u2 (aj (u2 (u2 (aj (k2 (aj h1 h2)) s2))) (aj h3 s2))) t2)
theorem rw_0(q:QE)(h1:(0<=iN q.a))(h2:((boL q.s)[(iN q.a).toNat]?=some (AV.bool q.sb)))(h3:(q.sb=false))(h4:(CT Ux 125 [] [Uw (gL q.g),Uw (boL q.s),iv (iN q.a)] [] (Uw (Uq iv q.d)))){post:Exit->St->Prop}(ht:T Ux 0 (.loop (zC (zB Try.f135) 0)) (St.mk 72 [(0,Uw (gL q.g)),(1,Uw (boL q.s)),(2,iv (iN q.a)),(7,Uw (Uq iv q.d)),(8,iv (-1)),(9,iv 0)] []) (TK Ux 0 post (zK (zB Try.f135) 0))):GoP Ux (hU [30] (e26 q) (cE q)) 0 (zB Try.f135) (st26 q) post:=zR (σ:=[]) (fz:=[]) (vars:=[0,1,2,7,8,9]) (by kernel_rfl) (aj (u2 (aj (u2 (u2 (aj (k2 (aj h1 h2)) s2))) (aj h3 (aj (u2 (u2 (u2 (aj (ak (k5 (al h4))) s2)))) (u2 s2))))) t7) ht
theorem rwr_0(q:QE)(h1:(0<=iN q.a))(h2:((gL q.g)[(iN q.a).toNat]?=some (Uw (Uq iv q.r))))(h3:(decide (iN q.i<iN (Uq iv q.r).length)=true))(h4:(0<=iN q.i))(h5:((Uq iv q.r)[(iN q.i).toNat]?=some (iv (iN q.w))))(h6:(0<=iN q.w))(h7:((Uq iv q.d)[(iN q.w).toNat]?=some (iv q.x)))(h8:(decide (0<=q.x)=true))(h9:(decide (q.bz<0)=true)){post:Exit->St->Prop}{R:St->Prop}(hR:∀st,Ren 0 st (St.mk 72 [(0,Uw (gL q.g)),(1,Uw (boL q.s)),(2,iv (iN q.a)),(7,Uw (Uq iv q.d)),(8,iv (iN q.w)),(9,iv (i64.wrap (iN q.i+1)))] [])->R st):GoP Ux (hU [53,83,89] (e26 q) (cE q)) 0 (zC (zB Try.f135) 0) (DW q) (andThen R post):=zN (σ:=[]) (fz:=[]) (vars:=[0,1,2,7,8,9]) (by kernel_rfl) (aj (aj (u2 (u2 (u2 (aj (k2 (aj h1 h2)) (u2 (u2 (al t3))))))) (aj h3 (aj (u2 (u2 (aj (k2 (aj h1 h2)) (u2 (u2 (aj (k2 (aj h4 h5)) (u2 s2))))))) (aj (u2 (u2 (aj (k2 (aj h6 h7)) (u2 (u2 (u2 (ag h8 (ag h8 (ag h8 (aj h9 (aj h9 (aj h9 (aj h9 (aj h9 (aj h9 (aj h9 (aj h9 (aj h9 (aj (aj h8 (aj h9 t2)) (al (aj h8 t2))))))))))))))))))))) (ak (aj (u2 s2) (al (u2 (u2 s2))))))))) t7) hR
theorem rwr_1(q:QE)(h1:(0<=iN q.a))(h2:((gL q.g)[(iN q.a).toNat]?=some (Uw (Uq iv q.r))))(h3:(decide (iN q.i<iN (Uq iv q.r).length)=true))(h4:(0<=iN q.i))(h5:((Uq iv q.r)[(iN q.i).toNat]?=some (iv (iN q.w))))(h6:(0<=iN q.w))(h7:((Uq iv q.d)[(iN q.w).toNat]?=some (iv q.x)))(h8:(decide (0<=q.x)=true))(h9:(decide (q.bz<0)=false))(h10:(0<=q.bz))(h11:((Uq iv q.d)[q.bz.toNat]?=some (iv q.y)))(h12:(decide (q.x<q.y)=true)){post:Exit->St->Prop}{R:St->Prop}(hR:∀st,Ren 0 st (St.mk 72 [(0,Uw (gL q.g)),(1,Uw (boL q.s)),(2,iv (iN q.a)),(7,Uw (Uq iv q.d)),(8,iv (iN q.w)),(9,iv (i64.wrap (iN q.i+1)))] [])->R st):GoP Ux (hU [53,83,88,111] (e26 q) (cE q)) 0 (zC (zB Try.f135) 0) (DW q) (andThen R post):=zN (σ:=[]) (fz:=[]) (vars:=[0,1,2,7,8,9]) (by kernel_rfl) (aj (aj (u2 (u2 (u2 (aj (k2 (aj h1 h2)) (u2 (u2 (al t3))))))) (aj h3 (aj (u2 (u2 (aj (k2 (aj h1 h2)) (u2 (u2 (aj (k2 (aj h4 h5)) (u2 s2))))))) (aj (u2 (u2 (aj (k2 (aj h6 h7)) (u2 (u2 (u2 (ag h8 (ag h8 (ag h8 (ag h9 (ag h9 (aj (aj h9 (k2 (aj h6 h7))) (ag h9 (ag h9 (ag h9 (aj (aj h9 (k2 (aj h10 h11))) (ag h9 (aj (aj h9 t3) (aj (aj h8 (aj h9 t2)) (al (aj h8 t2))))))))))))))))))))) (aj h12 (aj (u2 s2) (al (u2 (u2 s2))))))))) t7) hR
theorem rwr_2(q:QE)(h1:(0<=iN q.a))(h2:((gL q.g)[(iN q.a).toNat]?=some (Uw (Uq iv q.r))))(h3:(decide (iN q.i<iN (Uq iv q.r).length)=true))(h4:(0<=iN q.i))(h5:((Uq iv q.r)[(iN q.i).toNat]?=some (iv (iN q.w))))(h6:(0<=iN q.w))(h7:((Uq iv q.d)[(iN q.w).toNat]?=some (iv q.x)))(h8:(decide (0<=q.x)=true))(h9:(decide (q.bz<0)=false))(h10:(0<=q.bz))(h11:((Uq iv q.d)[q.bz.toNat]?=some (iv q.y)))(h12:(decide (q.x<q.y)=false)){post:Exit->St->Prop}{R:St->Prop}(hR:∀st,Ren 0 st (St.mk 72 [(0,Uw (gL q.g)),(1,Uw (boL q.s)),(2,iv (iN q.a)),(7,Uw (Uq iv q.d)),(8,iv q.bz),(9,iv (i64.wrap (iN q.i+1)))] [])->R st):GoP Ux (hU [53,83,88,110] (e26 q) (cE q)) 0 (zC (zB Try.f135) 0) (DW q) (andThen R post):=zN (σ:=[]) (fz:=[]) (vars:=[0,1,2,7,8,9]) (by kernel_rfl) (aj (aj (u2 (u2 (u2 (aj (k2 (aj h1 h2)) (u2 (u2 (al t3))))))) (aj h3 (aj (u2 (u2 (aj (k2 (aj h1 h2)) (u2 (u2 (aj (k2 (aj h4 h5)) (u2 s2))))))) (aj (u2 (u2 (aj (k2 (aj h6 h7)) (u2 (u2 (u2 (ag h8 (ag h8 (ag h8 (ag h9 (ag h9 (aj (aj h9 (k2 (aj h6 h7))) (ag h9 (ag h9 (ag h9 (aj (aj h9 (k2 (aj h10 h11))) (ag h9 (aj (aj h9 t3) (aj (aj h8 (aj h9 t2)) (al (aj h8 t2))))))))))))))))))))) (aj h12 (al (u2 (u2 s2)))))))) t7) hR
theorem rwr_3(q:QE)(h1:(0<=iN q.a))(h2:((gL q.g)[(iN q.a).toNat]?=some (Uw (Uq iv q.r))))(h3:(decide (iN q.i<iN (Uq iv q.r).length)=true))(h4:(0<=iN q.i))(h5:((Uq iv q.r)[(iN q.i).toNat]?=some (iv (iN q.w))))(h6:(0<=iN q.w))(h7:((Uq iv q.d)[(iN q.w).toNat]?=some (iv q.x)))(h8:(decide (0<=q.x)=false)){post:Exit->St->Prop}{R:St->Prop}(hR:∀st,Ren 0 st (St.mk 72 [(0,Uw (gL q.g)),(1,Uw (boL q.s)),(2,iv (iN q.a)),(7,Uw (Uq iv q.d)),(8,iv q.bz),(9,iv (i64.wrap (iN q.i+1)))] [])->R st):GoP Ux (hU [53,82] (e26 q) (cE q)) 0 (zC (zB Try.f135) 0) (DW q) (andThen R post):=zN (σ:=[]) (fz:=[]) (vars:=[0,1,2,7,8,9]) (by kernel_rfl) (aj (aj (u2 (u2 (u2 (aj (k2 (aj h1 h2)) (u2 (u2 (al t3))))))) (aj h3 (aj (u2 (u2 (aj (k2 (aj h1 h2)) (u2 (u2 (aj (k2 (aj h4 h5)) (u2 s2))))))) (aj (u2 (u2 (aj (k2 (aj h6 h7)) (u2 (u2 (u2 (aj h8 (aj h8 (aj h8 (ak (k3 (k5 (aj h8 (al (aj h8 t2))))))))))))))) (ak (al (u2 (u2 s2)))))))) t7) hR
theorem rwx_0(q:QE)(h1:(0<=iN q.a))(h2:((gL q.g)[(iN q.a).toNat]?=some (Uw (Uq iv q.r))))(h3:(decide (iN q.i<iN (Uq iv q.r).length)=false))(h4:(decide (q.bz<0)=true)):GoO Ux (hU [52,117] (e26 q) (cE q)) 0 (zC (zB Try.f135) 0) (zK (zB Try.f135) 0) (DW q) (Fin Ux Try.f135 0 [] (AV.nils)):=zF (σ:=[]) (fz:=[0,1]) (by kernel_rfl) (aj (aj (aj (u2 (u2 (u2 (aj (k2 (aj h1 h2)) (u2 (u2 (al t3))))))) (al h3)) (aj (u2 s2) (aj h4 s2))) t2)
theorem rwx_1(q:QE)(h1:(0<=iN q.a))(h2:((gL q.g)[(iN q.a).toNat]?=some (Uw (Uq iv q.r))))(h3:(decide (iN q.i<iN (Uq iv q.r).length)=false))(h4:(decide (q.bz<0)=false))(h5:(CT Ux 126 [] [Uw (gL q.g),Uw (boL q.s),iv q.bz,iv (iN q.a)] [] (Uw (Uq iv q.p))))(h6:(∀(e:AV),e∈Uq iv q.p->e.cells.length=1))(h7:(0<=i64.wrap (iN (Uq iv q.p).length-1)))(h8:(i64.wrap (iN (Uq iv q.p).length-1)<=iN (Uq iv q.p).length))(h9:(iN (Uq iv q.p).length<=iN (Uq iv q.p).length))(h10:([iv (iN q.a)].length=1))(h11:(∀(e:AV),e∈List.take ((i64.wrap (iN (Uq iv q.p).length-1)).toNat-Uv 0) (List.drop (Uv 0) (Uq iv q.p))->e.cells.length=1))(h12:([iv (iN q.a)].length+(List.take ((i64.wrap (iN (Uq iv q.p).length-1)).toNat-Uv 0) (List.drop (Uv 0) (Uq iv q.p))).length<=9223372036854775807))(h13:(([iv (iN q.a)].length+(List.take ((i64.wrap (iN (Uq iv q.p).length-1)).toNat-Uv 0) (List.drop (Uv 0) (Uq iv q.p))).length) * 8<=140737488355328))(h14:([iv (iN q.a)].length+(List.take ((i64.wrap (iN (Uq iv q.p).length-1)).toNat-Uv 0) (List.drop (Uv 0) (Uq iv q.p))).length=(iv (iN q.a)::List.append._f [] PUnit.unit (List.take ((i64.wrap (iN (Uq iv q.p).length-1)).toNat-Uv 0) (List.drop (Uv 0) (Uq iv q.p)))).length)):GoO Ux (hU [52,116] (e26 q) (cE q)) 0 (zC (zB Try.f135) 0) (zK (zB Try.f135) 0) (DW q) (Fin Ux Try.f135 0 [] (Uw (iv (iN q.a)::List.append._f [] PUnit.unit (List.take ((i64.wrap (iN (Uq iv q.p).length-1)).toNat-Uv 0) (List.drop (Uv 0) (Uq iv q.p)))))):=zF (σ:=[]) (fz:=[0,1]) (by kernel_rfl) (aj (aj (aj (u2 (u2 (u2 (aj (k2 (aj h1 h2)) (u2 (u2 (al t3))))))) (al h3)) (aj (u2 s2) (aj h4 (aj (u2 (u2 (u2 (u2 (aj (k3 (k5 (al h5))) s2))))) (al (u2 (u2 (u2 (u2 (u2 (u2 (aj (k2 (aj h6 (aj (Int.le_refl 0) (aj h7 (aj h8 h9))))) (aj (k2 (aj h10 (aj h11 (aj h12 h13)))) s2))))))))))))) (al h14))
def Ee(r:List Int)(n v i:Nat):Bool:=decide (r.getD i 0<=BW r i)||(decide ((n:Int)<=r.getD i 0)||r.getD i 0==(v:Int))
theorem Q0{r:List Int}{n v:Nat}:(fnd (Ee r n v) 0 r.length).isSome=(fnd (AM r n v) 0 r.length).isSome:=by
 have up:∀i,Ee r n v i=true->AM r n v i=true:=by
  intro i h;unfold Ee BW at h;unfold AM;simp only[T6,TC,decide_eq_true_eq,beq_iff_eq] at h ⊢
  rcases h with h | h | h
  .split at h
   .exact .inl (by omega)
   .exact .inr (.inr (.inr ⟨by omega,h⟩))
  .exact .inr (.inl h)
  .exact .inr (.inr (.inl h))
 have dn:∀i,AM r n v i=true->∃j,j<=i/\Ee r n v j=true:=by
  intro i;induction i with
  | zero=>
   intro h;refine⟨0,TF _,?_⟩;unfold AM at h;unfold Ee BW;simp only[T6,TC,decide_eq_true_eq,beq_iff_eq] at h ⊢
   rcases h with h | h | h | ⟨h,_⟩
   .exact .inl (show r.getD 0 0<=(-1:Int) by omega)
   .exact .inr (.inl h)
   .exact .inr (.inr h)
   .omega
  | succ i ih=>
   intro h;by_cases hl:Ee r n v (i+1)=true
   .exact⟨i+1,TF _,hl⟩
   .have hneg:AM r n v i=true:=by
     unfold Ee BW at hl;unfold AM at h ⊢
     simp only[T6,TC,decide_eq_true_eq,beq_iff_eq,not_or] at h hl ⊢
     rw[Tt (by omega)] at hl;rcases h with h | h | h | ⟨_,h⟩
     .simp only[Te] at hl;exact .inl (by omega)
     .exact absurd h hl.2.1
     .exact absurd h hl.2.2
     .exact absurd h hl.1
    obtain⟨j,hj,h2⟩:=ih hneg;exact⟨j,by omega,h2⟩
 cases h1:fnd (Ee r n v) 0 r.length with
 | none=>
  cases h2:fnd (AM r n v) 0 r.length with
  | none=>rfl
  | some i=>obtain⟨a,_,b⟩:=DV h2;obtain⟨j,hj,hb⟩:=dn i a;have:=CH h1 j (TG _) (by omega);rw[hb] at this;cases this
 | some i=>
  cases h2:fnd (AM r n v) 0 r.length with
  | some _=>rfl
  | none=>obtain⟨a,_,b⟩:=DV h1;have:=CH h2 i (TG _) (by omega);rw[up i a] at this;cases this
theorem IP{g:List (List Int)}{s:List Bool}(hrw:Rows g)(h:DA g s=0):OkG g s/\Asc g:=by
 unfold DA at h;by_cases h1:24<g.length
 .rw[Ts h1] at h;cases h
 rw[Tt h1] at h;by_cases h2:Dp g=true
 .rw[Ts h2] at h;cases h
 rw[Tt h2] at h;by_cases h3:s.length=g.length
 .have hb:∀a,a<g.length->∀i,i<(g.getD a []).length->AM (g.getD a []) g.length a i=false:=by
   intro a ha i hi;have e1:fnd (Cs g) 0 g.length=none:=by unfold Dp at h2;simpa using h2
   have e2:=CH e1 a (TG _) (by omega);unfold Cs at e2;have e3:fnd (AM (g.getD a []) g.length a) 0 (g.getD a []).length=none:=by simpa using e2
   exact CH e3 i (TG _) (by omega)
  refine⟨⟨by omega,fun a ha=>⟨hrw a ha,fun x hx=>?_⟩,h3⟩,fun a ha i h0 hi=>?_⟩
  .obtain⟨i,hi,rfl⟩:=PZ hx;have hbad:=hb a ha i hi;unfold AM at hbad;simp only[Bool.or_eq_false_iff,decide_eq_false_iff_not,T5,ne_eq] at hbad;exact⟨by omega,by omega,hbad.2.2.1⟩
  .have hbad:=hb a ha i hi;unfold AM at hbad;rw[TA h0,Bool.true_and] at hbad;simp only[Bool.or_eq_false_iff,decide_eq_false_iff_not] at hbad;omega
 .rw[Ts h3] at h;cases h
theorem wkL_take(g:List (List Int))(d:List Int)(a k:Nat):(wkL g d a k).take k=(List.range k).map (wkZ g d a):=by unfold wkL;rw[<-List.map_take,List.take_range,Nat.min_eq_left (by omega)]
theorem SH{g:List (List Int)}{s:List Bool}(hg:OkG g s)(v:Nat)(hv:v<g.length):CT Ux 135 [] [.lst (gL g),.lst (boL s),.int .i64 (v:Nat)] [] (lI (thZ g s v)):=by
 have hgl:=hg.len;have hl:=BD g;have hsv:=Gj (s:=s) (v:=v) (by rw[hg.sh];exact hv);have hb:Try.f135.body=some (zB Try.f135):=by kernel_rfl
 have hn:[Uw (gL g),.lst (boL s),.int .i64 (v:Nat)].length<=Try.f135.ntmps:=nL rfl;unfold thZ;by_cases hso:s.getD v false=true
 .rw[Ts hso];exact CT.pathW mix Try.func135 hb hn (rwz_0 ⟨g,s,0,[],[],[],[],0,0,v,0,0,0,0,0,false,s.getD v false⟩ (by simp[iN]) hsv hso) rfl
 .rw[Tt hso];have hso:=Ug.2 hso;have c1:=I5 hg v hv;rw[Ko hg hv] at c1;have hD:=D9 hg hv;have hfirst:∀w,w<g.length->0<=(AE g s v g.length).getD w 0->CT Ux 126 [] [.lst (gL g),.lst (boL s),.int .i64 (w:Nat),.int .i64 (v:Nat)] [] (lI (wkL g (AE g s v g.length) w ((AE g s v g.length).getD w 0).toNat)):=by
   intro w hw h0;have:=P3 hg w v hw hv
   rwa [Tt (by omega)] at this
  generalize AE g s v g.length=d at c1 hD hfirst;have hbo:=fun i=>PS (d:=d) (OZ hg hv) i
  have hr1:=(hg.row v hv).1;have hrow:=CW hv;have hget:=fun i=>F4 hg hv (i:=i)
  generalize g.getD v []=r at hbo hr1 hrow hget;have hrl:=BU r;have hbr:∀i,i<=r.length->Cj d r i = -1\/∃b:Nat,Cj d r i=(b:Int)/\b<g.length/\0<=d.getD b 0:=by
   intro i hi;rcases hbo i hi with h | ⟨k,hk,h,h0,_⟩
   .exact .inl h.1
   .obtain⟨w,hw,hw1,_⟩:=hget k (by omega);rw[hw,TD] at h0;exact .inr ⟨w,by rw[h,hw],hw1,h0⟩
  have run:∀res,(Cj d r r.length = -1->res = .nils)->(∀b:Nat,Cj d r r.length=(b:Int)->res=lI ((v:Int)::(List.range (d.getD b 0).toNat).map (wkZ g d b)))->
    T Ux 0 (.loop (zC (zB Try.f135) 0)) (DW ⟨g,s,0,[],[],d,r,0,0,v,0,0,0,0,-1,false,false⟩) (TK Ux 0 (Fin Ux Try.f135 0 [] res) (zK (zB Try.f135) 0)):=by
   intro res hnil hsome;refine T.loop (fun i:Nat=>DW ⟨g,s,0,[],[],d,r,0,i,v,0,0,0,0,Cj d r i,false,false⟩) (fun i=>i<=r.length) (fun i=>r.length+1-i) 0 (TG _) ?_;intro i hi;by_cases h:i<r.length
   .obtain⟨w,hw,hw1,hw2⟩:=hget i h;have hg1:=Bv h;rw[hw] at hg1;have hdw:=Bv (l:=d) (j:=w) (by rw[hD.len];omega);have dk:decide (iN i<iN (r.map (AV.int .i64)).length)=true:=TA (by simp only[iN,hrl];omega);have wi:i64.wrap (iN i+1)=((i+1:Nat):Int):=zW i (by omega);have hstep:Cj d r (i+1)=KB d (Cj d r i) (w:Int):=by rw[Cj,hw]
    unfold KB at hstep;rw[TD] at hstep;have next:∀st,Ren 0 st (DW ⟨g,s,0,[],[],d,r,0,i+1,v,0,0,0,0,Cj d r (i+1),false,false⟩)->∃j,Ren 0 st (DW ⟨g,s,0,[],[],d,r,0,j,v,0,0,0,0,Cj d r j,false,false⟩)/\j<=r.length/\r.length+1-j<r.length+1-i:=fun st hst=>⟨i+1,hst,h,by omega⟩
    by_cases c1:0<=d.getD w 0
    .rw[Ts c1] at hstep;rcases hbr i hi with hb | ⟨b,hb,hbl,_⟩
     .rw[hb,Ts (by decide)] at hstep;rw[hstep] at next
      rw[hb];refine T.path mix (rwr_0 ⟨g,s,0,[],[],d,r,0,i,v,w,d.getD w 0,0,0,-1,false,false⟩ (by simp[iN]) hrow dk (by simp[iN]) hg1 (by simp[iN]) hdw (TA c1) rfl ?_);intro st hst;simp only[wi] at hst;exact next st hst
     .rw[hb,Tt (by omega),TD] at hstep;have hdb:=Bv (l:=d) (j:=b) (by rw[hD.len];omega);rw[hb];by_cases c2:d.getD w 0<d.getD b 0
      .rw[Ts c2] at hstep;rw[hstep] at next
       refine T.path mix (rwr_1 ⟨g,s,0,[],[],d,r,0,i,v,w,d.getD w 0,d.getD b 0,0,(b:Int),false,false⟩ (by simp[iN]) hrow dk (by simp[iN]) hg1 (by simp[iN]) hdw (TA c1) (Tz (by simp only;omega)) (by simp) hdb (TA c2) ?_);intro st hst;simp only[wi] at hst;exact next st hst
      .rw[Tt c2] at hstep;rw[hstep] at next
       refine T.path mix (rwr_2 ⟨g,s,0,[],[],d,r,0,i,v,w,d.getD w 0,d.getD b 0,0,(b:Int),false,false⟩ (by simp[iN]) hrow dk (by simp[iN]) hg1 (by simp[iN]) hdw (TA c1) (Tz (by simp only;omega)) (by simp) hdb (Tz c2) ?_);intro st hst;simp only[wi] at hst;exact next st hst
    .rw[Tt c1] at hstep;rw[hstep] at next
     refine T.path mix (rwr_3 ⟨g,s,0,[],[],d,r,0,i,v,w,d.getD w 0,0,0,Cj d r i,false,false⟩ (by simp[iN]) hrow dk (by simp[iN]) hg1 (by simp[iN]) hdw (Tz c1) ?_);intro st hst;simp only[wi] at hst;exact next st hst
   .obtain rfl:i=r.length:=by omega
    have dn:decide (iN r.length<iN (r.map (AV.int .i64)).length)=false:=Tz (by simp only[iN,hrl];omega);rcases hbr r.length (TF _) with hb | ⟨b,hb,hbl,hb0⟩
    .rw[hnil hb,hb];exact T.out mix (rwx_0 ⟨g,s,0,[],[],d,r,0,r.length,v,0,0,0,0,-1,false,false⟩ (by simp[iN]) hrow dn rfl)
    .rw[hsome b hb,hb];have hbd:=(hD.bnd b hbl).2;have hf:=hfirst b hbl hb0;obtain⟨m,hm⟩:∃m:Nat,d.getD b 0=(m:Int):=⟨(d.getD b 0).toNat,by omega⟩;rw[hm,TD] at hf ⊢
     have hpl:=H0 g d b m;have htk:=wkL_take g d b m;generalize wkL g d b m=p at hf hpl htk;have hlp:=BU p;have hw1:i64.wrap (iN (p.map (AV.int .i64)).length-1)=((m:Nat):Int):=by rw[hlp,hpl];have:=FG (m+1) (by omega) (by omega);simp only[iN];rw[this];simp
     have e3:List.take (((m:Nat):Int).toNat-Uv 0) (List.drop (Uv 0) (p.map (AV.int .i64)))=((List.range m).map (wkZ g d b)).map (AV.int .i64):=by rw[<-htk];simp[List.map_take]
     have k:=rwx_1 ⟨g,s,0,p,[],d,r,0,r.length,v,0,0,0,0,(b:Int),false,false⟩ (by simp[iN]) hrow dn (Tz (by simp only;omega)) hf (fun x hx=>by obtain⟨y,_,rfl⟩:=T1.1 hx;rfl) (by simp only[hw1];omega) (by simp only[hw1];simp only[iN,hlp,hpl];omega) (Int.le_refl _) rfl
      (fun x hx=>by simp only[hw1,e3] at hx;obtain⟨y,_,rfl⟩:=T1.1 hx;rfl) (by simp only[hw1,e3];simp;omega) (by simp only[hw1,e3];simp;omega) (by simp only[hw1,e3];show _=([AV.int .i64 (iN v)]++_).length;rw[TQ])
     simp only[hw1,e3] at k;exact T.out mix k
  have hz:=hbr r.length (TF _);generalize Cj d r r.length=b at run hz;unfold thD;rcases hz with rfl | ⟨b,rfl,hbl,hb0⟩
  .rw[Ts (by decide)];refine CT.pathW mix Try.func135 hb hn (res:=.nils) (rw_0 ⟨g,s,0,[],[],d,[],0,0,v,0,0,0,0,0,false,s.getD v false⟩ (by simp[iN]) hsv hso c1 ?_) rfl;exact run _ (fun _=>rfl) (fun b h=>by omega)
  .rw[Tt (by omega),TD];refine CT.path mix Try.func135 hb hn (rw_0 ⟨g,s,0,[],[],d,[],0,0,v,0,0,0,0,0,false,s.getD v false⟩ (by simp[iN]) hsv hso c1 ?_);exact run _ (fun h=>by omega) (fun b' h=>by rw[show b'=b by omega])
def thT(e:Int)(l:List Int):AV:=.tup [.int .i64 (iN l.length),lI l,.int .i64 e]
def II(o p:List Int):List Int:=if 0<p.length/\(o=[]\/p.length<o.length) then p else o
def B9(g:List (List Int))(s:List Bool):Nat->List Int | 0=>[] | v+1=>II (B9 g s v) (thZ g s v)
def IM(g:List (List Int))(s:List Bool):List Int:=if DA g s=0 then B9 g s g.length else []
def qgi(g:List (List Int))(s:List Bool)(p o:List Int)(i:Nat):QE:=⟨g,s,0,p,o,[],[],0,i,0,0,0,0,0,0,false,false⟩
theorem RI{g:List (List Int)}{s:List Bool}(hrw:Rows g):CT Ux 103 [] [.lst (gL g),.lst (boL s)] [] (thT (DA g s) (IM g s)):=by
 have hl:=BD g;have c:=SF (s:=s) hrw;have hb:Try.f103.body=some (zB Try.f103):=by kernel_rfl
 have hn:[Uw (gL g),.lst (boL s)].length<=Try.f103.ntmps:=nL rfl;unfold IM;by_cases h:DA g s=0
 .rw[Ts h];rw[h] at c ⊢
  obtain⟨hg,ha⟩:=IP hrw h;have hgl:=hg.len;refine CT.path mix Try.func103 hb hn (rgi_1 ⟨g,s,0,[],[],[],[],0,0,0,0,0,0,0,0,false,false⟩ c rfl (T.nil ?_));refine T.loop (fun i:Nat=>FC (qgi g s [] (B9 g s i) i)) (fun i=>i<=g.length) (fun i=>g.length+1-i) 0 (TG _) ?_;intro i hi;by_cases hil:i<g.length
  .have ct:=SH hg i hil;have hs1:B9 g s (i+1)=II (B9 g s i) (thZ g s i):=rfl;have next:∀st,Ren 0 st (FC (qgi g s [] (B9 g s (i+1)) (i+1)))->∃j,Ren 0 st (FC (qgi g s [] (B9 g s j) j))/\j<=g.length/\g.length+1-j<g.length+1-i:=fun st hst=>⟨i+1,hst,hil,by omega⟩
   rw[hs1] at next
   generalize thZ g s i=p at ct next
   generalize B9 g s i=o at next
   have hpl:=BU p;have hol:=BU o;have dk:decide (iN i<iN (gL g).length)=true:=TA (by simp only[iN,hl];omega);have wi:i64.wrap (iN i+1)=((i+1:Nat):Int):=zW i (by omega);unfold II at next
   by_cases hp:0<p.length
   .have dp:decide (0<iN (p.map (AV.int .i64)).length)=true:=TA (by simp only[iN,hpl];omega);by_cases ho:o=[]
    .rw[Ts ⟨hp,.inl ho⟩] at next
     refine T.path mix (rgr_0 (qgi g s p o i) dk ct dp (by simp[qgi,ho,iN]) ?_);intro st hst;simp only[wi,qgi] at hst;exact next st hst
    .have hol0:(iN (o.map (AV.int .i64)).length==0)=false:=by simp only[iN,hol,T5,ne_eq];intro e;exact ho (List.length_eq_zero_iff.1 (by omega))
     by_cases hlt:p.length<o.length
     .rw[Ts ⟨hp,.inr hlt⟩] at next
      refine T.path mix (rgr_1 (qgi g s p o i) dk ct dp hol0 (TA (by simp only[iN,qgi,hpl,hol];omega)) ?_);intro st hst;simp only[wi,qgi] at hst;exact next st hst
     .rw[Tt (fun h=>h.2.elim ho hlt)] at next
      refine T.path mix (rgr_2 (qgi g s p o i) dk ct dp hol0 (Tz (by simp only[iN,qgi,hpl,hol];omega)) ?_);intro st hst;simp only[wi,qgi] at hst;exact next st hst
   .rw[Tt (fun h=>hp h.1)] at next
    refine T.path mix (rgr_3 (qgi g s p o i) dk ct (Tz (by simp only[iN,qgi,hpl];omega)) ?_);intro st hst;simp only[wi,qgi] at hst;exact next st hst
  .obtain rfl:i=g.length:=by omega
   have k:=rgx_0 (qgi g s [] (B9 g s g.length) g.length) (Tz (by simp only[iN,qgi,hl];omega));simp only[BU,qgi] at k;exact T.out mix k
 .rw[Tt h];exact CT.pathW mix Try.func103 hb hn (rgi_0 ⟨g,s,0,[],[],[],[],DA g s,0,0,0,0,0,0,0,false,false⟩ c (by simpa using h)) rfl
def ClsP(g:List (List Int))(s:List Bool)(o:List Int):Prop:=o≠[]/\(∀x∈o,0<=x/\x<(g.length:Int)/\s.getD x.toNat false=false)/\∀i,i<o.length->o.getD ((i+1) % o.length) 0∈g.getD (o.getD i 0).toNat []
theorem get_mem{o:List Int}{i:Nat}(h:i<o.length):o.getD i 0∈o:=by rw[Tv,Tu h];exact T2 h
theorem OP{o:List Int}{x:Int}(h:x∈o):∃i,i<o.length/\o.getD i 0=x:=by obtain⟨i,hi,e⟩:=T7.1 h;exact⟨i,hi,by rw[Tv,Tu hi];exact e⟩
theorem asc_len{g:List (List Int)}{s:List Bool}(hg:OkG g s)(ha:Asc g){v:Nat}(hv:v<g.length):(g.getD v []).length<=g.length:=by
 have hget:=fun i=>F4 hg hv (i:=i)
 have hs:=ha v hv;generalize g.getD v []=r at hget hs;have key:∀i,i<r.length->(i:Int)<=r.getD i 0:=by
  intro i;induction i with
  | zero=>intro h;obtain⟨w,hw,_⟩:=hget 0 h;omega
  | succ i ih=>intro h;have h1:=ih (by omega);have h2:=hs (i+1) (by omega) h;simp only[Te] at h2;omega
 by_cases h:r.length=0
 .omega
 .have h1:=key (r.length-1) (by omega);obtain⟨w,hw,hw1,_⟩:=hget (r.length-1) (by omega);omega
structure QL where
 L:List Int
 g:List (List Int)
 s:List Bool
 v:Nat
 goal:Nat
 p:List Int
 d:List Int
 h:List Int
 rl:List Bool
 k:Nat
 w:Nat
 x:Int
 y:Int
 z:Int
 b:Bool
 sb:Bool
 r:List Int
 m1:Nat
 m2:Nat
theorem shN{g:List (List Int)}{s:List Bool}{goal a:Nat}{d:List Int}(hD:Dst g s goal d)(ha:a<g.length)(h0:0<=d.getD a 0):s.getD goal false=false:=by
 cases h:s.getD goal false with
 | false=>rfl
 | true=>have:=hD.shut h a ha;omega
theorem opnN{g:List (List Int)}{s:List Bool}{goal a:Nat}{d:List Int}(hD:Dst g s goal d)(ha:a<g.length)(h0:0<=d.getD a 0):s.getD a false=false:=by
 rcases hD.back a ha h0 with rfl | h
 .exact shN hD ha h0
 .exact h.1
theorem Sm{l:List Int}{x:Int}(h:x∈l):AC l x=true:=by
 cases e:AC l x with
 | true=>rfl
 | false=>exact absurd h (Kz e)
theorem N2{g:List (List Int)}{s:List Bool}(hg:OkG g s){goal:Nat}{d:List Int}(hD:Dst g s goal d){u:Nat}(hu:u<g.length)(h0:0<d.getD u 0)(hgd:s.getD goal false=false):B1 g d u∈g.getD u []:=by
 have h:=(Qx hg hD hu h0 hgd).1;unfold B1 at h ⊢
 cases hf:fnd (DP g d u) 0 (g.getD u []).length with
 | none=>rw[hf] at h;exact absurd h (show ¬(0:Int)<=-1 by decide)
 | some i=>obtain⟨_,_,b⟩:=DV hf;show(g.getD u []).getD i 0∈g.getD u [];rw[Tv (l:=g.getD u []),Tu (by omega)];exact T2 (by omega)
def H8(g:List (List Int))(d:List Int)(v:Nat):List Int:=if d.getD v 0<0 then [] else wkL g d v (d.getD v 0).toNat
theorem NN{g:List (List Int)}{s:List Bool}(hg:OkG g s){v:Nat}(hv:v<g.length)(hne:thZ g s v≠[]):
  ∃b m:Nat,s.getD v false=false/\b<g.length/\(b:Int)∈g.getD v []/\(AE g s v g.length).getD b 0=(m:Int)/\1<=m/\thZ g s v=(v:Int)::(List.range m).map (wkZ g (AE g s v g.length) b)/\
   ∀w∈g.getD v [],0<=(AE g s v g.length).getD w.toNat 0->(m:Int)<=(AE g s v g.length).getD w.toNat 0:=by
 unfold thZ at hne ⊢
 by_cases hso:s.getD v false=true
 .rw[Ts hso] at hne;exact absurd rfl hne
 .rw[Tt hso] at hne ⊢
  have hso:=Ug.2 hso;have hD:=D9 hg hv;generalize AE g s v g.length=d at hne hD ⊢
  have hbo:=PS (d:=d) (OZ hg hv) _ (TF _);generalize hbb:Cj d (g.getD v []) (g.getD v []).length=b at hbo hne ⊢
  unfold thD at hne ⊢
  rcases hbo with ⟨rfl,_⟩ | ⟨k,hk,hbk,hk0,hmin,_⟩
  .rw[Ts (by decide)] at hne;exact absurd rfl hne
  .obtain⟨w,hw,hw1,hw2⟩:=F4 hg hv hk;rw[hw] at hbk;subst hbk;rw[hw,TD] at hk0 hmin;rw[Tt (by omega)];refine⟨w,(d.getD w 0).toNat,hso,hw1,by rw[<-hw];exact row_mem hk,by omega,?_,by rw[TD],fun x hx h0=>?_⟩
   .by_cases e:d.getD w 0=0
    .exact absurd (Ib hD hw1 e) hw2
    .omega
   .obtain⟨j,hj,rfl⟩:=PZ hx;have:=hmin j hj h0;omega
theorem th_get{g:List (List Int)}{d:List Int}{v b m:Nat}:∀i,i<m+1->((v:Int)::(List.range m).map (wkZ g d b)).getD i 0=if i=0 then (v:Int) else wkZ g d b (i-1):=by
 intro i hi;cases i with
 | zero=>rfl
 | succ i=>rw[Tt (by omega),Te,List.getD_cons_succ,Tv,TE,TT (by omega)];rfl
theorem th_cls{g:List (List Int)}{s:List Bool}(hg:OkG g s){v:Nat}(hv:v<g.length)(hne:thZ g s v≠[]):ClsP g s (thZ g s v)/\(thZ g s v).getD 0 0=(v:Int)/\∀i,i<(thZ g s v).length->(thZ g s v).getD i 0∉(thZ g s v).take i:=by
 obtain⟨b,m,hso,hb,hbm,hm,h1,e,_⟩:=NN hg hv hne;rw[e];have hD:=D9 hg hv;generalize AE g s v g.length=d at hD hm;have hok:=Il hg hv hD hb hm hso;have hz:=hD.zero hso;have hlen:((v:Int)::(List.range m).map (wkZ g d b)).length=m+1:=by simp
 have hget:=th_get (g:=g) (d:=d) (v:=v) (b:=b) (m:=m);have hwm:wkZ g d b m=(v:Int):=by obtain⟨a1,a2,a3⟩:=hok m (TF _);have:=Ib hD (v:=(wkZ g d b m).toNat) (by omega) (by rw[a3];simp);omega
 generalize hl:(v:Int)::(List.range m).map (wkZ g d b)=l at hlen hget;refine⟨⟨by rw[<-hl];simp,fun x hx=>?_,fun i hi=>?_⟩,by rw[<-hl];rfl,fun i hi hm'=>?_⟩
 .obtain⟨i,hi,rfl⟩:=OP hx;rw[hget i (by omega)];split
  .exact⟨by omega,by omega,by rw[TD];exact hso⟩
  .obtain⟨a1,a2,a3⟩:=hok (i-1) (by omega);exact⟨a1,a2,by
    have hu:(wkZ g d b (i-1)).toNat<g.length:=by omega
    rcases hD.back _ hu (by rw[a3];omega) with e | e
    .rw[e];exact hso
    .exact e.1⟩
 .have hnx:l.getD ((i+1) % l.length) 0=wkZ g d b i:=by
   by_cases e2:i=m
   .rw[hlen,e2,Nat.mod_self,hget 0 (by omega),Ts rfl,hwm]
   .rw[hlen,Tk (by omega),hget (i+1) (by omega),Tt (by omega),Te]
  rw[hnx,hget i (by omega)];split
  .rename_i e0;rw[e0,TD];exact hbm
  .rename_i e0;obtain⟨a1,a2,a3⟩:=hok (i-1) (by omega);have:=N2 hg hD (u:=(wkZ g d b (i-1)).toNat) (by omega) (by rw[a3];omega) hso;obtain⟨i',rfl⟩:∃i',i=i'+1:=⟨i-1,by omega⟩;exact this
 .have hm2:∃j,j<i/\l.getD j 0=l.getD i 0:=by
   obtain⟨j,hj,e2⟩:=OP hm';have hj2:j<i:=by simp only[TY] at hj;omega
   refine⟨j,hj2,?_⟩;rw[<-e2,Tv,Tv,TP,Ts hj2]
  obtain⟨j,hj,e2⟩:=hm2;rw[hget i (by omega),hget j (by omega),Tt (show ¬i=0 by omega)] at e2;obtain⟨a1,a2,a3⟩:=hok (i-1) (by omega);by_cases ej:j=0
  .rw[Ts ej] at e2;rw[<-e2,TD,hz] at a3;omega
  .rw[Tt ej] at e2;obtain⟨b1,b2,b3⟩:=hok (j-1) (by omega);rw[e2,a3] at b3;omega
theorem NR(g:List (List Int))(s:List Bool):∀k,(B9 g s k=[]/\∀v,v<k->thZ g s v=[])\/∃v,v<k/\B9 g s k=thZ g s v/\thZ g s v≠[]/\∀u,u<k->thZ g s u≠[]->(thZ g s v).length<=(thZ g s u).length:=by
 intro k;induction k with
 | zero=>exact .inl ⟨rfl,fun v hv=>by omega⟩
 | succ k ih=>
  have e:B9 g s (k+1)=II (B9 g s k) (thZ g s k):=rfl;rw[e];unfold II;by_cases hp:thZ g s k=[]
  .rw[Tt (fun h=>by rw[hp] at h;exact absurd h.1 (by simp))];rcases ih with ⟨h1,h2⟩ | ⟨v,hv,h1,h2,h3⟩
   .refine .inl ⟨h1,fun v hv=>?_⟩;by_cases ev:v=k
    .rw[ev];exact hp
    .exact h2 v (by omega)
   .refine .inr ⟨v,by omega,h1,h2,fun u hu hne=>?_⟩;by_cases eu:u=k
    .rw[eu] at hne;exact absurd hp hne
    .exact h3 u (by omega) hne
  .have hpl:0<(thZ g s k).length:=List.length_pos_iff.2 hp;rcases ih with ⟨h1,h2⟩ | ⟨v,hv,h1,h2,h3⟩
   .rw[Ts ⟨hpl,.inl h1⟩];refine .inr ⟨k,by omega,rfl,hp,fun u hu hne=>?_⟩;by_cases eu:u=k
    .rw[eu];exact TF _
    .exact absurd (h2 u (by omega)) hne
   .rw[h1];by_cases hlt:(thZ g s k).length<(thZ g s v).length
    .rw[Ts ⟨hpl,.inr hlt⟩];refine .inr ⟨k,by omega,rfl,hp,fun u hu hne=>?_⟩;by_cases eu:u=k
     .rw[eu];exact TF _
     .have:=h3 u (by omega) hne;omega
    .rw[Tt (fun h=>h.2.elim h2 hlt)];refine .inr ⟨v,by omega,rfl,h2,fun u hu hne=>?_⟩;by_cases eu:u=k
     .rw[eu];omega
     .exact h3 u (by omega) hne
theorem S0{g:List (List Int)}{s:List Bool}(hg:OkG g s)(hne:B9 g s g.length≠[]):ClsP g s (B9 g s g.length)/\∀i,i<(B9 g s g.length).length->(B9 g s g.length).getD i 0∉(B9 g s g.length).take i:=by
 rcases NR g s g.length with ⟨h,_⟩ | ⟨v,hv,h1,h2,_⟩
 .exact absurd h hne
 .rw[h1];obtain⟨a,_,c⟩:=th_cls hg hv h2;exact⟨a,c⟩
theorem thZ_len{g:List (List Int)}{s:List Bool}(hg:OkG g s){v:Nat}(hv:v<g.length):(thZ g s v).length<=1000:=by
 by_cases h:thZ g s v=[]
 .rw[h];simp
 .obtain⟨b,m,_,hb,_,hm,_,e,_⟩:=NN hg hv h;have:=((D9 hg hv).bnd b hb).2;have:=hg.len;rw[e];simp only[Ua,Tx,Ud];omega
theorem GT{l:List Int}{x:Int}:AC l x=true↔x∈l:=by
 constructor
 .intro hh;unfold AC at hh;cases hfd:fnd (fun j=>l.getD j 0==x) 0 l.length with
  | none=>rw[hfd] at hh;cases hh
  | some j=>obtain⟨a1,_,a2⟩:=DV hfd;rw[<-beq_iff_eq.1 a1];exact get_mem (by omega)
 .exact Sm
@[irreducible] def AQ(c:Int):Bool:=(decide (97<=c)&&decide (c<=122))||(decide (65<=c)&&decide (c<=90))
@[irreducible] def okB(c:Int):Bool:=AQ c||!(decide (c<48)||decide (57<c))||(c==45)||(c==95)
@[irreducible] def nmB(s:ByteArray):Bool:= !(s.toList==(ByteArray.mk #[]).toList)&&!(decide (12<iN s.size))&&AQ (bAt s 0)&&!(fnd (fun i=> !(okB (bAt s i))) 0 s.size).isSome
theorem O8(c:Int):CT Ux 144 [] [.int .u8 c] [] (.bool (AQ c)):=by
 have hb:Try.f144.body=some (zB Try.f144):=by kernel_rfl
 have hn:[AV.int .u8 c].length<=Try.f144.ntmps:=nL rfl;cases t1:decide (97<=(QN.mk ⟨#[]⟩ c 0 false false 0 0 0 0).c)
 case false=>
  cases t2:decide (65<=(QN.mk ⟨#[]⟩ c 0 false false 0 0 0 0).c)
  case false=>exact CT.pathS mix Try.func144 hb hn (let_4 (QN.mk ⟨#[]⟩ c 0 false false 0 0 0 0) t1 t2) (by simp_all [AQ]<;>omega)
  case true=>exact CT.pathS mix Try.func144 hb hn (let_3 (QN.mk ⟨#[]⟩ c 0 false false 0 0 0 0) t1 t2) (by simp_all [AQ]<;>omega)
 case true=>
  cases t3:decide ((QN.mk ⟨#[]⟩ c 0 false false 0 0 0 0).c<=122)
  case false=>
   cases t4:decide (65<=(QN.mk ⟨#[]⟩ c 0 false false 0 0 0 0).c)
   case false=>exact CT.pathS mix Try.func144 hb hn (let_2 (QN.mk ⟨#[]⟩ c 0 false false 0 0 0 0) t1 t3 t4) (by simp_all [AQ]<;>omega)
   case true=>exact CT.pathS mix Try.func144 hb hn (let_1 (QN.mk ⟨#[]⟩ c 0 false false 0 0 0 0) t1 t3 t4) (by simp_all [AQ]<;>omega)
  case true=>exact CT.pathS mix Try.func144 hb hn (let_0 (QN.mk ⟨#[]⟩ c 0 false false 0 0 0 0) t1 t3) (by simp_all [AQ]<;>omega)
theorem Ph(c:Int):CT Ux 146 [] [.int .u8 c] [] (.bool (AQ c)):=by
 have hb:Try.f146.body=some (zB Try.f146):=by kernel_rfl
 have hn:[AV.int .u8 c].length<=Try.f146.ntmps:=nL rfl;cases t5:decide (97<=(QN.mk ⟨#[]⟩ c 0 false false 0 0 0 0).c)
 case false=>
  cases t6:decide (65<=(QN.mk ⟨#[]⟩ c 0 false false 0 0 0 0).c)
  case false=>exact CT.pathS mix Try.func146 hb hn (rlet_4 (QN.mk ⟨#[]⟩ c 0 false false 0 0 0 0) t5 t6) (by simp_all [AQ]<;>omega)
  case true=>exact CT.pathS mix Try.func146 hb hn (rlet_3 (QN.mk ⟨#[]⟩ c 0 false false 0 0 0 0) t5 t6) (by simp_all [AQ]<;>omega)
 case true=>
  cases t7:decide ((QN.mk ⟨#[]⟩ c 0 false false 0 0 0 0).c<=122)
  case false=>
   cases t8:decide (65<=(QN.mk ⟨#[]⟩ c 0 false false 0 0 0 0).c)
   case false=>exact CT.pathS mix Try.func146 hb hn (rlet_2 (QN.mk ⟨#[]⟩ c 0 false false 0 0 0 0) t5 t7 t8) (by simp_all [AQ]<;>omega)
   case true=>exact CT.pathS mix Try.func146 hb hn (rlet_1 (QN.mk ⟨#[]⟩ c 0 false false 0 0 0 0) t5 t7 t8) (by simp_all [AQ]<;>omega)
  case true=>exact CT.pathS mix Try.func146 hb hn (rlet_0 (QN.mk ⟨#[]⟩ c 0 false false 0 0 0 0) t5 t7) (by simp_all [AQ]<;>omega)
theorem wit_ct(x y z:Int):CT Ux 127 [] [.int .i64 x,.int .i64 y,.int .i64 z] [] (.bool (decide (y<=x)&&decide (x<=z))):=by
 have hb:Try.f127.body=some (zB Try.f127):=by kernel_rfl
 have hn:[AV.int .i64 x,.int .i64 y,.int .i64 z].length<=Try.f127.ntmps:=nL rfl;cases t9:decide ((QN.mk ⟨#[]⟩ 0 0 false false x y z 0).y<=(QN.mk ⟨#[]⟩ 0 0 false false x y z 0).x)
 case false=>exact CT.pathS mix Try.func127 hb hn (wit_1 (QN.mk ⟨#[]⟩ 0 0 false false x y z 0) t9) (by simp_all)
 case true=>exact CT.pathS mix Try.func127 hb hn (wit_0 (QN.mk ⟨#[]⟩ 0 0 false false x y z 0) t9) (by simp_all)
theorem SP(s:ByteArray):(AU s).length=s.size:=by simp[AU]
theorem SQ{s:ByteArray}{i:Nat}(h:i<s.size):(AU s)[i]?=some (.int .u8 (bAt s i)):=by
 have h':i<s.data.toList.length:=by simpa using h
 unfold AU bAt;rw[TE,Tv,Tu h'];rfl
theorem N4{s:ByteArray}(h:(s.toList==(ByteArray.mk #[]).toList)=false):0<s.size:=by
 rcases Nat.eq_zero_or_pos s.size with h0 | h0
 .have:s=ByteArray.mk #[]:=by cases s;rename_i d;congr;exact Array.eq_empty_of_size_eq_zero h0
  subst this;simp at h
 .exact h0
def qN(s:ByteArray)(c:Int)(i:Nat)(b:Bool):QN:=QN.mk s c i b false 0 0 0 0
theorem Pz(s:ByteArray):CT Ux 129 [] [.str s] [] (.bool (nmB s)):=by
 have hb:Try.f129.body=some (zB Try.f129):=by kernel_rfl
 have hn:[AV.str s].length<=Try.f129.ntmps:=nL rfl;have hl:=SP s;have hle:=O8 (bAt s 0);unfold nmB;cases h1:s.toList==(ByteArray.mk #[]).toList
 case true=>exact CT.pathS mix Try.func129 hb hn (nmi_0 (qN s 0 0 false) h1) (by simp)
 have h0:=N4 h1;cases h2:decide (12<iN s.size)
 case true=>exact CT.pathS mix Try.func129 hb hn (nmi_1 (qN s 0 0 false) h1 h2) (by simp)
 cases h3:AQ (bAt s 0)
 case false=>rw[h3] at hle;exact CT.pathS mix Try.func129 hb hn (nmi_2 (qN s 0 0 false) h1 h2 (by simpa [iN,qN] using h0) hle rfl) (by simp)
 rw[h3] at hle;refine CT.path mix Try.func129 hb hn (nmi_3 (qN s 0 0 true) h1 h2 (by simpa [iN,qN] using h0) hle rfl ?_);simp only[Tp,Bool.true_and];have h12:s.size<=12:=by have:=of_decide_eq_false h2;simp only[iN] at this;omega
 generalize hrr:fnd (fun i=> !(okB (bAt s i))) 0 s.size=res;refine T.loop (fun i:Nat=>C9 (qN s 0 i false)) (fun i=>i<=s.size/\fnd (fun i=> !(okB (bAt s i))) i (s.size-i)=res) (fun i=>s.size+1-i) 0 ⟨TG _,hrr⟩ ?_
 rintro i ⟨hi,hf⟩
 by_cases h:i<s.size
 .rw[CS h] at hf;have hg1:=SQ h;have dk:decide (iN i<iN (AU s).length)=true:=TA (by simp only[iN,hl];omega);have k0:(0:Int)<=iN i:=by simp[iN]
  have hci:=O8 (bAt s i);have wi:i64.wrap (iN i+1)=((i+1:Nat):Int):=zW i (by omega);have next:okB (bAt s i)=true->∀st,Ren 0 st (C9 (qN s 0 (i+1) false))->∃j,Ren 0 st (C9 (qN s 0 j false))/\(j<=s.size/\fnd (fun i=> !(okB (bAt s i))) j (s.size-j)=res)/\s.size+1-j<s.size+1-i:=by intro hb st hst;simp only[hb,Bool.not_true] at hf;exact⟨i+1,hst,⟨h,hf⟩,by omega⟩
  have stop:okB (bAt s i)=false->res=some i:=by intro hb;simp only[hb,Tp] at hf;exact hf.symm
  cases t10:(!(qN s (bAt s i) i (AQ (bAt s i))).b)
  case false=>exact T.path mix (nml_7 (qN s (bAt s i) i (AQ (bAt s i))) dk (by assumption) (by assumption) (by assumption) t10 (fun st hst=>by simp only[qN,wi] at hst;exact next (by simp_all [okB,qN]) st hst))
  case true=>
   cases t11:decide ((qN s (bAt s i) i (AQ (bAt s i))).c<48)
   case false=>
    cases t12:decide (57<(qN s (bAt s i) i (AQ (bAt s i))).c)
    case false=>exact T.path mix (nml_6 (qN s (bAt s i) i (AQ (bAt s i))) dk (by assumption) (by assumption) (by assumption) t10 t11 t12 (fun st hst=>by simp only[qN,wi] at hst;exact next (by simp_all [okB,qN]) st hst))
    case true=>
     cases t13:((qN s (bAt s i) i (AQ (bAt s i))).c != 45)
     case false=>exact T.path mix (nml_5 (qN s (bAt s i) i (AQ (bAt s i))) dk (by assumption) (by assumption) (by assumption) t10 t11 t12 t13 (fun st hst=>by simp only[qN,wi] at hst;exact next (by simp_all [okB,qN]) st hst))
     case true=>
      cases t14:((qN s (bAt s i) i (AQ (bAt s i))).c != 95)
      case false=>exact T.path mix (nml_4 (qN s (bAt s i) i (AQ (bAt s i))) dk (by assumption) (by assumption) (by assumption) t10 t11 t12 t13 t14 (fun st hst=>by simp only[qN,wi] at hst;exact next (by simp_all [okB,qN]) st hst))
      case true=>rw[stop (by simp_all [okB,qN])];exact T.out mix (nml_3 (qN s (bAt s i) i (AQ (bAt s i))) dk (by assumption) (by assumption) (by assumption) t10 t11 t12 t13 t14)
   case true=>
    cases t15:((qN s (bAt s i) i (AQ (bAt s i))).c != 45)
    case false=>exact T.path mix (nml_2 (qN s (bAt s i) i (AQ (bAt s i))) dk (by assumption) (by assumption) (by assumption) t10 t11 t15 (fun st hst=>by simp only[qN,wi] at hst;exact next (by simp_all [okB,qN]) st hst))
    case true=>
     cases t16:((qN s (bAt s i) i (AQ (bAt s i))).c != 95)
     case false=>exact T.path mix (nml_1 (qN s (bAt s i) i (AQ (bAt s i))) dk (by assumption) (by assumption) (by assumption) t10 t11 t15 t16 (fun st hst=>by simp only[qN,wi] at hst;exact next (by simp_all [okB,qN]) st hst))
     case true=>rw[stop (by simp_all [okB,qN])];exact T.out mix (nml_0 (qN s (bAt s i) i (AQ (bAt s i))) dk (by assumption) (by assumption) (by assumption) t10 t11 t15 t16)
 .rw[C0 h] at hf;subst hf;exact T.out mix (nml_8 (qN s 0 i false) (Tz (by simp only[qN];change ¬iN i<iN (AU s).length;simp only[iN,hl];omega)))
structure AO where
 nm:ByteArray
 x:Int
 y:Int
structure Am where
 nm:ByteArray
 dep:Bool
 i:Int
 o:Int
 k:Int
 b:Int
structure Ab where
 bs:List AO
 nx:List (List Int)
 ss:List Am
 rs:List Int
 q:Int
 a:Int
 d:Int
 p:Int
def bA(b:AO):AV:=.agg [.str b.nm,.int .i64 b.x,.int .i64 b.y]
def sA(s:Am):AV:=.agg [.str s.nm,.bool s.dep,.int .i64 s.i,.int .i64 s.o,.int .i64 s.k,.int .i64 s.b]
def Af(n:Ab):AV:=.agg [.lst (n.bs.map bA),.lst (gL n.nx),.lst (n.ss.map sA),lI n.rs,.int .i64 n.q,.int .i64 n.a,.int .i64 n.d,.int .i64 n.p]
def nB(n:Ab):Blk:={es:=[Af n],z:=8}
def mpB(l:List MapEntry)(c:Nat):Blk:={es:=[],z:=0,mp:=some (l,c)}
structure AG where
 n:Ab
 l:List MapEntry
 c:Nat
 l2:List MapEntry
 c2:Nat
 b:AO
 s:Am
 r:List Int
 i:Nat
 base:Int
 k:Nat
 ok:Bool
 x:Int
 y:Int
 z:Int
 sp:Bool
 nb:ByteArray
@[irreducible] def Aw(x y z:Int):Bool:=decide (y<=x)&&decide (x<=z)
@[irreducible] def Bc(n:Ab):Bool:=Aw n.q 1 8&&Aw n.a 0 4&&Aw n.d 0 3&&Aw n.p 1 16
@[irreducible] def nxE(r:List Int)(i m:Int)(k:Nat):Bool:=decide (r.getD k 0<=BW r k)||decide (m<=r.getD k 0)||r.getD k 0==i
@[irreducible] def nxB(r:List Int)(i m:Int):Bool:= !(fnd (nxE r i m) 0 r.length).isSome&&decide (r.length<=4)
def blkE(n:Ab)(i:Nat):Bool:=match n.bs[i]? with
 | some b=> !(Aw b.x (-9999) 9999&&Aw b.y (-9999) 9999&&nxB (n.nx.getD i []) i n.bs.length)
 | none=>false
@[irreducible] def blsB(n:Ab):Bool:=decide (1<=n.bs.length)&&decide (n.bs.length<=24)&&decide (n.nx.length=n.bs.length)&&!(fnd (blkE n) 0 n.bs.length).isSome
def B0(n:Ab):List ByteArray:=n.bs.map (·.nm)++n.ss.map (·.nm)
open Classical in
@[irreducible] def nmsB(n:Ab):Bool:=(B0 n).all nmB&&decide (B0 n).Nodup
def AP(q:AG):Nat->FuncId->List AV->List (Option Blk)->AN:=fun dst f args hp=>match f with
 | 144=>match args with
  | [.int _ c]=>.call [] [] [] (.bool (AQ c))
  | _=>.no
 | 146=>match args with
  | [.int _ c]=>.call [] [] [] (.bool (AQ c))
  | _=>.no
 | 127=>match args with
  | [.int _ x,.int _ y,.int _ z]=>.call [] [] [] (.bool (Aw x y z))
  | _=>.no
 | 128=>.call [] [] [] (.bool (Bc q.n))
 | 115=>.call [] [] [] (.bool (Bc q.n))
 | 129=>match args with
  | [.str s]=>.call [] [] [] (.bool (nmB s))
  | _=>.no
 | 140=>match args with
  | [.str s]=>.call [] [] [] (.bool (nmB s))
  | _=>.no
 | 130=>match args with
  | [.lst l,.int _ i,.int _ m]=>.call [] [] [] (.bool (nxB q.r i m))
  | _=>.no
 | 113=>.call [] [] [] (.bool (blsB q.n))
 | 114=>.call [] [] [] (.bool (nmsB q.n))
 | 26=>.call [] [] [] (.bool q.ok)
 | _=>.no
def BJ(q:AG):List (Nat×AV):=[]
def Kx(q:AG):St:={n:=Try.f140.ntmps,fr:=[(0,.str q.nb)],hp:=[]}
def C8(q:AG):St:={n:=Try.f140.ntmps,fr:=[(0,.str q.nb),(3,.int .i64 (iN q.i))],hp:=[]}
def KS(q:AG):St:={n:=Try.f128.ntmps,fr:=[(0,.agg [.int .i64 q.n.q,.int .i64 q.n.a,.int .i64 q.n.d,.int .i64 q.n.p])],hp:=[]}
def FD(q:AG):St:={n:=Try.f115.ntmps,fr:=[(0,.agg [.int .i64 q.n.q,.int .i64 q.n.a,.int .i64 q.n.d,.int .i64 q.n.p])],hp:=[]}
def st152(q:AG):St:={n:=Try.f130.ntmps,fr:=[(0,lI q.r),(1,.int .i64 q.x),(2,.int .i64 q.y)],hp:=[]}
def ER(q:AG):St:={n:=Try.f130.ntmps,fr:=[(0,lI q.r),(1,.int .i64 q.x),(2,.int .i64 q.y),(7,.int .i64 q.z),(10,lI q.r),(11,.int .i64 (iN (q.r.map (AV.int .i64)).length)),(12,.int .i64 (iN q.i))],hp:=[]}
def Hg(q:AG):List (Nat×AV):=[(14,.int .i64 q.base)]
def Hb(q:AG):St:={n:=Try.f93.ntmps,fr:=[(0,Af q.n)],hp:=[]}
def Ec(q:AG):St:={n:=Try.f93.ntmps,fr:=[(1,.ptr 0 0 0),(3,.map 1),(47,.lst (q.n.bs.map bA)),(48,.int .i64 (iN (q.n.bs.map bA).length)),(49,.int .i64 (iN q.i))],hp:=[some (nB q.n),some (mpB q.l q.c)]}
def CX(q:AG):St:={n:=Try.f93.ntmps,fr:=[(1,.ptr 0 0 0),(3,.map 1),(6,.int .i64 q.base),(7,.map 2),(94,.lst (q.n.ss.map sA)),(95,.int .i64 (iN (q.n.ss.map sA).length)),(96,.int .i64 (iN q.i))],hp:=[some (nB q.n),some (mpB q.l q.c),some (mpB q.l2 q.c2)]}
def spB(s:Am):Blk:={es:=[sA s],z:=6}
def Ef(q:AG):St:={n:=Try.f93.ntmps,fr:=[(1,.ptr 0 0 0),(3,.map 1),(6,.int .i64 q.base),(7,.map 2),(9,.ptr 3 0 0),(94,.lst (q.n.ss.map sA)),(95,.int .i64 (iN (q.n.ss.map sA).length)),(96,.int .i64 (iN q.i)),(142,.int .i64 q.s.k),(143,.int .i64 (iN q.k))],hp:=[some (nB q.n),some (mpB q.l q.c),some (mpB q.l2 q.c2),some (spB q.s)]}
def FT(q:AG):St:={n:=Try.f93.ntmps,fr:=[(7,.map 0),(10,.bool q.ok),(169,lI q.n.rs),(170,.int .i64 (iN (q.n.rs.map (AV.int .i64)).length)),(171,.int .i64 (iN q.i))],hp:=[some (mpB q.l2 q.c2)]}
def Bz(q:AG):List (Nat×AV):=[(52,bA q.b),(79,lI q.r),(98,sA q.s),(173,.int .i64 q.x)]
theorem rni_0(q:AG)(h1:((q.nb.toList==(ByteArray.mk #[]).toList)=true)):GoP Ux (hU [15] (BJ q) (AP q)) 0 (zB Try.f140) (Kx q) (Fin Ux Try.f140 0 [] (AV.bool false)):=zF (σ:=[]) (fz:=[]) (by kernel_rfl) (aj (u2 (aj (u2 (u2 (u2 (aj h1 (aj h1 (aj h1 (ag h1 (u2 (ak (k3 (al t3))))))))))) (ak s2))) t2)
theorem rni_1(q:AG)(h1:((q.nb.toList==(ByteArray.mk #[]).toList)=false))(h2:(decide (12<iN q.nb.size)=true)):GoP Ux (hU [14,25] (BJ q) (AP q)) 0 (zB Try.f140) (Kx q) (Fin Ux Try.f140 0 [] (AV.bool false)):=zF (σ:=[]) (fz:=[]) (by kernel_rfl) (aj (u2 (aj (u2 (u2 (u2 (ag h1 (ag h1 (ag h1 (ag h1 (u2 (aj h2 (aj h2 (aj h2 (aj h2 (al (aj h2 t2)))))))))))))) (ak s2))) t2)
theorem rni_2(q:AG)(h1:((q.nb.toList==(ByteArray.mk #[]).toList)=false))(h2:(decide (12<iN q.nb.size)=false))(h3:(0<iN q.nb.size))(h4:(CT Ux 146 [] [AV.int IntKind.u8 (bAt q.nb (Uv 0))] [] (AV.bool (AQ (bAt q.nb (Uv 0))))))(h5:((!AQ (bAt q.nb (Uv 0)))=true)):GoP Ux (hU [14,24,35] (BJ q) (AP q)) 0 (zB Try.f140) (Kx q) (Fin Ux Try.f140 0 [] (AV.bool false)):=zF (σ:=[]) (fz:=[]) (by kernel_rfl) (aj (u2 (aj (u2 (u2 (u2 (ag h1 (ag h1 (ag h1 (ag h1 (u2 (ag h2 (aj (aj h2 (ak (aj (Int.le_refl 0) h3))) (aj (aj h2 (k2 (al h4))) (ag h2 (al (aj h2 t2)))))))))))))) (aj h5 s2))) t2)
theorem rni_3(q:AG)(h1:((q.nb.toList==(ByteArray.mk #[]).toList)=false))(h2:(decide (12<iN q.nb.size)=false))(h3:(0<iN q.nb.size))(h4:(CT Ux 146 [] [AV.int IntKind.u8 (bAt q.nb (Uv 0))] [] (AV.bool (AQ (bAt q.nb (Uv 0))))))(h5:((!AQ (bAt q.nb (Uv 0)))=false)){post:Exit->St->Prop}(ht:T Ux 0 (.loop (zC (zB Try.f140) 0)) (St.mk 46 [(0,AV.str q.nb),(3,iv 0)] []) (TK Ux 0 post (zK (zB Try.f140) 0))):GoP Ux (hU [14,24,34] (BJ q) (AP q)) 0 (zB Try.f140) (Kx q) post:=zR (σ:=[]) (fz:=[]) (vars:=[0,3]) (by kernel_rfl) (aj (u2 (aj (u2 (u2 (u2 (ag h1 (ag h1 (ag h1 (ag h1 (u2 (ag h2 (aj (aj h2 (ak (aj (Int.le_refl 0) h3))) (aj (aj h2 (k2 (al h4))) (ag h2 (al (aj h2 t2)))))))))))))) (aj h5 s2))) t3) ht
theorem rnl_0(q:AG)(h1:(decide (iN q.i<iN q.nb.size)=true))(h2:(0<=iN q.i))(h3:(iN q.i<iN q.nb.size))(h4:(CT Ux 146 [] [AV.int IntKind.u8 (bAt q.nb (iN q.i).toNat)] [] (AV.bool (AQ (bAt q.nb (iN q.i).toNat)))))(h5:((!AQ (bAt q.nb (iN q.i).toNat))=true))(h6:(decide (bAt q.nb (iN q.i).toNat<48)=true))(h7:((bAt q.nb (iN q.i).toNat != 45)=true))(h8:((bAt q.nb (iN q.i).toNat != 95)=true)):GoO Ux (hU [43,61,67,85,91] (BJ q) (AP q)) 0 (zC (zB Try.f140) 0) (zK (zB Try.f140) 0) (C8 q) (Fin Ux Try.f140 0 [] (AV.bool false)):=zF (σ:=[]) (fz:=[]) (by kernel_rfl) (aj (al (aj (u2 (u2 (u2 (al t3)))) (aj h1 (aj (u2 (u2 (aj (k2 (aj h2 h3)) s2))) (aj (u2 (aj (k2 (al h4)) (u2 (u2 (ag h5 (ag h5 (ag h5 (aj h6 (aj h6 (aj (aj h5 (aj h6 t2)) (ag h5 (u2 (aj t3 (aj t3 (aj t3 (u2 (ag h7 (ag h7 (al (aj h7 t2)))))))))))))))))))) (aj h8 s2)))))) t2)
theorem rnl_1(q:AG)(h1:(decide (iN q.i<iN q.nb.size)=true))(h2:(0<=iN q.i))(h3:(iN q.i<iN q.nb.size))(h4:(CT Ux 146 [] [AV.int IntKind.u8 (bAt q.nb (iN q.i).toNat)] [] (AV.bool (AQ (bAt q.nb (iN q.i).toNat)))))(h5:((!AQ (bAt q.nb (iN q.i).toNat))=true))(h6:(decide (bAt q.nb (iN q.i).toNat<48)=true))(h7:((bAt q.nb (iN q.i).toNat != 45)=true))(h8:((bAt q.nb (iN q.i).toNat != 95)=false)){post:Exit->St->Prop}{R:St->Prop}(hR:∀st,Ren 0 st (St.mk 46 [(0,AV.str q.nb),(3,iv (i64.wrap (iN q.i+1)))] [])->R st):GoP Ux (hU [43,61,67,85,90] (BJ q) (AP q)) 0 (zC (zB Try.f140) 0) (C8 q) (andThen R post):=zN (σ:=[]) (fz:=[]) (vars:=[0,3]) (by kernel_rfl) (aj (aj (u2 (u2 (u2 (al t3)))) (aj h1 (aj (u2 (u2 (aj (k2 (aj h2 h3)) s2))) (aj (u2 (aj (k2 (al h4)) (u2 (u2 (ag h5 (ag h5 (ag h5 (aj h6 (aj h6 (aj (aj h5 (aj h6 t2)) (ag h5 (u2 (aj t3 (aj t3 (aj t3 (u2 (ag h7 (ag h7 (al (aj h7 t2)))))))))))))))))))) (aj h8 (al (u2 (u2 s2)))))))) t3) hR
theorem rnl_2(q:AG)(h1:(decide (iN q.i<iN q.nb.size)=true))(h2:(0<=iN q.i))(h3:(iN q.i<iN q.nb.size))(h4:(CT Ux 146 [] [AV.int IntKind.u8 (bAt q.nb (iN q.i).toNat)] [] (AV.bool (AQ (bAt q.nb (iN q.i).toNat)))))(h5:((!AQ (bAt q.nb (iN q.i).toNat))=true))(h6:(decide (bAt q.nb (iN q.i).toNat<48)=true))(h7:((bAt q.nb (iN q.i).toNat != 45)=false)){post:Exit->St->Prop}{R:St->Prop}(hR:∀st,Ren 0 st (St.mk 46 [(0,AV.str q.nb),(3,iv (i64.wrap (iN q.i+1)))] [])->R st):GoP Ux (hU [43,61,67,84] (BJ q) (AP q)) 0 (zC (zB Try.f140) 0) (C8 q) (andThen R post):=zN (σ:=[]) (fz:=[]) (vars:=[0,3]) (by kernel_rfl) (aj (aj (u2 (u2 (u2 (al t3)))) (aj h1 (aj (u2 (u2 (aj (k2 (aj h2 h3)) s2))) (aj (u2 (aj (k2 (al h4)) (u2 (u2 (ag h5 (ag h5 (ag h5 (aj h6 (aj h6 (aj (aj h5 (aj h6 t2)) (ag h5 (u2 (aj t3 (aj t3 (aj t3 (u2 (aj h7 (aj h7 (al (aj h7 t2)))))))))))))))))))) (ak (al (u2 (u2 s2)))))))) t3) hR
theorem rnl_3(q:AG)(h1:(decide (iN q.i<iN q.nb.size)=true))(h2:(0<=iN q.i))(h3:(iN q.i<iN q.nb.size))(h4:(CT Ux 146 [] [AV.int IntKind.u8 (bAt q.nb (iN q.i).toNat)] [] (AV.bool (AQ (bAt q.nb (iN q.i).toNat)))))(h5:((!AQ (bAt q.nb (iN q.i).toNat))=true))(h6:(decide (bAt q.nb (iN q.i).toNat<48)=false))(h7:(decide (57<bAt q.nb (iN q.i).toNat)=true))(h8:((bAt q.nb (iN q.i).toNat != 45)=true))(h9:((bAt q.nb (iN q.i).toNat != 95)=true)):GoO Ux (hU [43,61,66,77,85,91] (BJ q) (AP q)) 0 (zC (zB Try.f140) 0) (zK (zB Try.f140) 0) (C8 q) (Fin Ux Try.f140 0 [] (AV.bool false)):=zF (σ:=[]) (fz:=[]) (by kernel_rfl) (aj (al (aj (u2 (u2 (u2 (al t3)))) (aj h1 (aj (u2 (u2 (aj (k2 (aj h2 h3)) s2))) (aj (u2 (aj (k2 (al h4)) (u2 (u2 (ag h5 (ag h5 (ag h5 (ag h6 (ag h6 (aj (aj h5 (aj h6 t2)) (ag h5 (u2 (ag h7 (ag h7 (ag h7 (u2 (ag h8 (ag h8 (al (aj h8 t2)))))))))))))))))))) (aj h9 s2)))))) t2)
theorem rnl_4(q:AG)(h1:(decide (iN q.i<iN q.nb.size)=true))(h2:(0<=iN q.i))(h3:(iN q.i<iN q.nb.size))(h4:(CT Ux 146 [] [AV.int IntKind.u8 (bAt q.nb (iN q.i).toNat)] [] (AV.bool (AQ (bAt q.nb (iN q.i).toNat)))))(h5:((!AQ (bAt q.nb (iN q.i).toNat))=true))(h6:(decide (bAt q.nb (iN q.i).toNat<48)=false))(h7:(decide (57<bAt q.nb (iN q.i).toNat)=true))(h8:((bAt q.nb (iN q.i).toNat != 45)=true))(h9:((bAt q.nb (iN q.i).toNat != 95)=false)){post:Exit->St->Prop}{R:St->Prop}(hR:∀st,Ren 0 st (St.mk 46 [(0,AV.str q.nb),(3,iv (i64.wrap (iN q.i+1)))] [])->R st):GoP Ux (hU [43,61,66,77,85,90] (BJ q) (AP q)) 0 (zC (zB Try.f140) 0) (C8 q) (andThen R post):=zN (σ:=[]) (fz:=[]) (vars:=[0,3]) (by kernel_rfl) (aj (aj (u2 (u2 (u2 (al t3)))) (aj h1 (aj (u2 (u2 (aj (k2 (aj h2 h3)) s2))) (aj (u2 (aj (k2 (al h4)) (u2 (u2 (ag h5 (ag h5 (ag h5 (ag h6 (ag h6 (aj (aj h5 (aj h6 t2)) (ag h5 (u2 (ag h7 (ag h7 (ag h7 (u2 (ag h8 (ag h8 (al (aj h8 t2)))))))))))))))))))) (aj h9 (al (u2 (u2 s2)))))))) t3) hR
theorem rnl_5(q:AG)(h1:(decide (iN q.i<iN q.nb.size)=true))(h2:(0<=iN q.i))(h3:(iN q.i<iN q.nb.size))(h4:(CT Ux 146 [] [AV.int IntKind.u8 (bAt q.nb (iN q.i).toNat)] [] (AV.bool (AQ (bAt q.nb (iN q.i).toNat)))))(h5:((!AQ (bAt q.nb (iN q.i).toNat))=true))(h6:(decide (bAt q.nb (iN q.i).toNat<48)=false))(h7:(decide (57<bAt q.nb (iN q.i).toNat)=true))(h8:((bAt q.nb (iN q.i).toNat != 45)=false)){post:Exit->St->Prop}{R:St->Prop}(hR:∀st,Ren 0 st (St.mk 46 [(0,AV.str q.nb),(3,iv (i64.wrap (iN q.i+1)))] [])->R st):GoP Ux (hU [43,61,66,77,84] (BJ q) (AP q)) 0 (zC (zB Try.f140) 0) (C8 q) (andThen R post):=zN (σ:=[]) (fz:=[]) (vars:=[0,3]) (by kernel_rfl) (aj (aj (u2 (u2 (u2 (al t3)))) (aj h1 (aj (u2 (u2 (aj (k2 (aj h2 h3)) s2))) (aj (u2 (aj (k2 (al h4)) (u2 (u2 (ag h5 (ag h5 (ag h5 (ag h6 (ag h6 (aj (aj h5 (aj h6 t2)) (ag h5 (u2 (ag h7 (ag h7 (ag h7 (u2 (aj h8 (aj h8 (al (aj h8 t2)))))))))))))))))))) (ak (al (u2 (u2 s2)))))))) t3) hR
theorem rnl_6(q:AG)(h1:(decide (iN q.i<iN q.nb.size)=true))(h2:(0<=iN q.i))(h3:(iN q.i<iN q.nb.size))(h4:(CT Ux 146 [] [AV.int IntKind.u8 (bAt q.nb (iN q.i).toNat)] [] (AV.bool (AQ (bAt q.nb (iN q.i).toNat)))))(h5:((!AQ (bAt q.nb (iN q.i).toNat))=true))(h6:(decide (bAt q.nb (iN q.i).toNat<48)=false))(h7:(decide (57<bAt q.nb (iN q.i).toNat)=false)){post:Exit->St->Prop}{R:St->Prop}(hR:∀st,Ren 0 st (St.mk 46 [(0,AV.str q.nb),(3,iv (i64.wrap (iN q.i+1)))] [])->R st):GoP Ux (hU [43,61,66,76] (BJ q) (AP q)) 0 (zC (zB Try.f140) 0) (C8 q) (andThen R post):=zN (σ:=[]) (fz:=[]) (vars:=[0,3]) (by kernel_rfl) (aj (aj (u2 (u2 (u2 (al t3)))) (aj h1 (aj (u2 (u2 (aj (k2 (aj h2 h3)) s2))) (aj (u2 (aj (k2 (al h4)) (u2 (u2 (ag h5 (ag h5 (ag h5 (ag h6 (ag h6 (aj (aj h5 (aj h6 t2)) (ag h5 (u2 (aj h7 (aj h7 (ag h7 (u2 (k2 (al t3)))))))))))))))))) (ak (al (u2 (u2 s2)))))))) t3) hR
theorem rnl_7(q:AG)(h1:(decide (iN q.i<iN q.nb.size)=true))(h2:(0<=iN q.i))(h3:(iN q.i<iN q.nb.size))(h4:(CT Ux 146 [] [AV.int IntKind.u8 (bAt q.nb (iN q.i).toNat)] [] (AV.bool (AQ (bAt q.nb (iN q.i).toNat)))))(h5:((!AQ (bAt q.nb (iN q.i).toNat))=false)){post:Exit->St->Prop}{R:St->Prop}(hR:∀st,Ren 0 st (St.mk 46 [(0,AV.str q.nb),(3,iv (i64.wrap (iN q.i+1)))] [])->R st):GoP Ux (hU [43,60] (BJ q) (AP q)) 0 (zC (zB Try.f140) 0) (C8 q) (andThen R post):=zN (σ:=[]) (fz:=[]) (vars:=[0,3]) (by kernel_rfl) (aj (aj (u2 (u2 (u2 (al t3)))) (aj h1 (aj (u2 (u2 (aj (k2 (aj h2 h3)) s2))) (aj (u2 (aj (k2 (al h4)) (u2 (u2 (aj h5 (aj h5 (aj h5 (k2 (aj h5 (ag h5 (u2 (k2 (aj t3 (u2 (k2 (al t3)))))))))))))))) (ak (al (u2 (u2 s2)))))))) t3) hR
theorem rnl_8(q:AG)(h1:(decide (iN q.i<iN q.nb.size)=false)):GoO Ux (hU [42] (BJ q) (AP q)) 0 (zC (zB Try.f140) 0) (zK (zB Try.f140) 0) (C8 q) (Fin Ux Try.f140 0 [] (AV.bool true)):=zF (σ:=[]) (fz:=[]) (by kernel_rfl) (aj (aj (aj (u2 (u2 (u2 (al t3)))) (al h1)) s2) t2)
theorem mvc_0(q:AG)(h1:(CT Ux 127 [] [iv q.n.q,iv 1,iv 8] [] (AV.bool (Aw q.n.q 1 8))))(h2:(Aw q.n.q 1 8=true))(h3:(CT Ux 127 [] [iv q.n.a,iv 0,iv 4] [] (AV.bool (Aw q.n.a 0 4))))(h4:(Aw q.n.a 0 4=true))(h5:(CT Ux 127 [] [iv q.n.d,iv 0,iv 3] [] (AV.bool (Aw q.n.d 0 3))))(h6:(Aw q.n.d 0 3=true))(h7:(CT Ux 127 [] [iv q.n.p,iv 1,iv 16] [] (AV.bool (Aw q.n.p 1 16)))):GoP Ux (hU [13,23,33] (BJ q) (AP q)) 0 (zB Try.f128) (KS q) (Fin Ux Try.f128 0 [] (AV.bool (Aw q.n.p 1 16))):=zF (σ:=[]) (fz:=[]) (by kernel_rfl) (aj (ag t2 (al (u2 (u2 (aj (ak (k3 (al h1))) (u2 (ag h2 (ag h2 (aj (aj h2 (ak (k3 (al h3)))) (ag h2 (u2 (ag h4 (ag h4 (aj (aj h4 (ak (k3 (al h5)))) (ag h4 (u2 (ag h6 (ag h6 (aj (aj h6 (ak (k3 (al h7)))) (ag h6 s2)))))))))))))))))))) t2)
theorem mvc_1(q:AG)(h1:(CT Ux 127 [] [iv q.n.q,iv 1,iv 8] [] (AV.bool (Aw q.n.q 1 8))))(h2:(Aw q.n.q 1 8=true))(h3:(CT Ux 127 [] [iv q.n.a,iv 0,iv 4] [] (AV.bool (Aw q.n.a 0 4))))(h4:(Aw q.n.a 0 4=true))(h5:(CT Ux 127 [] [iv q.n.d,iv 0,iv 3] [] (AV.bool (Aw q.n.d 0 3))))(h6:(Aw q.n.d 0 3=false)):GoP Ux (hU [13,23,32] (BJ q) (AP q)) 0 (zB Try.f128) (KS q) (Fin Ux Try.f128 0 [] (AV.bool false)):=zF (σ:=[]) (fz:=[]) (by kernel_rfl) (aj (ag t2 (al (u2 (u2 (aj (ak (k3 (al h1))) (u2 (ag h2 (ag h2 (aj (aj h2 (ak (k3 (al h3)))) (ag h2 (u2 (ag h4 (ag h4 (aj (aj h4 (ak (k3 (al h5)))) (ag h4 (u2 (aj h6 (aj h6 (aj h6 (ag h6 s2)))))))))))))))))))) t2)
theorem mvc_2(q:AG)(h1:(CT Ux 127 [] [iv q.n.q,iv 1,iv 8] [] (AV.bool (Aw q.n.q 1 8))))(h2:(Aw q.n.q 1 8=true))(h3:(CT Ux 127 [] [iv q.n.a,iv 0,iv 4] [] (AV.bool (Aw q.n.a 0 4))))(h4:(Aw q.n.a 0 4=false)):GoP Ux (hU [13,22] (BJ q) (AP q)) 0 (zB Try.f128) (KS q) (Fin Ux Try.f128 0 [] (AV.bool false)):=zF (σ:=[]) (fz:=[]) (by kernel_rfl) (aj (ag t2 (al (u2 (u2 (aj (ak (k3 (al h1))) (u2 (ag h2 (ag h2 (aj (aj h2 (ak (k3 (al h3)))) (ag h2 (u2 (aj h4 (aj h4 (aj h4 (ag h4 (u2 (k3 (aj t3 s2)))))))))))))))))) t2)
theorem mvc_3(q:AG)(h1:(CT Ux 127 [] [iv q.n.q,iv 1,iv 8] [] (AV.bool (Aw q.n.q 1 8))))(h2:(Aw q.n.q 1 8=false)):GoP Ux (hU [12] (BJ q) (AP q)) 0 (zB Try.f128) (KS q) (Fin Ux Try.f128 0 [] (AV.bool false)):=zF (σ:=[]) (fz:=[]) (by kernel_rfl) (aj (ag t2 (al (u2 (u2 (aj (ak (k3 (al h1))) (u2 (aj h2 (aj h2 (aj h2 (ag h2 (u2 (k3 (aj t3 (u2 (k3 (aj t3 s2)))))))))))))))) t2)
theorem cg_0(q:AG)(h1:(decide (1<=q.n.q)=true))(h2:(decide (q.n.q<=8)=true))(h3:(decide (0<=q.n.a)=true))(h4:(decide (q.n.a<=4)=true))(h5:(decide (0<=q.n.d)=true))(h6:(decide (q.n.d<=3)=true))(h7:(decide (1<=q.n.p)=true)):GoP Ux (hU [13,23,33,43,53,63,73] (BJ q) (AP q)) 0 (zB Try.f115) (FD q) (Fin Ux Try.f115 0 [] (AV.bool (decide (q.n.p<=16)))):=zF (σ:=[]) (fz:=[]) (by kernel_rfl) (aj (ag t2 (al (u2 (u2 (u2 (u2 (ag h1 (ag h1 (ag h1 (ag h1 (u2 (ag h2 (ag h2 (ag h2 (ag h2 (u2 (ag h3 (ag h3 (ag h3 (ag h3 (u2 (ag h4 (ag h4 (ag h4 (ag h4 (u2 (ag h5 (ag h5 (ag h5 (ag h5 (u2 (ag h6 (ag h6 (ag h6 (ag h6 (u2 (ag h7 (ag h7 (ag h7 (ag h7 s2)))))))))))))))))))))))))))))))))))))))) t2)
theorem cg_1(q:AG)(h1:(decide (1<=q.n.q)=true))(h2:(decide (q.n.q<=8)=true))(h3:(decide (0<=q.n.a)=true))(h4:(decide (q.n.a<=4)=true))(h5:(decide (0<=q.n.d)=true))(h6:(decide (q.n.d<=3)=true))(h7:(decide (1<=q.n.p)=false)):GoP Ux (hU [13,23,33,43,53,63,72] (BJ q) (AP q)) 0 (zB Try.f115) (FD q) (Fin Ux Try.f115 0 [] (AV.bool false)):=zF (σ:=[]) (fz:=[]) (by kernel_rfl) (aj (ag t2 (al (u2 (u2 (u2 (u2 (ag h1 (ag h1 (ag h1 (ag h1 (u2 (ag h2 (ag h2 (ag h2 (ag h2 (u2 (ag h3 (ag h3 (ag h3 (ag h3 (u2 (ag h4 (ag h4 (ag h4 (ag h4 (u2 (ag h5 (ag h5 (ag h5 (ag h5 (u2 (ag h6 (ag h6 (ag h6 (ag h6 (u2 (aj h7 (aj h7 (aj h7 (ag h7 s2)))))))))))))))))))))))))))))))))))))))) t2)
theorem cg_2(q:AG)(h1:(decide (1<=q.n.q)=true))(h2:(decide (q.n.q<=8)=true))(h3:(decide (0<=q.n.a)=true))(h4:(decide (q.n.a<=4)=true))(h5:(decide (0<=q.n.d)=true))(h6:(decide (q.n.d<=3)=false)):GoP Ux (hU [13,23,33,43,53,62] (BJ q) (AP q)) 0 (zB Try.f115) (FD q) (Fin Ux Try.f115 0 [] (AV.bool false)):=zF (σ:=[]) (fz:=[]) (by kernel_rfl) (aj (ag t2 (al (u2 (u2 (u2 (u2 (ag h1 (ag h1 (ag h1 (ag h1 (u2 (ag h2 (ag h2 (ag h2 (ag h2 (u2 (ag h3 (ag h3 (ag h3 (ag h3 (u2 (ag h4 (ag h4 (ag h4 (ag h4 (u2 (ag h5 (ag h5 (ag h5 (ag h5 (u2 (aj h6 (aj h6 (aj h6 (ag h6 (u2 (k3 (aj t3 s2)))))))))))))))))))))))))))))))))))))) t2)
theorem cg_3(q:AG)(h1:(decide (1<=q.n.q)=true))(h2:(decide (q.n.q<=8)=true))(h3:(decide (0<=q.n.a)=true))(h4:(decide (q.n.a<=4)=true))(h5:(decide (0<=q.n.d)=false)):GoP Ux (hU [13,23,33,43,52] (BJ q) (AP q)) 0 (zB Try.f115) (FD q) (Fin Ux Try.f115 0 [] (AV.bool false)):=zF (σ:=[]) (fz:=[]) (by kernel_rfl) (aj (ag t2 (al (u2 (u2 (u2 (u2 (ag h1 (ag h1 (ag h1 (ag h1 (u2 (ag h2 (ag h2 (ag h2 (ag h2 (u2 (ag h3 (ag h3 (ag h3 (ag h3 (u2 (ag h4 (ag h4 (ag h4 (ag h4 (u2 (aj h5 (aj h5 (aj h5 (ag h5 (u2 (k3 (aj t3 (u2 (k3 (aj t3 s2)))))))))))))))))))))))))))))))))))) t2)
theorem cg_4(q:AG)(h1:(decide (1<=q.n.q)=true))(h2:(decide (q.n.q<=8)=true))(h3:(decide (0<=q.n.a)=true))(h4:(decide (q.n.a<=4)=false)):GoP Ux (hU [13,23,33,42] (BJ q) (AP q)) 0 (zB Try.f115) (FD q) (Fin Ux Try.f115 0 [] (AV.bool false)):=zF (σ:=[]) (fz:=[]) (by kernel_rfl) (aj (ag t2 (al (u2 (u2 (u2 (u2 (ag h1 (ag h1 (ag h1 (ag h1 (u2 (ag h2 (ag h2 (ag h2 (ag h2 (u2 (ag h3 (ag h3 (ag h3 (ag h3 (u2 (aj h4 (aj h4 (aj h4 (ag h4 (u2 (k3 (aj t3 (u2 (k3 (aj t3 (u2 (k3 (aj t3 s2)))))))))))))))))))))))))))))))))) t2)
theorem cg_5(q:AG)(h1:(decide (1<=q.n.q)=true))(h2:(decide (q.n.q<=8)=true))(h3:(decide (0<=q.n.a)=false)):GoP Ux (hU [13,23,32] (BJ q) (AP q)) 0 (zB Try.f115) (FD q) (Fin Ux Try.f115 0 [] (AV.bool false)):=zF (σ:=[]) (fz:=[]) (by kernel_rfl) (aj (ag t2 (al (u2 (u2 (u2 (u2 (ag h1 (ag h1 (ag h1 (ag h1 (u2 (ag h2 (ag h2 (ag h2 (ag h2 (u2 (aj h3 (aj h3 (aj h3 (ag h3 (u2 (k3 (aj t3 (u2 (k3 (aj t3 (u2 (k3 (aj t3 (u2 (k3 (aj t3 s2)))))))))))))))))))))))))))))))) t2)
theorem cg_6(q:AG)(h1:(decide (1<=q.n.q)=true))(h2:(decide (q.n.q<=8)=false)):GoP Ux (hU [13,22] (BJ q) (AP q)) 0 (zB Try.f115) (FD q) (Fin Ux Try.f115 0 [] (AV.bool false)):=zF (σ:=[]) (fz:=[]) (by kernel_rfl) (aj (ag t2 (al (u2 (u2 (u2 (u2 (ag h1 (ag h1 (ag h1 (ag h1 (u2 (aj h2 (aj h2 (aj h2 (ag h2 (u2 (k3 (aj t3 (u2 (k3 (aj t3 (u2 (k3 (aj t3 (u2 (k3 (aj t3 (u2 (k3 (aj t3 s2)))))))))))))))))))))))))))))) t2)
theorem cg_7(q:AG)(h1:(decide (1<=q.n.q)=false)):GoP Ux (hU [12] (BJ q) (AP q)) 0 (zB Try.f115) (FD q) (Fin Ux Try.f115 0 [] (AV.bool false)):=zF (σ:=[]) (fz:=[]) (by kernel_rfl) (aj (ag t2 (al (u2 (u2 (u2 (u2 (aj h1 (aj h1 (aj h1 (ag h1 (u2 (k3 (aj t3 (u2 (k3 (aj t3 (u2 (k3 (aj t3 (u2 (k3 (aj t3 (u2 (k3 (aj t3 (u2 (k3 (aj t3 s2)))))))))))))))))))))))))))) t2)
theorem vni_0(q:AG){post:Exit->St->Prop}(ht:T Ux 0 (.loop (zC (zB Try.f130) 0)) (St.mk 34 [(0,Uw (Uq iv q.r)),(1,iv q.x),(2,iv q.y),(7,iv (-1)),(10,Uw (Uq iv q.r)),(11,iv (iN (Uq iv q.r).length)),(12,iv 0)] []) (TK Ux 0 post (zK (zB Try.f130) 0))):GoP Ux (hU [] (Hg q) (AP q)) 0 (zB Try.f130) (st152 q) post:=zR (σ:=[]) (fz:=[]) (vars:=[0,1,2,7,10,11,12]) (by kernel_rfl) (aj (u2 (u2 (al (u2 (u2 t2))))) t8) ht
theorem vnl_0(q:AG)(h1:(decide (iN q.i<iN (Uq iv q.r).length)=true))(h2:(0<=iN q.i))(h3:((Uq iv q.r)[(iN q.i).toNat]?=some (iv q.base)))(h4:(decide (q.base<=q.z)=true)):GoO Ux (hU [27,39] (Hg q) (AP q)) 0 (zC (zB Try.f130) 0) (zK (zB Try.f130) 0) (ER q) (Fin Ux Try.f130 0 [] (AV.bool false)):=zF (σ:=[]) (fz:=[]) (by kernel_rfl) (aj (al (aj (al t3) (aj h1 (aj (aj (k2 (aj h2 h3)) (u2 s2)) (aj (u2 (u2 (aj t3 (u2 (aj h4 (aj h4 (aj h4 (ag h4 (u2 (k3 (al t3))))))))))) (ak s2)))))) t2)
theorem vnl_1(q:AG)(h1:(decide (iN q.i<iN (Uq iv q.r).length)=true))(h2:(0<=iN q.i))(h3:((Uq iv q.r)[(iN q.i).toNat]?=some (iv q.base)))(h4:(decide (q.base<=q.z)=false))(h5:(decide (q.y<=q.base)=true)):GoO Ux (hU [27,38,49] (Hg q) (AP q)) 0 (zC (zB Try.f130) 0) (zK (zB Try.f130) 0) (ER q) (Fin Ux Try.f130 0 [] (AV.bool false)):=zF (σ:=[]) (fz:=[]) (by kernel_rfl) (aj (al (aj (al t3) (aj h1 (aj (aj (k2 (aj h2 h3)) (u2 s2)) (aj (u2 (u2 (aj t3 (u2 (ag h4 (ag h4 (aj (aj h4 t3) (ag h4 (u2 (aj h5 (aj h5 (aj h5 (al (aj h5 t2)))))))))))))) (ak s2)))))) t2)
theorem vnl_2(q:AG)(h1:(decide (iN q.i<iN (Uq iv q.r).length)=true))(h2:(0<=iN q.i))(h3:((Uq iv q.r)[(iN q.i).toNat]?=some (iv q.base)))(h4:(decide (q.base<=q.z)=false))(h5:(decide (q.y<=q.base)=false))(h6:((q.base==q.x)=true)):GoO Ux (hU [27,38,48,57] (Hg q) (AP q)) 0 (zC (zB Try.f130) 0) (zK (zB Try.f130) 0) (ER q) (Fin Ux Try.f130 0 [] (AV.bool false)):=zF (σ:=[]) (fz:=[]) (by kernel_rfl) (aj (al (aj (al t3) (aj h1 (aj (aj (k2 (aj h2 h3)) (u2 s2)) (aj (u2 (u2 (aj t3 (u2 (ag h4 (ag h4 (aj (aj h4 t3) (ag h4 (u2 (ag h5 (ag h5 (aj (aj h5 t3) (al (aj h5 t2)))))))))))))) (aj h6 s2)))))) t2)
theorem vnl_3(q:AG)(h1:(decide (iN q.i<iN (Uq iv q.r).length)=true))(h2:(0<=iN q.i))(h3:((Uq iv q.r)[(iN q.i).toNat]?=some (iv q.base)))(h4:(decide (q.base<=q.z)=false))(h5:(decide (q.y<=q.base)=false))(h6:((q.base==q.x)=false)){post:Exit->St->Prop}{R:St->Prop}(hR:∀st,Ren 0 st (St.mk 34 [(0,Uw (Uq iv q.r)),(1,iv q.x),(2,iv q.y),(7,iv q.base),(10,Uw (Uq iv q.r)),(11,iv (iN (Uq iv q.r).length)),(12,iv (i64.wrap (iN q.i+1)))] [])->R st):GoP Ux (hU [27,38,48,56] (Hg q) (AP q)) 0 (zC (zB Try.f130) 0) (ER q) (andThen R post):=zN (σ:=[]) (fz:=[]) (vars:=[0,1,2,7,10,11,12]) (by kernel_rfl) (aj (aj (al t3) (aj h1 (aj (aj (k2 (aj h2 h3)) (u2 s2)) (aj (u2 (u2 (aj t3 (u2 (ag h4 (ag h4 (aj (aj h4 t3) (ag h4 (u2 (ag h5 (ag h5 (aj (aj h5 t3) (al (aj h5 t2)))))))))))))) (aj h6 (aj (u2 s2) (al (u2 s2)))))))) t8) hR
theorem vnl_4(q:AG)(h1:(decide (iN q.i<iN (Uq iv q.r).length)=false)):GoO Ux (hU [26] (Hg q) (AP q)) 0 (zC (zB Try.f130) 0) (zK (zB Try.f130) 0) (ER q) (Fin Ux Try.f130 0 [] (AV.bool (decide (iN (Uq iv q.r).length<=4)))):=zF (σ:=[]) (fz:=[]) (by kernel_rfl) (aj (aj (aj (al t3) (al h1)) (al (u2 (u2 (u2 s2))))) t2)
theorem mvi_0(q:AG)(h1:(CT Ux 127 [] [iv (iN (Uq bA q.n.bs).length),iv 1,iv 24] [] (AV.bool (Aw (iN (Uq bA q.n.bs).length) 1 24))))(h2:((!Aw (iN (Uq bA q.n.bs).length) 1 24)=true)):GoP Ux (hU [37] (Bz q) (AP q)) 0 (zB Try.f93) (Hb q) (Fin Ux Try.f93 0 [] (AV.bool false)):=zF (σ:=[]) (fz:=[]) (by kernel_rfl) (aj (ag t2 (aj (u2 (u2 (u2 (aj (ak (k3 (al h1))) (u2 (u2 (aj h2 (aj h2 (aj h2 (aj h2 (aj h2 (aj h2 (aj h2 (ag h2 (u2 (ak (k3 (aj t3 (u2 (ak (k3 (aj t3 (u2 (ak (k3 (al t3)))))))))))))))))))))))))) (ak s2))) t2)
theorem mvi_1(q:AG)(h1:(CT Ux 127 [] [iv (iN (Uq bA q.n.bs).length),iv 1,iv 24] [] (AV.bool (Aw (iN (Uq bA q.n.bs).length) 1 24))))(h2:((!Aw (iN (Uq bA q.n.bs).length) 1 24)=false))(h3:((iN (gL q.n.nx).length != iN (Uq bA q.n.bs).length)=true)):GoP Ux (hU [36,55] (Bz q) (AP q)) 0 (zB Try.f93) (Hb q) (Fin Ux Try.f93 0 [] (AV.bool false)):=zF (σ:=[]) (fz:=[]) (by kernel_rfl) (aj (ag t2 (aj (u2 (u2 (u2 (aj (ak (k3 (al h1))) (u2 (u2 (ag h2 (ag h2 (ag h2 (ag h2 (ag h2 (ag h2 (aj (aj h2 t3) (ag h2 (u2 (aj h3 (aj h3 (aj h3 (aj h3 (ag h3 (u2 (ak (k3 (aj t3 (u2 (ak (k3 (al t3)))))))))))))))))))))))))))) (ak s2))) t2)
theorem mvi_2(q:AG)(h1:(CT Ux 127 [] [iv (iN (Uq bA q.n.bs).length),iv 1,iv 24] [] (AV.bool (Aw (iN (Uq bA q.n.bs).length) 1 24))))(h2:((!Aw (iN (Uq bA q.n.bs).length) 1 24)=false))(h3:((iN (gL q.n.nx).length != iN (Uq bA q.n.bs).length)=false))(h4:(decide (6<iN (Uq sA q.n.ss).length)=true)):GoP Ux (hU [36,54,67] (Bz q) (AP q)) 0 (zB Try.f93) (Hb q) (Fin Ux Try.f93 0 [] (AV.bool false)):=zF (σ:=[]) (fz:=[]) (by kernel_rfl) (aj (ag t2 (aj (u2 (u2 (u2 (aj (ak (k3 (al h1))) (u2 (u2 (ag h2 (ag h2 (ag h2 (ag h2 (ag h2 (ag h2 (aj (aj h2 t3) (ag h2 (u2 (ag h3 (ag h3 (ag h3 (ag h3 (ag h3 (u2 (aj h4 (aj h4 (aj h4 (aj h4 (ag h4 (u2 (ak (k3 (al t3)))))))))))))))))))))))))))))) (ak s2))) t2)
theorem mvi_3(q:AG)(h1:(CT Ux 127 [] [iv (iN (Uq bA q.n.bs).length),iv 1,iv 24] [] (AV.bool (Aw (iN (Uq bA q.n.bs).length) 1 24))))(h2:((!Aw (iN (Uq bA q.n.bs).length) 1 24)=false))(h3:((iN (gL q.n.nx).length != iN (Uq bA q.n.bs).length)=false))(h4:(decide (6<iN (Uq sA q.n.ss).length)=false))(h5:(decide (8<iN (Uq iv q.n.rs).length)=true)):GoP Ux (hU [36,54,66,79] (Bz q) (AP q)) 0 (zB Try.f93) (Hb q) (Fin Ux Try.f93 0 [] (AV.bool false)):=zF (σ:=[]) (fz:=[]) (by kernel_rfl) (aj (ag t2 (aj (u2 (u2 (u2 (aj (ak (k3 (al h1))) (u2 (u2 (ag h2 (ag h2 (ag h2 (ag h2 (ag h2 (ag h2 (aj (aj h2 t3) (ag h2 (u2 (ag h3 (ag h3 (ag h3 (ag h3 (ag h3 (u2 (ag h4 (ag h4 (ag h4 (ag h4 (ag h4 (u2 (aj h5 (aj h5 (aj h5 (aj h5 (al (aj h5 t2))))))))))))))))))))))))))))))))) (ak s2))) t2)
theorem mvi_4(q:AG)(h1:(CT Ux 127 [] [iv (iN (Uq bA q.n.bs).length),iv 1,iv 24] [] (AV.bool (Aw (iN (Uq bA q.n.bs).length) 1 24))))(h2:((!Aw (iN (Uq bA q.n.bs).length) 1 24)=false))(h3:((iN (gL q.n.nx).length != iN (Uq bA q.n.bs).length)=false))(h4:(decide (6<iN (Uq sA q.n.ss).length)=false))(h5:(decide (8<iN (Uq iv q.n.rs).length)=false))(h6:(CT Ux 128 [] [AV.agg [iv q.n.q,iv q.n.a,iv q.n.d,iv q.n.p]] [] (AV.bool (Bc q.n))))(h7:((!Bc q.n)=true)):GoP Ux (hU [36,54,66,78,89] (Bz q) (AP q)) 0 (zB Try.f93) (Hb q) (Fin Ux Try.f93 0 [] (AV.bool false)):=zF (σ:=[]) (fz:=[]) (by kernel_rfl) (aj (ag t2 (aj (u2 (u2 (u2 (aj (ak (k3 (al h1))) (u2 (u2 (ag h2 (ag h2 (ag h2 (ag h2 (ag h2 (ag h2 (aj (aj h2 t3) (ag h2 (u2 (ag h3 (ag h3 (ag h3 (ag h3 (ag h3 (u2 (ag h4 (ag h4 (ag h4 (ag h4 (ag h4 (u2 (ag h5 (ag h5 (aj (aj h5 (ak (aj t5 (al h6)))) (ag h5 (al (aj h5 t2))))))))))))))))))))))))))))))))) (aj h7 s2))) t2)
theorem mvi_5(q:AG)(h1:(CT Ux 127 [] [iv (iN (Uq bA q.n.bs).length),iv 1,iv 24] [] (AV.bool (Aw (iN (Uq bA q.n.bs).length) 1 24))))(h2:((!Aw (iN (Uq bA q.n.bs).length) 1 24)=false))(h3:((iN (gL q.n.nx).length != iN (Uq bA q.n.bs).length)=false))(h4:(decide (6<iN (Uq sA q.n.ss).length)=false))(h5:(decide (8<iN (Uq iv q.n.rs).length)=false))(h6:(CT Ux 128 [] [AV.agg [iv q.n.q,iv q.n.a,iv q.n.d,iv q.n.p]] [] (AV.bool (Bc q.n))))(h7:((!Bc q.n)=false)){post:Exit->St->Prop}(ht:T Ux 0 (.loop (zC (zB Try.f93) 0)) (St.mk 185 [(1,AV.ptr 0 0 0),(3,AV.map 1),(47,Uw (Uq bA q.n.bs)),(48,iv (iN (Uq bA q.n.bs).length)),(49,iv 0)] [some (Blk.mk [Af q.n] [Uw (Uq bA q.n.bs),Uw (gL q.n.nx),Uw (Uq sA q.n.ss),Uw (Uq iv q.n.rs),iv q.n.q,iv q.n.a,iv q.n.d,iv q.n.p].length true true none),some (Blk.mk [] 0 true true (some ([],0)))]) (TK Ux 0 post (zK (zB Try.f93) 0))):GoP Ux (hU [36,54,66,78,88] (Bz q) (AP q)) 0 (zB Try.f93) (Hb q) post:=zR (σ:=[0,1]) (fz:=[]) (vars:=[1,3,47,48,49]) (by kernel_rfl) (aj (ag t2 (aj (u2 (u2 (u2 (aj (ak (k3 (al h1))) (u2 (u2 (ag h2 (ag h2 (ag h2 (ag h2 (ag h2 (ag h2 (aj (aj h2 t3) (ag h2 (u2 (ag h3 (ag h3 (ag h3 (ag h3 (ag h3 (u2 (ag h4 (ag h4 (ag h4 (ag h4 (ag h4 (u2 (ag h5 (ag h5 (aj (aj h5 (ak (aj t5 (al h6)))) (ag h5 (al (aj h5 t2))))))))))))))))))))))))))))))))) (aj h7 (aj (ak s2) (al (u2 (u2 (u2 t2)))))))) t8) ht
theorem mvbx_0(q:AG)(h1:(decide (iN q.i<iN (Uq bA q.n.bs).length)=false)){post:Exit->St->Prop}(ht:T Ux 0 (.loop (zC (zB Try.f93) 1)) (St.mk 185 [(1,AV.ptr 0 0 0),(3,AV.map 1),(6,iv (iN (Uq bA q.n.bs).length)),(7,AV.map 2),(94,Uw (Uq sA q.n.ss)),(95,iv (iN (Uq sA q.n.ss).length)),(96,iv 0)] [some (Blk.mk [Af q.n] 8 true true none),some (Blk.mk [] 0 true true (some (q.l,q.c))),some (Blk.mk [] 0 true true (some ([],0)))]) (TK Ux 0 post (zK (zB Try.f93) 1))):GoO Ux (hU [100] (Bz q) (AP q)) 0 (zC (zB Try.f93) 0) (zK (zB Try.f93) 0) (Ec q) post:=zR (σ:=[0,1,2]) (fz:=[]) (vars:=[1,3,6,7,94,95,96]) (by kernel_rfl) (aj (aj (aj (al t3) (al h1)) (aj (u2 (u2 (u2 (ak (u2 s2))))) (al (u2 (u2 (u2 t2)))))) (k2 t9)) ht
theorem mvb_0 (q : AG) (h1 : (decide (iN q.i < iN (Uq bA q.n.bs).length) = true)) (h2 : (0 <= iN q.i)) (h3 : ((Uq bA q.n.bs)[(iN q.i).toNat]? = some (AV.agg [AV.str q.b.nm, iv q.b.x, iv q.b.y]))) (h4 : (∀ (x : MapEntry), x ∈ q.l -> A9 (TypeInfo.mk TypeDesc.string "string" 1 16 true 8 8 (some (Value.string (ByteArray.mk #[]))) true #[]).desc x.key = true /\ BS (MK.i i64) x.val)) (h5 : (CT Ux 129 [] [AV.str q.b.nm] [] (AV.bool (nmB q.b.nm)))) (h6 : ((!nmB q.b.nm) = true)) : GoO Ux (hU [101, 127] (Bz q) (AP q)) 0 (zC (zB Try.f93) 0) (zK (zB Try.f93) 0) (Ec q) (Fin Ux Try.f93 0 [] (AV.bool false)) :=
 zF (σ:=[]) (fz:=[]) (by kernel_rfl) (aj (al (aj (al t3) (aj h1 (aj (u2 (aj (k2 (aj h2 h3)) (u2 (ak (u2 (al (k2 (show Nat.le (nat_lit 1) (nat_lit 1) from nL rfl)))))))) (aj (u2 (u2 (u2 (aj (k2 h4) (u2 (al (k3 h4))))))) (aj (u2 (u2 (aj (k2 (al h5)) (u2 (u2 (aj h6 (aj h6 (aj h6 (aj h6 (ag h6 (u2 (ak (k3 (aj t3 (u2 (ak (k5 (k5 (al t3))))))))))))))))))) (ak s2))))))) t2)
theorem mvb_1 (q : AG) (h1 : (decide (iN q.i < iN (Uq bA q.n.bs).length) = true)) (h2 : (0 <= iN q.i)) (h3 : ((Uq bA q.n.bs)[(iN q.i).toNat]? = some (AV.agg [AV.str q.b.nm, iv q.b.x, iv q.b.y]))) (h4 : (∀ (x : MapEntry), x ∈ q.l -> A9 (TypeInfo.mk TypeDesc.string "string" 1 16 true 8 8 (some (Value.string (ByteArray.mk #[]))) true #[]).desc x.key = true /\ BS (MK.i i64) x.val)) (h5 : (CT Ux 129 [] [AV.str q.b.nm] [] (AV.bool (nmB q.b.nm)))) (h6 : ((!nmB q.b.nm) = false)) (h7 : (CT Ux 127 [] [iv q.b.x, iv (-9999), iv 9999] [] (AV.bool (Aw q.b.x (-9999) 9999)))) (h8 : ((!Aw q.b.x (-9999) 9999) = true)) : GoO Ux (hU [101, 126, 139] (Bz q) (AP q)) 0 (zC (zB Try.f93) 0) (zK (zB Try.f93) 0) (Ec q) (Fin Ux Try.f93 0 [] (AV.bool false)) :=
 zF (σ:=[]) (fz:=[]) (by kernel_rfl) (aj (al (aj (al t3) (aj h1 (aj (u2 (aj (k2 (aj h2 h3)) (u2 (ak (u2 (al (k2 (show Nat.le (nat_lit 1) (nat_lit 1) from nL rfl)))))))) (aj (u2 (u2 (u2 (aj (k2 h4) (u2 (al (k3 h4))))))) (aj (u2 (u2 (aj (k2 (al h5)) (u2 (u2 (ag h6 (ag h6 (aj (aj h6 (ak (k3 (al h7)))) (ag h6 (ag h6 (u2 (aj h8 (aj h8 (aj h8 (aj h8 (ag h8 (u2 (ak (k5 (k5 (al t3))))))))))))))))))))) (ak s2))))))) t2)
theorem mvb_2 (q : AG) (h1 : (decide (iN q.i < iN (Uq bA q.n.bs).length) = true)) (h2 : (0 <= iN q.i)) (h3 : ((Uq bA q.n.bs)[(iN q.i).toNat]? = some (AV.agg [AV.str q.b.nm, iv q.b.x, iv q.b.y]))) (h4 : (∀ (x : MapEntry), x ∈ q.l -> A9 (TypeInfo.mk TypeDesc.string "string" 1 16 true 8 8 (some (Value.string (ByteArray.mk #[]))) true #[]).desc x.key = true /\ BS (MK.i i64) x.val)) (h5 : (CT Ux 129 [] [AV.str q.b.nm] [] (AV.bool (nmB q.b.nm)))) (h6 : ((!nmB q.b.nm) = false)) (h7 : (CT Ux 127 [] [iv q.b.x, iv (-9999), iv 9999] [] (AV.bool (Aw q.b.x (-9999) 9999)))) (h8 : ((!Aw q.b.x (-9999) 9999) = false)) (h9 : (CT Ux 127 [] [iv q.b.y, iv (-9999), iv 9999] [] (AV.bool (Aw q.b.y (-9999) 9999)))) (h10 : ((!Aw q.b.y (-9999) 9999) = true)) : GoO Ux (hU [101, 126, 138, 151] (Bz q) (AP q)) 0 (zC (zB Try.f93) 0) (zK (zB Try.f93) 0) (Ec q) (Fin Ux Try.f93 0 [] (AV.bool false)) :=
 zF (σ:=[]) (fz:=[]) (by kernel_rfl) (aj (al (aj (al t3) (aj h1 (aj (u2 (aj (k2 (aj h2 h3)) (u2 (ak (u2 (al (k2 (show Nat.le (nat_lit 1) (nat_lit 1) from nL rfl)))))))) (aj (u2 (u2 (u2 (aj (k2 h4) (u2 (al (k3 h4))))))) (aj (u2 (u2 (aj (k2 (al h5)) (u2 (u2 (ag h6 (ag h6 (aj (aj h6 (ak (k3 (al h7)))) (ag h6 (ag h6 (u2 (ag h8 (ag h8 (aj (aj h8 (ak (k3 (al h9)))) (ag h8 (ag h8 (u2 (aj h10 (aj h10 (aj h10 (aj h10 (aj h10 (aj h10 (aj h10 (aj h10 (aj h10 (aj h10 (aj h10 (al (aj h10 t2)))))))))))))))))))))))))))))) (ak s2))))))) t2)
theorem mvb_3 (q : AG) (h1 : (decide (iN q.i < iN (Uq bA q.n.bs).length) = true)) (h2 : (0 <= iN q.i)) (h3 : ((Uq bA q.n.bs)[(iN q.i).toNat]? = some (AV.agg [AV.str q.b.nm, iv q.b.x, iv q.b.y]))) (h4 : (∀ (x : MapEntry), x ∈ q.l -> A9 (TypeInfo.mk TypeDesc.string "string" 1 16 true 8 8 (some (Value.string (ByteArray.mk #[]))) true #[]).desc x.key = true /\ BS (MK.i i64) x.val)) (h5 : (CT Ux 129 [] [AV.str q.b.nm] [] (AV.bool (nmB q.b.nm)))) (h6 : ((!nmB q.b.nm) = false)) (h7 : (CT Ux 127 [] [iv q.b.x, iv (-9999), iv 9999] [] (AV.bool (Aw q.b.x (-9999) 9999)))) (h8 : ((!Aw q.b.x (-9999) 9999) = false)) (h9 : (CT Ux 127 [] [iv q.b.y, iv (-9999), iv 9999] [] (AV.bool (Aw q.b.y (-9999) 9999)))) (h10 : ((!Aw q.b.y (-9999) 9999) = false)) (h11 : ((gL q.n.nx)[(iN q.i).toNat]? = some (Uw (Uq iv q.r)))) (h12 : (CT Ux 130 [] [Uw (Uq iv q.r), iv (iN q.i), iv (iN (Uq bA q.n.bs).length)] [] (AV.bool (nxB q.r (iN q.i) (iN (Uq bA q.n.bs).length))))) (h13 : ((!nxB q.r (iN q.i) (iN (Uq bA q.n.bs).length)) = true)) : GoO Ux (hU [101, 126, 138, 150, 175] (Bz q) (AP q)) 0 (zC (zB Try.f93) 0) (zK (zB Try.f93) 0) (Ec q) (Fin Ux Try.f93 0 [] (AV.bool false)) :=
 zF (σ:=[]) (fz:=[]) (by kernel_rfl) (aj (al (aj (al t3) (aj h1 (aj (u2 (aj (k2 (aj h2 h3)) (u2 (ak (u2 (al (k2 (show Nat.le (nat_lit 1) (nat_lit 1) from nL rfl)))))))) (aj (u2 (u2 (u2 (aj (k2 h4) (u2 (al (k3 h4))))))) (aj (u2 (u2 (aj (k2 (al h5)) (u2 (u2 (ag h6 (ag h6 (aj (aj h6 (ak (k3 (al h7)))) (ag h6 (ag h6 (u2 (ag h8 (ag h8 (aj (aj h8 (ak (k3 (al h9)))) (ag h8 (ag h8 (u2 (ag h10 (ag h10 (ag h10 (aj (aj h10 (k2 (aj h2 h11))) (ag h10 (ag h10 (ag h10 (ag h10 (ag h10 (aj (aj h10 (ak (k5 (al h12)))) (ag h10 (al (aj h10 t2)))))))))))))))))))))))))))))) (aj h13 s2))))))) t2)
theorem mvb_4 (q : AG) (h1 : (decide (iN q.i < iN (Uq bA q.n.bs).length) = true)) (h2 : (0 <= iN q.i)) (h3 : ((Uq bA q.n.bs)[(iN q.i).toNat]? = some (AV.agg [AV.str q.b.nm, iv q.b.x, iv q.b.y]))) (h4 : (∀ (x : MapEntry), x ∈ q.l -> A9 (TypeInfo.mk TypeDesc.string "string" 1 16 true 8 8 (some (Value.string (ByteArray.mk #[]))) true #[]).desc x.key = true /\ BS (MK.i i64) x.val)) (h5 : (CT Ux 129 [] [AV.str q.b.nm] [] (AV.bool (nmB q.b.nm)))) (h6 : ((!nmB q.b.nm) = false)) (h7 : (CT Ux 127 [] [iv q.b.x, iv (-9999), iv 9999] [] (AV.bool (Aw q.b.x (-9999) 9999)))) (h8 : ((!Aw q.b.x (-9999) 9999) = false)) (h9 : (CT Ux 127 [] [iv q.b.y, iv (-9999), iv 9999] [] (AV.bool (Aw q.b.y (-9999) 9999)))) (h10 : ((!Aw q.b.y (-9999) 9999) = false)) (h11 : ((gL q.n.nx)[(iN q.i).toNat]? = some (Uw (Uq iv q.r)))) (h12 : (CT Ux 130 [] [Uw (Uq iv q.r), iv (iN q.i), iv (iN (Uq bA q.n.bs).length)] [] (AV.bool (nxB q.r (iN q.i) (iN (Uq bA q.n.bs).length))))) (h13 : ((!nxB q.r (iN q.i) (iN (Uq bA q.n.bs).length)) = false)) {post : Exit -> St -> Prop} {R : St -> Prop} (hR : ∀ st, Ren 0 st (St.mk 185 [(1, AV.ptr 0 0 0), (3, AV.map 1), (47, Uw (Uq bA q.n.bs)), (48, iv (iN (Uq bA q.n.bs).length)), (49, iv (i64.wrap (iN q.i + 1)))] [some (Blk.mk [Af q.n] 8 true true none), some (Blk.mk [] 0 true true (some (BP TypeDesc.string (Value.string q.b.nm) (Value.int i64 (i64.wrap (Eb TypeDesc.string (Value.string q.b.nm) q.l + 1))) q.l q.c, CM TypeDesc.string (Value.string q.b.nm) q.l q.c)))]) -> R st) : GoP Ux (hU [101, 126, 138, 150, 174] (Bz q) (AP q)) 0 (zC (zB Try.f93) 0) (Ec q) (andThen R post) :=
 zN (σ:=[0,1]) (fz:=[]) (vars:=[1,3,47,48,49]) (by kernel_rfl) (aj (aj (al t3) (aj h1 (aj (u2 (aj (k2 (aj h2 h3)) (u2 (ak (u2 (al (k2 (show Nat.le (nat_lit 1) (nat_lit 1) from nL rfl)))))))) (aj (u2 (u2 (u2 (aj (k2 h4) (u2 (al (k3 h4))))))) (aj (u2 (u2 (aj (k2 (al h5)) (u2 (u2 (ag h6 (ag h6 (aj (aj h6 (ak (k3 (al h7)))) (ag h6 (ag h6 (u2 (ag h8 (ag h8 (aj (aj h8 (ak (k3 (al h9)))) (ag h8 (ag h8 (u2 (ag h10 (ag h10 (ag h10 (aj (aj h10 (k2 (aj h2 h11))) (ag h10 (ag h10 (ag h10 (ag h10 (ag h10 (aj (aj h10 (ak (k5 (al h12)))) (ag h10 (al (aj h10 t2)))))))))))))))))))))))))))))) (aj h13 (al (u2 s2)))))))) t8) hR
theorem mvsx_0(q:AG)(h1:(decide (iN q.i<iN (Uq sA q.n.ss).length)=false))(h2:(decide (0<iN q.l2.length)=true)){post:Exit->St->Prop}(ht:T Ux 0 (.loop (zC (zB Try.f93) 2)) (St.mk 185 [(7,AV.map 0),(10,AV.bool (iN q.l.length==i64.wrap (iN (Uq bA q.n.bs).length+iN (Uq sA q.n.ss).length))),(169,Uw (Uq iv q.n.rs)),(170,iv (iN (Uq iv q.n.rs).length)),(171,iv 0)] [some (Blk.mk [] 0 true true (some (q.l2,q.c2)))]) (TK Ux 0 post (zK (zB Try.f93) 2))):GoO Ux (hU [194,313] (Bz q) (AP q)) 0 (zC (zB Try.f93) 1) (zK (zB Try.f93) 1) (CX q) post:=zR (σ:=[2]) (fz:=[]) (vars:=[7,10,169,170,171]) (by kernel_rfl) (aj (aj (aj (al t3) (al h1)) (aj (u2 (u2 (u2 (u2 (ag h2 (ag h2 (ag h2 (ag h2 (ag h2 (ag h2 (ag h2 (ag h2 (aj (aj h2 t3) (aj (aj h2 t3) (ag h2 s2))))))))))))))) (al (u2 (u2 (u2 t2)))))) t7) ht
theorem mvsx_1(q:AG)(h1:(decide (iN q.i<iN (Uq sA q.n.ss).length)=false))(h2:(decide (0<iN q.l2.length)=false)){post:Exit->St->Prop}(ht:T Ux 0 (.loop (zC (zB Try.f93) 2)) (St.mk 185 [(7,AV.map 0),(10,AV.bool false),(169,Uw (Uq iv q.n.rs)),(170,iv (iN (Uq iv q.n.rs).length)),(171,iv 0)] [some (Blk.mk [] 0 true true (some (q.l2,q.c2)))]) (TK Ux 0 post (zK (zB Try.f93) 2))):GoO Ux (hU [194,312] (Bz q) (AP q)) 0 (zC (zB Try.f93) 1) (zK (zB Try.f93) 1) (CX q) post:=zR (σ:=[2]) (fz:=[]) (vars:=[7,10,169,170,171]) (by kernel_rfl) (aj (aj (aj (al t3) (al h1)) (aj (u2 (u2 (u2 (u2 (aj h2 (aj h2 (aj h2 (aj h2 (aj h2 (aj h2 (aj h2 (aj h2 (aj h2 (aj h2 (ag h2 s2))))))))))))))) (al (u2 (u2 (u2 t2)))))) t7) ht
theorem mvs_0 (q : AG) (h1 : (decide (iN q.i < iN (Uq sA q.n.ss).length) = true)) (h2 : (0 <= iN q.i)) (h3 : ((Uq sA q.n.ss)[(iN q.i).toNat]? = some (sA q.s))) (h4 : (∀ (x : MapEntry), x ∈ q.l -> A9 (TypeInfo.mk TypeDesc.string "string" 1 16 true 8 8 (some (Value.string (ByteArray.mk #[]))) true #[]).desc x.key = true /\ BS (MK.i i64) x.val)) (h5 : (CT Ux 129 [] [AV.str q.s.nm] [] (AV.bool (nmB q.s.nm)))) (h6 : ((!nmB q.s.nm) = true)) : GoO Ux (hU [195, 219] (Bz q) (AP q)) 0 (zC (zB Try.f93) 1) (zK (zB Try.f93) 1) (CX q) (Fin Ux Try.f93 0 [] (AV.bool false)) :=
 zF (σ:=[]) (fz:=[]) (by kernel_rfl) (aj (al (aj (al t3) (aj h1 (aj (aj (k2 (aj h2 h3)) (u2 (ak (al (k2 (show Nat.le (nat_lit 1) (nat_lit 1) from nL rfl)))))) (aj (u2 (u2 (u2 (aj (k2 h4) (u2 (al (k3 h4))))))) (aj (u2 (u2 (aj (k2 (al h5)) (u2 (u2 (aj h6 (aj h6 (aj h6 (aj h6 (aj h6 (aj h6 (aj h6 (aj h6 (ag h6 (u2 (k3 (k5 (aj t3 (u2 (ak (k3 (aj t3 (u2 (ak (k3 (al t3)))))))))))))))))))))))))) (ak s2))))))) t2)
theorem mvs_1 (q : AG) (h1 : (decide (iN q.i < iN (Uq sA q.n.ss).length) = true)) (h2 : (0 <= iN q.i)) (h3 : ((Uq sA q.n.ss)[(iN q.i).toNat]? = some (sA q.s))) (h4 : (∀ (x : MapEntry), x ∈ q.l -> A9 (TypeInfo.mk TypeDesc.string "string" 1 16 true 8 8 (some (Value.string (ByteArray.mk #[]))) true #[]).desc x.key = true /\ BS (MK.i i64) x.val)) (h5 : (CT Ux 129 [] [AV.str q.s.nm] [] (AV.bool (nmB q.s.nm)))) (h6 : ((!nmB q.s.nm) = false)) (h7 : (CT Ux 127 [] [iv q.s.i, iv 0, iv (i64.wrap (iN (Uq bA q.n.bs).length - 1))] [] (AV.bool (Aw q.s.i 0 (i64.wrap (iN (Uq bA q.n.bs).length - 1)))))) (h8 : ((!Aw q.s.i 0 (i64.wrap (iN (Uq bA q.n.bs).length - 1))) = true)) : GoO Ux (hU [195, 218, 239] (Bz q) (AP q)) 0 (zC (zB Try.f93) 1) (zK (zB Try.f93) 1) (CX q) (Fin Ux Try.f93 0 [] (AV.bool false)) :=
 zF (σ:=[]) (fz:=[]) (by kernel_rfl) (aj (al (aj (al t3) (aj h1 (aj (aj (k2 (aj h2 h3)) (u2 (ak (al (k2 (show Nat.le (nat_lit 1) (nat_lit 1) from nL rfl)))))) (aj (u2 (u2 (u2 (aj (k2 h4) (u2 (al (k3 h4))))))) (aj (u2 (u2 (aj (k2 (al h5)) (u2 (u2 (ag h6 (ag h6 (ag h6 (ag h6 (ag h6 (ag h6 (aj (aj h6 (k5 (al h7))) (ag h6 (ag h6 (u2 (aj h8 (aj h8 (aj h8 (aj h8 (aj h8 (aj h8 (aj h8 (aj h8 (ag h8 (u2 (ak (k3 (aj t3 (u2 (ak (k3 (al t3)))))))))))))))))))))))))))))))) (ak s2))))))) t2)
theorem mvs_2 (q : AG) (h1 : (decide (iN q.i < iN (Uq sA q.n.ss).length) = true)) (h2 : (0 <= iN q.i)) (h3 : ((Uq sA q.n.ss)[(iN q.i).toNat]? = some (sA q.s))) (h4 : (∀ (x : MapEntry), x ∈ q.l -> A9 (TypeInfo.mk TypeDesc.string "string" 1 16 true 8 8 (some (Value.string (ByteArray.mk #[]))) true #[]).desc x.key = true /\ BS (MK.i i64) x.val)) (h5 : (CT Ux 129 [] [AV.str q.s.nm] [] (AV.bool (nmB q.s.nm)))) (h6 : ((!nmB q.s.nm) = false)) (h7 : (CT Ux 127 [] [iv q.s.i, iv 0, iv (i64.wrap (iN (Uq bA q.n.bs).length - 1))] [] (AV.bool (Aw q.s.i 0 (i64.wrap (iN (Uq bA q.n.bs).length - 1)))))) (h8 : ((!Aw q.s.i 0 (i64.wrap (iN (Uq bA q.n.bs).length - 1))) = false)) (h9 : (CT Ux 127 [] [iv q.s.o, iv 0, iv (i64.wrap (iN (Uq bA q.n.bs).length - 1))] [] (AV.bool (Aw q.s.o 0 (i64.wrap (iN (Uq bA q.n.bs).length - 1)))))) (h10 : ((!Aw q.s.o 0 (i64.wrap (iN (Uq bA q.n.bs).length - 1))) = true)) : GoO Ux (hU [195, 218, 238, 259] (Bz q) (AP q)) 0 (zC (zB Try.f93) 1) (zK (zB Try.f93) 1) (CX q) (Fin Ux Try.f93 0 [] (AV.bool false)) :=
 zF (σ:=[]) (fz:=[]) (by kernel_rfl) (aj (al (aj (al t3) (aj h1 (aj (aj (k2 (aj h2 h3)) (u2 (ak (al (k2 (show Nat.le (nat_lit 1) (nat_lit 1) from nL rfl)))))) (aj (u2 (u2 (u2 (aj (k2 h4) (u2 (al (k3 h4))))))) (aj (u2 (u2 (aj (k2 (al h5)) (u2 (u2 (ag h6 (ag h6 (ag h6 (ag h6 (ag h6 (ag h6 (aj (aj h6 (k5 (al h7))) (ag h6 (ag h6 (u2 (ag h8 (ag h8 (ag h8 (ag h8 (ag h8 (ag h8 (aj (aj h8 (k5 (al h9))) (ag h8 (ag h8 (u2 (aj h10 (aj h10 (aj h10 (aj h10 (ag h10 (u2 (ak (k3 (al t3)))))))))))))))))))))))))))))))))) (ak s2))))))) t2)
theorem mvs_3 (q : AG) (h1 : (decide (iN q.i < iN (Uq sA q.n.ss).length) = true)) (h2 : (0 <= iN q.i)) (h3 : ((Uq sA q.n.ss)[(iN q.i).toNat]? = some (sA q.s))) (h4 : (∀ (x : MapEntry), x ∈ q.l -> A9 (TypeInfo.mk TypeDesc.string "string" 1 16 true 8 8 (some (Value.string (ByteArray.mk #[]))) true #[]).desc x.key = true /\ BS (MK.i i64) x.val)) (h5 : (CT Ux 129 [] [AV.str q.s.nm] [] (AV.bool (nmB q.s.nm)))) (h6 : ((!nmB q.s.nm) = false)) (h7 : (CT Ux 127 [] [iv q.s.i, iv 0, iv (i64.wrap (iN (Uq bA q.n.bs).length - 1))] [] (AV.bool (Aw q.s.i 0 (i64.wrap (iN (Uq bA q.n.bs).length - 1)))))) (h8 : ((!Aw q.s.i 0 (i64.wrap (iN (Uq bA q.n.bs).length - 1))) = false)) (h9 : (CT Ux 127 [] [iv q.s.o, iv 0, iv (i64.wrap (iN (Uq bA q.n.bs).length - 1))] [] (AV.bool (Aw q.s.o 0 (i64.wrap (iN (Uq bA q.n.bs).length - 1)))))) (h10 : ((!Aw q.s.o 0 (i64.wrap (iN (Uq bA q.n.bs).length - 1))) = false)) (h11 : (CT Ux 127 [] [iv q.s.k, iv 1, iv 4] [] (AV.bool (Aw q.s.k 1 4)))) (h12 : ((!Aw q.s.k 1 4) = true)) : GoO Ux (hU [195, 218, 238, 258, 271] (Bz q) (AP q)) 0 (zC (zB Try.f93) 1) (zK (zB Try.f93) 1) (CX q) (Fin Ux Try.f93 0 [] (AV.bool false)) :=
 zF (σ:=[]) (fz:=[]) (by kernel_rfl) (aj (al (aj (al t3) (aj h1 (aj (aj (k2 (aj h2 h3)) (u2 (ak (al (k2 (show Nat.le (nat_lit 1) (nat_lit 1) from nL rfl)))))) (aj (u2 (u2 (u2 (aj (k2 h4) (u2 (al (k3 h4))))))) (aj (u2 (u2 (aj (k2 (al h5)) (u2 (u2 (ag h6 (ag h6 (ag h6 (ag h6 (ag h6 (ag h6 (aj (aj h6 (k5 (al h7))) (ag h6 (ag h6 (u2 (ag h8 (ag h8 (ag h8 (ag h8 (ag h8 (ag h8 (aj (aj h8 (k5 (al h9))) (ag h8 (ag h8 (u2 (ag h10 (ag h10 (aj (aj h10 (ak (k3 (al h11)))) (ag h10 (ag h10 (u2 (aj h12 (aj h12 (aj h12 (aj h12 (al (aj h12 t2))))))))))))))))))))))))))))))))))))) (ak s2))))))) t2)
theorem mvs_4 (q : AG) (h1 : (decide (iN q.i < iN (Uq sA q.n.ss).length) = true)) (h2 : (0 <= iN q.i)) (h3 : ((Uq sA q.n.ss)[(iN q.i).toNat]? = some (sA q.s))) (h4 : (∀ (x : MapEntry), x ∈ q.l -> A9 (TypeInfo.mk TypeDesc.string "string" 1 16 true 8 8 (some (Value.string (ByteArray.mk #[]))) true #[]).desc x.key = true /\ BS (MK.i i64) x.val)) (h5 : (CT Ux 129 [] [AV.str q.s.nm] [] (AV.bool (nmB q.s.nm)))) (h6 : ((!nmB q.s.nm) = false)) (h7 : (CT Ux 127 [] [iv q.s.i, iv 0, iv (i64.wrap (iN (Uq bA q.n.bs).length - 1))] [] (AV.bool (Aw q.s.i 0 (i64.wrap (iN (Uq bA q.n.bs).length - 1)))))) (h8 : ((!Aw q.s.i 0 (i64.wrap (iN (Uq bA q.n.bs).length - 1))) = false)) (h9 : (CT Ux 127 [] [iv q.s.o, iv 0, iv (i64.wrap (iN (Uq bA q.n.bs).length - 1))] [] (AV.bool (Aw q.s.o 0 (i64.wrap (iN (Uq bA q.n.bs).length - 1)))))) (h10 : ((!Aw q.s.o 0 (i64.wrap (iN (Uq bA q.n.bs).length - 1))) = false)) (h11 : (CT Ux 127 [] [iv q.s.k, iv 1, iv 4] [] (AV.bool (Aw q.s.k 1 4)))) (h12 : ((!Aw q.s.k 1 4) = false)) (h13 : ((q.s.b != q.base) = true)) : GoO Ux (hU [195, 218, 238, 258, 270, 281] (Bz q) (AP q)) 0 (zC (zB Try.f93) 1) (zK (zB Try.f93) 1) (CX q) (Fin Ux Try.f93 0 [] (AV.bool false)) :=
 zF (σ:=[]) (fz:=[]) (by kernel_rfl) (aj (al (aj (al t3) (aj h1 (aj (aj (k2 (aj h2 h3)) (u2 (ak (al (k2 (show Nat.le (nat_lit 1) (nat_lit 1) from nL rfl)))))) (aj (u2 (u2 (u2 (aj (k2 h4) (u2 (al (k3 h4))))))) (aj (u2 (u2 (aj (k2 (al h5)) (u2 (u2 (ag h6 (ag h6 (ag h6 (ag h6 (ag h6 (ag h6 (aj (aj h6 (k5 (al h7))) (ag h6 (ag h6 (u2 (ag h8 (ag h8 (ag h8 (ag h8 (ag h8 (ag h8 (aj (aj h8 (k5 (al h9))) (ag h8 (ag h8 (u2 (ag h10 (ag h10 (aj (aj h10 (ak (k3 (al h11)))) (ag h10 (ag h10 (u2 (ag h12 (ag h12 (ag h12 (aj (aj h12 t3) (al (aj h12 t2))))))))))))))))))))))))))))))))))))) (aj h13 s2))))))) t2)
theorem mvs_5 (q : AG) (h1 : (decide (iN q.i < iN (Uq sA q.n.ss).length) = true)) (h2 : (0 <= iN q.i)) (h3 : ((Uq sA q.n.ss)[(iN q.i).toNat]? = some (sA q.s))) (h4 : (∀ (x : MapEntry), x ∈ q.l -> A9 (TypeInfo.mk TypeDesc.string "string" 1 16 true 8 8 (some (Value.string (ByteArray.mk #[]))) true #[]).desc x.key = true /\ BS (MK.i i64) x.val)) (h5 : (CT Ux 129 [] [AV.str q.s.nm] [] (AV.bool (nmB q.s.nm)))) (h6 : ((!nmB q.s.nm) = false)) (h7 : (CT Ux 127 [] [iv q.s.i, iv 0, iv (i64.wrap (iN (Uq bA q.n.bs).length - 1))] [] (AV.bool (Aw q.s.i 0 (i64.wrap (iN (Uq bA q.n.bs).length - 1)))))) (h8 : ((!Aw q.s.i 0 (i64.wrap (iN (Uq bA q.n.bs).length - 1))) = false)) (h9 : (CT Ux 127 [] [iv q.s.o, iv 0, iv (i64.wrap (iN (Uq bA q.n.bs).length - 1))] [] (AV.bool (Aw q.s.o 0 (i64.wrap (iN (Uq bA q.n.bs).length - 1)))))) (h10 : ((!Aw q.s.o 0 (i64.wrap (iN (Uq bA q.n.bs).length - 1))) = false)) (h11 : (CT Ux 127 [] [iv q.s.k, iv 1, iv 4] [] (AV.bool (Aw q.s.k 1 4)))) (h12 : ((!Aw q.s.k 1 4) = false)) (h13 : ((q.s.b != q.base) = false)) {post : Exit -> St -> Prop} (ht : T Ux 0 (.loop (zC (zC (zB Try.f93) 1) 0)) (St.mk 185 [(1, AV.ptr 0 0 0), (3, AV.map 1), (6, iv q.base), (7, AV.map 2), (9, AV.ptr 3 0 0), (94, Uw (Uq sA q.n.ss)), (95, iv (iN (Uq sA q.n.ss).length)), (96, iv (iN q.i)), (142, iv q.s.k), (143, iv 0)] [some (Blk.mk [Af q.n] 8 true true none), some (Blk.mk [] 0 true true (some (BP TypeDesc.string (Value.string q.s.nm) (Value.int i64 (i64.wrap (Eb TypeDesc.string (Value.string q.s.nm) q.l + 1))) q.l q.c, CM TypeDesc.string (Value.string q.s.nm) q.l q.c))), some (Blk.mk [] 0 true true (some (q.l2, q.c2))), some (Blk.mk [sA q.s] 6 true true none)]) (TK Ux 0 post (zK (zC (zB Try.f93) 1) 0))) : GoP Ux (hU [195, 218, 238, 258, 270, 280] (Bz q) (AP q)) 0 (zC (zB Try.f93) 1) (CX q) post :=
 zR (σ:=[0,1,2,3]) (fz:=[]) (vars:=[1,3,6,7,9,94,95,96,142,143]) (by kernel_rfl) (aj (aj (al t3) (aj h1 (aj (aj (k2 (aj h2 h3)) (u2 (ak (al (k2 (show Nat.le (nat_lit 1) (nat_lit 1) from nL rfl)))))) (aj (u2 (u2 (u2 (aj (k2 h4) (u2 (al (k3 h4))))))) (aj (u2 (u2 (aj (k2 (al h5)) (u2 (u2 (ag h6 (ag h6 (ag h6 (ag h6 (ag h6 (ag h6 (aj (aj h6 (k5 (al h7))) (ag h6 (ag h6 (u2 (ag h8 (ag h8 (ag h8 (ag h8 (ag h8 (ag h8 (aj (aj h8 (k5 (al h9))) (ag h8 (ag h8 (u2 (ag h10 (ag h10 (aj (aj h10 (ak (k3 (al h11)))) (ag h10 (ag h10 (u2 (ag h12 (ag h12 (ag h12 (aj (aj h12 t3) (al (aj h12 t2))))))))))))))))))))))))))))))))))))) (aj h13 (al (u2 (u2 t2))))))))) (ak (k5 t9))) ht
theorem mvtx_0(q:AG)(h1:(decide (iN q.k<q.s.k)=false)){post:Exit->St->Prop}{R:St->Prop}(hR:∀st,Ren 0 st (St.mk 185 [(1,AV.ptr 0 0 0),(3,AV.map 1),(6,iv q.base),(7,AV.map 2),(94,Uw (Uq sA q.n.ss)),(95,iv (iN (Uq sA q.n.ss).length)),(96,iv (i64.wrap (iN q.i+1)))] [some (Blk.mk [Af q.n] 8 true true none),some (Blk.mk [] 0 true true (some (q.l,q.c))),some (Blk.mk [] 0 true true (some (q.l2,q.c2)))])->R st):GoO Ux (hU [288] (Bz q) (AP q)) 0 (zC (zC (zB Try.f93) 1) 0) (zK (zC (zB Try.f93) 1) 0) (Ef q) (andThen R post):=zN (σ:=[0,1,2]) (fz:=[]) (vars:=[1,3,6,7,94,95,96]) (by kernel_rfl) (aj (aj (aj (al t3) (al h1)) (al (u2 s2))) (k2 t9)) hR
theorem mvt_0 (q : AG) (h1 : (decide (iN q.k < q.s.k) = true)) (h2 : (q.s.dep = true)) (h3 : (∀ (x : MapEntry), x ∈ q.l2 -> A9 (TypeInfo.mk (TypeDesc.int i64) "int" 1 8 false 8 8 (some (Value.int i64 0)) true #[]).desc x.key = true /\ BS MK.b x.val)) {post : Exit -> St -> Prop} {R : St -> Prop} (hR : ∀ st, Ren 0 st (St.mk 185 [(1, AV.ptr 0 0 0), (3, AV.map 1), (6, iv (i64.wrap (q.base + 1))), (7, AV.map 2), (9, AV.ptr 3 0 0), (94, Uw (Uq sA q.n.ss)), (95, iv (iN (Uq sA q.n.ss).length)), (96, iv (iN q.i)), (142, iv q.s.k), (143, iv (i64.wrap (iN q.k + 1)))] [some (Blk.mk [Af q.n] 8 true true none), some (Blk.mk [] 0 true true (some (q.l, q.c))), some (Blk.mk [] 0 true true (some (BP (TypeDesc.int i64) (Value.int i64 q.base) (Value.bool true) q.l2 q.c2, CM (TypeDesc.int i64) (Value.int i64 q.base) q.l2 q.c2))), some (Blk.mk [sA q.s] 6 true true none)]) -> R st) : GoP Ux (hU [289, 293] (Bz q) (AP q)) 0 (zC (zC (zB Try.f93) 1) 0) (Ef q) (andThen R post) :=
 zN (σ:=[0,1,2,3]) (fz:=[]) (vars:=[1,3,6,7,9,94,95,96,142,143]) (by kernel_rfl) (aj (aj (al t3) (aj h1 (aj (u2 s2) (aj h2 (aj (u2 (u2 (al (k2 h3)))) (aj (u2 (u2 s2)) (al (u2 s2)))))))) (ak (k5 t9))) hR
theorem mvt_1(q:AG)(h1:(decide (iN q.k<q.s.k)=true))(h2:(q.s.dep=false)){post:Exit->St->Prop}{R:St->Prop}(hR:∀st,Ren 0 st (St.mk 185 [(1,AV.ptr 0 0 0),(3,AV.map 1),(6,iv (i64.wrap (q.base+1))),(7,AV.map 2),(9,AV.ptr 3 0 0),(94,Uw (Uq sA q.n.ss)),(95,iv (iN (Uq sA q.n.ss).length)),(96,iv (iN q.i)),(142,iv q.s.k),(143,iv (i64.wrap (iN q.k+1)))] [some (Blk.mk [Af q.n] 8 true true none),some (Blk.mk [] 0 true true (some (q.l,q.c))),some (Blk.mk [] 0 true true (some (q.l2,q.c2))),some (Blk.mk [sA q.s] 6 true true none)])->R st):GoP Ux (hU [289,292] (Bz q) (AP q)) 0 (zC (zC (zB Try.f93) 1) 0) (Ef q) (andThen R post):=zN (σ:=[0,1,2,3]) (fz:=[]) (vars:=[1,3,6,7,9,94,95,96,142,143]) (by kernel_rfl) (aj (aj (al t3) (aj h1 (aj (u2 s2) (aj h2 (aj (u2 (u2 s2)) (al (u2 s2))))))) (ak (k5 t9))) hR
theorem mvr_0 (q : AG) (h1 : (decide (iN q.i < iN (Uq iv q.n.rs).length) = true)) (h2 : (0 <= iN q.i)) (h3 : ((Uq iv q.n.rs)[(iN q.i).toNat]? = some (iv q.x))) (h4 : (q.ok = true)) (h5 : (∀ (x : MapEntry), x ∈ q.l2 -> A9 (TypeInfo.mk (TypeDesc.int i64) "int" 1 8 false 8 8 (some (Value.int i64 0)) true #[]).desc x.key = true /\ BS MK.b x.val)) {post : Exit -> St -> Prop} {R : St -> Prop} (hR : ∀ st, Ren 0 st (St.mk 185 [(7, AV.map 0), (10, AV.bool (F2 (TypeDesc.int i64) (Value.int i64 q.x) q.l2)), (169, Uw (Uq iv q.n.rs)), (170, iv (iN (Uq iv q.n.rs).length)), (171, iv (i64.wrap (iN q.i + 1)))] [some (Blk.mk [] 0 true true (some (CL (TypeDesc.int i64) (Value.int i64 q.x) q.l2, q.c2)))]) -> R st) : GoP Ux (hU [345, 353] (Bz q) (AP q)) 0 (zC (zB Try.f93) 2) (FT q) (andThen R post) :=
 zN (σ:=[0]) (fz:=[]) (vars:=[7,10,169,170,171]) (by kernel_rfl) (aj (aj (al t3) (aj h1 (aj (aj (k2 (aj h2 h3)) (u2 s2)) (aj (u2 (u2 (ag h4 (ag h4 (aj (aj h4 (k2 h5)) (ag h4 s2)))))) (aj (u2 (u2 (al (k2 h5)))) (al (u2 s2))))))) t7) hR
theorem mvr_1 (q : AG) (h1 : (decide (iN q.i < iN (Uq iv q.n.rs).length) = true)) (h2 : (0 <= iN q.i)) (h3 : ((Uq iv q.n.rs)[(iN q.i).toNat]? = some (iv q.x))) (h4 : (q.ok = false)) (h5 : (∀ (x : MapEntry), x ∈ q.l2 -> A9 (TypeInfo.mk (TypeDesc.int i64) "int" 1 8 false 8 8 (some (Value.int i64 0)) true #[]).desc x.key = true /\ BS MK.b x.val)) {post : Exit -> St -> Prop} {R : St -> Prop} (hR : ∀ st, Ren 0 st (St.mk 185 [(7, AV.map 0), (10, AV.bool false), (169, Uw (Uq iv q.n.rs)), (170, iv (iN (Uq iv q.n.rs).length)), (171, iv (i64.wrap (iN q.i + 1)))] [some (Blk.mk [] 0 true true (some (CL (TypeDesc.int i64) (Value.int i64 q.x) q.l2, q.c2)))]) -> R st) : GoP Ux (hU [345, 352] (Bz q) (AP q)) 0 (zC (zB Try.f93) 2) (FT q) (andThen R post) :=
 zN (σ:=[0]) (fz:=[]) (vars:=[7,10,169,170,171]) (by kernel_rfl) (aj (aj (al t3) (aj h1 (aj (aj (k2 (aj h2 h3)) (u2 s2)) (aj (u2 (u2 (aj h4 (aj h4 (aj h4 (ag h4 s2)))))) (aj (u2 (u2 (al (k2 h5)))) (al (u2 s2))))))) t7) hR
theorem mvr_2(q:AG)(h1:(decide (iN q.i<iN (Uq iv q.n.rs).length)=false)):GoO Ux (hU [344] (Bz q) (AP q)) 0 (zC (zB Try.f93) 2) (zK (zB Try.f93) 2) (FT q) (Fin Ux Try.f93 0 [] (AV.bool q.ok)):=zF (σ:=[]) (fz:=[]) (by kernel_rfl) (aj (aj (aj (al t3) (al h1)) (al (u2 s2))) t2)
def qM0:AG:=⟨⟨[],[],[],[],0,0,0,0⟩,[],0,[],0,⟨⟨#[]⟩,0,0⟩,⟨⟨#[]⟩,false,0,0,0,0⟩,[],0,0,0,false,0,0,0,false,⟨#[]⟩⟩
def A7(n:Ab):AG:={qM0 with n:=n}
def qS(s:ByteArray)(i:Nat):AG:={qM0 with nb:=s,i:=i}
theorem D7(x y z:Int):CT Ux 127 [] [.int .i64 x,.int .i64 y,.int .i64 z] [] (.bool (Aw x y z)):=by unfold Aw;exact wit_ct x y z
theorem rname_ct(s:ByteArray):CT Ux 140 [] [.str s] [] (.bool (nmB s)):=by
 have hb:Try.f140.body=some (zB Try.f140):=by kernel_rfl
 have hn:[AV.str s].length<=Try.f140.ntmps:=nL rfl;have hle:=Ph (bAt s 0);unfold nmB;cases h1:s.toList==(ByteArray.mk #[]).toList
 case true=>exact CT.pathS mix Try.func140 hb hn (rni_0 (qS s 0) h1) (by simp)
 have h0:=N4 h1;cases h2:decide (12<iN s.size)
 case true=>exact CT.pathS mix Try.func140 hb hn (rni_1 (qS s 0) h1 h2) (by simp)
 cases h3:AQ (bAt s 0)
 case false=>exact CT.pathS mix Try.func140 hb hn (rni_2 (qS s 0) h1 h2 (by simpa [iN,qS] using h0) hle (by simp only[qS];exact congrArg not h3)) (by simp)
 refine CT.path mix Try.func140 hb hn (rni_3 (qS s 0) h1 h2 (by simpa [iN,qS] using h0) hle (by simp only[qS];exact congrArg not h3) ?_);simp only[Tp,Bool.true_and];have h12:s.size<=12:=by have:=of_decide_eq_false h2;simp only[iN] at this;omega
 generalize hrr:fnd (fun i=> !(okB (bAt s i))) 0 s.size=res;refine T.loop (fun i:Nat=>C8 (qS s i)) (fun i=>i<=s.size/\fnd (fun i=> !(okB (bAt s i))) i (s.size-i)=res) (fun i=>s.size+1-i) 0 ⟨TG _,hrr⟩ ?_
 rintro i ⟨hi,hf⟩
 by_cases h:i<s.size
 .rw[CS h] at hf;have dk:decide (iN i<iN s.size)=true:=TA (by simp only[iN];omega);have k0:(0:Int)<=iN i/\iN i<iN s.size:=by simp only[iN];omega
  have k1:(0:Int)<=iN i:=by simp[iN]
  have k2:=k0.2;have hci:=Ph (bAt s i);have wi:i64.wrap (iN i+1)=((i+1:Nat):Int):=zW i (by omega);have next:okB (bAt s i)=true->∀st,Ren 0 st (C8 (qS s (i+1)))->∃j,Ren 0 st (C8 (qS s j))/\(j<=s.size/\fnd (fun i=> !(okB (bAt s i))) j (s.size-j)=res)/\s.size+1-j<s.size+1-i:=by intro hb st hst;simp only[hb,Bool.not_true] at hf;exact⟨i+1,hst,⟨h,hf⟩,by omega⟩
  have stop:okB (bAt s i)=false->res=some i:=by intro hb;simp only[hb,Tp] at hf;exact hf.symm
  cases t1:(!AQ (bAt (qS s i).nb (iN (qS s i).i).toNat))
  case false=>exact T.path mix (rnl_7 (qS s i) dk (by assumption) (by assumption) (by assumption) t1 (fun st hst=>by simp only[qS,wi] at hst;refine next ?_ st hst;clear hf hrr next stop hst;simp only[qS,iN,TD] at *;unfold okB;grind))
  case true=>
   cases t2:decide (bAt (qS s i).nb (iN (qS s i).i).toNat<48)
   case false=>
    cases t3:decide (57<bAt (qS s i).nb (iN (qS s i).i).toNat)
    case false=>exact T.path mix (rnl_6 (qS s i) dk (by assumption) (by assumption) (by assumption) t1 t2 t3 (fun st hst=>by simp only[qS,wi] at hst;refine next ?_ st hst;clear hf hrr next stop hst;simp only[qS,iN,TD] at *;unfold okB;grind))
    case true=>
     cases t4:(bAt (qS s i).nb (iN (qS s i).i).toNat != 45)
     case false=>exact T.path mix (rnl_5 (qS s i) dk (by assumption) (by assumption) (by assumption) t1 t2 t3 t4 (fun st hst=>by simp only[qS,wi] at hst;refine next ?_ st hst;clear hf hrr next stop hst;simp only[qS,iN,TD] at *;unfold okB;grind))
     case true=>
      cases t5:(bAt (qS s i).nb (iN (qS s i).i).toNat != 95)
      case false=>exact T.path mix (rnl_4 (qS s i) dk (by assumption) (by assumption) (by assumption) t1 t2 t3 t4 t5 (fun st hst=>by simp only[qS,wi] at hst;refine next ?_ st hst;clear hf hrr next stop hst;simp only[qS,iN,TD] at *;unfold okB;grind))
      case true=>rw[stop (by clear hf hrr next;simp only[qS,iN,TD] at *;unfold okB;grind)];exact T.out mix (rnl_3 (qS s i) dk (by assumption) (by assumption) (by assumption) t1 t2 t3 t4 t5)
   case true=>
    cases t6:(bAt (qS s i).nb (iN (qS s i).i).toNat != 45)
    case false=>exact T.path mix (rnl_2 (qS s i) dk (by assumption) (by assumption) (by assumption) t1 t2 t6 (fun st hst=>by simp only[qS,wi] at hst;refine next ?_ st hst;clear hf hrr next stop hst;simp only[qS,iN,TD] at *;unfold okB;grind))
    case true=>
     cases t7:(bAt (qS s i).nb (iN (qS s i).i).toNat != 95)
     case false=>exact T.path mix (rnl_1 (qS s i) dk (by assumption) (by assumption) (by assumption) t1 t2 t6 t7 (fun st hst=>by simp only[qS,wi] at hst;refine next ?_ st hst;clear hf hrr next stop hst;simp only[qS,iN,TD] at *;unfold okB;grind))
     case true=>rw[stop (by clear hf hrr next;simp only[qS,iN,TD] at *;unfold okB;grind)];exact T.out mix (rnl_0 (qS s i) dk (by assumption) (by assumption) (by assumption) t1 t2 t6 t7)
 .rw[C0 h] at hf;subst hf;exact T.out mix (rnl_8 (qS s i) (Tz (by simp only[qS,iN];omega)))
theorem vcfg_ct(n:Ab):CT Ux 128 [] [.agg [.int .i64 n.q,.int .i64 n.a,.int .i64 n.d,.int .i64 n.p]] [] (.bool (Bc n)):=by
 have hb:Try.f128.body=some (zB Try.f128):=by kernel_rfl
 have hn:[AV.agg [.int .i64 n.q,.int .i64 n.a,.int .i64 n.d,.int .i64 n.p]].length<=Try.f128.ntmps:=nL rfl;have w1:=D7 n.q 1 8;have w2:=D7 n.a 0 4;have w3:=D7 n.d 0 3;have w4:=D7 n.p 1 16;cases t8:Aw (A7 n).n.q 1 8
 case false=>exact CT.pathS mix Try.func128 hb hn (mvc_3 (A7 n) (by first | assumption | (simp[iN])) t8) (by simp only[A7] at *;unfold Bc;grind)
 case true=>
  cases t9:Aw (A7 n).n.a 0 4
  case false=>exact CT.pathS mix Try.func128 hb hn (mvc_2 (A7 n) (by first | assumption | (simp[iN])) t8 (by first | assumption | (simp[iN])) t9) (by simp only[A7] at *;unfold Bc;grind)
  case true=>
   cases t10:Aw (A7 n).n.d 0 3
   case false=>exact CT.pathS mix Try.func128 hb hn (mvc_1 (A7 n) (by first | assumption | (simp[iN])) t8 (by first | assumption | (simp[iN])) t9 (by first | assumption | (simp[iN])) t10) (by simp only[A7] at *;unfold Bc;grind)
   case true=>exact CT.pathS mix Try.func128 hb hn (mvc_0 (A7 n) (by first | assumption | (simp[iN])) t8 (by first | assumption | (simp[iN])) t9 (by first | assumption | (simp[iN])) t10 (by first | assumption | (simp[iN]))) (by simp only[A7] at *;unfold Bc;grind)
theorem rcfg_ct(n:Ab):CT Ux 115 [] [.agg [.int .i64 n.q,.int .i64 n.a,.int .i64 n.d,.int .i64 n.p]] [] (.bool (Bc n)):=by
 have hb:Try.f115.body=some (zB Try.f115):=by kernel_rfl
 have hn:[AV.agg [.int .i64 n.q,.int .i64 n.a,.int .i64 n.d,.int .i64 n.p]].length<=Try.f115.ntmps:=nL rfl;cases t11:decide (1<=(A7 n).n.q)
 case false=>exact CT.pathS mix Try.func115 hb hn (cg_7 (A7 n) t11) (by simp only[A7] at *;unfold Bc Aw;grind)
 case true=>
  cases t12:decide ((A7 n).n.q<=8)
  case false=>exact CT.pathS mix Try.func115 hb hn (cg_6 (A7 n) t11 t12) (by simp only[A7] at *;unfold Bc Aw;grind)
  case true=>
   cases t13:decide (0<=(A7 n).n.a)
   case false=>exact CT.pathS mix Try.func115 hb hn (cg_5 (A7 n) t11 t12 t13) (by simp only[A7] at *;unfold Bc Aw;grind)
   case true=>
    cases t14:decide ((A7 n).n.a<=4)
    case false=>exact CT.pathS mix Try.func115 hb hn (cg_4 (A7 n) t11 t12 t13 t14) (by simp only[A7] at *;unfold Bc Aw;grind)
    case true=>
     cases t15:decide (0<=(A7 n).n.d)
     case false=>exact CT.pathS mix Try.func115 hb hn (cg_3 (A7 n) t11 t12 t13 t14 t15) (by simp only[A7] at *;unfold Bc Aw;grind)
     case true=>
      cases t16:decide ((A7 n).n.d<=3)
      case false=>exact CT.pathS mix Try.func115 hb hn (cg_2 (A7 n) t11 t12 t13 t14 t15 t16) (by simp only[A7] at *;unfold Bc Aw;grind)
      case true=>
       cases t17:decide (1<=(A7 n).n.p)
       case false=>exact CT.pathS mix Try.func115 hb hn (cg_1 (A7 n) t11 t12 t13 t14 t15 t16 t17) (by simp only[A7] at *;unfold Bc Aw;grind)
       case true=>exact CT.pathS mix Try.func115 hb hn (cg_0 (A7 n) t11 t12 t13 t14 t15 t16 t17) (by simp only[A7] at *;unfold Bc Aw;grind)
def qR(r:List Int)(x y z:Int)(i:Nat)(k:Int):AG:={qM0 with r:=r,x:=x,y:=y,z:=z,i:=i,base:=k}
theorem vnext_ct(r:List Int)(x y:Int)(hr63:r.length<=9223372036854775807):CT Ux 130 [] [lI r,.int .i64 x,.int .i64 y] [] (.bool (nxB r x y)):=by
 have hb:Try.f130.body=some (zB Try.f130):=by kernel_rfl
 have hn:[lI r,.int .i64 x,.int .i64 y].length<=Try.f130.ntmps:=nL rfl;have hl:(r.map (AV.int .i64)).length=r.length:=by simp
 unfold nxB;refine CT.path mix Try.func130 hb hn (vni_0 (qR r x y 0 0 0) ?_);generalize hrr:fnd (nxE r x y) 0 r.length=res;refine T.loop (fun i:Nat=>ER (qR r x y (BW r i) i 0)) (fun i=>i<=r.length/\fnd (nxE r x y) i (r.length-i)=res) (fun i=>r.length+1-i) 0 ⟨TG _,hrr⟩ ?_
 rintro i ⟨hi,hf⟩
 by_cases h:i<r.length
 .rw[CS h] at hf;have dk:decide (iN i<iN (r.map (AV.int .i64)).length)=true:=TA (by simp only[iN,hl];omega);have k1:(0:Int)<=iN i:=by simp[iN]
  have hg:=Bv h;have next:nxE r x y i=false->∀st,Ren 0 st (ER (qR r x y (BW r (i+1)) (i+1) 0))->∃j,Ren 0 st (ER (qR r x y (BW r j) j 0))/\(j<=r.length/\fnd (nxE r x y) j (r.length-j)=res)/\r.length+1-j<r.length+1-i:=by intro hb st hst;simp only[hb] at hf;exact⟨i+1,hst,⟨h,hf⟩,by omega⟩
  have stop:nxE r x y i=true->res=some i:=by intro hb;simp only[hb] at hf;exact hf.symm
  have wi:i64.wrap (iN i+1)=((i+1:Nat):Int):=zW i (by have:=hr63;omega);cases t18:decide ((qR r x y (BW r i) i (r.getD i 0)).base<=(qR r x y (BW r i) i (r.getD i 0)).z)
  case false=>
   cases t19:decide ((qR r x y (BW r i) i (r.getD i 0)).y<=(qR r x y (BW r i) i (r.getD i 0)).base)
   case false=>
    cases t20:((qR r x y (BW r i) i (r.getD i 0)).base==(qR r x y (BW r i) i (r.getD i 0)).x)
    case false=>exact T.path mix (vnl_3 (qR r x y (BW r i) i (r.getD i 0)) dk (by assumption) (by assumption) t18 t19 t20 (fun st hst=>by simp only[qR,wi] at hst;exact next (by simp only[qR,iN,TD] at *;unfold nxE;grind) st (by simp only[qR,RA];exact hst)))
    case true=>rw[stop (by simp only[qR,iN,TD] at *;unfold nxE;grind)];exact T.out mix (vnl_2 (qR r x y (BW r i) i (r.getD i 0)) dk (by assumption) (by assumption) t18 t19 t20)
   case true=>rw[stop (by simp only[qR,iN,TD] at *;unfold nxE;grind)];exact T.out mix (vnl_1 (qR r x y (BW r i) i (r.getD i 0)) dk (by assumption) (by assumption) t18 t19)
  case true=>rw[stop (by simp only[qR,iN,TD] at *;unfold nxE;grind)];exact T.out mix (vnl_0 (qR r x y (BW r i) i (r.getD i 0)) dk (by assumption) (by assumption) t18)
 .rw[C0 h] at hf;subst hf;rw[show (!(none:Option Nat).isSome&&decide (r.length<=4))=decide (iN (Uq iV r).length<=4) by simp[iN,hl];omega];exact T.out mix (vnl_4 (qR r x y (BW r i) i 0) (Tz (by simp only[qR,iN,hl];omega)))
def Bo(l:List MapEntry):List Value:=l.map (·.key)
theorem Gr(l:List MapEntry):(Bo l).length=l.length:=by simp[Bo]
theorem HX{l:List MapEntry}{k:Value}:k∈Bo l↔∃e∈l,e.key=k:=by simp[Bo]
theorem IG{d:TypeDesc}{mk:MK}{k:Value}{l:List MapEntry}(hk:A9 d k=true)(hl:CY d mk l):
  (Cf d k l=none/\k∉Bo l)\/∃j e,Cf d k l=some (j,e.val)/\l[j]?=some e/\e.key=k:=by
 rcases JW (ID hk) hl.keys with ⟨_,h2,h3⟩ | ⟨j,e,_,h2,h3,h4⟩
 .exact .inl ⟨h2,fun hm=>by obtain⟨e,he,hek⟩:=HX.1 hm;exact h3 e he hek⟩
 .exact .inr ⟨j,e,h2,h3,h4⟩
open Classical in
theorem Py{d:TypeDesc}{mk:MK}{k v:Value}{l:List MapEntry}{c:Nat}(hk:A9 d k=true)(hl:CY d mk l):
  Bo (BP d k v l c)=if k∈Bo l then Bo l else Bo l++[k]:=by
 unfold BP;rcases IG hk hl with ⟨h1,h2⟩ | ⟨j,e,h1,h2,h3⟩
 .rw[h1,Tt h2];simp[Bo]
 .rw[h1,Ts (HX.2 ⟨e,Ty h2,h3⟩)];simp only[Bo];apply List.ext_getElem?;intro i;simp only[TE,List.getElem?_modify];split
  .cases l[i]?<;>rfl
  .simp
theorem Ps{d:TypeDesc}{mk:MK}{k v:Value}{l:List MapEntry}{c:Nat}(hk:A9 d k=true)(hv:BS mk v)(hl:CY d mk l):CY d mk (BP d k v l c):=by
 unfold BP;rcases IG hk hl with ⟨h1,h2⟩ | ⟨j,e,h1,h2,h3⟩
 .rw[h1];intro x hx;simp only[T0,Tj] at hx;rcases hx with hx | rfl
  .exact hl x hx
  .exact⟨hk,hv⟩
 .rw[h1];intro x hx;simp only at hx;obtain⟨i,hi⟩:=List.mem_iff_getElem?.1 hx;rw[List.getElem?_modify] at hi;split at hi
  .cases hli:l[i]? with
   | none=>rw[hli] at hi;cases hi
   | some y=>rw[hli] at hi;simp at hi;subst hi;exact⟨(hl y (Ty hli)).1,hv⟩
  .exact hl x (Ty (by simpa using hi))
theorem vals_upd{d:TypeDesc}{mk:MK}{k v:Value}{l:List MapEntry}{c:Nat}{p:Value->Prop}(hk:A9 d k=true)(hl:CY d mk l)(hp:∀e∈l,p e.val)(hv:p v):∀e∈BP d k v l c,p e.val:=by
 unfold BP;rcases IG hk hl with ⟨h1,h2⟩ | ⟨j,e,h1,h2,h3⟩
 .rw[h1];intro x hx;simp only[T0,Tj] at hx;rcases hx with hx | rfl
  .exact hp x hx
  .exact hv
 .rw[h1];intro x hx;simp only at hx;obtain⟨i,hi⟩:=List.mem_iff_getElem?.1 hx;rw[List.getElem?_modify] at hi;split at hi
  .cases hli:l[i]? with
   | none=>rw[hli] at hi;cases hi
   | some y=>rw[hli] at hi;simp at hi;subst hi;exact hv
  .exact hp x (Ty (by simpa using hi))
structure DF(xs:List ByteArray)(l:List MapEntry):Prop where
 ok:CY .string (.i .i64) l
 key:∀x,Value.string x∈Bo l↔x∈xs
 le:l.length<=xs.length
 iff:l.length=xs.length↔xs.Nodup
theorem DF.nil:DF [] []:=⟨fun x hx=>(by cases hx),fun x=>(by simp[Bo]),TF _,(by simp)⟩
theorem DF.step{xs:List ByteArray}{l:List MapEntry}{c:Nat}{x:ByteArray}{n:Int}(h:DF xs l):DF (xs++[x]) (BP .string (.string x) (.int .i64 n) l c):=by
 have hk:A9 .string (.string x)=true:=rfl;have hku:=Py (v:=.int .i64 n) (c:=c) hk h.ok;have hlen:=Gr (BP .string (.string x) (.int .i64 n) l c);rw[hku] at hlen;refine⟨Ps hk rfl h.ok,fun y=>?_,?_,?_⟩
 .rw[hku];by_cases hx:Value.string x∈Bo l
  .rw[Ts hx,h.key];simp only[T0,Tj];exact⟨.inl,fun hy=>hy.elim id fun e=>by subst e;exact(h.key y).1 hx⟩
  .rw[Tt hx];simp only[T0,Tj,h.key];constructor
   .rintro(a | a)
    .exact .inl a
    .cases a;exact .inr rfl
   .rintro(a | rfl)
    .exact .inl a
    .exact .inr rfl
 .have:=h.le;by_cases hx:Value.string x∈Bo l
  .rw[Ts hx,Gr] at hlen;simp;omega
  .rw[Tt hx] at hlen;simp[Gr] at hlen;simp;omega
 .have hle:=h.le;by_cases hx:Value.string x∈Bo l
  .rw[Ts hx,Gr] at hlen;have hxx:=(h.key x).1 hx;constructor
   .intro he;simp at he;omega
   .intro hn;rw[List.nodup_append] at hn;exact absurd rfl (hn.2.2 x hxx x (by simp))
  .rw[Tt hx] at hlen;simp[Gr] at hlen;have hxx:x∉xs:=fun hh=>hx ((h.key x).2 hh)
   have:=h.iff;simp only[TQ,T9,List.nodup_append];constructor
   .intro he;refine⟨this.1 (by omega),by simp,fun a ha b hb=>?_⟩;simp at hb;subst hb;intro e;subst e;exact hxx ha
   .intro hn;have:=this.2 hn.1;omega
structure Bt(S:Int->Prop)(l:List MapEntry):Prop where
 ok:CY (.int .i64) .b l
 key:∀x,Value.int .i64 x∈Bo l↔S x
 nd:(Bo l).Nodup
 tru:∀e∈l,e.val = .bool true
theorem Bt.nil:Bt (fun _=>False) []:=⟨fun x hx=>(by cases hx),fun x=>(by simp[Bo]),(by simp[Bo]),fun e he=>(by cases he)⟩
theorem Bt.congr{S S':Int->Prop}{l:List MapEntry}(h:Bt S l)(hs:∀x,S x↔S' x):Bt S' l:=⟨h.ok,fun x=>(h.key x).trans (hs x),h.nd,h.tru⟩
theorem H6(x:Int):A9 (.int .i64) (.int .i64 x)=true:=rfl
theorem Bt.put{S:Int->Prop}{l:List MapEntry}{c:Nat}{x:Int}(h:Bt S l):Bt (fun y=>S y\/y=x) (BP (.int .i64) (.int .i64 x) (.bool true) l c):=by
 have hku:=Py (v:=.bool true) (c:=c) (H6 x) h.ok;refine⟨Ps (H6 x) trivial h.ok,fun y=>?_,?_,vals_upd (p:=fun v=>v = .bool true) (H6 x) h.ok h.tru rfl⟩
 .rw[hku];by_cases hx:Value.int .i64 x∈Bo l
  .rw[Ts hx,h.key];exact⟨.inl,fun hy=>hy.elim id fun e=>by subst e;exact(h.key y).1 hx⟩
  .rw[Tt hx];simp only[T0,Tj,h.key,Value.int.injEq,true_and]
 .rw[hku];by_cases hx:Value.int .i64 x∈Bo l
  .rw[Ts hx];exact h.nd
  .rw[Tt hx,List.nodup_append];refine⟨h.nd,by simp,fun a ha b hb=>?_⟩;simp at hb;subst hb;intro e;subst e;exact hx ha
open Classical in
theorem Bt.get{S:Int->Prop}{l:List MapEntry}(h:Bt S l)(x:Int):F2 (.int .i64) (.int .i64 x) l=decide (S x):=by
 unfold F2;rcases IG (H6 x) h.ok with ⟨h1,h2⟩ | ⟨j,e,h1,h2,h3⟩
 .rw[h1];exact(Tz fun hs=>h2 ((h.key x).2 hs)).symm
 .have hm:=Ty h2;rw[h1,h.tru e hm];exact(TA ((h.key x).1 (HX.2 ⟨e,hm,h3⟩))).symm
theorem Bt.del{S:Int->Prop}{l:List MapEntry}{x:Int}(h:Bt S l):Bt (fun y=>S y/\y≠x) (CL (.int .i64) (.int .i64 x) l):=by
 unfold CL;rcases IG (H6 x) h.ok with ⟨h1,h2⟩ | ⟨j,e,h1,h2,h3⟩
 .rw[h1];exact h.congr fun y=>⟨fun hy=>⟨hy,fun e=>by subst e;exact h2 ((h.key y).2 hy)⟩,(·.1)⟩
 .rw[h1];simp only;have hj:=(Tw.1 h2).1;have hkj:(Bo l)[j]'(by rw[Gr];exact hj) = .int .i64 x:=by have:=(Tw.1 h2).2;simp[Bo,this,h3]
  have hke:Bo (l.eraseIdx j)=(Bo l).eraseIdx j:=by simp only[Bo,List.eraseIdx_eq_take_drop_succ,TH,List.map_take,List.map_drop]
  have hsub:List.Sublist (l.eraseIdx j) l:=List.eraseIdx_sublist l j;refine⟨fun y hy=>h.ok y (hsub.subset hy),fun y=>?_,?_,fun y hy=>h.tru y (hsub.subset hy)⟩
  .rw[hke,<-h.key];rw[List.mem_eraseIdx_iff_getElem];constructor
   .rintro⟨i,hi,hij,hiy⟩
    refine⟨hiy ▸ T2 _,fun e=>?_⟩;subst e;apply hij;exact(List.getElem_inj h.nd).1 (hiy.trans hkj.symm)
   .rintro⟨hy,hne⟩
    obtain⟨i,hi,hiy⟩:=T7.1 hy;refine⟨i,hi,fun e=>?_,hiy⟩;subst e;rw[hiy] at hkj;simp at hkj;exact hne hkj
  .rw[hke];exact h.nd.sublist (List.eraseIdx_sublist _ _)
theorem Bt.pos{S:Int->Prop}{l:List MapEntry}(h:Bt S l):0<l.length↔∃x,S x:=by
 constructor
 .intro hp;have hm:=T2 (l:=l) (n:=0) hp;have hk:=(h.ok _ hm).1;cases hkv:l[0].key with
  | int k n=>rw[hkv] at hk;simp[A9] at hk;subst hk;exact⟨n,(h.key n).1 (HX.2 ⟨_,hm,hkv⟩)⟩
  | _=>rw[hkv] at hk;simp[A9] at hk
 .rintro⟨x,hx⟩
  obtain⟨e,he,_⟩:=HX.1 ((h.key x).2 hx);exact Uo he
structure GZ(n:Ab)(i:Nat)(b:AO):Prop where
 nm:nmB b.nm=true
 x:Aw b.x (-9999) 9999=true
 y:Aw b.y (-9999) 9999=true
 nx:nxB (n.nx.getD i []) i n.bs.length=true
def AA(n:Ab)(i:Nat):Int:=n.bs.length+((n.ss.take i).map (·.k)).sum
structure Dz(n:Ab)(i:Nat)(s:Am):Prop where
 nm:nmB s.nm=true
 hi:Aw s.i 0 ((n.bs.length:Int)-1)=true
 ho:Aw s.o 0 ((n.bs.length:Int)-1)=true
 hk:Aw s.k 1 4=true
 hb:s.b=AA n i
def A3(n:Ab)(i:Nat)(x:Int):Prop:=∃s∈n.ss.take i,s.dep=true/\s.b<=x/\x<s.b+s.k
structure Ax(n:Ab):Prop where
 nb:Aw n.bs.length 1 24=true
 nx:n.nx.length=n.bs.length
 ns:n.ss.length<=6
 nr:n.rs.length<=8
 cfg:Bc n=true
 blk:∀i b,n.bs[i]?=some b->GZ n i b
 spu:∀i s,n.ss[i]?=some s->Dz n i s
 nod:(B0 n).Nodup
 dep:∃x,A3 n n.ss.length x
 rob:∀i c,n.rs[i]?=some c->A3 n n.ss.length c/\c∉n.rs.take i
open Classical in
def A8(n:Ab):Bool:=decide (Ax n)
theorem Cr{n:Ab}(h:¬Ax n):A8 n=false:=by unfold A8;exact @Tz _ (Classical.propDecidable _) h
theorem CF{n:Ab}:A8 n=true↔Ax n:=by unfold A8;exact @decide_eq_true_iff _ (Classical.propDecidable _)
theorem Dk{n:Ab}{i:Nat}{s:Am}(h:n.ss[i]?=some s):AA n (i+1)=AA n i+s.k:=by unfold AA;simp[List.take_add_one,h,List.sum_append];omega
theorem Ol{n:Ab}{i:Nat}{s:Am}(h:n.ss[i]?=some s)(x:Int):A3 n (i+1) x↔A3 n i x\/(s.dep=true/\s.b<=x/\x<s.b+s.k):=by
 unfold A3;simp only[List.take_add_one,h,Option.toList_some,T0,Tj];constructor
 .rintro⟨t,ht | rfl,h1⟩
  .exact .inl ⟨t,ht,h1⟩
  .exact .inr h1
 .rintro(⟨t,ht,h1⟩ | h1)
  .exact⟨t,.inl ht,h1⟩
  .exact⟨s,.inr rfl,h1⟩
theorem KP{l:List AO}{i:Nat}{b:AO}(h:l[i]?=some b):(l.map bA)[i]?=some (.agg [.str b.nm,.int .i64 b.x,.int .i64 b.y]):=by rw[TE,h];rfl
theorem CZ{l:List Am}{i:Nat}{s:Am}(h:l[i]?=some s):(l.map sA)[i]?=some (.agg [.str s.nm,.bool s.dep,.int .i64 s.i,.int .i64 s.o,.int .i64 s.k,.int .i64 s.b]):=by rw[TE,h];rfl
def qV(n:Ab)(l:List MapEntry)(c:Nat)(l2:List MapEntry)(c2:Nat)(b:AO)(s:Am)(r:List Int)(i:Nat)(base:Int)(k:Nat)(ok:Bool)(x:Int):AG:=⟨n,l,c,l2,c2,b,s,r,i,base,k,ok,x,0,0,false,⟨#[]⟩⟩
def b0:AO:=⟨⟨#[]⟩,0,0⟩
def s0:Am:=⟨⟨#[]⟩,false,0,0,0,0⟩
structure MP where
 i:Nat
 l:List MapEntry
 c:Nat
 l2:List MapEntry
 c2:Nat
 k:Nat
 ok:Bool
open Classical in
theorem NW{n:Ab}(hnr:n.rs.length<=8){l2:List MapEntry}{c2:Nat}(hset:Bt (A3 n n.ss.length) l2)(ok:Bool):
  T Ux 0 (.loop (zC (zB Try.f93) 2)) (FT (qV n [] 0 l2 c2 b0 s0 [] 0 0 0 ok 0)) (TK Ux 0 (Fin Ux Try.f93 0 [] (.bool (ok&&decide (∀i c,n.rs[i]?=some c->A3 n n.ss.length c/\c∉n.rs.take i)))) (zK (zB Try.f93) 2)):=by
 have hl:(n.rs.map (AV.int .i64)).length=n.rs.length:=by simp
 refine T.loop (fun p:MP=>FT (qV n [] 0 p.l2 p.c2 b0 s0 [] p.i 0 0 p.ok 0)) (fun p=>p.i<=n.rs.length/\Bt (fun x=>A3 n n.ss.length x/\x∉n.rs.take p.i) p.l2/\p.ok=(ok&&decide (∀i c,i<p.i->n.rs[i]?=some c->A3 n n.ss.length c/\c∉n.rs.take i)))
  (fun p=>n.rs.length+1-p.i) ⟨0,[],0,l2,c2,0,ok⟩ ⟨TG _,hset.congr fun x=>by simp,by simp⟩ ?_
 rintro⟨i,l,c,l2,c2,k,ok'⟩ ⟨hi,hs,hok⟩
 simp only at hi hs hok
 by_cases h:i<n.rs.length
 .obtain⟨x,hx⟩:∃x,n.rs[i]?=some x:=⟨_,Tu h⟩
  have hg:(n.rs.map (AV.int .i64))[i]?=some (.int .i64 x):=by rw[TE,hx];rfl
  have dk:decide (iN i<iN (n.rs.map (AV.int .i64)).length)=true:=TA (by simp only[iN,hl];omega)
  have k1:(0:Int)<=iN i:=by simp[iN]
  have hm : ∀ (x : MapEntry), x ∈ l2 -> A9 (TypeInfo.mk (TypeDesc.int i64) "int" 1 8 false 8 8 (some (Value.int i64 0)) true #[]).desc x.key = true /\ BS MK.b x.val := hs.ok
  have wi:i64.wrap (iN i+1)=((i+1:Nat):Int):=zW i (by omega)
  have hgt:=hs.get x
  have hset':Bt (fun y=>A3 n n.ss.length y/\y∉n.rs.take (i+1)) (CL (.int .i64) (.int .i64 x) l2):=hs.del.congr fun y=>by
   simp only[List.take_add_one,hx,Option.toList_some,T0,Tj,not_or,and_assoc]
  have hstep:∀b:Bool,b=(ok&&decide (∀i_1 c,i_1<i->n.rs[i_1]?=some c->A3 n n.ss.length c/\c∉n.rs.take i_1))->
    (b&&decide (A3 n n.ss.length x/\x∉n.rs.take i))=(ok&&decide (∀i_1 c,i_1<i+1->n.rs[i_1]?=some c->A3 n n.ss.length c/\c∉n.rs.take i_1)):=by
   intro b hb
   rw[hb,Bool.and_assoc]
   congr 1
   rw[<-Bool.decide_and]
   apply decide_eq_decide.2
   constructor
   .rintro⟨h1,h2⟩ j y hj hy
    by_cases e:j=i
    .subst e;rw[hx] at hy;cases hy;exact h2
    .exact h1 j y (by omega) hy
   .intro hh
    exact⟨fun j y hj hy=>hh j y (by omega) hy,hh i x (by omega) hx⟩
  have next:∀b,b=(ok&&decide (∀i_1 c,i_1<i+1->n.rs[i_1]?=some c->A3 n n.ss.length c/\c∉n.rs.take i_1))->∀st,Ren 0 st (FT (qV n [] 0 (CL (.int .i64) (.int .i64 x) l2) c2 b0 s0 [] (i+1) 0 0 b 0))->
    ∃j,Ren 0 st ((fun p:MP=>FT (qV n [] 0 p.l2 p.c2 b0 s0 [] p.i 0 0 p.ok 0)) j)/\((fun p:MP=>p.i<=n.rs.length/\Bt (fun x=>A3 n n.ss.length x/\x∉n.rs.take p.i) p.l2/\p.ok=(ok&&decide (∀i c,i<p.i->n.rs[i]?=some c->A3 n n.ss.length c/\c∉n.rs.take i))) j)/\n.rs.length+1-j.i<n.rs.length+1-i:=by
   intro b hb st hst
   exact⟨⟨i+1,[],0,_,c2,0,b⟩,hst,⟨h,hset',hb⟩,by simp only;omega⟩
  cases hb:ok'
  case true=>
   refine T.path mix (mvr_0 (qV n [] 0 l2 c2 b0 s0 [] i 0 0 true x) dk k1 hg rfl hm ?_)
   intro st hst
   simp only[qV,wi,hgt] at hst
   exact next _ (by rw[<-hstep ok' hok,hb,Bool.true_and];exact decide_eq_decide.2 Iff.rfl) st hst
  case false=>
   refine T.path mix (mvr_1 (qV n [] 0 l2 c2 b0 s0 [] i 0 0 false x) dk k1 hg rfl hm ?_)
   intro st hst
   simp only[qV,wi] at hst
   exact next false (by rw[<-hstep ok' hok,hb,Bool.false_and]) st hst
 .have hin:i=n.rs.length:=by omega
  have e:ok'=(ok&&decide (∀i c,n.rs[i]?=some c->A3 n n.ss.length c/\c∉n.rs.take i)):=by
   rw[hok]
   congr 1
   apply decide_eq_decide.2
   constructor
   .intro hh j y hy;exact hh j y (by have:=(Tw.1 hy).1;omega) hy
   .intro hh j y _ hy;exact hh j y hy
  rw[<-e]
  exact T.out mix (mvr_2 (qV n [] 0 l2 c2 b0 s0 [] i 0 0 ok' 0) (Tz (by simp only[qV,iN,hl];omega)))
theorem Bi{x y z:Int}:Aw x y z=true↔y<=x/\x<=z:=by unfold Aw;simp
theorem baseN_bd{n:Ab}(hns:n.ss.length<=6){i:Nat}(hg:∀j s,j<i->n.ss[j]?=some s->Dz n j s)(hb:n.bs.length<=24):(n.bs.length:Int)<=AA n i/\AA n i<=n.bs.length+4 * i:=by
 induction i with
 | zero=>simp[AA]
 | succ i ih=>
  obtain⟨h1,h2⟩:=ih fun j s hj hs=>hg j s (by omega) hs
  cases hs:n.ss[i]? with
  | some s=>rw[Dk hs];have:=Bi.1 (hg i s (by omega) hs).hk;omega
  | none=>
   have:AA n (i+1)=AA n i:=by unfold AA;simp[List.take_add_one,hs]
   rw[this];omega
theorem mvt_run{n:Ab}{i:Nat}(hi:i<=6){l:List MapEntry}{c:Nat}{s:Am}(hs:n.ss[i]?=some s)(hk:1<=s.k/\s.k<=4)(hb:0<=s.b/\s.b<=1000){l2:List MapEntry}{c2:Nat}(hset:Bt (A3 n i) l2)
  {R:St->Prop} {post:Exit->St->Prop}
  (hR:∀l2' c2',Bt (A3 n (i+1)) l2'->∀st,Ren 0 st (CX (qV n l c l2' c2' b0 s0 [] (i+1) (s.b+s.k) 0 false 0))->R st):
  T Ux 0 (.loop (zC (zC (zB Try.f93) 1) 0)) (Ef (qV n l c l2 c2 b0 s [] i s.b 0 false 0)) (TK Ux 0 (andThen R post) (zK (zC (zB Try.f93) 1) 0)):=by
 have e0:s.b=s.b+((0:Nat):Int):=by omega
 suffices hh:T Ux 0 (.loop (zC (zC (zB Try.f93) 1) 0)) (Ef (qV n l c l2 c2 b0 s [] i (s.b+((0:Nat):Int)) 0 false 0)) (TK Ux 0 (andThen R post) (zK (zC (zB Try.f93) 1) 0)) by
  rw[<-e0] at hh;exact hh
 refine T.loop (fun p:MP=>Ef (qV n l c p.l2 p.c2 b0 s [] i (s.b+(p.k:Int)) p.k false 0)) (fun p=>(p.k:Int)<=s.k/\Bt (fun x=>A3 n i x\/(s.dep=true/\s.b<=x/\x<s.b+(p.k:Int))) p.l2)
  (fun p=>(s.k+1-p.k).toNat) ⟨i,[],0,l2,c2,0,false⟩ ⟨by simp only;omega,hset.congr fun x=>⟨.inl,fun h=>h.elim id fun h=>by simp only at h;omega⟩⟩ ?_
 rintro⟨i',l',c',l2,c2,k,ok'⟩ ⟨hkk,hset⟩
 simp only at hkk hset
 have wb:i64.wrap (s.b+(k:Int)+1)=s.b+((k+1:Nat):Int):=by rw[A5 _ (by omega) (by omega)];omega
 have wk:i64.wrap (iN k+1)=((k+1:Nat):Int):=zW k (by omega)
 by_cases h:(k:Int)<s.k
 .have dk:decide (iN k<s.k)=true:=TA h
  have next:∀l2' c2',Bt (fun x=>A3 n i x\/(s.dep=true/\s.b<=x/\x<s.b+((k+1:Nat):Int))) l2'->∀st,Ren 0 st (Ef (qV n l c l2' c2' b0 s [] i (s.b+((k+1:Nat):Int)) (k+1) false 0))->
    ∃j,Ren 0 st ((fun p:MP=>Ef (qV n l c p.l2 p.c2 b0 s [] i (s.b+(p.k:Int)) p.k false 0)) j)/\((fun p:MP=>(p.k:Int)<=s.k/\Bt (fun x=>A3 n i x\/(s.dep=true/\s.b<=x/\x<s.b+(p.k:Int))) p.l2) j)/\(s.k+1-j.k).toNat<(s.k+1-k).toNat:=by
   intro l2' c2' hse st hst
   exact⟨⟨i',l',c',l2',c2',k+1,false⟩,hst,⟨by simp only;omega,hse⟩,by simp only;omega⟩
  rcases Bool.eq_false_or_eq_true s.dep with hd | hd
  .have hm : ∀ (x : MapEntry), x ∈ l2 -> A9 (TypeInfo.mk (TypeDesc.int i64) "int" 1 8 false 8 8 (some (Value.int i64 0)) true #[]).desc x.key = true /\ BS MK.b x.val := hset.ok
   refine T.path mix (mvt_0 (qV n l c l2 c2 b0 s [] i (s.b+(k:Int)) k false 0) dk hd hm ?_)
   intro st hst
   simp only[qV,wb,wk] at hst
   refine next _ _ (hset.put.congr fun x=>?_) st hst
   simp only[hd,true_and]
   constructor
   .rintro((a | a) | a)
    .exact .inl a
    .exact .inr (by omega)
    .exact .inr (by omega)
   .rintro(a | a)
    .exact .inl (.inl a)
    .by_cases e:x=s.b+(k:Int)
     .exact .inr e
     .exact .inl (.inr (by omega))
  .refine T.path mix (mvt_1 (qV n l c l2 c2 b0 s [] i (s.b+(k:Int)) k false 0) dk hd ?_)
   intro st hst
   simp only[qV,wb,wk] at hst
   refine next _ _ (hset.congr fun x=>?_) st hst
   simp only[hd]
   simp
 .have ek:(k:Int)=s.k:=by omega
  refine T.out mix (mvtx_0 (qV n l c l2 c2 b0 s [] i (s.b+(k:Int)) k false 0) (Tz h) ?_)
  intro st hst
  have wi:i64.wrap (iN i+1)=((i+1:Nat):Int):=zW i (by omega)
  simp only[qV,wi,ek] at hst
  refine hR l2 c2 (hset.congr fun x=>?_) st hst
  rw[Ol hs,ek]
theorem mvs_run{n:Ab}(hnb:1<=n.bs.length/\n.bs.length<=24)(hnx:n.nx.length=n.bs.length)(hns:n.ss.length<=6)(hnr:n.rs.length<=8)(hcfg:Bc n=true)(hblk:∀i b,n.bs[i]?=some b->GZ n i b)
  {l:List MapEntry} {c:Nat} (hnm:DF (n.bs.map (·.nm)) l):
  T Ux 0 (.loop (zC (zB Try.f93) 1)) (CX (qV n l c [] 0 b0 s0 [] 0 n.bs.length 0 false 0)) (TK Ux 0 (Fin Ux Try.f93 0 [] (.bool (A8 n))) (zK (zB Try.f93) 1)):=by
 have hl:(n.ss.map sA).length=n.ss.length:=by simp
 have hbl:(n.bs.map bA).length=n.bs.length:=by simp
 have wn1:i64.wrap (iN (n.bs.map bA).length-1)=(n.bs.length:Int)-1:=by rw[hbl];exact A5 _ (by simp only[iN];omega) (by simp only[iN];omega)
 have e0:(n.bs.length:Int)=AA n 0:=by simp[AA]
 suffices hh:T Ux 0 (.loop (zC (zB Try.f93) 1)) (CX (qV n l c [] 0 b0 s0 [] 0 (AA n 0) 0 false 0)) (TK Ux 0 (Fin Ux Try.f93 0 [] (.bool (A8 n))) (zK (zB Try.f93) 1)) by
  rw[<-e0] at hh;exact hh
 refine T.loop (fun p:MP=>CX (qV n p.l p.c p.l2 p.c2 b0 s0 [] p.i (AA n p.i) 0 false 0))
  (fun p=>p.i<=n.ss.length/\DF (n.bs.map (·.nm)++(n.ss.take p.i).map (·.nm)) p.l/\Bt (A3 n p.i) p.l2/\∀j s,j<p.i->n.ss[j]?=some s->Dz n j s)
  (fun p=>n.ss.length+1-p.i) ⟨0,l,c,[],0,0,false⟩ ⟨TG _,by simpa using hnm,Bt.nil.congr fun x=>by simp[A3],fun j s hj=>by simp at hj⟩ ?_
 rintro⟨i,l,c,l2,c2,k,ok⟩ ⟨hi,hn,hset,hgd⟩
 simp only at hi hn hset hgd
 by_cases h:i<n.ss.length
 .obtain⟨s,hs⟩:∃s,n.ss[i]?=some s:=⟨_,Tu h⟩
  have dk:decide (iN i<iN (n.ss.map sA).length)=true:=TA (by simp only[iN,hl];omega)
  have k1:(0:Int)<=iN i:=by simp[iN]
  have hg:=CZ hs
  have hm : ∀ (x : MapEntry), x ∈ l -> A9 (TypeInfo.mk TypeDesc.string "string" 1 16 true 8 8 (some (Value.string (ByteArray.mk #[]))) true #[]).desc x.key = true /\ BS (MK.i i64) x.val := hn.ok
  have c1:=Pz s.nm
  have c2':=D7 s.i 0 (i64.wrap (iN (n.bs.map bA).length-1))
  have c3:=D7 s.o 0 (i64.wrap (iN (n.bs.map bA).length-1))
  have c4:=D7 s.k 1 4
  have bad:¬Dz n i s->A8 n=false:=fun hb=>Cr fun hv=>hb (hv.spu i s hs)
  have gi:∀g:Dz n i s,Aw s.i 0 (i64.wrap (iN (n.bs.map bA).length-1))=true:=fun g=>by rw[wn1];exact g.hi
  have go:∀g:Dz n i s,Aw s.o 0 (i64.wrap (iN (n.bs.map bA).length-1))=true:=fun g=>by rw[wn1];exact g.ho
  have inner:Dz n i s->T Ux 0 (.loop (zC (zC (zB Try.f93) 1) 0)) (Ef (qV n (BP .string (.string s.nm) (.int .i64 (i64.wrap (Eb .string (.string s.nm) l+1))) l c) (CM .string (.string s.nm) l c) l2 c2 b0 s [] i (AA n i) 0 false 0))
    (TK Ux 0 (andThen (fun st'=>∃j,Ren 0 st' ((fun p:MP=>CX (qV n p.l p.c p.l2 p.c2 b0 s0 [] p.i (AA n p.i) 0 false 0)) j)/\((fun p:MP=>p.i<=n.ss.length/\DF (n.bs.map (·.nm)++(n.ss.take p.i).map (·.nm)) p.l/\Bt (A3 n p.i) p.l2/\∀j s,j<p.i->n.ss[j]?=some s->Dz n j s) j)/\n.ss.length+1-j.i<n.ss.length+1-i) (TK Ux 0 (Fin Ux Try.f93 0 [] (.bool (A8 n))) (zK (zB Try.f93) 1))) (zK (zC (zB Try.f93) 1) 0)):=by
   intro g
   have hbd:=baseN_bd hns hgd hnb.2
   rw[<-g.hb] at hbd ⊢
   refine mvt_run (by omega) hs (Bi.1 g.hk) (by omega) hset fun l2' c2' hse st hst=>?_
   rw[g.hb,<-Dk hs] at hst
   refine⟨⟨i+1,_,_,l2',c2',0,false⟩,hst,⟨h,?_,hse,fun j t hj ht=>?_⟩,by simp only;omega⟩
   .have:=hn.step (x:=s.nm) (n:=i64.wrap (Eb .string (.string s.nm) l+1)) (c:=c)
    simpa [List.take_add_one,hs] using this
   .by_cases e:j=i
    .subst e;rw[hs] at ht;cases ht;exact g
    .exact hgd j t (by simp only at hj;omega) ht
  cases t1:(!nmB (qV n l c l2 c2 b0 s [] i (AA n i) 0 false 0).s.nm)
  case false=>
   cases t2:(!Aw (qV n l c l2 c2 b0 s [] i (AA n i) 0 false 0).s.i 0 (i64.wrap (iN (Uq bA (qV n l c l2 c2 b0 s [] i (AA n i) 0 false 0).n.bs).length-1)))
   case false=>
    cases t3:(!Aw (qV n l c l2 c2 b0 s [] i (AA n i) 0 false 0).s.o 0 (i64.wrap (iN (Uq bA (qV n l c l2 c2 b0 s [] i (AA n i) 0 false 0).n.bs).length-1)))
    case false=>
     cases t4:(!Aw (qV n l c l2 c2 b0 s [] i (AA n i) 0 false 0).s.k 1 4)
     case false=>
      cases t5:((qV n l c l2 c2 b0 s [] i (AA n i) 0 false 0).s.b != (qV n l c l2 c2 b0 s [] i (AA n i) 0 false 0).base)
      case false=>
       exact T.path mix (mvs_5 (qV n l c l2 c2 b0 s [] i (AA n i) 0 false 0) dk (by assumption) (by assumption) (by assumption) (by assumption) t1 (by assumption) t2 (by assumption) t3 (by assumption) t4 t5 (inner ⟨by simp_all [qV],by simp_all [qV],by simp_all [qV],by simp_all [qV],by simp_all [qV]⟩))
      case true=>
       rw[bad (fun g=>by have g1:=g.nm;have g2:=gi g;have g3:=go g;have g4:=g.hk;have g5:=g.hb;simp_all [qV])]
       exact T.out mix (mvs_4 (qV n l c l2 c2 b0 s [] i (AA n i) 0 false 0) dk (by assumption) (by assumption) (by assumption) (by assumption) t1 (by assumption) t2 (by assumption) t3 (by assumption) t4 t5)
     case true=>
      rw[bad (fun g=>by have g1:=g.nm;have g2:=gi g;have g3:=go g;have g4:=g.hk;have g5:=g.hb;simp_all [qV])]
      exact T.out mix (mvs_3 (qV n l c l2 c2 b0 s [] i (AA n i) 0 false 0) dk (by assumption) (by assumption) (by assumption) (by assumption) t1 (by assumption) t2 (by assumption) t3 (by assumption) t4)
    case true=>
     rw[bad (fun g=>by have g1:=g.nm;have g2:=gi g;have g3:=go g;have g4:=g.hk;have g5:=g.hb;simp_all [qV])]
     exact T.out mix (mvs_2 (qV n l c l2 c2 b0 s [] i (AA n i) 0 false 0) dk (by assumption) (by assumption) (by assumption) (by assumption) t1 (by assumption) t2 (by assumption) t3)
   case true=>
    rw[bad (fun g=>by have g1:=g.nm;have g2:=gi g;have g3:=go g;have g4:=g.hk;have g5:=g.hb;simp_all [qV])]
    exact T.out mix (mvs_1 (qV n l c l2 c2 b0 s [] i (AA n i) 0 false 0) dk (by assumption) (by assumption) (by assumption) (by assumption) t1 (by assumption) t2)
  case true=>
   rw[bad (fun g=>by have g1:=g.nm;have g2:=gi g;have g3:=go g;have g4:=g.hk;have g5:=g.hb;simp_all [qV])]
   exact T.out mix (mvs_0 (qV n l c l2 c2 b0 s [] i (AA n i) 0 false 0) dk (by assumption) (by assumption) (by assumption) (by assumption) t1)
 .have hin:i=n.ss.length:=by omega
  subst hin
  rw[List.take_length] at hn
  have dl:decide (iN n.ss.length<iN (n.ss.map sA).length)=false:=Tz (by simp only[iN,hl];omega)
  have hsp:∀j s,n.ss[j]?=some s->Dz n j s:=fun j s hj=>hgd j s (Tw.1 hj).1 hj
  have hnl:(B0 n).length=n.bs.length+n.ss.length:=by simp[B0]
  have hif:=hn.iff
  change l.length=(B0 n).length↔(B0 n).Nodup at hif
  have hle:=hn.le
  change l.length<=(B0 n).length at hle
  rw[hnl] at hif hle
  have ww:i64.wrap (iN (Uq bA n.bs).length+iN (Uq sA n.ss).length)=((n.bs.length+n.ss.length:Nat):Int):=by rw[hbl,hl,A5 _ (by simp only[iN];omega) (by simp only[iN];omega)];simp[iN]
  cases hp:decide (0<iN l2.length) with
  | true=>
   have hdep:∃x,A3 n n.ss.length x:=hset.pos.1 (by have:=of_decide_eq_true hp;simp only[iN] at this;omega)
   refine T.out mix (mvsx_0 (qV n l c l2 c2 b0 s0 [] n.ss.length (AA n n.ss.length) 0 false 0) dl hp ?_)
   have hr:=NW (c2:=c2) hnr hset (iN l.length==i64.wrap (iN (Uq bA n.bs).length+iN (Uq sA n.ss).length))
   have ev:A8 n=((iN l.length==i64.wrap (iN (Uq bA n.bs).length+iN (Uq sA n.ss).length))&&@decide (∀i c,n.rs[i]?=some c->A3 n n.ss.length c/\c∉n.rs.take i) (Classical.propDecidable _)):=by
    rw[ww,Bool.eq_iff_iff,CF]
    simp only[TC,@decide_eq_true_iff _ (Classical.propDecidable _),beq_iff_eq,iN]
    constructor
    .intro hv
     exact⟨by have:=hif.2 hv.nod;omega,hv.rob⟩
    .rintro⟨h1,h2⟩
     exact⟨Bi.2 (by omega),hnx,hns,hnr,hcfg,hblk,hsp,hif.1 (by omega),hdep,h2⟩
   rw[ev]
   exact hr
  | false=>
   have hdep:¬∃x,A3 n n.ss.length x:=fun hd=>by have:=hset.pos.2 hd;have:=of_decide_eq_false hp;simp only[iN] at this;omega
   refine T.out mix (mvsx_1 (qV n l c l2 c2 b0 s0 [] n.ss.length (AA n n.ss.length) 0 false 0) dl hp ?_)
   have hr:=NW (c2:=c2) hnr hset false
   rw[Cr fun hv=>hdep hv.dep]
   rw[Bool.false_and] at hr;exact hr
theorem QC{n:Ab}(hrw:Rows n.nx):CT Ux 93 [] [Af n] [] (.bool (A8 n)):=by
 have hb:Try.f93.body=some (zB Try.f93):=by kernel_rfl
 have hn:[Af n].length<=Try.f93.ntmps:=nL rfl
 have hbl:(n.bs.map bA).length=n.bs.length:=by simp
 have hsl:(n.ss.map sA).length=n.ss.length:=by simp
 have hrl:(n.rs.map (AV.int .i64)).length=n.rs.length:=by simp
 have hgl:=BD n.nx
 have c1:=D7 (iN (Uq bA n.bs).length) 1 24
 have c2:=vcfg_ct n
 have h0:∀{res:Bool},A8 n=res->CT Ux 93 [] [Af n] [] (.bool res)->CT Ux 93 [] [Af n] [] (.bool (A8 n)):=fun e h=>e ▸ h
 have main:Aw (iN (Uq bA n.bs).length) 1 24=true->(iN (gL n.nx).length != iN (Uq bA n.bs).length)=false->decide (6<iN (Uq sA n.ss).length)=false->decide (8<iN (Uq (AV.int .i64) n.rs).length)=false->Bc n=true->
   T Ux 0 (.loop (zC (zB Try.f93) 0)) (Ec (qV n [] 0 [] 0 b0 s0 [] 0 0 0 false 0)) (TK Ux 0 (Fin Ux Try.f93 0 [] (.bool (A8 n))) (zK (zB Try.f93) 0)):=by
  intro g1 g2 g3 g4 g5
  rw[hbl] at g1 g2
  rw[hgl] at g2
  have hnb:=Bi.1 g1
  simp only[iN] at hnb
  have hnb':1<=n.bs.length/\n.bs.length<=24:=by omega
  have hnx:n.nx.length=n.bs.length:=by simp only[iN,bne_eq_false_iff_eq] at g2;omega
  have hns:n.ss.length<=6:=by have:=of_decide_eq_false g3;simp only[iN,hsl] at this;omega
  have hnr:n.rs.length<=8:=by have:=of_decide_eq_false g4;simp only[iN,hrl] at this;omega
  refine T.loop (fun p:MP=>Ec (qV n p.l p.c [] 0 b0 s0 [] p.i 0 0 false 0)) (fun p=>p.i<=n.bs.length/\DF ((n.bs.take p.i).map (·.nm)) p.l/\∀j b,j<p.i->n.bs[j]?=some b->GZ n j b)
   (fun p=>n.bs.length+1-p.i) ⟨0,[],0,[],0,0,false⟩ ⟨TG _,DF.nil,fun j b hj=>by simp at hj⟩ ?_
  rintro⟨i,l,c,l2,c2',k,ok⟩ ⟨hi,hnm,hgd⟩
  simp only at hi hnm hgd
  by_cases h:i<n.bs.length
  .obtain⟨b,hbb⟩:∃b,n.bs[i]?=some b:=⟨_,Tu h⟩
   have dk:decide (iN i<iN (n.bs.map bA).length)=true:=TA (by simp only[iN,hbl];omega)
   have k1:(0:Int)<=iN i:=by simp[iN]
   have hg:=KP hbb
   have hg2:(gL n.nx)[i]?=some (lI (n.nx.getD i [])):=CW (by omega)
   have hm : ∀ (x : MapEntry), x ∈ l -> A9 (TypeInfo.mk TypeDesc.string "string" 1 16 true 8 8 (some (Value.string (ByteArray.mk #[]))) true #[]).desc x.key = true /\ BS (MK.i i64) x.val := hnm.ok
   have d1:=Pz b.nm
   have d2:=D7 b.x (-9999) 9999
   have d3:=D7 b.y (-9999) 9999
   have d4:=vnext_ct (n.nx.getD i []) (iN i) (iN (n.bs.map bA).length) (hrw i (by omega))
   have wi:i64.wrap (iN i+1)=((i+1:Nat):Int):=zW i (by omega)
   have ex:nxB (n.nx.getD i []) (iN i) (iN (n.bs.map bA).length)=nxB (n.nx.getD i []) i n.bs.length:=by rw[hbl]
   have bad:¬GZ n i b->A8 n=false:=fun hb=>Cr fun hv=>hb (hv.blk i b hbb)
   have next:GZ n i b->∀st,Ren 0 st (Ec (qV n (BP .string (.string b.nm) (.int .i64 (i64.wrap (Eb .string (.string b.nm) l+1))) l c) (CM .string (.string b.nm) l c) [] 0 b0 s0 [] (i+1) 0 0 false 0))->
     ∃j,Ren 0 st ((fun p:MP=>Ec (qV n p.l p.c [] 0 b0 s0 [] p.i 0 0 false 0)) j)/\((fun p:MP=>p.i<=n.bs.length/\DF ((n.bs.take p.i).map (·.nm)) p.l/\∀j b,j<p.i->n.bs[j]?=some b->GZ n j b) j)/\n.bs.length+1-j.i<n.bs.length+1-i:=by
    intro g st hst
    refine⟨⟨i+1,_,_,[],0,0,false⟩,hst,⟨h,?_,fun j t hj ht=>?_⟩,by simp only;omega⟩
    .have:=hnm.step (x:=b.nm) (n:=i64.wrap (Eb .string (.string b.nm) l+1)) (c:=c)
     simpa [List.take_add_one,hbb] using this
    .by_cases e:j=i
     .subst e;rw[hbb] at ht;cases ht;exact g
     .exact hgd j t (by simp only at hj;omega) ht
   cases t6:(!nmB (qV n l c [] 0 b s0 (n.nx.getD i []) i 0 0 false 0).b.nm)
   case false=>
    cases t7:(!Aw (qV n l c [] 0 b s0 (n.nx.getD i []) i 0 0 false 0).b.x (-9999) 9999)
    case false=>
     cases t8:(!Aw (qV n l c [] 0 b s0 (n.nx.getD i []) i 0 0 false 0).b.y (-9999) 9999)
     case false=>
      cases t9:(!nxB (qV n l c [] 0 b s0 (n.nx.getD i []) i 0 0 false 0).r (iN (qV n l c [] 0 b s0 (n.nx.getD i []) i 0 0 false 0).i) (iN (Uq bA (qV n l c [] 0 b s0 (n.nx.getD i []) i 0 0 false 0).n.bs).length))
      case false=>
       exact T.path mix (mvb_4 (qV n l c [] 0 b s0 (n.nx.getD i []) i 0 0 false 0) dk (by assumption) (by assumption) (by assumption) (by assumption) t6 (by assumption) t7 (by assumption) t8 (by assumption) (by assumption) t9 (fun st hst=>by simp only[qV,wi] at hst;exact next ⟨by simp_all [qV],by simp_all [qV],by simp_all [qV],by rw[<-ex];simp_all [qV]⟩ st hst))
      case true=>
       rw[bad (fun g=>by have g1:=g.nm;have g2:=g.x;have g3:=g.y;have g4:=ex.trans g.nx;simp_all [qV])]
       exact T.out mix (mvb_3 (qV n l c [] 0 b s0 (n.nx.getD i []) i 0 0 false 0) dk (by assumption) (by assumption) (by assumption) (by assumption) t6 (by assumption) t7 (by assumption) t8 (by assumption) (by assumption) t9)
     case true=>
      rw[bad (fun g=>by have g1:=g.nm;have g2:=g.x;have g3:=g.y;have g4:=ex.trans g.nx;simp_all [qV])]
      exact T.out mix (mvb_2 (qV n l c [] 0 b s0 (n.nx.getD i []) i 0 0 false 0) dk (by assumption) (by assumption) (by assumption) (by assumption) t6 (by assumption) t7 (by assumption) t8)
    case true=>
     rw[bad (fun g=>by have g1:=g.nm;have g2:=g.x;have g3:=g.y;have g4:=ex.trans g.nx;simp_all [qV])]
     exact T.out mix (mvb_1 (qV n l c [] 0 b s0 (n.nx.getD i []) i 0 0 false 0) dk (by assumption) (by assumption) (by assumption) (by assumption) t6 (by assumption) t7)
   case true=>
    rw[bad (fun g=>by have g1:=g.nm;have g2:=g.x;have g3:=g.y;have g4:=ex.trans g.nx;simp_all [qV])]
    exact T.out mix (mvb_0 (qV n l c [] 0 b s0 (n.nx.getD i []) i 0 0 false 0) dk (by assumption) (by assumption) (by assumption) (by assumption) t6)
  .have hin:i=n.bs.length:=by omega
   subst hin
   rw[List.take_length] at hnm
   refine T.out mix (mvbx_0 (qV n l c [] 0 b0 s0 [] n.bs.length 0 0 false 0) (Tz (by simp only[qV,iN,hbl];omega)) ?_)
   have hsr:=mvs_run (c:=c) hnb' hnx hns hnr g5 (fun j b hj=>hgd j b (Tw.1 hj).1 hj) hnm
   have e:∀k:Nat,k=n.bs.length->T Ux 0 (.loop (zC (zB Try.f93) 1)) (CX (qV n l c [] 0 b0 s0 [] 0 (iN k) 0 false 0)) (TK Ux 0 (Fin Ux Try.f93 0 [] (.bool (A8 n))) (zK (zB Try.f93) 1)):=fun k hk=>by subst hk;exact hsr
   exact e _ hbl
 have f1:∀hv:Ax n,Aw (iN (Uq bA n.bs).length) 1 24=true:=fun hv=>by rw[hbl];exact hv.nb
 cases t10:(!Aw (iN (Uq bA (qV n [] 0 [] 0 b0 s0 [] 0 0 0 false 0).n.bs).length) 1 24)
 case false=>
  cases t11:(iN (gL (qV n [] 0 [] 0 b0 s0 [] 0 0 0 false 0).n.nx).length != iN (Uq bA (qV n [] 0 [] 0 b0 s0 [] 0 0 0 false 0).n.bs).length)
  case false=>
   cases t12:decide (6<iN (Uq sA (qV n [] 0 [] 0 b0 s0 [] 0 0 0 false 0).n.ss).length)
   case false=>
    cases t13:decide (8<iN (Uq iV (qV n [] 0 [] 0 b0 s0 [] 0 0 0 false 0).n.rs).length)
    case false=>
     cases t14:(!Bc (qV n [] 0 [] 0 b0 s0 [] 0 0 0 false 0).n)
     case false=>
      first | exact CT.path mix Try.func93 hb hn (mvi_5 (qV n [] 0 [] 0 b0 s0 [] 0 0 0 false 0) (by assumption) t10 t11 t12 t13 (by assumption) t14 (main (by simp_all [qV]) (by simp_all [qV]) (by simp_all [qV]) (by simp_all [qV]) (by simp_all [qV]))) | exact h0 (Cr fun hv=>by have a1:=f1 hv;have a2:=hv.nx;have a3:=hv.ns;have a4:=hv.nr;have a5:=hv.cfg;simp only[qV,iN,hbl,hgl,hsl,hrl] at *;grind) (CT.path mix Try.func93 hb hn (mvi_5 (qV n [] 0 [] 0 b0 s0 [] 0 0 0 false 0) (by assumption) t10 t11 t12 t13 (by assumption) t14 (main (by simp_all [qV]) (by simp_all [qV]) (by simp_all [qV]) (by simp_all [qV]) (by simp_all [qV]))))
     case true=>
      first | exact CT.path mix Try.func93 hb hn (mvi_4 (qV n [] 0 [] 0 b0 s0 [] 0 0 0 false 0) (by assumption) t10 t11 t12 t13 (by assumption) t14) | exact h0 (Cr fun hv=>by have a1:=f1 hv;have a2:=hv.nx;have a3:=hv.ns;have a4:=hv.nr;have a5:=hv.cfg;simp only[qV,iN,hbl,hgl,hsl,hrl] at *;grind) (CT.path mix Try.func93 hb hn (mvi_4 (qV n [] 0 [] 0 b0 s0 [] 0 0 0 false 0) (by assumption) t10 t11 t12 t13 (by assumption) t14))
    case true=>
     first | exact CT.path mix Try.func93 hb hn (mvi_3 (qV n [] 0 [] 0 b0 s0 [] 0 0 0 false 0) (by assumption) t10 t11 t12 t13) | exact h0 (Cr fun hv=>by have a1:=f1 hv;have a2:=hv.nx;have a3:=hv.ns;have a4:=hv.nr;have a5:=hv.cfg;simp only[qV,iN,hbl,hgl,hsl,hrl] at *;grind) (CT.path mix Try.func93 hb hn (mvi_3 (qV n [] 0 [] 0 b0 s0 [] 0 0 0 false 0) (by assumption) t10 t11 t12 t13))
   case true=>
    first | exact CT.path mix Try.func93 hb hn (mvi_2 (qV n [] 0 [] 0 b0 s0 [] 0 0 0 false 0) (by assumption) t10 t11 t12) | exact h0 (Cr fun hv=>by have a1:=f1 hv;have a2:=hv.nx;have a3:=hv.ns;have a4:=hv.nr;have a5:=hv.cfg;simp only[qV,iN,hbl,hgl,hsl,hrl] at *;grind) (CT.path mix Try.func93 hb hn (mvi_2 (qV n [] 0 [] 0 b0 s0 [] 0 0 0 false 0) (by assumption) t10 t11 t12))
  case true=>
   first | exact CT.path mix Try.func93 hb hn (mvi_1 (qV n [] 0 [] 0 b0 s0 [] 0 0 0 false 0) (by assumption) t10 t11) | exact h0 (Cr fun hv=>by have a1:=f1 hv;have a2:=hv.nx;have a3:=hv.ns;have a4:=hv.nr;have a5:=hv.cfg;simp only[qV,iN,hbl,hgl,hsl,hrl] at *;grind) (CT.path mix Try.func93 hb hn (mvi_1 (qV n [] 0 [] 0 b0 s0 [] 0 0 0 false 0) (by assumption) t10 t11))
 case true=>
  first | exact CT.path mix Try.func93 hb hn (mvi_0 (qV n [] 0 [] 0 b0 s0 [] 0 0 0 false 0) (by assumption) t10) | exact h0 (Cr fun hv=>by have a1:=f1 hv;have a2:=hv.nx;have a3:=hv.ns;have a4:=hv.nr;have a5:=hv.cfg;simp only[qV,iN,hbl,hgl,hsl,hrl] at *;grind) (CT.path mix Try.func93 hb hn (mvi_0 (qV n [] 0 [] 0 b0 s0 [] 0 0 0 false 0) (by assumption) t10))
structure QY where
 n:Ab
 L:List ByteArray
 b:AO
 s:Am
 r:List Int
 i:Nat
 k:Nat
 base:Int
 dn:Int
 x:Int
 y:Int
 u:ByteArray
 v:ByteArray
 ok:Bool
 c1:Bool
 c2:Bool
 c3:Bool
def sB(L:List ByteArray):Blk:={es:=L.map AV.str,z:=1}
def cY(q:QY):Nat->FuncId->List AV->List (Option Blk)->AN:=fun dst f args hp=>match f with
 | 140=>match args with
  | [.str s]=>.call [] [] [] (.bool (nmB s))
  | _=>.no
 | 113=>.call [] [] [] (.bool q.c1)
 | 114=>.call [] [] [] (.bool q.c2)
 | 115=>.call [] [] [] (.bool (Bc q.n))
 | 26=>.call [] [] [] (.bool q.c3)
 | 93=>.call [] [] [] (.bool q.c1)
 | 94=>.call [] [] [] (.int .i64 q.x)
 | _=>.no
def Ci(q:QY):List (Nat×AV):=[(36,bA q.b),(60,lI q.r),(69,lI q.r),(78,lI q.r),(81,.int .i64 q.x),(105,lI q.r),(109,.int .i64 q.y)]
def Dd(q:QY):List (Nat×AV):=[(19,bA q.b),(35,sA q.s),(49,.str q.u),(60,.str q.u),(64,.str q.v)]
def BG(q:QY):List (Nat×AV):=[(50,sA q.s),(117,sA q.s),(127,.int .i64 q.x),(137,.int .i64 q.x),(157,.int .i64 q.x)]
def ey27(q:QY):List (Nat×AV):=[(19,sA q.s)]
def KA(q:QY):St:={n:=Try.f113.ntmps,fr:=[(0,Af q.n)],hp:=[]}
def Du(q:QY):St:={n:=Try.f113.ntmps,fr:=[(1,.ptr 0 0 0),(3,.int .i64 (iN q.i))],hp:=[some (nB q.n)]}
def Dm(q:QY):St:={n:=Try.f113.ntmps,fr:=[(1,.ptr 0 0 0),(3,.int .i64 (iN q.i)),(5,.int .i64 (iN q.k))],hp:=[some (nB q.n)]}
def st144(q:QY):St:={n:=Try.f114.ntmps,fr:=[(0,Af q.n)],hp:=[]}
def lz144(q:QY):St:={n:=Try.f114.ntmps,fr:=[(1,.ptr 0 0 0),(3,.nils),(4,.int .i64 (iN q.i))],hp:=[some (nB q.n)]}
def FU(q:QY):St:={n:=Try.f114.ntmps,fr:=[(1,.ptr 0 0 0),(3,.sl 1 0 q.L.length),(4,.int .i64 (iN q.i))],hp:=[some (nB q.n),some (sB q.L)]}
def E2(q:QY):St:={n:=Try.f114.ntmps,fr:=[(1,.ptr 0 0 0),(3,.sl 1 0 q.L.length),(5,.int .i64 (iN q.i))],hp:=[some (nB q.n),some (sB q.L)]}
def HL(q:QY):St:={n:=Try.f114.ntmps,fr:=[(3,.sl 0 0 q.L.length),(6,.int .i64 (iN q.i))],hp:=[some (sB q.L)]}
def Ku(q:QY):St:={n:=Try.f114.ntmps,fr:=[(3,.sl 0 0 q.L.length),(6,.int .i64 (iN q.i)),(7,.int .i64 (iN q.k))],hp:=[some (sB q.L)]}
def G0(q:QY):St:={n:=Try.f69.ntmps,fr:=[(0,Af q.n)],hp:=[]}
def CN(q:QY):St:={n:=Try.f69.ntmps,fr:=[(1,.ptr 0 0 0),(3,.int .i64 q.base),(4,.int .i64 q.dn),(5,.int .i64 (iN q.i))],hp:=[some (nB q.n)]}
def HW(q:QY):St:={n:=Try.f69.ntmps,fr:=[(1,.ptr 0 0 0),(4,.int .i64 q.dn),(7,.int .i64 (iN q.i))],hp:=[some (nB q.n)]}
def DB(q:QY):St:={n:=Try.f69.ntmps,fr:=[(1,.ptr 0 0 0),(4,.int .i64 q.dn),(7,.int .i64 (iN q.i)),(8,.bool q.ok),(9,.int .i64 (iN q.k))],hp:=[some (nB q.n)]}
def sy27(q:QY):St:={n:=Try.f18.ntmps,fr:=[(0,Af q.n)],hp:=[]}
def Jq(q:QY):St:={n:=Try.f18.ntmps,fr:=[(1,.ptr 0 0 0),(3,.int .i64 q.base),(4,.int .i64 (iN q.i))],hp:=[some (nB q.n)]}
theorem O6(q:QY)(h1:(decide (iN (Uq bA q.n.bs).length<1)=true)):GoP Ux (hU [23] (Ci q) (cY q)) 0 (zB Try.f113) (KA q) (Fin Ux Try.f113 0 [] (AV.bool false)):=zF (σ:=[]) (fz:=[]) (by kernel_rfl) (aj (ag t2 (aj (u2 (u2 (u2 (u2 (u2 (aj h1 (aj h1 (aj h1 (aj h1 (ag h1 (u2 (k2 (k5 (al t3)))))))))))))) (ak s2))) t2)
theorem NQ(q:QY)(h1:(decide (iN (Uq bA q.n.bs).length<1)=false))(h2:(decide (24<iN (Uq bA q.n.bs).length)=true)):GoP Ux (hU [22,35] (Ci q) (cY q)) 0 (zB Try.f113) (KA q) (Fin Ux Try.f113 0 [] (AV.bool false)):=zF (σ:=[]) (fz:=[]) (by kernel_rfl) (aj (ag t2 (aj (u2 (u2 (u2 (u2 (u2 (ag h1 (ag h1 (ag h1 (ag h1 (ag h1 (u2 (aj h2 (aj h2 (aj h2 (aj h2 (aj h2 (aj h2 (aj h2 (al (aj h2 t2)))))))))))))))))))) (ak s2))) t2)
theorem O4(q:QY)(h1:(decide (iN (Uq bA q.n.bs).length<1)=false))(h2:(decide (24<iN (Uq bA q.n.bs).length)=false))(h3:((iN (gL q.n.nx).length != iN (Uq bA q.n.bs).length)=true)):GoP Ux (hU [22,34,51] (Ci q) (cY q)) 0 (zB Try.f113) (KA q) (Fin Ux Try.f113 0 [] (AV.bool false)):=zF (σ:=[]) (fz:=[]) (by kernel_rfl) (aj (ag t2 (aj (u2 (u2 (u2 (u2 (u2 (ag h1 (ag h1 (ag h1 (ag h1 (ag h1 (u2 (ag h2 (ag h2 (ag h2 (ag h2 (ag h2 (ag h2 (aj (aj h2 t3) (al (aj h2 t2)))))))))))))))))))) (aj h3 s2))) t2)
theorem QQ(q:QY)(h1:(decide (iN (Uq bA q.n.bs).length<1)=false))(h2:(decide (24<iN (Uq bA q.n.bs).length)=false))(h3:((iN (gL q.n.nx).length != iN (Uq bA q.n.bs).length)=false)){post:Exit->St->Prop}(ht:T Ux 0 (.loop (zC (zB Try.f113) 0)) (St.mk 114 [(1,AV.ptr 0 0 0),(3,iv 0)] [some (Blk.mk [Af q.n] [Uw (Uq bA q.n.bs),Uw (gL q.n.nx),Uw (Uq sA q.n.ss),Uw (Uq iv q.n.rs),iv q.n.q,iv q.n.a,iv q.n.d,iv q.n.p].length true true none)]) (TK Ux 0 post (zK (zB Try.f113) 0))):GoP Ux (hU [22,34,50] (Ci q) (cY q)) 0 (zB Try.f113) (KA q) post:=zR (σ:=[0]) (fz:=[]) (vars:=[1,3]) (by kernel_rfl) (aj (ag t2 (aj (u2 (u2 (u2 (u2 (u2 (ag h1 (ag h1 (ag h1 (ag h1 (ag h1 (u2 (ag h2 (ag h2 (ag h2 (ag h2 (ag h2 (ag h2 (aj (aj h2 t3) (al (aj h2 t2)))))))))))))))))))) (aj h3 s2))) t4) ht
theorem yrbl_0(q:QY)(h1:(decide (iN q.i<iN (Uq bA q.n.bs).length)=true))(h2:(0<=iN q.i))(h3:((Uq bA q.n.bs)[(iN q.i).toNat]?=some (AV.agg [AV.str q.b.nm,iv q.b.x,iv q.b.y])))(h4:(decide (q.b.x < -9999)=true)):GoO Ux (hU [61,83] (Ci q) (cY q)) 0 (zC (zB Try.f113) 0) (zK (zB Try.f113) 0) (Du q) (Fin Ux Try.f113 0 [] (AV.bool false)):=zF (σ:=[]) (fz:=[]) (by kernel_rfl) (aj (al (aj (u2 (u2 (u2 (u2 (al t3))))) (aj h1 (aj (u2 (u2 (u2 (aj (k2 (aj h2 h3)) (u2 (ak (al (k2 (show Nat.le (nat_lit 1) (nat_lit 1) from nL rfl))))))))) (aj (u2 (u2 (u2 (u2 (aj h4 (aj h4 (aj h4 (ag h4 (u2 (k3 (aj t3 (u2 (k3 (aj t3 (u2 (k2 (k5 (al t3)))))))))))))))))) (ak s2)))))) t2)
theorem yrbl_1(q:QY)(h1:(decide (iN q.i<iN (Uq bA q.n.bs).length)=true))(h2:(0<=iN q.i))(h3:((Uq bA q.n.bs)[(iN q.i).toNat]?=some (AV.agg [AV.str q.b.nm,iv q.b.x,iv q.b.y])))(h4:(decide (q.b.x < -9999)=false))(h5:(decide (9999<q.b.x)=true)):GoO Ux (hU [61,82,93] (Ci q) (cY q)) 0 (zC (zB Try.f113) 0) (zK (zB Try.f113) 0) (Du q) (Fin Ux Try.f113 0 [] (AV.bool false)):=zF (σ:=[]) (fz:=[]) (by kernel_rfl) (aj (al (aj (u2 (u2 (u2 (u2 (al t3))))) (aj h1 (aj (u2 (u2 (u2 (aj (k2 (aj h2 h3)) (u2 (ak (al (k2 (show Nat.le (nat_lit 1) (nat_lit 1) from nL rfl))))))))) (aj (u2 (u2 (u2 (u2 (ag h4 (ag h4 (ag h4 (ag h4 (u2 (aj h5 (aj h5 (aj h5 (ag h5 (u2 (k3 (aj t3 (u2 (k2 (k5 (al t3)))))))))))))))))))) (ak s2)))))) t2)
theorem yrbl_2(q:QY)(h1:(decide (iN q.i<iN (Uq bA q.n.bs).length)=true))(h2:(0<=iN q.i))(h3:((Uq bA q.n.bs)[(iN q.i).toNat]?=some (AV.agg [AV.str q.b.nm,iv q.b.x,iv q.b.y])))(h4:(decide (q.b.x < -9999)=false))(h5:(decide (9999<q.b.x)=false))(h6:(decide (q.b.y < -9999)=true)):GoO Ux (hU [61,82,92,103] (Ci q) (cY q)) 0 (zC (zB Try.f113) 0) (zK (zB Try.f113) 0) (Du q) (Fin Ux Try.f113 0 [] (AV.bool false)):=zF (σ:=[]) (fz:=[]) (by kernel_rfl) (aj (al (aj (u2 (u2 (u2 (u2 (al t3))))) (aj h1 (aj (u2 (u2 (u2 (aj (k2 (aj h2 h3)) (u2 (ak (al (k2 (show Nat.le (nat_lit 1) (nat_lit 1) from nL rfl))))))))) (aj (u2 (u2 (u2 (u2 (ag h4 (ag h4 (ag h4 (ag h4 (u2 (ag h5 (ag h5 (ag h5 (ag h5 (u2 (aj h6 (aj h6 (aj h6 (ag h6 (u2 (k2 (k5 (al t3)))))))))))))))))))))) (ak s2)))))) t2)
theorem yrbl_3(q:QY)(h1:(decide (iN q.i<iN (Uq bA q.n.bs).length)=true))(h2:(0<=iN q.i))(h3:((Uq bA q.n.bs)[(iN q.i).toNat]?=some (AV.agg [AV.str q.b.nm,iv q.b.x,iv q.b.y])))(h4:(decide (q.b.x < -9999)=false))(h5:(decide (9999<q.b.x)=false))(h6:(decide (q.b.y < -9999)=false))(h7:(decide (9999<q.b.y)=true)):GoO Ux (hU [61,82,92,102,113] (Ci q) (cY q)) 0 (zC (zB Try.f113) 0) (zK (zB Try.f113) 0) (Du q) (Fin Ux Try.f113 0 [] (AV.bool false)):=zF (σ:=[]) (fz:=[]) (by kernel_rfl) (aj (al (aj (u2 (u2 (u2 (u2 (al t3))))) (aj h1 (aj (u2 (u2 (u2 (aj (k2 (aj h2 h3)) (u2 (ak (al (k2 (show Nat.le (nat_lit 1) (nat_lit 1) from nL rfl))))))))) (aj (u2 (u2 (u2 (u2 (ag h4 (ag h4 (ag h4 (ag h4 (u2 (ag h5 (ag h5 (ag h5 (ag h5 (u2 (ag h6 (ag h6 (ag h6 (ag h6 (u2 (aj h7 (aj h7 (aj h7 (aj h7 (aj h7 (aj h7 (aj h7 (al (aj h7 t2)))))))))))))))))))))))))))) (ak s2)))))) t2)
theorem yrbl_4(q:QY)(h1:(decide (iN q.i<iN (Uq bA q.n.bs).length)=true))(h2:(0<=iN q.i))(h3:((Uq bA q.n.bs)[(iN q.i).toNat]?=some (AV.agg [AV.str q.b.nm,iv q.b.x,iv q.b.y])))(h4:(decide (q.b.x < -9999)=false))(h5:(decide (9999<q.b.x)=false))(h6:(decide (q.b.y < -9999)=false))(h7:(decide (9999<q.b.y)=false))(h8:((gL q.n.nx)[(iN q.i).toNat]?=some (Uw (Uq iv q.r))))(h9:(decide (4<iN (Uq iv q.r).length)=true)):GoO Ux (hU [61,82,92,102,112,129] (Ci q) (cY q)) 0 (zC (zB Try.f113) 0) (zK (zB Try.f113) 0) (Du q) (Fin Ux Try.f113 0 [] (AV.bool false)):=zF (σ:=[]) (fz:=[]) (by kernel_rfl) (aj (al (aj (u2 (u2 (u2 (u2 (al t3))))) (aj h1 (aj (u2 (u2 (u2 (aj (k2 (aj h2 h3)) (u2 (ak (al (k2 (show Nat.le (nat_lit 1) (nat_lit 1) from nL rfl))))))))) (aj (u2 (u2 (u2 (u2 (ag h4 (ag h4 (ag h4 (ag h4 (u2 (ag h5 (ag h5 (ag h5 (ag h5 (u2 (ag h6 (ag h6 (ag h6 (ag h6 (u2 (ag h7 (ag h7 (ag h7 (aj (aj h7 (k2 (aj h2 h8))) (ag h7 (ag h7 (ag h7 (al (aj h7 t2)))))))))))))))))))))))))))) (aj h9 s2)))))) t2)
theorem yrbl_5(q:QY)(h1:(decide (iN q.i<iN (Uq bA q.n.bs).length)=true))(h2:(0<=iN q.i))(h3:((Uq bA q.n.bs)[(iN q.i).toNat]?=some (AV.agg [AV.str q.b.nm,iv q.b.x,iv q.b.y])))(h4:(decide (q.b.x < -9999)=false))(h5:(decide (9999<q.b.x)=false))(h6:(decide (q.b.y < -9999)=false))(h7:(decide (9999<q.b.y)=false))(h8:((gL q.n.nx)[(iN q.i).toNat]?=some (Uw (Uq iv q.r))))(h9:(decide (4<iN (Uq iv q.r).length)=false)){post:Exit->St->Prop}(ht:T Ux 0 (.loop (zC (zC (zB Try.f113) 0) 0)) (St.mk 114 [(1,AV.ptr 0 0 0),(3,iv (iN q.i)),(5,iv 0)] [some (Blk.mk [Af q.n] 8 true true none)]) (TK Ux 0 post (zK (zC (zB Try.f113) 0) 0))):GoP Ux (hU [61,82,92,102,112,128] (Ci q) (cY q)) 0 (zC (zB Try.f113) 0) (Du q) post:=zR (σ:=[0]) (fz:=[]) (vars:=[1,3,5]) (by kernel_rfl) (aj (aj (u2 (u2 (u2 (u2 (al t3))))) (aj h1 (aj (u2 (u2 (u2 (aj (k2 (aj h2 h3)) (u2 (ak (al (k2 (show Nat.le (nat_lit 1) (nat_lit 1) from nL rfl))))))))) (aj (u2 (u2 (u2 (u2 (ag h4 (ag h4 (ag h4 (ag h4 (u2 (ag h5 (ag h5 (ag h5 (ag h5 (u2 (ag h6 (ag h6 (ag h6 (ag h6 (u2 (ag h7 (ag h7 (ag h7 (aj (aj h7 (k2 (aj h2 h8))) (ag h7 (ag h7 (ag h7 (al (aj h7 t2)))))))))))))))))))))))))))) (aj h9 s2))))) t5) ht
theorem yrbl_6(q:QY)(h1:(decide (iN q.i<iN (Uq bA q.n.bs).length)=false)):GoO Ux (hU [60] (Ci q) (cY q)) 0 (zC (zB Try.f113) 0) (zK (zB Try.f113) 0) (Du q) (Fin Ux Try.f113 0 [] (AV.bool true)):=zF (σ:=[]) (fz:=[]) (by kernel_rfl) (aj (aj (aj (u2 (u2 (u2 (u2 (al t3))))) (al h1)) s2) t2)
theorem yrbm_0(q:QY)(h1:(0<=iN q.i))(h2:((gL q.n.nx)[(iN q.i).toNat]?=some (Uw (Uq iv q.r))))(h3:(decide (iN q.k<iN (Uq iv q.r).length)=true))(h4:(0<=iN q.k))(h5:((Uq iv q.r)[(iN q.k).toNat]?=some (iv q.x)))(h6:(decide (q.x<0)=true)){post:Exit->St->Prop}(hP:BQ post (Fin Ux Try.f113 0 [] (AV.bool false))):GoO Ux (hU [145,171] (Ci q) (cY q)) 0 (zC (zC (zB Try.f113) 0) 0) (zK (zC (zB Try.f113) 0) 0) (Dm q) post:=CK (σ:=[]) (fz:=[]) (by kernel_rfl) (aj (al (aj (u2 (u2 (u2 (u2 (aj (k2 (aj h1 h2)) (u2 (u2 (al t3)))))))) (aj h3 (aj (u2 (u2 (u2 (aj (k2 (aj h1 h2)) (u2 (u2 (aj (k2 (aj h4 h5)) (u2 s2)))))))) (aj (u2 (u2 (u2 (aj h6 (aj h6 (aj h6 (aj h6 (aj h6 (ag h6 (u2 (k3 (aj t3 (u2 (k5 (k5 (k5 (al t3))))))))))))))))) (ak s2)))))) t2) hP
theorem yrbm_1(q:QY)(h1:(0<=iN q.i))(h2:((gL q.n.nx)[(iN q.i).toNat]?=some (Uw (Uq iv q.r))))(h3:(decide (iN q.k<iN (Uq iv q.r).length)=true))(h4:(0<=iN q.k))(h5:((Uq iv q.r)[(iN q.k).toNat]?=some (iv q.x)))(h6:(decide (q.x<0)=false))(h7:(decide (iN (Uq bA q.n.bs).length<=q.x)=true)){post:Exit->St->Prop}(hP:BQ post (Fin Ux Try.f113 0 [] (AV.bool false))):GoO Ux (hU [145,170,185] (Ci q) (cY q)) 0 (zC (zC (zB Try.f113) 0) 0) (zK (zC (zB Try.f113) 0) 0) (Dm q) post:=CK (σ:=[]) (fz:=[]) (by kernel_rfl) (aj (al (aj (u2 (u2 (u2 (u2 (aj (k2 (aj h1 h2)) (u2 (u2 (al t3)))))))) (aj h3 (aj (u2 (u2 (u2 (aj (k2 (aj h1 h2)) (u2 (u2 (aj (k2 (aj h4 h5)) (u2 s2)))))))) (aj (u2 (u2 (u2 (ag h6 (ag h6 (ag h6 (ag h6 (aj (aj h6 t3) (ag h6 (u2 (aj h7 (aj h7 (aj h7 (ag h7 (u2 (k5 (k5 (k5 (al t3))))))))))))))))))) (ak s2)))))) t2) hP
theorem yrbm_2(q:QY)(h1:(0<=iN q.i))(h2:((gL q.n.nx)[(iN q.i).toNat]?=some (Uw (Uq iv q.r))))(h3:(decide (iN q.k<iN (Uq iv q.r).length)=true))(h4:(0<=iN q.k))(h5:((Uq iv q.r)[(iN q.k).toNat]?=some (iv q.x)))(h6:(decide (q.x<0)=false))(h7:(decide (iN (Uq bA q.n.bs).length<=q.x)=false))(h8:((q.x==iN q.i)=true)){post:Exit->St->Prop}(hP:BQ post (Fin Ux Try.f113 0 [] (AV.bool false))):GoO Ux (hU [145,170,184,195] (Ci q) (cY q)) 0 (zC (zC (zB Try.f113) 0) 0) (zK (zC (zB Try.f113) 0) 0) (Dm q) post:=CK (σ:=[]) (fz:=[]) (by kernel_rfl) (aj (al (aj (u2 (u2 (u2 (u2 (aj (k2 (aj h1 h2)) (u2 (u2 (al t3)))))))) (aj h3 (aj (u2 (u2 (u2 (aj (k2 (aj h1 h2)) (u2 (u2 (aj (k2 (aj h4 h5)) (u2 s2)))))))) (aj (u2 (u2 (u2 (ag h6 (ag h6 (ag h6 (ag h6 (aj (aj h6 t3) (ag h6 (u2 (ag h7 (ag h7 (aj (aj h7 t3) (ag h7 (u2 (aj h8 (aj h8 (aj h8 (ak (k5 (k5 (aj h8 (al (aj h8 t2)))))))))))))))))))))))) (ak s2)))))) t2) hP
theorem yrbm_3(q:QY)(h1:(0<=iN q.i))(h2:((gL q.n.nx)[(iN q.i).toNat]?=some (Uw (Uq iv q.r))))(h3:(decide (iN q.k<iN (Uq iv q.r).length)=true))(h4:(0<=iN q.k))(h5:((Uq iv q.r)[(iN q.k).toNat]?=some (iv q.x)))(h6:(decide (q.x<0)=false))(h7:(decide (iN (Uq bA q.n.bs).length<=q.x)=false))(h8:((q.x==iN q.i)=false))(h9:(decide (0<iN q.k)=true))(h10:(0<=i64.wrap (iN q.k-1)))(h11:((Uq iv q.r)[(i64.wrap (iN q.k-1)).toNat]?=some (iv q.y)))(h12:(decide (q.x<=q.y)=true)){post:Exit->St->Prop}(hP:BQ post (Fin Ux Try.f113 0 [] (AV.bool false))):GoO Ux (hU [145,170,184,194,201,227] (Ci q) (cY q)) 0 (zC (zC (zB Try.f113) 0) 0) (zK (zC (zB Try.f113) 0) 0) (Dm q) post:=CK (σ:=[]) (fz:=[]) (by kernel_rfl) (aj (al (aj (u2 (u2 (u2 (u2 (aj (k2 (aj h1 h2)) (u2 (u2 (al t3)))))))) (aj h3 (aj (u2 (u2 (u2 (aj (k2 (aj h1 h2)) (u2 (u2 (aj (k2 (aj h4 h5)) (u2 s2)))))))) (aj (u2 (u2 (u2 (ag h6 (ag h6 (ag h6 (ag h6 (aj (aj h6 t3) (ag h6 (u2 (ag h7 (ag h7 (aj (aj h7 t3) (ag h7 (u2 (ag h8 (ag h8 (ag h8 (ag h9 (ag h9 (ag h9 (ag h9 (aj (aj h9 (k2 (aj h1 h2))) (ag h9 (ag h9 (ag h9 (aj (aj h9 (k2 (aj h10 h11))) (ag h9 (aj (aj h9 t3) (aj (aj h8 (aj h9 t2)) (al (aj h8 t2)))))))))))))))))))))))))))))))) (aj h12 s2)))))) t2) hP
theorem yrbm_4(q:QY)(h1:(0<=iN q.i))(h2:((gL q.n.nx)[(iN q.i).toNat]?=some (Uw (Uq iv q.r))))(h3:(decide (iN q.k<iN (Uq iv q.r).length)=true))(h4:(0<=iN q.k))(h5:((Uq iv q.r)[(iN q.k).toNat]?=some (iv q.x)))(h6:(decide (q.x<0)=false))(h7:(decide (iN (Uq bA q.n.bs).length<=q.x)=false))(h8:((q.x==iN q.i)=false))(h9:(decide (0<iN q.k)=true))(h10:(0<=i64.wrap (iN q.k-1)))(h11:((Uq iv q.r)[(i64.wrap (iN q.k-1)).toNat]?=some (iv q.y)))(h12:(decide (q.x<=q.y)=false)){post:Exit->St->Prop}{R:St->Prop}(hR:∀st,Ren 0 st (St.mk 114 [(1,AV.ptr 0 0 0),(3,iv (iN q.i)),(5,iv (i64.wrap (iN q.k+1)))] [some (Blk.mk [Af q.n] 8 true true none)])->R st):GoP Ux (hU [145,170,184,194,201,226] (Ci q) (cY q)) 0 (zC (zC (zB Try.f113) 0) 0) (Dm q) (andThen R post):=zN (σ:=[0]) (fz:=[]) (vars:=[1,3,5]) (by kernel_rfl) (aj (aj (u2 (u2 (u2 (u2 (aj (k2 (aj h1 h2)) (u2 (u2 (al t3)))))))) (aj h3 (aj (u2 (u2 (u2 (aj (k2 (aj h1 h2)) (u2 (u2 (aj (k2 (aj h4 h5)) (u2 s2)))))))) (aj (u2 (u2 (u2 (ag h6 (ag h6 (ag h6 (ag h6 (aj (aj h6 t3) (ag h6 (u2 (ag h7 (ag h7 (aj (aj h7 t3) (ag h7 (u2 (ag h8 (ag h8 (ag h8 (ag h9 (ag h9 (ag h9 (ag h9 (aj (aj h9 (k2 (aj h1 h2))) (ag h9 (ag h9 (ag h9 (aj (aj h9 (k2 (aj h10 h11))) (ag h9 (aj (aj h9 t3) (aj (aj h8 (aj h9 t2)) (al (aj h8 t2)))))))))))))))))))))))))))))))) (aj h12 (al (u2 (u2 s2)))))))) t5) hR
theorem yrbm_5(q:QY)(h1:(0<=iN q.i))(h2:((gL q.n.nx)[(iN q.i).toNat]?=some (Uw (Uq iv q.r))))(h3:(decide (iN q.k<iN (Uq iv q.r).length)=true))(h4:(0<=iN q.k))(h5:((Uq iv q.r)[(iN q.k).toNat]?=some (iv q.x)))(h6:(decide (q.x<0)=false))(h7:(decide (iN (Uq bA q.n.bs).length<=q.x)=false))(h8:((q.x==iN q.i)=false))(h9:(decide (0<iN q.k)=false)){post:Exit->St->Prop}{R:St->Prop}(hR:∀st,Ren 0 st (St.mk 114 [(1,AV.ptr 0 0 0),(3,iv (iN q.i)),(5,iv (i64.wrap (iN q.k+1)))] [some (Blk.mk [Af q.n] 8 true true none)])->R st):GoP Ux (hU [145,170,184,194,200] (Ci q) (cY q)) 0 (zC (zC (zB Try.f113) 0) 0) (Dm q) (andThen R post):=zN (σ:=[0]) (fz:=[]) (vars:=[1,3,5]) (by kernel_rfl) (aj (aj (u2 (u2 (u2 (u2 (aj (k2 (aj h1 h2)) (u2 (u2 (al t3)))))))) (aj h3 (aj (u2 (u2 (u2 (aj (k2 (aj h1 h2)) (u2 (u2 (aj (k2 (aj h4 h5)) (u2 s2)))))))) (aj (u2 (u2 (u2 (ag h6 (ag h6 (ag h6 (ag h6 (aj (aj h6 t3) (ag h6 (u2 (ag h7 (ag h7 (aj (aj h7 t3) (ag h7 (u2 (ag h8 (ag h8 (ag h8 (aj h9 (aj h9 (aj h9 (aj h9 (aj h9 (aj h9 (aj h9 (aj h9 (aj h9 (aj h9 (aj h9 (aj (aj h8 (aj h9 t2)) (al (aj h8 t2)))))))))))))))))))))))))))))))) (ak (al (u2 (u2 s2)))))))) t5) hR
theorem yrbmx_0(q:QY)(h1:(0<=iN q.i))(h2:((gL q.n.nx)[(iN q.i).toNat]?=some (Uw (Uq iv q.r))))(h3:(decide (iN q.k<iN (Uq iv q.r).length)=false)){post:Exit->St->Prop}{R:St->Prop}(hR:∀st,Ren 0 st (St.mk 114 [(1,AV.ptr 0 0 0),(3,iv (i64.wrap (iN q.i+1)))] [some (Blk.mk [Af q.n] 8 true true none)])->R st):GoO Ux (hU [144] (Ci q) (cY q)) 0 (zC (zC (zB Try.f113) 0) 0) (zK (zC (zB Try.f113) 0) 0) (Dm q) (andThen R post):=zN (σ:=[0]) (fz:=[]) (vars:=[1,3]) (by kernel_rfl) (aj (aj (aj (u2 (u2 (u2 (u2 (aj (k2 (aj h1 h2)) (u2 (u2 (al t3)))))))) (al h3)) (al (u2 (u2 s2)))) t4) hR
theorem yrsi_0(q:QY){post:Exit->St->Prop}(ht:T Ux 0 (.loop (zC (zB Try.f114) 0)) (St.mk 66 [(1,AV.ptr 0 0 0),(3,AV.nils),(4,iv 0)] [some (Blk.mk [Af q.n] [Uw (Uq bA q.n.bs),Uw (gL q.n.nx),Uw (Uq sA q.n.ss),Uw (Uq iv q.n.rs),iv q.n.q,iv q.n.a,iv q.n.d,iv q.n.p].length true true none)]) (TK Ux 0 post (zK (zB Try.f114) 0))):GoP Ux (hU [] (Dd q) (cY q)) 0 (zB Try.f114) (st144 q) post:=zR (σ:=[0]) (fz:=[]) (vars:=[1,3,4]) (by kernel_rfl) (aj (ag t2 (u2 s2)) t5) ht
theorem yrsz_0(q:QY)(h1:(decide (iN q.i<iN (Uq bA q.n.bs).length)=true))(h2:(0<=iN q.i))(h3:((Uq bA q.n.bs)[(iN q.i).toNat]?=some (AV.agg [AV.str q.b.nm,iv q.b.x,iv q.b.y])))(h4:(1<=[AV.str q.b.nm].length))(h5:([AV.str q.b.nm].length<=9223372036854775807))(h6:([AV.str q.b.nm].length * 16<=140737488355328)){post:Exit->St->Prop}{R:St->Prop}(hR:∀st,Ren 0 st (St.mk 66 [(1,AV.ptr 0 0 0),(3,AV.sl 1 0 [AV.str q.b.nm].length),(4,iv (i64.wrap (iN q.i+1)))] [some (Blk.mk [Af q.n] 8 true true none),some (Blk.mk [AV.str q.b.nm] 1 true true none)])->R st):GoP Ux (hU [25] (Dd q) (cY q)) 0 (zC (zB Try.f114) 0) (lz144 q) (andThen R post):=zN (σ:=[0,2]) (fz:=[]) (vars:=[1,3,4]) (by kernel_rfl) (aj (aj (u2 (u2 (u2 (u2 (al t3))))) (aj h1 (aj (u2 (u2 (u2 (u2 (aj (k2 (aj h2 h3)) (u2 (u2 (u2 (aj (k2 (aj (aj (show(nat_lit 1=nat_lit 1) by first | decide | exact S9 _) h4) (aj h5 h6))) s2))))))))) (al (u2 (u2 s2)))))) t6) hR
theorem yrsl_0(q:QY)(h1:(decide (iN q.i<iN (Uq bA q.n.bs).length)=true))(h2:(0<=iN q.i))(h3:((Uq bA q.n.bs)[(iN q.i).toNat]?=some (AV.agg [AV.str q.b.nm,iv q.b.x,iv q.b.y])))(h4:((Uq AV.str q.L).length=q.L.length))(h5:(1<=[AV.str q.b.nm].length))(h6:((Uq AV.str q.L).length+[AV.str q.b.nm].length<=9223372036854775807))(h7:(((Uq AV.str q.L).length+[AV.str q.b.nm].length) * 16<=140737488355328)){post:Exit->St->Prop}{R:St->Prop}(hR:∀st,Ren 0 st (St.mk 66 [(1,AV.ptr 0 0 0),(3,AV.sl 1 0 ((Uq AV.str q.L).length+[AV.str q.b.nm].length)),(4,iv (i64.wrap (iN q.i+1)))] [some (Blk.mk [Af q.n] 8 true true none),some (Blk.mk (Uq AV.str q.L++[AV.str q.b.nm]) 1 true true none)])->R st):GoP Ux (hU [25] (Dd q) (cY q)) 0 (zC (zB Try.f114) 0) (FU q) (andThen R post):=zN (σ:=[0,3]) (fz:=[]) (vars:=[1,3,4]) (by kernel_rfl) (aj (aj (u2 (u2 (u2 (u2 (al t3))))) (aj h1 (aj (u2 (u2 (u2 (u2 (aj (k2 (aj h2 h3)) (u2 (u2 (u2 (aj (k2 (aj h4 (aj (aj (show(nat_lit 1=nat_lit 1) by first | decide | exact S9 _) h5) (aj h6 h7)))) s2))))))))) (al (u2 (u2 s2)))))) t6) hR
theorem yrsx_0(q:QY)(h1:(decide (iN q.i<iN (Uq bA q.n.bs).length)=false)){post:Exit->St->Prop}(ht:T Ux 0 (.loop (zC (zB Try.f114) 1)) (St.mk 66 [(1,AV.ptr 0 0 0),(3,AV.sl 1 0 q.L.length),(5,iv 0)] [some (Blk.mk [Af q.n] 8 true true none),some (Blk.mk (Uq AV.str q.L) 1 true true none)]) (TK Ux 0 post (zK (zB Try.f114) 1))):GoO Ux (hU [24] (Dd q) (cY q)) 0 (zC (zB Try.f114) 0) (zK (zB Try.f114) 0) (FU q) post:=zR (σ:=[0,1]) (fz:=[]) (vars:=[1,3,5]) (by kernel_rfl) (aj (aj (aj (u2 (u2 (u2 (u2 (al t3))))) (al h1)) s2) t6) ht
theorem yrtl_0(q:QY)(h1:(decide (iN q.i<iN (Uq sA q.n.ss).length)=true))(h2:(0<=iN q.i))(h3:((Uq sA q.n.ss)[(iN q.i).toNat]?=some (sA q.s)))(h4:((Uq AV.str q.L).length=q.L.length))(h5:(1<=[AV.str q.s.nm].length))(h6:((Uq AV.str q.L).length+[AV.str q.s.nm].length<=9223372036854775807))(h7:(((Uq AV.str q.L).length+[AV.str q.s.nm].length) * 16<=140737488355328)){post:Exit->St->Prop}{R:St->Prop}(hR:∀st,Ren 0 st (St.mk 66 [(1,AV.ptr 0 0 0),(3,AV.sl 1 0 ((Uq AV.str q.L).length+[AV.str q.s.nm].length)),(5,iv (i64.wrap (iN q.i+1)))] [some (Blk.mk [Af q.n] 8 true true none),some (Blk.mk (Uq AV.str q.L++[AV.str q.s.nm]) 1 true true none)])->R st):GoP Ux (hU [57] (Dd q) (cY q)) 0 (zC (zB Try.f114) 1) (E2 q) (andThen R post):=zN (σ:=[0,3]) (fz:=[]) (vars:=[1,3,5]) (by kernel_rfl) (aj (aj (u2 (u2 (u2 (u2 (al t3))))) (aj h1 (aj (u2 (u2 (u2 (u2 (aj (k2 (aj h2 h3)) (u2 (u2 (u2 (aj (k2 (aj h4 (aj (aj (show(nat_lit 1=nat_lit 1) by first | decide | exact S9 _) h5) (aj h6 h7)))) s2))))))))) (al (u2 (u2 s2)))))) t6) hR
theorem yrtx_0(q:QY)(h1:(decide (iN q.i<iN (Uq sA q.n.ss).length)=false)){post:Exit->St->Prop}(ht:T Ux 0 (.loop (zC (zB Try.f114) 2)) (St.mk 66 [(3,AV.sl 0 0 q.L.length),(6,iv 0)] [some (Blk.mk (Uq AV.str q.L) 1 true true none)]) (TK Ux 0 post (zK (zB Try.f114) 2))):GoO Ux (hU [56] (Dd q) (cY q)) 0 (zC (zB Try.f114) 1) (zK (zB Try.f114) 1) (E2 q) post:=zR (σ:=[1]) (fz:=[]) (vars:=[3,6]) (by kernel_rfl) (aj (aj (aj (u2 (u2 (u2 (u2 (al t3))))) (al h1)) s2) t4) ht
theorem yrul_0(q:QY)(h1:(decide (iN q.i<iN q.L.length)=true))(h2:(0<=iN q.i))(h3:(iN q.i<iN q.L.length))(h4:((Uq AV.str q.L)[0+(iN q.i).toNat]?=some (AV.str q.u)))(h5:(CT Ux 140 [] [AV.str q.u] [] (AV.bool (nmB q.u))))(h6:((!nmB q.u)=true)):GoO Ux (hU [87,103] (Dd q) (cY q)) 0 (zC (zB Try.f114) 2) (zK (zB Try.f114) 2) (HL q) (Fin Ux Try.f114 0 [] (AV.bool false)):=zF (σ:=[]) (fz:=[]) (by kernel_rfl) (aj (al (aj (u2 (u2 (u2 (al t3)))) (aj h1 (aj (u2 (u2 (aj (k2 (aj h2 h3)) (aj (ak h4) (aj (k2 (al h5)) s2))))) (aj h6 s2))))) t2)
theorem yrul_1(q:QY)(h1:(decide (iN q.i<iN q.L.length)=true))(h2:(0<=iN q.i))(h3:(iN q.i<iN q.L.length))(h4:((Uq AV.str q.L)[0+(iN q.i).toNat]?=some (AV.str q.u)))(h5:(CT Ux 140 [] [AV.str q.u] [] (AV.bool (nmB q.u))))(h6:((!nmB q.u)=false)){post:Exit->St->Prop}(ht:T Ux 0 (.loop (zC (zC (zB Try.f114) 2) 0)) (St.mk 66 [(3,AV.sl 0 0 q.L.length),(6,iv (iN q.i)),(7,iv 0)] [some (Blk.mk (Uq AV.str q.L) 1 true true none)]) (TK Ux 0 post (zK (zC (zB Try.f114) 2) 0))):GoP Ux (hU [87,102] (Dd q) (cY q)) 0 (zC (zB Try.f114) 2) (HL q) post:=zR (σ:=[0]) (fz:=[]) (vars:=[3,6,7]) (by kernel_rfl) (aj (aj (u2 (u2 (u2 (al t3)))) (aj h1 (aj (u2 (u2 (aj (k2 (aj h2 h3)) (aj (ak h4) (aj (k2 (al h5)) s2))))) (aj h6 s2)))) t5) ht
theorem yrul_2(q:QY)(h1:(decide (iN q.i<iN q.L.length)=false)):GoO Ux (hU [86] (Dd q) (cY q)) 0 (zC (zB Try.f114) 2) (zK (zB Try.f114) 2) (HL q) (Fin Ux Try.f114 0 [] (AV.bool true)):=zF (σ:=[]) (fz:=[]) (by kernel_rfl) (aj (aj (aj (u2 (u2 (u2 (al t3)))) (al h1)) s2) t2)
theorem yrwl_0(q:QY)(h1:(decide (iN q.k<iN q.i)=true))(h2:(0<=iN q.i))(h3:(iN q.i<iN q.L.length))(h4:((Uq AV.str q.L)[0+(iN q.i).toNat]?=some (AV.str q.u)))(h5:(0<=iN q.k))(h6:(iN q.k<iN q.L.length))(h7:((Uq AV.str q.L)[0+(iN q.k).toNat]?=some (AV.str q.v)))(h8:((q.u.toList==q.v.toList)=true)){post:Exit->St->Prop}(hP:BQ post (Fin Ux Try.f114 0 [] (AV.bool false))):GoO Ux (hU [109,131] (Dd q) (cY q)) 0 (zC (zC (zB Try.f114) 2) 0) (zK (zC (zB Try.f114) 2) 0) (Ku q) post:=CK (σ:=[]) (fz:=[]) (by kernel_rfl) (aj (al (aj (u2 (u2 (al t3))) (aj h1 (aj (u2 (u2 (aj (k2 (aj h2 h3)) (aj (ak h4) (u2 (u2 (aj (k2 (aj h5 h6)) (aj (ak h7) (al t3))))))))) (aj h8 s2))))) t2) hP
theorem yrwl_1(q:QY)(h1:(decide (iN q.k<iN q.i)=true))(h2:(0<=iN q.i))(h3:(iN q.i<iN q.L.length))(h4:((Uq AV.str q.L)[0+(iN q.i).toNat]?=some (AV.str q.u)))(h5:(0<=iN q.k))(h6:(iN q.k<iN q.L.length))(h7:((Uq AV.str q.L)[0+(iN q.k).toNat]?=some (AV.str q.v)))(h8:((q.u.toList==q.v.toList)=false)){post:Exit->St->Prop}{R:St->Prop}(hR:∀st,Ren 0 st (St.mk 66 [(3,AV.sl 0 0 q.L.length),(6,iv (iN q.i)),(7,iv (i64.wrap (iN q.k+1)))] [some (Blk.mk (Uq AV.str q.L) 1 true true none)])->R st):GoP Ux (hU [109,130] (Dd q) (cY q)) 0 (zC (zC (zB Try.f114) 2) 0) (Ku q) (andThen R post):=zN (σ:=[0]) (fz:=[]) (vars:=[3,6,7]) (by kernel_rfl) (aj (aj (u2 (u2 (al t3))) (aj h1 (aj (u2 (u2 (aj (k2 (aj h2 h3)) (aj (ak h4) (u2 (u2 (aj (k2 (aj h5 h6)) (aj (ak h7) (al t3))))))))) (aj h8 (al (u2 (u2 s2))))))) t5) hR
theorem yrwx_0(q:QY)(h1:(decide (iN q.k<iN q.i)=false)){post:Exit->St->Prop}{R:St->Prop}(hR:∀st,Ren 0 st (St.mk 66 [(3,AV.sl 0 0 q.L.length),(6,iv (i64.wrap (iN q.i+1)))] [some (Blk.mk (Uq AV.str q.L) 1 true true none)])->R st):GoO Ux (hU [108] (Dd q) (cY q)) 0 (zC (zC (zB Try.f114) 2) 0) (zK (zC (zB Try.f114) 2) 0) (Ku q) (andThen R post):=zN (σ:=[0]) (fz:=[]) (vars:=[3,6]) (by kernel_rfl) (aj (aj (aj (u2 (u2 (al t3))) (al h1)) (al (u2 (u2 s2)))) t4) hR
theorem ynvi_0(q:QY)(h1:(CT Ux 113 [] [Af q.n] [] (AV.bool q.c1)))(h2:((!q.c1)=true)):GoP Ux (hU [29] (BG q) (cY q)) 0 (zB Try.f69) (G0 q) (Fin Ux Try.f69 0 [] (AV.bool false)):=zF (σ:=[]) (fz:=[]) (by kernel_rfl) (aj (ag t2 (aj (u2 (aj (ak (aj t9 (al h1))) (u2 (u2 (aj h2 (aj h2 (aj h2 (aj h2 (ag h2 (u2 (k3 (aj t3 (u2 (ak (k3 (aj t3 (u2 (ak (k3 (al t3)))))))))))))))))))) (ak s2))) t2)
theorem ynvi_1(q:QY)(h1:(CT Ux 113 [] [Af q.n] [] (AV.bool q.c1)))(h2:((!q.c1)=false))(h3:(decide (6<iN (Uq sA q.n.ss).length)=true)):GoP Ux (hU [28,41] (BG q) (cY q)) 0 (zB Try.f69) (G0 q) (Fin Ux Try.f69 0 [] (AV.bool false)):=zF (σ:=[]) (fz:=[]) (by kernel_rfl) (aj (ag t2 (aj (u2 (aj (ak (aj t9 (al h1))) (u2 (u2 (ag h2 (ag h2 (ag h2 (ag h2 (ag h2 (u2 (aj h3 (aj h3 (aj h3 (ag h3 (u2 (ak (k3 (aj t3 (u2 (ak (k3 (al t3)))))))))))))))))))))) (ak s2))) t2)
theorem ynvi_2(q:QY)(h1:(CT Ux 113 [] [Af q.n] [] (AV.bool q.c1)))(h2:((!q.c1)=false))(h3:(decide (6<iN (Uq sA q.n.ss).length)=false))(h4:(CT Ux 114 [] [Af q.n] [] (AV.bool q.c2)))(h5:((!q.c2)=true)):GoP Ux (hU [28,40,51] (BG q) (cY q)) 0 (zB Try.f69) (G0 q) (Fin Ux Try.f69 0 [] (AV.bool false)):=zF (σ:=[]) (fz:=[]) (by kernel_rfl) (aj (ag t2 (aj (u2 (aj (ak (aj t9 (al h1))) (u2 (u2 (ag h2 (ag h2 (ag h2 (ag h2 (ag h2 (u2 (ag h3 (aj (aj h3 (ak (aj t9 (al h4)))) (ag h3 (ag h3 (u2 (aj h5 (aj h5 (aj h5 (aj h5 (ag h5 (u2 (ak (k3 (al t3)))))))))))))))))))))))) (ak s2))) t2)
theorem ynvi_3(q:QY)(h1:(CT Ux 113 [] [Af q.n] [] (AV.bool q.c1)))(h2:((!q.c1)=false))(h3:(decide (6<iN (Uq sA q.n.ss).length)=false))(h4:(CT Ux 114 [] [Af q.n] [] (AV.bool q.c2)))(h5:((!q.c2)=false))(h6:(decide (8<iN (Uq iv q.n.rs).length)=true)):GoP Ux (hU [28,40,50,63] (BG q) (cY q)) 0 (zB Try.f69) (G0 q) (Fin Ux Try.f69 0 [] (AV.bool false)):=zF (σ:=[]) (fz:=[]) (by kernel_rfl) (aj (ag t2 (aj (u2 (aj (ak (aj t9 (al h1))) (u2 (u2 (ag h2 (ag h2 (ag h2 (ag h2 (ag h2 (u2 (ag h3 (aj (aj h3 (ak (aj t9 (al h4)))) (ag h3 (ag h3 (u2 (ag h5 (ag h5 (ag h5 (ag h5 (ag h5 (u2 (aj h6 (aj h6 (aj h6 (aj h6 (al (aj h6 t2))))))))))))))))))))))))))) (ak s2))) t2)
theorem ynvi_4(q:QY)(h1:(CT Ux 113 [] [Af q.n] [] (AV.bool q.c1)))(h2:((!q.c1)=false))(h3:(decide (6<iN (Uq sA q.n.ss).length)=false))(h4:(CT Ux 114 [] [Af q.n] [] (AV.bool q.c2)))(h5:((!q.c2)=false))(h6:(decide (8<iN (Uq iv q.n.rs).length)=false))(h7:(CT Ux 115 [] [AV.agg [iv q.n.q,iv q.n.a,iv q.n.d,iv q.n.p]] [] (AV.bool (Bc q.n))))(h8:((!Bc q.n)=true)):GoP Ux (hU [28,40,50,62,73] (BG q) (cY q)) 0 (zB Try.f69) (G0 q) (Fin Ux Try.f69 0 [] (AV.bool false)):=zF (σ:=[]) (fz:=[]) (by kernel_rfl) (aj (ag t2 (aj (u2 (aj (ak (aj t9 (al h1))) (u2 (u2 (ag h2 (ag h2 (ag h2 (ag h2 (ag h2 (u2 (ag h3 (aj (aj h3 (ak (aj t9 (al h4)))) (ag h3 (ag h3 (u2 (ag h5 (ag h5 (ag h5 (ag h5 (ag h5 (u2 (ag h6 (ag h6 (aj (aj h6 (ak (aj t5 (al h7)))) (ag h6 (al (aj h6 t2))))))))))))))))))))))))))) (aj h8 s2))) t2)
theorem ynvi_5(q:QY)(h1:(CT Ux 113 [] [Af q.n] [] (AV.bool q.c1)))(h2:((!q.c1)=false))(h3:(decide (6<iN (Uq sA q.n.ss).length)=false))(h4:(CT Ux 114 [] [Af q.n] [] (AV.bool q.c2)))(h5:((!q.c2)=false))(h6:(decide (8<iN (Uq iv q.n.rs).length)=false))(h7:(CT Ux 115 [] [AV.agg [iv q.n.q,iv q.n.a,iv q.n.d,iv q.n.p]] [] (AV.bool (Bc q.n))))(h8:((!Bc q.n)=false)){post:Exit->St->Prop}(ht:T Ux 0 (.loop (zC (zB Try.f69) 0)) (St.mk 163 [(1,AV.ptr 0 0 0),(3,iv (iN (Uq bA q.n.bs).length)),(4,iv 0),(5,iv 0)] [some (Blk.mk [Af q.n] [Uw (Uq bA q.n.bs),Uw (gL q.n.nx),Uw (Uq sA q.n.ss),Uw (Uq iv q.n.rs),iv q.n.q,iv q.n.a,iv q.n.d,iv q.n.p].length true true none)]) (TK Ux 0 post (zK (zB Try.f69) 0))):GoP Ux (hU [28,40,50,62,72] (BG q) (cY q)) 0 (zB Try.f69) (G0 q) post:=zR (σ:=[0]) (fz:=[]) (vars:=[1,3,4,5]) (by kernel_rfl) (aj (ag t2 (aj (u2 (aj (ak (aj t9 (al h1))) (u2 (u2 (ag h2 (ag h2 (ag h2 (ag h2 (ag h2 (u2 (ag h3 (aj (aj h3 (ak (aj t9 (al h4)))) (ag h3 (ag h3 (u2 (ag h5 (ag h5 (ag h5 (ag h5 (ag h5 (u2 (ag h6 (ag h6 (aj (aj h6 (ak (aj t5 (al h7)))) (ag h6 (al (aj h6 t2))))))))))))))))))))))))))) (aj h8 (aj (u2 (u2 (u2 (u2 t2)))) s2)))) t6) ht
theorem ynvl_0(q:QY)(h1:(decide (iN q.i<iN (Uq sA q.n.ss).length)=true))(h2:(0<=iN q.i))(h3:((Uq sA q.n.ss)[(iN q.i).toNat]?=some (sA q.s)))(h4:(decide (q.s.i<0)=true)):GoO Ux (hU [89,111] (BG q) (cY q)) 0 (zC (zB Try.f69) 0) (zK (zB Try.f69) 0) (CN q) (Fin Ux Try.f69 0 [] (AV.bool false)):=zF (σ:=[]) (fz:=[]) (by kernel_rfl) (aj (al (aj (u2 (u2 (u2 (u2 (al t3))))) (aj h1 (aj (u2 (u2 (u2 (aj (k2 (aj h2 h3)) (u2 (ak (al (k2 (show Nat.le (nat_lit 1) (nat_lit 1) from nL rfl))))))))) (aj (u2 (u2 (u2 (u2 (aj h4 (aj h4 (aj h4 (aj h4 (aj h4 (aj h4 (ag h4 (u2 (k3 (aj t3 (u2 (ak (k5 (aj t3 (u2 (k3 (aj t3 (u2 (k3 (aj t3 (u2 (ak (k3 (al t3)))))))))))))))))))))))))))) (ak s2)))))) t2)
theorem ynvl_1(q:QY)(h1:(decide (iN q.i<iN (Uq sA q.n.ss).length)=true))(h2:(0<=iN q.i))(h3:((Uq sA q.n.ss)[(iN q.i).toNat]?=some (sA q.s)))(h4:(decide (q.s.i<0)=false))(h5:(decide (iN (Uq bA q.n.bs).length<=q.s.i)=true)):GoO Ux (hU [89,110,127] (BG q) (cY q)) 0 (zC (zB Try.f69) 0) (zK (zB Try.f69) 0) (CN q) (Fin Ux Try.f69 0 [] (AV.bool false)):=zF (σ:=[]) (fz:=[]) (by kernel_rfl) (aj (al (aj (u2 (u2 (u2 (u2 (al t3))))) (aj h1 (aj (u2 (u2 (u2 (aj (k2 (aj h2 h3)) (u2 (ak (al (k2 (show Nat.le (nat_lit 1) (nat_lit 1) from nL rfl))))))))) (aj (u2 (u2 (u2 (u2 (ag h4 (ag h4 (ag h4 (ag h4 (ag h4 (aj (aj h4 t3) (ag h4 (u2 (aj h5 (aj h5 (aj h5 (ag h5 (u2 (ak (k5 (aj t3 (u2 (k3 (aj t3 (u2 (k3 (aj t3 (u2 (ak (k3 (al t3)))))))))))))))))))))))))))))) (ak s2)))))) t2)
theorem ynvl_2(q:QY)(h1:(decide (iN q.i<iN (Uq sA q.n.ss).length)=true))(h2:(0<=iN q.i))(h3:((Uq sA q.n.ss)[(iN q.i).toNat]?=some (sA q.s)))(h4:(decide (q.s.i<0)=false))(h5:(decide (iN (Uq bA q.n.bs).length<=q.s.i)=false))(h6:(decide (q.s.o<0)=true)):GoO Ux (hU [89,110,126,137] (BG q) (cY q)) 0 (zC (zB Try.f69) 0) (zK (zB Try.f69) 0) (CN q) (Fin Ux Try.f69 0 [] (AV.bool false)):=zF (σ:=[]) (fz:=[]) (by kernel_rfl) (aj (al (aj (u2 (u2 (u2 (u2 (al t3))))) (aj h1 (aj (u2 (u2 (u2 (aj (k2 (aj h2 h3)) (u2 (ak (al (k2 (show Nat.le (nat_lit 1) (nat_lit 1) from nL rfl))))))))) (aj (u2 (u2 (u2 (u2 (ag h4 (ag h4 (ag h4 (ag h4 (ag h4 (aj (aj h4 t3) (ag h4 (u2 (ag h5 (ag h5 (ag h5 (ag h5 (u2 (aj h6 (aj h6 (aj h6 (aj h6 (aj h6 (aj h6 (ag h6 (u2 (k3 (aj t3 (u2 (k3 (aj t3 (u2 (ak (k3 (al t3)))))))))))))))))))))))))))))))))) (ak s2)))))) t2)
theorem ynvl_3(q:QY)(h1:(decide (iN q.i<iN (Uq sA q.n.ss).length)=true))(h2:(0<=iN q.i))(h3:((Uq sA q.n.ss)[(iN q.i).toNat]?=some (sA q.s)))(h4:(decide (q.s.i<0)=false))(h5:(decide (iN (Uq bA q.n.bs).length<=q.s.i)=false))(h6:(decide (q.s.o<0)=false))(h7:(decide (iN (Uq bA q.n.bs).length<=q.s.o)=true)):GoO Ux (hU [89,110,126,136,153] (BG q) (cY q)) 0 (zC (zB Try.f69) 0) (zK (zB Try.f69) 0) (CN q) (Fin Ux Try.f69 0 [] (AV.bool false)):=zF (σ:=[]) (fz:=[]) (by kernel_rfl) (aj (al (aj (u2 (u2 (u2 (u2 (al t3))))) (aj h1 (aj (u2 (u2 (u2 (aj (k2 (aj h2 h3)) (u2 (ak (al (k2 (show Nat.le (nat_lit 1) (nat_lit 1) from nL rfl))))))))) (aj (u2 (u2 (u2 (u2 (ag h4 (ag h4 (ag h4 (ag h4 (ag h4 (aj (aj h4 t3) (ag h4 (u2 (ag h5 (ag h5 (ag h5 (ag h5 (u2 (ag h6 (ag h6 (ag h6 (ag h6 (ag h6 (aj (aj h6 t3) (ag h6 (u2 (aj h7 (aj h7 (aj h7 (ag h7 (u2 (k3 (aj t3 (u2 (ak (k3 (al t3)))))))))))))))))))))))))))))))))))) (ak s2)))))) t2)
theorem ynvl_4(q:QY)(h1:(decide (iN q.i<iN (Uq sA q.n.ss).length)=true))(h2:(0<=iN q.i))(h3:((Uq sA q.n.ss)[(iN q.i).toNat]?=some (sA q.s)))(h4:(decide (q.s.i<0)=false))(h5:(decide (iN (Uq bA q.n.bs).length<=q.s.i)=false))(h6:(decide (q.s.o<0)=false))(h7:(decide (iN (Uq bA q.n.bs).length<=q.s.o)=false))(h8:(decide (q.s.k<1)=true)):GoO Ux (hU [89,110,126,136,152,163] (BG q) (cY q)) 0 (zC (zB Try.f69) 0) (zK (zB Try.f69) 0) (CN q) (Fin Ux Try.f69 0 [] (AV.bool false)):=zF (σ:=[]) (fz:=[]) (by kernel_rfl) (aj (al (aj (u2 (u2 (u2 (u2 (al t3))))) (aj h1 (aj (u2 (u2 (u2 (aj (k2 (aj h2 h3)) (u2 (ak (al (k2 (show Nat.le (nat_lit 1) (nat_lit 1) from nL rfl))))))))) (aj (u2 (u2 (u2 (u2 (ag h4 (ag h4 (ag h4 (ag h4 (ag h4 (aj (aj h4 t3) (ag h4 (u2 (ag h5 (ag h5 (ag h5 (ag h5 (u2 (ag h6 (ag h6 (ag h6 (ag h6 (ag h6 (aj (aj h6 t3) (ag h6 (u2 (ag h7 (ag h7 (ag h7 (ag h7 (u2 (aj h8 (aj h8 (aj h8 (ag h8 (u2 (ak (k3 (al t3)))))))))))))))))))))))))))))))))))))) (ak s2)))))) t2)
theorem ynvl_5(q:QY)(h1:(decide (iN q.i<iN (Uq sA q.n.ss).length)=true))(h2:(0<=iN q.i))(h3:((Uq sA q.n.ss)[(iN q.i).toNat]?=some (sA q.s)))(h4:(decide (q.s.i<0)=false))(h5:(decide (iN (Uq bA q.n.bs).length<=q.s.i)=false))(h6:(decide (q.s.o<0)=false))(h7:(decide (iN (Uq bA q.n.bs).length<=q.s.o)=false))(h8:(decide (q.s.k<1)=false))(h9:(decide (4<q.s.k)=true)):GoO Ux (hU [89,110,126,136,152,162,173] (BG q) (cY q)) 0 (zC (zB Try.f69) 0) (zK (zB Try.f69) 0) (CN q) (Fin Ux Try.f69 0 [] (AV.bool false)):=zF (σ:=[]) (fz:=[]) (by kernel_rfl) (aj (al (aj (u2 (u2 (u2 (u2 (al t3))))) (aj h1 (aj (u2 (u2 (u2 (aj (k2 (aj h2 h3)) (u2 (ak (al (k2 (show Nat.le (nat_lit 1) (nat_lit 1) from nL rfl))))))))) (aj (u2 (u2 (u2 (u2 (ag h4 (ag h4 (ag h4 (ag h4 (ag h4 (aj (aj h4 t3) (ag h4 (u2 (ag h5 (ag h5 (ag h5 (ag h5 (u2 (ag h6 (ag h6 (ag h6 (ag h6 (ag h6 (aj (aj h6 t3) (ag h6 (u2 (ag h7 (ag h7 (ag h7 (ag h7 (u2 (ag h8 (ag h8 (ag h8 (ag h8 (u2 (aj h9 (aj h9 (aj h9 (aj h9 (al (aj h9 t2))))))))))))))))))))))))))))))))))))))))) (ak s2)))))) t2)
theorem ynvl_6(q:QY)(h1:(decide (iN q.i<iN (Uq sA q.n.ss).length)=true))(h2:(0<=iN q.i))(h3:((Uq sA q.n.ss)[(iN q.i).toNat]?=some (sA q.s)))(h4:(decide (q.s.i<0)=false))(h5:(decide (iN (Uq bA q.n.bs).length<=q.s.i)=false))(h6:(decide (q.s.o<0)=false))(h7:(decide (iN (Uq bA q.n.bs).length<=q.s.o)=false))(h8:(decide (q.s.k<1)=false))(h9:(decide (4<q.s.k)=false))(h10:((q.s.b != q.base)=true)):GoO Ux (hU [89,110,126,136,152,162,172,183] (BG q) (cY q)) 0 (zC (zB Try.f69) 0) (zK (zB Try.f69) 0) (CN q) (Fin Ux Try.f69 0 [] (AV.bool false)):=zF (σ:=[]) (fz:=[]) (by kernel_rfl) (aj (al (aj (u2 (u2 (u2 (u2 (al t3))))) (aj h1 (aj (u2 (u2 (u2 (aj (k2 (aj h2 h3)) (u2 (ak (al (k2 (show Nat.le (nat_lit 1) (nat_lit 1) from nL rfl))))))))) (aj (u2 (u2 (u2 (u2 (ag h4 (ag h4 (ag h4 (ag h4 (ag h4 (aj (aj h4 t3) (ag h4 (u2 (ag h5 (ag h5 (ag h5 (ag h5 (u2 (ag h6 (ag h6 (ag h6 (ag h6 (ag h6 (aj (aj h6 t3) (ag h6 (u2 (ag h7 (ag h7 (ag h7 (ag h7 (u2 (ag h8 (ag h8 (ag h8 (ag h8 (u2 (ag h9 (ag h9 (ag h9 (aj (aj h9 t3) (al (aj h9 t2))))))))))))))))))))))))))))))))))))))))) (aj h10 s2)))))) t2)
theorem ynvl_7(q:QY)(h1:(decide (iN q.i<iN (Uq sA q.n.ss).length)=true))(h2:(0<=iN q.i))(h3:((Uq sA q.n.ss)[(iN q.i).toNat]?=some (sA q.s)))(h4:(decide (q.s.i<0)=false))(h5:(decide (iN (Uq bA q.n.bs).length<=q.s.i)=false))(h6:(decide (q.s.o<0)=false))(h7:(decide (iN (Uq bA q.n.bs).length<=q.s.o)=false))(h8:(decide (q.s.k<1)=false))(h9:(decide (4<q.s.k)=false))(h10:((q.s.b != q.base)=false))(h11:(q.s.dep=true)){post:Exit->St->Prop}{R:St->Prop}(hR:∀st,Ren 0 st (St.mk 163 [(1,AV.ptr 0 0 0),(3,iv (i64.wrap (q.base+q.s.k))),(4,iv (i64.wrap (q.dn+1))),(5,iv (i64.wrap (iN q.i+1)))] [some (Blk.mk [Af q.n] 8 true true none)])->R st):GoP Ux (hU [89,110,126,136,152,162,172,182,195] (BG q) (cY q)) 0 (zC (zB Try.f69) 0) (CN q) (andThen R post):=zN (σ:=[0]) (fz:=[]) (vars:=[1,3,4,5]) (by kernel_rfl) (aj (aj (u2 (u2 (u2 (u2 (al t3))))) (aj h1 (aj (u2 (u2 (u2 (aj (k2 (aj h2 h3)) (u2 (ak (al (k2 (show Nat.le (nat_lit 1) (nat_lit 1) from nL rfl))))))))) (aj (u2 (u2 (u2 (u2 (ag h4 (ag h4 (ag h4 (ag h4 (ag h4 (aj (aj h4 t3) (ag h4 (u2 (ag h5 (ag h5 (ag h5 (ag h5 (u2 (ag h6 (ag h6 (ag h6 (ag h6 (ag h6 (aj (aj h6 t3) (ag h6 (u2 (ag h7 (ag h7 (ag h7 (ag h7 (u2 (ag h8 (ag h8 (ag h8 (ag h8 (u2 (ag h9 (ag h9 (ag h9 (aj (aj h9 t3) (al (aj h9 t2))))))))))))))))))))))))))))))))))))))))) (aj h10 (aj (u2 (u2 (u2 (aj t3 s2)))) (aj (u2 s2) (aj h11 (aj (u2 (u2 s2)) (al (u2 (u2 s2)))))))))))) t6) hR
theorem ynvl_8(q:QY)(h1:(decide (iN q.i<iN (Uq sA q.n.ss).length)=true))(h2:(0<=iN q.i))(h3:((Uq sA q.n.ss)[(iN q.i).toNat]?=some (sA q.s)))(h4:(decide (q.s.i<0)=false))(h5:(decide (iN (Uq bA q.n.bs).length<=q.s.i)=false))(h6:(decide (q.s.o<0)=false))(h7:(decide (iN (Uq bA q.n.bs).length<=q.s.o)=false))(h8:(decide (q.s.k<1)=false))(h9:(decide (4<q.s.k)=false))(h10:((q.s.b != q.base)=false))(h11:(q.s.dep=false)){post:Exit->St->Prop}{R:St->Prop}(hR:∀st,Ren 0 st (St.mk 163 [(1,AV.ptr 0 0 0),(3,iv (i64.wrap (q.base+q.s.k))),(4,iv q.dn),(5,iv (i64.wrap (iN q.i+1)))] [some (Blk.mk [Af q.n] 8 true true none)])->R st):GoP Ux (hU [89,110,126,136,152,162,172,182,194] (BG q) (cY q)) 0 (zC (zB Try.f69) 0) (CN q) (andThen R post):=zN (σ:=[0]) (fz:=[]) (vars:=[1,3,4,5]) (by kernel_rfl) (aj (aj (u2 (u2 (u2 (u2 (al t3))))) (aj h1 (aj (u2 (u2 (u2 (aj (k2 (aj h2 h3)) (u2 (ak (al (k2 (show Nat.le (nat_lit 1) (nat_lit 1) from nL rfl))))))))) (aj (u2 (u2 (u2 (u2 (ag h4 (ag h4 (ag h4 (ag h4 (ag h4 (aj (aj h4 t3) (ag h4 (u2 (ag h5 (ag h5 (ag h5 (ag h5 (u2 (ag h6 (ag h6 (ag h6 (ag h6 (ag h6 (aj (aj h6 t3) (ag h6 (u2 (ag h7 (ag h7 (ag h7 (ag h7 (u2 (ag h8 (ag h8 (ag h8 (ag h8 (u2 (ag h9 (ag h9 (ag h9 (aj (aj h9 t3) (al (aj h9 t2))))))))))))))))))))))))))))))))))))))))) (aj h10 (aj (u2 (u2 (u2 (aj t3 s2)))) (aj (u2 s2) (aj h11 (al (u2 (u2 s2))))))))))) t6) hR
theorem ynvx_0(q:QY)(h1:(decide (iN q.i<iN (Uq sA q.n.ss).length)=false)){post:Exit->St->Prop}(ht:T Ux 0 (.loop (zC (zB Try.f69) 1)) (St.mk 163 [(1,AV.ptr 0 0 0),(4,iv q.dn),(7,iv 0)] [some (Blk.mk [Af q.n] 8 true true none)]) (TK Ux 0 post (zK (zB Try.f69) 1))):GoO Ux (hU [88] (BG q) (cY q)) 0 (zC (zB Try.f69) 0) (zK (zB Try.f69) 0) (CN q) post:=zR (σ:=[0]) (fz:=[]) (vars:=[1,4,7]) (by kernel_rfl) (aj (aj (aj (u2 (u2 (u2 (u2 (al t3))))) (al h1)) s2) t5) ht
theorem ynwl_0(q:QY)(h1:(decide (iN q.i<iN (Uq iv q.n.rs).length)=true)){post:Exit->St->Prop}(ht:T Ux 0 (.loop (zC (zC (zB Try.f69) 1) 0)) (St.mk 163 [(1,AV.ptr 0 0 0),(4,iv q.dn),(7,iv (iN q.i)),(8,AV.bool false),(9,iv 0)] [some (Blk.mk [Af q.n] 8 true true none)]) (TK Ux 0 post (zK (zC (zB Try.f69) 1) 0))):GoP Ux (hU [209] (BG q) (cY q)) 0 (zC (zB Try.f69) 1) (HW q) post:=zR (σ:=[0]) (fz:=[]) (vars:=[1,4,7,8,9]) (by kernel_rfl) (aj (aj (u2 (u2 (u2 (u2 (al t3))))) (aj h1 (u2 s2))) t7) ht
theorem ynwl_1(q:QY)(h1:(decide (iN q.i<iN (Uq iv q.n.rs).length)=false)):GoO Ux (hU [208] (BG q) (cY q)) 0 (zC (zB Try.f69) 1) (zK (zB Try.f69) 1) (HW q) (Fin Ux Try.f69 0 [] (AV.bool (decide (0<q.dn)))):=zF (σ:=[]) (fz:=[]) (by kernel_rfl) (aj (aj (aj (u2 (u2 (u2 (u2 (al t3))))) (al h1)) (al (u2 (u2 s2)))) t2)
theorem ynxl_0(q:QY)(h1:(decide (iN q.k<iN (Uq sA q.n.ss).length)=true))(h2:(0<=iN q.k))(h3:((Uq sA q.n.ss)[(iN q.k).toNat]?=some (sA q.s)))(h4:(q.ok=true)){post:Exit->St->Prop}{R:St->Prop}(hR:∀st,Ren 0 st (St.mk 163 [(1,AV.ptr 0 0 0),(4,iv q.dn),(7,iv (iN q.i)),(8,AV.bool true),(9,iv (i64.wrap (iN q.k+1)))] [some (Blk.mk [Af q.n] 8 true true none)])->R st):GoP Ux (hU [223,241] (BG q) (cY q)) 0 (zC (zC (zB Try.f69) 1) 0) (DB q) (andThen R post):=zN (σ:=[0]) (fz:=[]) (vars:=[1,4,7,8,9]) (by kernel_rfl) (aj (aj (u2 (u2 (u2 (u2 (al t3))))) (aj h1 (aj (u2 (u2 (u2 (aj (k2 (aj h2 h3)) (u2 (ak (al (k2 (show Nat.le (nat_lit 1) (nat_lit 1) from nL rfl))))))))) (aj (u2 (u2 (aj h4 (aj h4 (aj h4 (k3 (k5 (aj h4 (aj h4 (ak (k5 (k5 (aj h4 (ag h4 s2)))))))))))))) (al (u2 (u2 s2))))))) t7) hR
theorem ynxl_1(q:QY)(h1:(decide (iN q.k<iN (Uq sA q.n.ss).length)=true))(h2:(0<=iN q.k))(h3:((Uq sA q.n.ss)[(iN q.k).toNat]?=some (sA q.s)))(h4:(q.ok=false))(h5:(q.s.dep=true))(h6:(0<=iN q.i))(h7:((Uq iv q.n.rs)[(iN q.i).toNat]?=some (iv q.x)))(h8:(decide (q.s.b<=q.x)=true)){post:Exit->St->Prop}{R:St->Prop}(hR:∀st,Ren 0 st (St.mk 163 [(1,AV.ptr 0 0 0),(4,iv q.dn),(7,iv (iN q.i)),(8,AV.bool (decide (q.x<i64.wrap (q.s.b+q.s.k)))),(9,iv (i64.wrap (iN q.k+1)))] [some (Blk.mk [Af q.n] 8 true true none)])->R st):GoP Ux (hU [223,240,247,267] (BG q) (cY q)) 0 (zC (zC (zB Try.f69) 1) 0) (DB q) (andThen R post):=zN (σ:=[0]) (fz:=[]) (vars:=[1,4,7,8,9]) (by kernel_rfl) (aj (aj (u2 (u2 (u2 (u2 (al t3))))) (aj h1 (aj (u2 (u2 (u2 (aj (k2 (aj h2 h3)) (u2 (ak (al (k2 (show Nat.le (nat_lit 1) (nat_lit 1) from nL rfl))))))))) (aj (u2 (u2 (ag h4 (ag h4 (ag h4 (ag h5 (ag h5 (ag h5 (aj (aj h5 (k2 (aj h6 h7))) (ag h5 (ag h5 (ag h5 (aj (aj h5 t3) (aj (aj h4 (aj h5 t2)) (ag h4 (ag h8 (ag h8 (ag h8 (aj (aj h8 (k2 (aj h6 h7))) (ag h8 (ag h8 (ag h8 (ag h8 (ag h8 (aj (aj h8 t3) (aj (aj h8 t3) (aj (aj h4 (aj h8 t2)) (ag h4 s2)))))))))))))))))))))))))))) (al (u2 (u2 s2))))))) t7) hR
theorem ynxl_2(q:QY)(h1:(decide (iN q.k<iN (Uq sA q.n.ss).length)=true))(h2:(0<=iN q.k))(h3:((Uq sA q.n.ss)[(iN q.k).toNat]?=some (sA q.s)))(h4:(q.ok=false))(h5:(q.s.dep=true))(h6:(0<=iN q.i))(h7:((Uq iv q.n.rs)[(iN q.i).toNat]?=some (iv q.x)))(h8:(decide (q.s.b<=q.x)=false)){post:Exit->St->Prop}{R:St->Prop}(hR:∀st,Ren 0 st (St.mk 163 [(1,AV.ptr 0 0 0),(4,iv q.dn),(7,iv (iN q.i)),(8,AV.bool false),(9,iv (i64.wrap (iN q.k+1)))] [some (Blk.mk [Af q.n] 8 true true none)])->R st):GoP Ux (hU [223,240,247,266] (BG q) (cY q)) 0 (zC (zC (zB Try.f69) 1) 0) (DB q) (andThen R post):=zN (σ:=[0]) (fz:=[]) (vars:=[1,4,7,8,9]) (by kernel_rfl) (aj (aj (u2 (u2 (u2 (u2 (al t3))))) (aj h1 (aj (u2 (u2 (u2 (aj (k2 (aj h2 h3)) (u2 (ak (al (k2 (show Nat.le (nat_lit 1) (nat_lit 1) from nL rfl))))))))) (aj (u2 (u2 (ag h4 (ag h4 (ag h4 (ag h5 (ag h5 (ag h5 (aj (aj h5 (k2 (aj h6 h7))) (ag h5 (ag h5 (ag h5 (aj (aj h5 t3) (aj (aj h4 (aj h5 t2)) (ag h4 (aj h8 (aj h8 (aj h8 (aj h8 (aj h8 (aj h8 (aj h8 (aj h8 (aj h8 (aj h8 (aj h8 (aj (aj h4 (aj h8 t2)) (ag h4 s2)))))))))))))))))))))))))))) (al (u2 (u2 s2))))))) t7) hR
theorem ynxl_3(q:QY)(h1:(decide (iN q.k<iN (Uq sA q.n.ss).length)=true))(h2:(0<=iN q.k))(h3:((Uq sA q.n.ss)[(iN q.k).toNat]?=some (sA q.s)))(h4:(q.ok=false))(h5:(q.s.dep=false)){post:Exit->St->Prop}{R:St->Prop}(hR:∀st,Ren 0 st (St.mk 163 [(1,AV.ptr 0 0 0),(4,iv q.dn),(7,iv (iN q.i)),(8,AV.bool false),(9,iv (i64.wrap (iN q.k+1)))] [some (Blk.mk [Af q.n] 8 true true none)])->R st):GoP Ux (hU [223,240,246] (BG q) (cY q)) 0 (zC (zC (zB Try.f69) 1) 0) (DB q) (andThen R post):=zN (σ:=[0]) (fz:=[]) (vars:=[1,4,7,8,9]) (by kernel_rfl) (aj (aj (u2 (u2 (u2 (u2 (al t3))))) (aj h1 (aj (u2 (u2 (u2 (aj (k2 (aj h2 h3)) (u2 (ak (al (k2 (show Nat.le (nat_lit 1) (nat_lit 1) from nL rfl))))))))) (aj (u2 (u2 (ag h4 (ag h4 (ag h4 (aj h5 (aj h5 (aj h5 (aj h5 (aj h5 (aj h5 (aj h5 (aj h5 (aj (aj h4 (aj h5 t2)) (ag h4 (ak (k5 (k5 (aj (aj h4 t3) (ag h4 s2)))))))))))))))))))) (al (u2 (u2 s2))))))) t7) hR
theorem ynxx_0(q:QY)(h1:(decide (iN q.k<iN (Uq sA q.n.ss).length)=false))(h2:((!q.ok)=true)){post:Exit->St->Prop}(hP:BQ post (Fin Ux Try.f69 0 [] (AV.bool false))):GoO Ux (hU [222,299] (BG q) (cY q)) 0 (zC (zC (zB Try.f69) 1) 0) (zK (zC (zB Try.f69) 1) 0) (DB q) post:=CK (σ:=[]) (fz:=[]) (by kernel_rfl) (aj (aj (aj (u2 (u2 (u2 (u2 (al t3))))) (al h1)) (aj (u2 (u2 (u2 (aj h2 (aj h2 (aj h2 (aj h2 (aj h2 (aj h2 (aj h2 (aj h2 (aj h2 (aj h2 (al (aj h2 t2))))))))))))))) (ak s2))) t2) hP
theorem ynxx_1(q:QY)(h1:(decide (iN q.k<iN (Uq sA q.n.ss).length)=false))(h2:((!q.ok)=false))(h3:(∀(e:AV),e∈Uq iv q.n.rs->e.cells.length=1))(h4:(0<=iN q.i))(h5:(iN q.i<=iN (Uq iv q.n.rs).length))(h6:(iN (Uq iv q.n.rs).length<=iN (Uq iv q.n.rs).length))(h7:((Uq iv q.n.rs)[(iN q.i).toNat]?=some (iv q.x)))(h8:(CT Ux 26 [] [Uw (List.take ((iN q.i).toNat-Uv 0) (List.drop (Uv 0) (Uq iv q.n.rs))),iv q.x] [] (AV.bool q.c3)))(h9:(q.c3=true)){post:Exit->St->Prop}(hP:BQ post (Fin Ux Try.f69 0 [] (AV.bool false))):GoO Ux (hU [222,298,321] (BG q) (cY q)) 0 (zC (zC (zB Try.f69) 1) 0) (zK (zC (zB Try.f69) 1) 0) (DB q) post:=CK (σ:=[]) (fz:=[]) (by kernel_rfl) (aj (aj (aj (u2 (u2 (u2 (u2 (al t3))))) (al h1)) (aj (u2 (u2 (u2 (ag h2 (ag h2 (ag h2 (aj (aj h2 (k2 (aj h3 (aj (Int.le_refl 0) (aj h4 (aj h5 h6)))))) (ag h2 (ag h2 (ag h2 (aj (aj h2 (k2 (aj h4 h7))) (ag h2 (aj (aj h2 (ak (k3 (al h8)))) (al (aj h2 t2))))))))))))))) (aj h9 s2))) t2) hP
theorem ynxx_2(q:QY)(h1:(decide (iN q.k<iN (Uq sA q.n.ss).length)=false))(h2:((!q.ok)=false))(h3:(∀(e:AV),e∈Uq iv q.n.rs->e.cells.length=1))(h4:(0<=iN q.i))(h5:(iN q.i<=iN (Uq iv q.n.rs).length))(h6:(iN (Uq iv q.n.rs).length<=iN (Uq iv q.n.rs).length))(h7:((Uq iv q.n.rs)[(iN q.i).toNat]?=some (iv q.x)))(h8:(CT Ux 26 [] [Uw (List.take ((iN q.i).toNat-Uv 0) (List.drop (Uv 0) (Uq iv q.n.rs))),iv q.x] [] (AV.bool q.c3)))(h9:(q.c3=false)){post:Exit->St->Prop}{R:St->Prop}(hR:∀st,Ren 0 st (St.mk 163 [(1,AV.ptr 0 0 0),(4,iv q.dn),(7,iv (i64.wrap (iN q.i+1)))] [some (Blk.mk [Af q.n] 8 true true none)])->R st):GoO Ux (hU [222,298,320] (BG q) (cY q)) 0 (zC (zC (zB Try.f69) 1) 0) (zK (zC (zB Try.f69) 1) 0) (DB q) (andThen R post):=zN (σ:=[0]) (fz:=[]) (vars:=[1,4,7]) (by kernel_rfl) (aj (aj (aj (u2 (u2 (u2 (u2 (al t3))))) (al h1)) (aj (u2 (u2 (u2 (ag h2 (ag h2 (ag h2 (aj (aj h2 (k2 (aj h3 (aj (Int.le_refl 0) (aj h4 (aj h5 h6)))))) (ag h2 (ag h2 (ag h2 (aj (aj h2 (k2 (aj h4 h7))) (ag h2 (aj (aj h2 (ak (k3 (al h8)))) (al (aj h2 t2))))))))))))))) (aj h9 (al (u2 (u2 s2)))))) t5) hR
theorem ycel_0(q:QY){post:Exit->St->Prop}(ht:T Ux 0 (.loop (zC (zB Try.f18) 0)) (St.mk 24 [(1,AV.ptr 0 0 0),(3,iv (iN (Uq bA q.n.bs).length)),(4,iv 0)] [some (Blk.mk [Af q.n] [Uw (Uq bA q.n.bs),Uw (gL q.n.nx),Uw (Uq sA q.n.ss),Uw (Uq iv q.n.rs),iv q.n.q,iv q.n.a,iv q.n.d,iv q.n.p].length true true none)]) (TK Ux 0 post (zK (zB Try.f18) 0))):GoP Ux (hU [] (ey27 q) (cY q)) 0 (zB Try.f18) (sy27 q) post:=zR (σ:=[0]) (fz:=[]) (vars:=[1,3,4]) (by kernel_rfl) (aj (ag t2 (aj (u2 (u2 (u2 s2))) s2)) t5) ht
theorem ycell_0(q:QY)(h1:(decide (iN q.i<iN (Uq sA q.n.ss).length)=true))(h2:(0<=iN q.i))(h3:((Uq sA q.n.ss)[(iN q.i).toNat]?=some (sA q.s))){post:Exit->St->Prop}{R:St->Prop}(hR:∀st,Ren 0 st (St.mk 24 [(1,AV.ptr 0 0 0),(3,iv (i64.wrap (q.base+q.s.k))),(4,iv (i64.wrap (iN q.i+1)))] [some (Blk.mk [Af q.n] 8 true true none)])->R st):GoP Ux (hU [25] (ey27 q) (cY q)) 0 (zC (zB Try.f18) 0) (Jq q) (andThen R post):=zN (σ:=[0]) (fz:=[]) (vars:=[1,3,4]) (by kernel_rfl) (aj (aj (u2 (u2 (u2 (u2 (al t3))))) (aj h1 (aj (u2 (u2 (u2 (u2 (aj (k2 (aj h2 h3)) (u2 (u2 (aj t3 s2)))))))) (al (u2 (u2 s2)))))) t5) hR
theorem ycell_1(q:QY)(h1:(decide (iN q.i<iN (Uq sA q.n.ss).length)=false)):GoO Ux (hU [24] (ey27 q) (cY q)) 0 (zC (zB Try.f18) 0) (zK (zB Try.f18) 0) (Jq q) (Fin Ux Try.f18 0 [] (iv q.base)):=zF (σ:=[]) (fz:=[]) (by kernel_rfl) (aj (aj (aj (u2 (u2 (u2 (u2 (al t3))))) (al h1)) (al (u2 s2))) t2)
end Go.Proofs.Ytedjkebooffjpaa

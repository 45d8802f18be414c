/- Parts of the proof:Pam,PaA,AxMl,UtA,LoA,St6m,StE,LoB,CeA,Ce1m,CeB,Ce2m,CeC,Ce3m,CeD,AxRw,RvA,RvB,Rv1m,Rv1A,RvC,RvD,Rv2m,RvE,AxNd,RqA,RqB,Cz1m,CzA,Rq1m,Rq2m,RqC,SpA,SpB,Sg1m,SgA,SgB,Sg2m,SgC,SgD,SgE,SgH,Rp1m,RpA,Rp2m,RpB,Rp3m,RpC,Sg3m,SgF,SgI,SgG,Sg4m,SgJ,SgK,AxSd,AxSe,Ac0. -/
import Derived.Test.YtedjkebooffjpaaProg
import Derived.KernelRfl
import Derived.Test.YtedjkebooffjpaaItineraryLegsM5
noncomputable section
set_option linter.unusedVariables false
set_option linter.unusedSimpArgs false
open Go Go.AX Go.Proofs
set_option maxRecDepth 100000
set_option maxHeartbeats 4000000
set_option linter.unusedVariables false
set_option linter.unusedSimpArgs false
open Go.IntKind (i64 u64)
open List renaming map->Uq,replicate->Ur
open Int renaming toNat->Uv
open Go.AX.AV renaming lst->Uw
open Go.Proofs.Try renaming prog->Ux
namespace Go.Proofs.Ytedjkebooffjpaa
inductive D8 where | l0 (v0:Int) | l1 (v0:Int) (v1:Am) (v2:Int)
def GH(n:Ab)(c:Int):D8->St | .l0 v0=>St.mk 37 [(1,iv c),(6,iv (-1)),(7,iv 0),(12,Uw (Uq sA n.ss)),(13,iv (iN (Uq sA n.ss).length)),(14,iv v0)] [] | .l1 v0 v1 v2=>St.mk 37 [(1,iv c),(6,iv (-1)),(7,iv 0),(8,iv v0),(9,AV.ptr 0 0 0),(12,Uw (Uq sA n.ss)),(13,iv (iN (Uq sA n.ss).length)),(14,iv v0),(20,iv v1.k),(21,iv v2)] [some (bK [sA v1] 6)]
def Ky:D8->Nat | .l0 _=>0 | .l1 _ _ _=>1
def plEn(n:Ab)(c:Int):Option (D8⊕Ret):=some (.inl (.l0 ((0:Int))))
def GO(n:Ab)(c v0:Int):Option (D8⊕Ret):=br (decide (v0<iN (Uq sA n.ss).length)) (gu (0<=v0) <|el (n.ss) (v0.toNat) fun(x17:Am)=>some (.inl (.l1 v0 x17 ((0:Int))))) (some (.inr ([],AV.tup [iV (-1),iV 0])))
def GK(n:Ab)(c v0:Int)(v1:Am)(v2:Int):Option (D8⊕Ret):=br (decide (v2<v1.k)) (br (i64.wrap (v1.b+v2)==c) (some (.inr ([],AV.tup [iV v0,iV (i64.wrap (v2+1))]))) (some (.inl (.l1 v0 v1 (i64.wrap (v2+1)))))) (some (.inl (.l0 (i64.wrap (v0+1)))))
def NG(n:Ab)(c:Int):D8->Option (D8⊕Ret) | .l0 v0=>GO n c v0 | .l1 v0 v1 v2=>GK n c v0 v1 v2
theorem plEn_ok(n:Ab)(c:Int)(o:D8⊕Ret)(h:plEn n c=some o):Arr Ux Try.f109 0 (GH n c) Ky (zB Try.f109) [] {n:=Try.f109.ntmps,fr:=AI 0 ([Af n,.int .i64 c]),hp:=([])} o:=Scr.ok h mix (.lp [] [] [] [] [] [] [1,6,7,12,13,14] (aj (aj (u2 t3) (aj t3 (al (u2 (u2 (u2 t2)))))) t7)) (by kernel_rfl)
theorem plS0_ok(n:Ab)(c v0:Int)(o:D8⊕Ret)(h:GO n c v0=some o):Arr Ux Try.f109 0 (GH n c) Ky (Av Try.f109 0) (.rnd (Av Try.f109 0)::AK Try.f109 0) (GH n c (.l0 v0)) o:=Scr.ok h mix (.rn 0 [] [] [] [] (al (al t3)) <|.br (fun a0=>.gu fun a1=>.el fun x17 a2=>.lp [31] [(17,sA x17)] [] [] [] [0] [1,6,7,8,9,12,13,14,20,21] (aj (aj a0 (aj (u2 (aj (k2 (aj a1 (Ar (f:=sA) a2))) (u2 (ak (u2 (al (k2 n11))))))) (al (u2 (u2 t2))))) (k3 t9))) (fun a0=>.rt [30] [] [] [] [] [] (aj (aj a0 (al (u2 (u2 (u2 s2))))) (al t3)))) (by kernel_rfl)
theorem plS1_ok(n:Ab)(c v0:Int)(v1:Am)(v2:Int)(o:D8⊕Ret)(h:GK n c v0 v1 v2=some o):Arr Ux Try.f109 0 (GH n c) Ky (Av Try.f109 1) (.rnd (Av Try.f109 1)::AK Try.f109 1) (GH n c (.l1 v0 v1 v2)) o:=Scr.ok h mix (.rn 0 [] [] [] [] (al (al t3)) <|.br (fun a0=>.rn 1 [45] [] [] [] (aj a0 (aj (u2 s2) (al (u2 (u2 (u2 (aj t3 (u2 (al t3))))))))) <|.br (fun a1=>.rt [59] [] [] [] [] [] (aj (aj a1 (aj (u2 (u2 (u2 (u2 s2)))) (al (u2 (u2 (u2 s2)))))) (al t3))) (fun a1=>.lp [58] [] [] [] [] [0] [1,6,7,8,9,12,13,14,20,21] (aj (aj a1 (al (u2 s2))) (k3 t9)))) (fun a0=>.lp [44] [] [] [] [] [] [1,6,7,12,13,14] (aj (aj a0 (al (u2 s2))) t7))) (by kernel_rfl)
theorem pl_ct(n:Ab)(c:Int)(r:Ret)(h:Aq (NG n c) (plEn n c) r):CT Ux 109 ([]) ([Af n,.int .i64 c]) r.1 r.2:=
 CT.mach (fn:=Try.f109) (c:=zB Try.f109) (S:=GH n c) (hd:=Ky) Try.func109 (by kernel_rfl) (nL rfl)
  (fun s o ho=>match s,ho with
   | .l0 v0,ho=>plS0_ok n c v0 o ho
   | .l1 v0 v1 v2,ho=>plS1_ok n c v0 v1 v2 o ho
  )
  (fun o ho=>plEn_ok n c o ho) h
inductive E8 where | l0 (v0:Int)
def KI(n:Ab)(c:Int):E8->St | .l0 v0=>St.mk 39 [(1,iv c),(2,AV.ptr 0 0 0),(6,iv v0)] [some (bK [Af n] 8)]
def LB:E8->Nat | .l0 _=>0
def rplEn(n:Ab)(c:Int):Option (E8⊕Ret):=some (.inl (.l0 ((0:Int))))
def GU(n:Ab)(c v0:Int):Option (E8⊕Ret):=br (decide (v0<iN (Uq sA n.ss).length)) (gu (0<=v0) <|el (n.ss) (v0.toNat) fun(x18:Am)=>br (decide (x18.b<=c)) (br (decide (c<i64.wrap (x18.b+x18.k))) (some (.inr ([],AV.tup [iV v0,iV (i64.wrap (i64.wrap (c-x18.b)+1))]))) (some (.inl (.l0 (i64.wrap (v0+1)))))) (some (.inl (.l0 (i64.wrap (v0+1)))))) (some (.inr ([],AV.tup [iV (-1),iV 0])))
def PT(n:Ab)(c:Int):E8->Option (E8⊕Ret) | .l0 v0=>GU n c v0
theorem rplEn_ok(n:Ab)(c:Int)(o:E8⊕Ret)(h:rplEn n c=some o):Arr Ux Try.f121 0 (KI n c) LB (zB Try.f121) [] {n:=Try.f121.ntmps,fr:=AI 0 ([Af n,.int .i64 c]),hp:=([])} o:=Scr.ok h mix (.lp [] [] [] [] [] [0] [1,2,6] (aj (aj (u2 t3) s2) t5)) (by kernel_rfl)
theorem rplS0_ok(n:Ab)(c v0:Int)(o:E8⊕Ret)(h:GU n c v0=some o):Arr Ux Try.f121 0 (KI n c) LB (Av Try.f121 0) (.rnd (Av Try.f121 0)::AK Try.f121 0) (KI n c (.l0 v0)) o:=Scr.ok h mix (.rn 0 [] [] [] [] (al (u2 (u2 (u2 (u2 (al t3)))))) <|.br (fun a0=>.gu fun a1=>.el fun x18 a2=>.rn 0 [25] [(18,sA x18)] [] [] (aj a0 (al (u2 (u2 (u2 (aj (k2 (aj a1 (Ar (f:=sA) a2))) (u2 (ak (al (k2 n11)))))))))) <|.br (fun a3=>.rn 0 [49] [] [] [] (al (u2 (u2 (u2 (aj t3 (u2 (ag a3 (ag a3 (ag a3 (ag a3 (ag a3 (aj (aj a3 t3) (aj (aj a3 t3) (al (aj a3 t2))))))))))))))) <|.br (fun a4=>.rt [49,65] [] [] [] [] [] (aj (aj a4 (al (u2 (u2 (u2 (u2 (aj t3 (u2 (u2 s2))))))))) (al t3))) (fun a4=>.lp [49,64] [] [] [] [] [0] [1,2,6] (aj (aj a4 (al (u2 (u2 s2)))) t5))) (fun a3=>.lp [48] [] [] [] [] [0] [1,2,6] (aj (aj (u2 (u2 (u2 (aj t3 (u2 (aj a3 (aj a3 (aj a3 (aj a3 (aj a3 (aj a3 (aj a3 (al (aj a3 t2)))))))))))))) (ak (al (u2 (u2 s2))))) t5))) (fun a0=>.rt [24] [] [] [] [] [] (aj (aj a0 (al t3)) (al t3)))) (by kernel_rfl)
theorem rpl_ct(n:Ab)(c:Int)(r:Ret)(h:Aq (PT n c) (rplEn n c) r):CT Ux 121 ([]) ([Af n,.int .i64 c]) r.1 r.2:=
 CT.mach (fn:=Try.f121) (c:=zB Try.f121) (S:=KI n c) (hd:=LB) Try.func121 (by kernel_rfl) (nL rfl)
  (fun s o ho=>match s,ho with
   | .l0 v0,ho=>rplS0_ok n c v0 o ho
  )
  (fun o ho=>rplEn_ok n c o ho) h
end Go.Proofs.Ytedjkebooffjpaa
namespace Go.Proofs.Ytedjkebooffjpaa
def inP(c:Int)(s:Am):Bool:=decide (s.b<=c)&&decide (c<s.b+s.k)
def plB(n:Ab)(c:Int)(i:Nat):Bool:=match n.ss[i]? with | some s=>inP c s | none=>false
@[irreducible] def plF(n:Ab)(c:Int):Option Nat:=fnd (plB n c) 0 n.ss.length
def plI(n:Ab)(c:Int):Int:=match plF n c with | some i=>(i:Int) | none=> -1
def plJ(n:Ab)(c:Int):Int:=match plF n c with | some i=>c-(n.ss.getD i s0).b+1 | none=>0
theorem Ax.sb{n:Ab}(hv:Ax n){i:Nat}{s:Am}(h:n.ss[i]?=some s):1<=s.k/\s.k<=4/\1<=s.b/\s.b<=44/\s.b=AA n i:=by have g:=hv.goodT i s h;have b:=hv.bd i;have nb:=hv.nb24;have ns:=hv.ns;have hl:=(Tw.1 h).1;have k:=g.hk;have e:=g.hb;exact⟨k.1,k.2,by omega,by omega,e⟩
theorem Az{p:Prop}[Decidable p](h:p):decide p=true:=TA h
theorem An{p:Prop}[Decidable p](h:¬p):decide p=false:=Tz h
theorem rpl_run{n:Ab}(hv:Ax n)(c:Int)(hc : -1000<=c/\c<=1000):∀(k i:Nat),i+k=n.ss.length->
  Aq (PT n c) (some (.inl (.l0 (i:Int)))) ([],.tup [.int .i64 (match fnd (plB n c) i k with | some i=>(i:Int) | none=> -1),.int .i64 (match fnd (plB n c) i k with | some i=>c-(n.ss.getD i s0).b+1 | none=>0)]):=by
 intro k;have ns:=hv.ns;induction k with
 | zero=>intro i hi;refine .go _ _ ?_;show Aq _ (GU n c i) _;unfold GU;rw[Ae (An (by simp[iN];omega))];exact .ret _
 | succ k ih=>
  intro i hi;refine .go _ _ ?_;show Aq _ (GU n c i) _;unfold GU;obtain⟨s,hs⟩:∃s,n.ss[i]?=some s:=⟨_,Tu (by omega)⟩;have sb:=hv.sb hs;have hg:n.ss.getD i s0=s:=by rw[Tv,hs];rfl
  have ih':=ih (i+1) (by omega);rw[Ak (Az (by simp[iN];omega)),Aa (by omega),TD,AH hs];rw[A5 (s.b+s.k) (by omega) (by omega),zW i (by omega),A5 (c-s.b) (by omega) (by omega),A5 (c-s.b+1) (by omega) (by omega)];have hp:plB n c i=inP c s:=by unfold plB;rw[hs]
  simp only[fnd,hp];unfold inP;by_cases h1:s.b<=c
  .rw[Ak (Az h1)];by_cases h2:c<s.b+s.k
   .rw[Ak (Az h2),Az h1,Az h2];simp only[Bool.and_self,hg];exact .ret _
   .rw[Ae (An h2),An h2,Bool.and_false];exact ih'
  .rw[Ae (An h1),An h1,Bool.false_and];exact ih'
theorem Rv{n:Ab}(hv:Ax n)(c:Int)(hc : -1000<=c/\c<=1000):CT Ux 121 [] [Af n,.int .i64 c] [] (.tup [.int .i64 (plI n c),.int .i64 (plJ n c)]):=by have h:=rpl_run hv c hc n.ss.length 0 (by omega);unfold plI plJ plF;exact rpl_ct n c _ h
theorem pl_run{n:Ab}(hv:Ax n)(c:Int)(hc : -1000<=c/\c<=1000):∀(k i:Nat),i+k=n.ss.length->
  Aq (NG n c) (some (.inl (.l0 (i:Int)))) ([],.tup [.int .i64 (match fnd (plB n c) i k with | some i=>(i:Int) | none=> -1),.int .i64 (match fnd (plB n c) i k with | some i=>c-(n.ss.getD i s0).b+1 | none=>0)]):=by
 intro k
 have ns:=hv.ns
 induction k with
 | zero=>
  intro i hi
  refine .go _ _ ?_
  show Aq _ (GO n c i) _
  unfold GO
  rw[Ae (An (by simp[iN];omega))]
  exact .ret _
 | succ k ih=>
  intro i hi
  refine .go _ _ ?_
  show Aq _ (GO n c i) _
  unfold GO
  obtain⟨s,hs⟩:∃s,n.ss[i]?=some s:=⟨_,Tu (by omega)⟩
  have sb:=hv.sb hs
  have hg:n.ss.getD i s0=s:=by rw[Tv,hs];rfl
  have ih':=ih (i+1) (by omega)
  rw[Ak (Az (by simp[iN];omega)),Aa (by omega),TD,AH hs]
  have hp:plB n c i=inP c s:=by unfold plB;rw[hs]
  simp only[fnd,hp]
  -- the inner loop
  have inner:∀(m j:Nat),(j:Int)+m=s.k->(c<s.b\/s.b+j<=c)->Aq (NG n c) (some (.inl (.l1 (i:Int) s (j:Int)))) ([],.tup [.int .i64 (match (match inP c s with | true=>some i | false=>fnd (plB n c) (i+1) k) with | some i=>(i:Int) | none=> -1),.int .i64 (match (match inP c s with | true=>some i | false=>fnd (plB n c) (i+1) k) with | some i=>c-(n.ss.getD i s0).b+1 | none=>0)]):=by
   intro m
   induction m with
   | zero=>
    intro j hj hc'
    refine .go _ _ ?_
    show Aq _ (GK n c i s j) _
    unfold GK
    rw[Ae (An (by omega)),zW i (by omega)]
    have:inP c s=false:=by unfold inP;simp;omega
    rw[this]
    exact ih'
   | succ m ihm=>
    intro j hj hc'
    refine .go _ _ ?_
    show Aq _ (GK n c i s j) _
    unfold GK
    rw[Ak (Az (by omega)),A5 (s.b+j) (by omega) (by omega),zW j (by omega)]
    by_cases he:s.b+(j:Int)=c
    .have:inP c s=true:=by unfold inP;simp;omega
     rw[Ak (by simp[he]),this]
     simp only[hg]
     have e2:((j+1:Nat):Int)=c-s.b+1:=by omega
     rw[e2]
     exact .ret _
    .rw[Ae (by simp[he])]
     exact ihm (j+1) (by omega) (by omega)
  exact inner s.k.toNat 0 (by omega) (by omega)
theorem place_ct{n:Ab}(hv:Ax n)(c:Int)(hc : -1000<=c/\c<=1000):CT Ux 109 [] [Af n,.int .i64 c] [] (.tup [.int .i64 (plI n c),.int .i64 (plJ n c)]):=by have h:=pl_run hv c hc n.ss.length 0 (by omega);unfold plI plJ plF;exact pl_ct n c _ h
end Go.Proofs.Ytedjkebooffjpaa
namespace Go.AX
theorem Aq.to{σ ρ:Type}{step:σ->Option (σ⊕ρ)}{s:σ}{y:Option (σ⊕ρ)}{r:ρ}(h:step s=y)(k:Aq step y r):Aq step (some (.inl s)) r:=.go _ _ (h ▸ k)
theorem Aq.val{σ ρ:Type}{step:σ->Option (σ⊕ρ)}{x:Option (σ⊕ρ)}{r:ρ}(h:x=some (.inr r)):Aq step x r:=h ▸ .ret r
theorem Aq.res{σ ρ:Type}{step:σ->Option (σ⊕ρ)}{x:Option (σ⊕ρ)}{r r':ρ}(h:Aq step x r)(e:r=r'):Aq step x r':=e ▸ h
theorem M0{α β σ ρ:Type}{step:σ->Option (σ⊕ρ)}{L:Nat->β->σ}{f:β->α->β}{l:List α}{r:ρ}
  (b0:β) (hg:∀i x,l[i]?=some x->Aq step (some (.inl (L (i+1) (f ((l.take i).foldl f b0) x)))) r->Aq step (some (.inl (L i ((l.take i).foldl f b0)))) r)
  (he:Aq step (some (.inl (L l.length (l.foldl f b0)))) r):Aq step (some (.inl (L 0 b0))) r:=by
 have key:∀k i,i+k=l.length->Aq step (some (.inl (L i ((l.take i).foldl f b0)))) r:=by
  intro k;induction k with
  | zero=>intro i hi;have e:i=l.length:=by omega
          subst e;rw[List.take_length];exact he
  | succ k ih=>intro i hi;have hx:l[i]?=some l[i]:=Tu (by omega);refine hg i _ hx ?_;have h:=ih (i+1) (by omega);rw[List.take_add_one,hx,Option.toList_some,List.foldl_append] at h;exact h
 have h:=key l.length 0 (by omega);simpa using h
theorem JI{α β:Type}{g:α->AV}{l:List α}{i:Nat}{x:α}(hx:l[i]?=some x){f:α->Option β}{y:Option β}:br (decide ((i:Int)<iN (Uq g l).length)) (gu (0<=(i:Int)) (el l (i:Int).toNat f)) y=f x:=by have hl:=(Tw.1 hx).1;rw[Ak (TA (by simp[iN];omega)),Aa (by omega),TD,AH hx]
theorem C3{α β:Type}{g:α->AV}{l:List α}{y z:Option β}:br (decide (((l.length:Nat):Int)<iN (Uq g l).length)) z y=y:=Ae (Tz (by simp[iN]))
theorem Cu{σ ρ:Type}{step:σ->Option (σ⊕ρ)}(L:Nat->σ)(N:Nat){r:ρ}(h:∀i,i<N->Aq step (some (.inl (L (i+1)))) r->Aq step (some (.inl (L i))) r)(he:Aq step (some (.inl (L N))) r):
  Aq step (some (.inl (L 0))) r:=by
 have key:∀k i,i+k=N->Aq step (some (.inl (L i))) r:=by
  intro k;induction k with
  | zero=>intro i hi;have e:i=N:=by omega
          subst e;exact he
  | succ k ih=>intro i hi;exact h i (by omega) (ih (i+1) (by omega))
 exact key N 0 (by omega)
theorem beqM{α:Type}{k i:Nat}{a b:α}:cond (Nat.beq k i) a b=if k=i then a else b:=by
 cases h:Nat.beq k i with
 | true=>rw[Ts (TB h)];rfl
 | false=>rw[Tt (fun e=>by rw[e,Nat.beq_refl] at h;cases h)];rfl
end Go.AX
namespace Go.Proofs.Ytedjkebooffjpaa
theorem Ki{σ ρ:Type}{step:σ->Option (σ⊕ρ)}(L:Nat->σ)(N:Nat)(p:Nat->Bool){rF:Nat->ρ}{r:ρ}
  (hb:∀i,i<N->p i=true->Aq step (some (.inl (L i))) (rF i))
  (hg:∀i x,i<N->p i=false->Aq step (some (.inl (L (i+1)))) x->Aq step (some (.inl (L i))) x)
  (he:fnd p 0 N=none->Aq step (some (.inl (L N))) r):Aq step (some (.inl (L 0))) (match fnd p 0 N with | some i=>rF i | none=>r):=by
 have key:∀k i,i+k=N->fnd p 0 N=fnd p i (N-i)->Aq step (some (.inl (L i))) (match fnd p i (N-i) with | some i=>rF i | none=>r):=by
  intro k;induction k with
  | zero=>intro i hi h0
          have e:i=N:=by omega
          subst e;rw[C0 (by omega)] at h0 ⊢
          exact he h0
  | succ k ih=>
   intro i hi h0;have hlt:i<N:=by omega
   rw[CS hlt] at h0 ⊢
   cases hp:p i with
   | true=>exact hb i hlt hp
   | false=>rw[hp] at h0;exact hg i _ hlt hp (ih (i+1) (by omega) h0)
 exact key N 0 (by omega) rfl
theorem AR{α:Type}{l:List α}{i:Nat}(d:α)(h:i<l.length):l[i]?=some (l.getD i d):=by rw[Tv,Tu h];rfl
theorem BO{α β:Type}{g:α->AV}{l:List α}{i:Nat}(d:α)(h:i<l.length){f:α->Option β}{y:Option β}:br (decide ((i:Int)<iN (Uq g l).length)) (gu (0<=(i:Int)) (el l (i:Int).toNat f)) y=f (l.getD i d):=JI (AR d h)
theorem elG{α β:Type}{l:List α}{i:Nat}(d:α)(h:i<l.length){f:α->Option β}:el l (i:Int).toNat f=f (l.getD i d):=by rw[TD,AH (AR d h)]
theorem Cq{x:Int}(h1 : -9223372036854775808<=x)(h2:x<=9223372036854775807):i64.wrap x=x:=by simp only[IntKind.wrap,IntKind.bits,IntKind.signed];simp;omega
theorem Fa{l:List (Option Blk)}{x:Blk}{b:Nat}{y:Blk}(h:nth (l++[some x]) b=some y):nth l b=some y\/(b=l.length/\y=x):=by
 rw[JF] at h;split at h
 .exact .inl h
 .split at h
  .rename_i e;cases h;exact .inr ⟨e,rfl⟩
  .cases h
theorem OG{f:FuncId}{hin hout:List (Option Blk)}{args:List AV}{k:IntKind}{e:Int}(z:Nat)(h:CT Ux f hin args hout (.tup [.nils,.int k e])):CT Ux f hin args (hout++[some (Blk.mk [] z true true none)]) (.tup [.sl hout.length 0 0,.int k e]):=by
 intro φ A w vs h1 h2 h3 h4 h5;refine(h φ A w vs h1 h2 h3 h4 h5).mono fun e w' ⟨v,φ',he,C⟩=>⟨v,φ',he,?_⟩
 have hnone:φ' hout.length=none:=C.out _ (TF _);have hmut:∀r,Mut φ' (nth (hout++[some (Blk.mk [] z true true none)])) r->Mut φ' (nth hout) r:=by
  rintro r ⟨b,blk',z',g1,g2,g3⟩
  rcases Fa g1 with g | ⟨rfl,rfl⟩
  .exact⟨b,blk',z',g,g2,g3⟩
  .rw[hnone] at g3;cases g3
 have hok:∀r,Ok A w.heap.size φ' (nth hout) w' r->Ok A w.heap.size φ' (nth (hout++[some (Blk.mk [] z true true none)])) w' r:=fun r ⟨g1,g2,g3⟩=>⟨g1,g2,fun h=>g3 (hmut r h)⟩
 have brm:∀{b:Nat} {blk:Blk},BR φ' (Ok A w.heap.size φ' (nth hout) w') w' b blk->BR φ' (Ok A w.heap.size φ' (nth (hout++[some (Blk.mk [] z true true none)])) w') w' b blk:=by
  rintro b blk (h1 | ⟨r,cs,T,h1,h2,h3,h5⟩ | h1)
  .exact .inl h1
  .refine .inr (.inl ⟨r,cs,T,h1,h2,h3,fun i e he=>⟨(h5 i e he).1,fun j c hc=>?_⟩⟩);obtain⟨g3,v,g4,g5⟩:=(h5 i e he).2 j c hc;exact⟨g3,v,g4,g5.mono (fun _ _ h=>h) hok (fun _ _=>rfl) (fun _=>TF _)⟩
  .exact .inr (.inr h1)
 have hlen:(hout++[some (Blk.mk [] z true true none)]).length=hout.length+1:=by simp
 have hs:∀b r z',(nth (hout++[some (Blk.mk [] z true true none)]) b).isSome=true->φ' b=some (r,z')->(nth hout b).isSome=true:=by
  intro b r z' g1 g2;obtain⟨blk',g⟩:=Option.isSome_iff_exists.1 g1;rcases Fa g with g | ⟨rfl,_⟩
  .rw[g];rfl
  .rw[hnone] at g2;cases g2
 refine⟨C.par,C.keep,fun r hr=>C.mutd r (hmut r hr),⟨fun b blk' hb'=>?_,fun b blk' hb' hf=>?_,fun b b' r z1 z2 g1 g2 g3 g4=>C.heap.inj b b' r z1 z2 (hs b r z1 g1 g3) (hs b' r z2 g2 g4) g3 g4⟩,?_,fun b hb'=>C.out b (by rw[hlen] at hb';omega),by have:=C.len;rw[hlen];omega,C.own⟩
 .rcases Fa hb' with g | ⟨rfl,rfl⟩
  .exact brm (C.heap.blk b blk' g)
  .exact .inl ⟨rfl,hnone,rfl,rfl⟩
 .rcases Fa hb' with g | ⟨rfl,rfl⟩
  .exact C.heap.flat b blk' g hf
  .intro e he;cases he
 .obtain⟨us,rfl,hl,hh⟩:=C.val.tup_inv;match us,hl with
  | [u0,u1],_=>
   have a0:=hh 0 _ _ rfl rfl;have a1:=hh 1 _ _ rfl rfl;refine .tup _ _ rfl fun i c u hc hu=>?_
   match i,hc,hu with
   | 0,hc,hu=>cases hc;cases hu;rw[a0.nils_inv];exact .slnil _ 0 none
   | 1,hc,hu=>cases hc;cases hu;rw[a1.int_inv];exact .imm _ _ (.int _ _)
theorem nd_inj{l:List Int}(hn:l.Nodup){i j:Nat}(hi:i<l.length)(hj:j<l.length)(h:l.getD i 0=l.getD j 0):i=j:=by
 rw[Tv,Tu hi,Tv,Tu hj] at h;have hp:=List.pairwise_iff_getElem.1 hn;rcases Nat.lt_trichotomy i j with g | g | g
 .exact absurd h (hp i j hi hj g)
 .exact g
 .exact absurd h.symm (hp j i hj hi g)
theorem Q1{l:List Int}{x:Int}(h:l.Nodup)(hx:x∉l):(l++[x]).Nodup:=by rw[List.nodup_append];exact⟨h,by simp,fun a ha b hb e=>hx (by rw[<-Tj.1 hb,<-e];exact ha)⟩
def ckE(n:Ab)(c:Int):Int:=if A8 n=true then (if c<0\/(Au n:Int)<=c then 19 else 0) else 20
theorem Ld(L:List Int)(kk:Nat)(most:Int):∃p:Ab×Nat,kk<=5000->(1<=most/\most<=20)->(L3 p.1/\(p.1.bs.length:Int)=1+Ai L kk most)/\p.2<=kk+200/\CT Ux 28 [some (Ag L kk)] [.ptr 0 0 0,.int .i64 most] [some (Ag L p.2)] (Af p.1):=by
 by_cases h:kk<=5000/\(1<=most/\most<=20)
 .obtain⟨n,k,a,b,c⟩:=net_ex L kk h.1 most h.2;exact⟨(n,k),fun _ _=>⟨a,b,c⟩⟩
 .exact⟨(⟨[],[],[],[],0,0,0,0⟩,0),fun a b=>absurd ⟨a,b⟩ h⟩
@[irreducible] def Al(L:List Int)(kk:Nat)(most:Int):Ab:=(Classical.choose (Ld L kk most)).1
@[irreducible] def AB(L:List Int)(kk:Nat)(most:Int):Nat:=(Classical.choose (Ld L kk most)).2
theorem Qj{L:List Int}{kk:Nat}{most:Int}(h:kk<=5000)(hm:1<=most/\most<=20):L3 (Al L kk most)/\AB L kk most<=kk+200/\CT Ux 28 [some (Ag L kk)] [.ptr 0 0 0,.int .i64 most] [some (Ag L (AB L kk most))] (Af (Al L kk most)):=by unfold Al AB;have hs:=T8 (Ld L kk most) h hm;exact⟨hs.1.1,hs.2⟩
theorem net_ct(L:List Int)(kk:Nat)(most:Int)(h:kk<=5000)(hm:1<=most/\most<=20):CT Ux 28 [some (Ag L kk)] [.ptr 0 0 0,.int .i64 most] [some (Ag L (AB L kk most))] (Af (Al L kk most)):=(Qj h hm).2.2
theorem Ax.ends{n:Ab}(hv:Ax n){i:Nat}{s:Am}(hs:n.ss[i]?=some s):0<=s.i/\s.i<Au n/\0<=s.o/\s.o<Au n/\s.b+s.k<=Au n:=by have g:=hv.goodT i s hs;have hc:=hv.cel;have hi:=g.hi;have ho:=g.ho;have hil:=(Tw.1 hs).1;have hm:=Gn hv (i:=i+1) (j:=n.ss.length) (by omega) (TF _);rw[Dk hs,<-g.hb] at hm;exact⟨by omega,by omega,by omega,by omega,by omega⟩
def G2(s:Am):Int:=s.b+s.k-1
def Ik(n:Ab)(c:Int):List Int:=match plF n c with
 | some i=>if c=G2 (n.ss.getD i s0) then [(n.ss.getD i s0).o] else [c+1]
 | none=>n.nx.getD c.toNat []++(n.ss.filter fun s=>s.i==c).map fun s=>s.b
def nxO(n:Ab)(c:Int):List Int:=if ckE n c=0 then Ik n c else []
def EZ(n:Ab)(x y:Int):Bool:=AC (nxO n x) y
theorem ckE_ok{n:Ab}{c:Int}(h:ckE n c=0):Ax n/\0<=c/\c<(Au n:Int):=by
 unfold ckE at h;split at h
 .rename_i hv;split at h
  .cases h
  .exact⟨CF.1 hv,by omega,by omega⟩
 .cases h
theorem Qh{n:Ab}{c:Int}(hv:Ax n)(h0:0<=c)(h1:c<(Au n:Int)):ckE n c=0:=by unfold ckE;rw[Ts (CF.2 hv),Tt (by omega)]
theorem GX{n:Ab}{c:Int}{i:Nat}(h:plF n c=some i):∃s,n.ss[i]?=some s/\n.ss.getD i s0=s/\s.b<=c/\c<s.b+s.k/\i<n.ss.length:=by
 unfold plF at h;obtain⟨h1,_,h2⟩:=DV h;have hl:i<n.ss.length:=by omega
 refine⟨n.ss[i],Tu hl,by rw[Tv,Tu hl];rfl,?_⟩;unfold plB at h1;rw[Tu hl] at h1;unfold inP at h1;simp only[TC,decide_eq_true_eq] at h1;exact⟨h1.1,h1.2,hl⟩
theorem P2{n:Ab}{c:Int}(h:plF n c=none){i:Nat}{s:Am}(hs:n.ss[i]?=some s):¬(s.b<=c/\c<s.b+s.k):=by unfold plF at h;have hl:=(Tw.1 hs).1;have:=CH h i (TG _) (by omega);unfold plB at this;rw[hs] at this;unfold inP at this;simp only[Bool.and_eq_false_iff,decide_eq_false_iff_not] at this;omega
theorem SJ{n:Ab}(hv:Ax n){c:Int}(h0:(n.bs.length:Int)<=c):∀i,i<=n.ss.length->c<AA n i->∃(j:Nat) (s:Am),n.ss[j]?=some s/\s.b<=c/\c<s.b+s.k:=by
 intro i;induction i with
 | zero=>intro _ h;unfold AA at h;simp at h;omega
 | succ i ih=>
  intro hi h;by_cases hc:c<AA n i
  .exact ih (by omega) hc
  .have hs:n.ss[i]?=some n.ss[i]:=Tu (by omega);have:=Dk hs;have:=(hv.sb hs).2.2.2.2;exact⟨i,_,hs,by omega,by omega⟩
theorem J4{n:Ab}(hv:Ax n){c:Int}(h0:0<=c)(h1:c<(Au n:Int))(h:plF n c=none):c<(n.bs.length:Int):=by
 have hce:=hv.cel;refine Int.not_le.1 fun hb=>?_
 obtain⟨j,s,hs,g1,g2⟩:=SJ hv hb n.ss.length (TF _) (by omega);exact P2 h hs ⟨g1,g2⟩
theorem Ax.lanes{n:Ab}(hrw:Rows n.nx)(hv:Ax n){v:Nat}(h:v<n.bs.length):(∀w∈n.nx.getD v [],0<=w/\w<(n.bs.length:Int))/\(n.nx.getD v []).length<=24:=by obtain⟨hg,ha⟩:=IP hrw hv.chk;have hl:=hv.nx;have:=hg.len;have h2:=asc_len hg ha (show v<n.nx.length by omega);exact⟨fun w hw=>by have:=(hg.row v (by omega)).2 w hw;omega,by omega⟩
def ckSt(n:Ab)(c:Int):Empty->St | x=>x.elim
def ckHd:Empty->Nat | x=>x.elim
def ckEn(n:Ab)(c:Int):Option (Empty⊕Ret):=gu (Rows n.nx) <|br (!A8 n) (some (.inr ([],iV 20))) (br (decide (c<0)) (some (.inr ([],iV 19))) (gu (Ax n) <|br (decide (iN (Au n)<=c)) (some (.inr ([],iV 19))) (some (.inr ([],iV 0)))))
def ckStep(n:Ab)(c:Int):Empty->Option (Empty⊕Ret) | x=>x.elim
theorem ckEn_ok(n:Ab)(c:Int)(o:Empty⊕Ret)(h:ckEn n c=some o):Arr Ux Try.f108 0 (ckSt n c) ckHd (zB Try.f108) [] {n:=Try.f108.ntmps,fr:=AI 0 ([Af n,.int .i64 c]),hp:=([])} o:=Scr.ok h mix (.rn 0 [] [] [] [] (al (u2 t2)) <|.gu fun a0=>have c0:=QC a0;.rn 0 [] [] [(7,hK c0 [] [])] [] (al (u2 (aj (ak (aj t9 (al (c0)))) (u2 s2)))) <|.br (fun a1=>.rt [11] [] [] [] [] [] (aj (aj a1 s2) t2)) (fun a1=>.br (fun a2=>.rt [10,25] [] [] [] [] [] (aj (aj a1 (aj (u2 (u2 (u2 (aj a2 (aj a2 (aj a2 (aj a2 (ag a2 s2)))))))) (ak s2))) t2)) (fun a2=>.gu fun a3=>have c1:=Pq a3;.rn 0 [10,24] [] [(15,hK c1 [] [])] [] (aj a1 (al (u2 (u2 (u2 (ag a2 (ag a2 (aj (aj a2 (ak (aj t9 (al (c1))))) (aj (aj a2 t3) (ag a2 s2)))))))))) <|.br (fun a4=>.rt [24,19] [] [] [] [] [] (aj (aj a4 s2) t2)) (fun a4=>.rt [24,18] [] [] [] [] [] (aj (aj a4 s2) t2))))) (by kernel_rfl)
theorem ck_ct(n:Ab)(c:Int)(r:Ret)(h:Aq (ckStep n c) (ckEn n c) r):CT Ux 108 ([]) ([Af n,.int .i64 c]) r.1 r.2:=
 CT.mach (fn:=Try.f108) (c:=zB Try.f108) (S:=ckSt n c) (hd:=ckHd) Try.func108 (by kernel_rfl) (nL rfl)
  (fun s o ho=>match s,ho with
   | x,_=>x.elim)
  (fun o ho=>ckEn_ok n c o ho) h
theorem ck_c(n:Ab)(c:Int)(hrw:Rows n.nx):CT Ux 108 [] [Af n,.int .i64 c] [] (.int .i64 (ckE n c)):=by
 refine ck_ct n c ([],_) (.val ?_);unfold ckEn ckE;rw[Aa hrw];by_cases hv:Ax n
 .rw[CF.2 hv,Ts rfl,Ae (by rfl)];by_cases h0:c<0
  .rw[Ak (Az h0),Ts (.inl h0)]
  .rw[Ae (An h0),Aa hv];by_cases h1:(Au n:Int)<=c
   .rw[Ak (Az h1),Ts (.inr h1)]
   .rw[Ae (An h1),Tt (by omega)]
 .rw[Cr hv,Tt (by simp),Ak (by rfl)]
theorem PC{n:Ab}{c:Int}{i:Nat}(h:plF n c=some i):plI n c=(i:Int)/\plJ n c=c-(n.ss.getD i s0).b+1:=by unfold plI plJ;rw[h];exact⟨rfl,rfl⟩
theorem PL{n:Ab}{c:Int}(h:plF n c=none):plI n c = -1:=by unfold plI;rw[h]
end Go.Proofs.Ytedjkebooffjpaa
namespace Go.AX
variable {P:Program}
inductive Ct (P:Program) (m:Nat):List Oper->St->St->Prop | nil (st:St):Ct P m [] st st | cons {o:Oper} {r:List Oper} {st st':St} {R:OpR} (hg:o.guard=none) (hop:Ay P o st.ev (nth st.hp) st.hp.length R) (hf:R.fits (nth st.hp)) (hd:∀b,b∈R.dead->m<=b) (hdst:∀d,o.dst=some d->d<st.n) (h:Ct P m r (st.app o.dst R) st'):Ct P m (o::r) st st'
theorem SM{m:Nat}{ops:Array Oper}{Q:Exit->Act->World->Prop}{A0:Nat->Prop}{n0:Nat}:∀{l:List Oper} {st st':St},Ct P m l st st'->
  ∀{φ:Phi} {a:Act} {w:World},m<=st.hp.length->Rel A0 n0 m φ st a w->
   (∀φ' a' w',m<=st'.hp.length->Rel A0 n0 m φ' st' a' w'->Tr m φ st.h w φ' st'.h w'->Q .normal a' w')->wpList P ops Q l a w:=by
 intro l st st' h;induction h with
 | nil st=>intro φ a w hm hr k;exact k φ a w hm hr (.refl _ _ _ _)
 | @cons o r st st' R hg hop hf hd hdst h ih=>
  intro φ a w hm hr k;have hm':m<=(st.app o.dst R).hp.length:=by simp[St.app,EN,EY];omega
  unfold wpList;rw[Ts (Jf (φ:=φ) (A:=Ok A0 n0 φ st.h w) (w:=w) fun k want hk=>by rw[hg] at hk;cases hk)];left;refine hop φ (Ok A0 n0 φ st.h w) w a _ _ (fun r hA=>⟨hA.2.1,hA.2.2⟩) hr.ev hr.heap hr.out fun v' w' φ' he=>?_
  obtain⟨s1,s2⟩:=hr.step hm hd hdst hf he;exact ih hm' s1 fun φ2 a2 w2 g1 g2 g3=>k φ2 a2 w2 g1 g2 (s2.trans g3)
set_option linter.unusedVariables false in
theorem T.ops{m id:Nat}{ops:Array Oper}{st st':St}{post:Exit->St->Prop}(h:Ct P m ops.toList st st')(hpost:post .normal st'):T P m (.region id ops false) st post:=fun A0 n0 φ a w hm hr=>wp_region_list (SM h hm hr fun φ' a' w' g1 g2 g3=>⟨φ',_,hpost,g2,g1,g3⟩)
theorem Ke:∀(l:List (Option Blk)) (i:Nat),CU [] [] i l=l | [],_=>rfl | x::r,i=>by simp only[CU,Cp,Bp];rw[Ke r]
theorem M3(b:Nat):∀(l:List (Option Blk)) (i:Nat),i<=b->CU [b] [] i l=l.set (b-i) none
 | [],_,_=>by simp[CU]
 | x::r,i,h=>by
  simp only[CU,Cp,Bp];by_cases hb:b=i
  .subst hb;rw[Nat.beq_refl,Td];have:∀(l:List (Option Blk)) (j:Nat),b<j->CU [b] [] j l=l:=by
    intro l;induction l with
    | nil=>intro j _;rfl
    | cons y r ih=>
     intro j hj;have hne:Nat.beq b j=false:=by cases hq:Nat.beq b j with | false=>rfl | true=>exact absurd (TB hq) (by omega)
     simp only[CU,Cp,Bp,hne];rw[ih (j+1) (by omega)]
   rw[this r (b+1) (by omega)];rfl
  .have hne:Nat.beq b i=false:=by cases hq:Nat.beq b i with | false=>rfl | true=>exact absurd (TB hq) hb
   rw[hne,M3 b r (i+1) (by omega),show b-i=(b-(i+1))+1 by omega];rfl
variable {m:Nat} {o:Oper} {r:List Oper} {n:Nat} {fr:List (Nat×AV)} {hp:List (Option Blk)} {st':St}
theorem Ct.val{d:Nat}{v:AV}(hg:o.guard=none)(ho:o.dst=some d)(hd:d<n)(hop:Ay P o (St.ev ⟨n,fr,hp⟩) (nth hp) hp.length {v})(h:Ct P m r ⟨n,(d,v)::fr,hp⟩ st'):Ct P m (o::r) ⟨n,fr,hp⟩ st':=by
 refine .cons hg hop (OpR.fits_value _ _) (fun b hb=>by simp at hb) (fun d' h'=>by rw[ho] at h';cases h';exact hd) ?_;have e:St.app ⟨n,fr,hp⟩ o.dst {v}=⟨n,(d,v)::fr,hp⟩:=by unfold St.app;rw[ho];simp only[put,Ke,BT,List.append_nil]
 rw[e];exact h
theorem Ct.new{d:Nat}{v:AV}{blk:Blk}(hg:o.guard=none)(ho:o.dst=some d)(hd:d<n)(hop:Ay P o (St.ev ⟨n,fr,hp⟩) (nth hp) hp.length {v,new:=[blk]})(h:Ct P m r ⟨n,(d,v)::fr,hp++[some blk]⟩ st'):Ct P m (o::r) ⟨n,fr,hp⟩ st':=by
 refine .cons hg hop ⟨fun b blk hm=>by simp at hm,fun b hm=>by simp at hm⟩ (fun b hb=>by simp at hb) (fun d' h'=>by rw[ho] at h';cases h';exact hd) ?_;have e:St.app ⟨n,fr,hp⟩ o.dst {v,new:=[blk]}=⟨n,(d,v)::fr,hp++[some blk]⟩:=by unfold St.app;rw[ho];simp only[put,Ke,BT]
 rw[e];exact h
theorem Ct.move{d b:Nat}{v:AV}{blk blk0:Blk}(hg:o.guard=none)(ho:o.dst=some d)(hd:d<n)(hb:nth hp b=some blk0)(hw:blk0.wr=true)(hm:m<=b)(hop:Ay P o (St.ev ⟨n,fr,hp⟩) (nth hp) hp.length {v,dead:=[b],new:=[blk]})
  (h:Ct P m r ⟨n,(d,v)::fr,hp.set b none++[some blk]⟩ st'):Ct P m (o::r) ⟨n,fr,hp⟩ st':=by
 refine .cons hg hop ⟨fun b blk hm=>by simp at hm,fun b' hm'=>by simp at hm';subst hm';exact⟨⟨blk0,hb,hw⟩,rfl⟩⟩ (fun b' hb'=>by simp at hb';subst hb';exact hm) (fun d' h'=>by rw[ho] at h';cases h';exact hd) ?_;have e:St.app ⟨n,fr,hp⟩ o.dst {v,dead:=[b],new:=[blk]}=⟨n,(d,v)::fr,hp.set b none++[some blk]⟩:=by unfold St.app;rw[ho];simp only[put,M3 b hp 0 (TG _),BT,Nat.sub_zero]
 rw[e];exact h
theorem Ren.slots{m n:Nat}{fr fr':List (Nat×AV)}{hp:List (Option Blk)}(h:∀s,Ao fr' s = .unk\/Ao fr' s=Ao fr s):Ren m ⟨n,fr,hp⟩ ⟨n,fr',hp⟩:=by
 intro A0 n0 φ a w hm hr;refine⟨φ,⟨hr.defs,hr.size,fun s=>?_,hr.heap,hr.out,hr.base,hr.own⟩,hm,.refl m φ _ w⟩;show VR _ _ _ (Ao fr' s) _;rcases h s with h | h
 .rw[h];exact .imm _ _ (.unk _)
 .rw[h];exact hr.slot s
end Go.AX
namespace Go.Proofs.Ytedjkebooffjpaa
theorem _root_.Go.AX.Ct.av{P:Program}{m:Nat}{o:Oper}{r:List Oper}{n d:Nat}{fr:List (Nat×AV)}{hp:List (Option Blk)}{st':St}(v:AV)(hg:o.guard=none)(ho:o.dst=some d)(hd:Nat.ble (d+1) n=true)(h:aop P o (St.ev ⟨n,fr,hp⟩) hp .no=some ({v},True))(k:Ct P m r ⟨n,(d,v)::fr,hp⟩ st'):Ct P m (o::r) ⟨n,fr,hp⟩ st':=.val hg ho (TV hd) (Hz h trivial).1 k
theorem JQ{hp:List (Option Blk)}{c:Nat}{x:Blk}(h:nth hp c=some x):c<hp.length:=by
 rw[DE] at h;rcases Up c hp.length with h1 | h1
 .exact h1
 .rw[TU h1] at h;cases h
theorem RD{k:Nat}{v:AV}{l:List (Nat×AV)}{s:Nat}(h:k≠s):AX.Ao ((k,v)::l) s=AX.Ao l s:=by
 have:Nat.beq k s=false:=by cases hq:Nat.beq k s with | false=>rfl | true=>exact absurd (TB hq) h
 simp only[AX.Ao,this]
def Nw(fr fr':List (Nat×AV)):List Nat->Prop | []=>True | k::ks=>AX.Ao fr' k=AX.Ao fr k/\Nw fr fr' ks
theorem PX:∀{l:List (Nat×AV)} {s:Nat},s∉l.map (·.1)->AX.Ao l s = .unk
 | [],_,_=>rfl
 | (k,v)::l,s,h=>by rw[RD (fun e=>h (by simp[e])),PX (fun e=>h (TN _ e))]
theorem O9{fr fr':List (Nat×AV)}:∀{ks:List Nat},Nw fr fr' ks->∀s∈ks,AX.Ao fr' s=AX.Ao fr s | [],_,s,h=>by cases h | k::ks,h,s,hs=>(TZ.1 hs).elim (fun e=>by rw[e];exact h.1) (O9 h.2 s)
theorem _root_.Go.AX.Ren.keys{m n:Nat}{fr fr':List (Nat×AV)}{hp:List (Option Blk)}(h:Nw fr fr' (fr'.map (·.1))):Ren m ⟨n,fr,hp⟩ ⟨n,fr',hp⟩:=Ren.slots fun s=>if hs:s∈fr'.map (·.1) then .inr (O9 h s hs) else .inl (PX hs)
inductive Rcv (g:List (List Int)) (s:List Bool) (v:Nat):Nat->Prop | refl (h:s.getD v true=false):Rcv g s v v | step {u w:Nat} (h:Rcv g s v u) (hw:(w:Int)∈g.getD u []) (ho:s.getD w true=false):Rcv g s v w
end Go.Proofs.Ytedjkebooffjpaa
namespace Go.AX
variable {P:Program}
def Kp(P:Program)(o:Oper)(ev:Operand->AV)(h:Hp)(nb:Nat)(S:OpR->Prop):Prop:=∀(φ:Phi) (A:Nat->Prop) (w:World) (a:Act) (K:Act->World->Prop) (Q:Exit->Act->World->Prop),(∀r,A r->r<w.heap.size/\¬Mut φ h r)->(∀x,VR φ A w (ev x) (a.eval x))->HR φ A w h->(∀b,nb<=b->φ b=none)-> (∀R v' w' φ',S R->Eff φ A w h nb R v' w' φ'->K (a.put o.dst v') w')->o.wp P a w K Q
inductive Cz (P:Program) (m:Nat) (ops:Array Oper):List Oper->St->(St->Prop)->Prop | nil {st:St} {k:St->Prop} (h:k st):Cz P m ops [] st k | one {o:Oper} {r:List Oper} {st:St} {k:St->Prop} {S:OpR->Prop} (hg:∀kk want,o.guard=some (kk,want)->∃g,(ops[kk]?).bind (·.dst)=some g/\Ao st.fr g = .bool want) (hop:Kp P o st.ev (nth st.hp) st.hp.length S) (hf:∀R,S R->R.fits (nth st.hp)/\(∀b,b∈R.dead->m<=b)/\∀d,o.dst=some d->d<st.n) (h:∀R,S R->Cz P m ops r (st.app o.dst R) k):Cz P m ops (o::r) st k | skip {o:Oper} {r:List Oper} {st:St} {k:St->Prop} {kk g:Nat} {want:Bool} (hg:o.guard=some (kk,want)) (hk:(ops[kk]?).bind (·.dst)=some g) (hv:Ao st.fr g = .bool (!want)) (hd:∀d,o.dst=some d->d<st.n) (h:Cz P m ops r (st.app o.dst {v:=.tup []}) k):Cz P m ops (o::r) st k
theorem S6{m:Nat}{ops:Array Oper}{Q:Exit->Act->World->Prop}{A0:Nat->Prop}{n0:Nat}:∀{l:List Oper} {st:St} {k:St->Prop},Cz P m ops l st k->
  ∀{φ:Phi} {a:Act} {w:World},m<=st.hp.length->Rel A0 n0 m φ st a w->
   (∀st' φ' a' w',k st'->m<=st'.hp.length->Rel A0 n0 m φ' st' a' w'->Tr m φ st.h w φ' st'.h w'->Q .normal a' w')->wpList P ops Q l a w:=by
 intro l st k h;induction h with
 | nil h=>intro φ a w hm hr K;exact K _ φ a w h hm hr (.refl _ _ _ _)
 | @one o r st k S hg hop hf h ih=>
  intro φ a w hm hr K;unfold wpList;rw[Ts (Jf (φ:=φ) (A:=Ok A0 n0 φ st.h w) (w:=w) fun kk want hk=>by
   obtain⟨g,g1,g2⟩:=hg kk want hk;exact⟨g,g1,by rw[<-g2];exact hr.slot g⟩)]
  left;refine hop φ (Ok A0 n0 φ st.h w) w a _ _ (fun r hA=>⟨hA.2.1,hA.2.2⟩) hr.ev hr.heap hr.out fun R v' w' φ' hS he=>?_
  obtain⟨f1,f2,f3⟩:=hf R hS;have hm':m<=(st.app o.dst R).hp.length:=by simp[St.app,EN,EY];omega
  obtain⟨s1,s2⟩:=hr.step hm f2 f3 f1 he;exact ih R hS hm' s1 fun st2 φ2 a2 w2 g0 g1 g2 g3=>K st2 φ2 a2 w2 g0 g1 g2 (s2.trans g3)
 | @skip o r st k kk g want hg hk hv hd h ih=>
  intro φ a w hm hr K;unfold wpList;rw[Tt (by rw[Nj hg hk (.inl hv) (hr.slot g)];simp)];have he:Eff φ (Ok A0 n0 φ st.h w) w st.h st.hp.length {v:=.tup []} undef w φ:=Eff.skip hr.out;have hm':m<=(st.app o.dst {v:=.tup []}).hp.length:=by simp[St.app,EN,EY];omega
  obtain⟨s1,s2⟩:=hr.step hm (fun b hb=>by simp at hb) hd (OpR.fits_value _ _) he;exact ih hm' s1 fun st2 φ2 a2 w2 g0 g1 g2 g3=>K st2 φ2 a2 w2 g0 g1 g2 (s2.trans g3)
set_option linter.unusedVariables false in
theorem T.opsN{m id:Nat}{ops:Array Oper}{st:St}{post:Exit->St->Prop}(h:Cz P m ops ops.toList st (post .normal)):T P m (.region id ops false) st post:=fun A0 n0 φ a w hm hr=>wp_region_list (S6 h hm hr fun st' φ' a' w' g0 g1 g2 g3=>⟨φ',_,g0,g2,g1,g3⟩)
theorem Ay.s{o:Oper}{ev:Operand->AV}{h:Hp}{nb:Nat}{R:OpR}(hop:Ay P o ev h nb R):Kp P o ev h nb (fun R'=>R'=R):=fun φ A w a K Q h1 h2 h3 h4 h5=>hop φ A w a K Q h1 h2 h3 h4 fun v' w' φ' he=>h5 R v' w' φ' rfl he
theorem Cz.val{m:Nat}{ops:Array Oper}{o:Oper}{r:List Oper}{n:Nat}{fr:List (Nat×AV)}{hp:List (Option Blk)}{k:St->Prop}{d:Nat}{v:AV}(hg:∀kk want,o.guard=some (kk,want)->∃g,(ops[kk]?).bind (·.dst)=some g/\Ao fr g = .bool want)(ho:o.dst=some d)(hd:d<n)(hop:Ay P o (St.ev ⟨n,fr,hp⟩) (nth hp) hp.length {v})(h:Cz P m ops r ⟨n,(d,v)::fr,hp⟩ k):Cz P m ops (o::r) ⟨n,fr,hp⟩ k:=by
 refine .one hg hop.s (fun R' e=>by subst e;exact⟨OpR.fits_value _ _,fun b hb=>by simp at hb,fun d' h'=>by rw[ho] at h';cases h';exact hd⟩) (fun R' e=>?_);subst e;have e:St.app ⟨n,fr,hp⟩ o.dst {v}=⟨n,(d,v)::fr,hp⟩:=by unfold St.app;rw[ho];simp only[put,Ke,BT,List.append_nil]
 rw[e];exact h
theorem noG{ops:Array Oper}{o:Oper}{fr:List (Nat×AV)}(h:o.guard=none):∀kk want,o.guard=some (kk,want)->∃g,(ops[kk]?).bind (·.dst)=some g/\Ao fr g = .bool want:=fun kk want e=>by rw[h] at e;cases e
def QApp(nb b i z:Nat)(es src:List AV)(flat:Bool)(R:OpR):Prop:=∃es' i',i'<=es'.length/\es'.drop i'=es.drop i++src/\es'.length<=es.length+src.length/\R={v:=.sl nb i' (es'.length-i'),dead:=[b],new:=[{es:=es',z,flat}]}
theorem Cz.q{m:Nat}{o:Oper}{r:List Oper}{n d b i z:Nat}{fr:List (Nat×AV)}{hp:List (Option Blk)}{es src:List AV}{flat:Bool}{blk0:Blk}{k:St->Prop}{ops:Array Oper}(hg:o.guard=none)(ho:o.dst=some d)(hd:d<n)
  (hb:nth hp b=some blk0) (hw:blk0.wr=true) (hm:m<=b) (hop:Kp P o (St.ev ⟨n,fr,hp⟩) (nth hp) hp.length (QApp hp.length b i z es src flat))
  (h:∀es' i',i'<=es'.length->es'.drop i'=es.drop i++src->es'.length<=es.length+src.length->Cz P m ops r ⟨n,(d,.sl hp.length i' (es'.length-i'))::fr,hp.set b none++[some {es:=es',z,flat}]⟩ k):Cz P m ops (o::r) ⟨n,fr,hp⟩ k:=by
 refine .one (noG hg) hop (fun R hR=>?_) fun R hR=>?_
 .obtain⟨es',i',h1,h2,h3,rfl⟩:=hR;exact⟨⟨fun b blk hm=>by simp at hm,fun b' hm'=>by simp at hm';subst hm';exact⟨⟨blk0,hb,hw⟩,rfl⟩⟩,fun b' hb'=>by simp at hb';subst hb';exact hm,fun d' h'=>by rw[ho] at h';cases h';exact hd⟩
 .obtain⟨es',i',h1,h2,h3,rfl⟩:=hR;have e:St.app ⟨n,fr,hp⟩ o.dst {v:=.sl hp.length i' (es'.length-i'),dead:=[b],new:=[{es:=es',z,flat}]}=⟨n,(d,.sl hp.length i' (es'.length-i'))::fr,hp.set b none++[some {es:=es',z,flat}]⟩:=by unfold St.app;rw[ho];simp only[put,M3 b hp 0 (TG _),BT,Nat.sub_zero]
  rw[e];exact h es' i' h1 h2 h3
end Go.AX
namespace Go.Proofs.Ytedjkebooffjpaa
theorem _root_.Go.AX.Cz.av{P:Program}{m:Nat}{ops:Array Oper}{o:Oper}{r:List Oper}{n d:Nat}{fr:List (Nat×AV)}{hp:List (Option Blk)}{k:St->Prop}(v:AV)(hg:o.guard=none)(ho:o.dst=some d)(hd:Nat.ble (d+1) n=true)(h:aop P o (St.ev ⟨n,fr,hp⟩) hp .no=some ({v},True))(q:Cz P m ops r ⟨n,(d,v)::fr,hp⟩ k):Cz P m ops (o::r) ⟨n,fr,hp⟩ k:=.val (noG hg) ho (TV hd) (Hz h trivial).1 q
def cntSt(n:Ab):Empty->St | x=>x.elim
def cntHd:Empty->Nat | x=>x.elim
def Lt(n:Ab):Option (Empty⊕Ret):=gu (Rows n.nx) <|br (!A8 n) (some (.inr ([],AV.tup [iV 0,iV 20]))) (gu (Ax n) <|some (.inr ([],AV.tup [iV (iN (Au n)),iV 0])))
def cntStep(n:Ab):Empty->Option (Empty⊕Ret) | x=>x.elim
theorem cntEn_ok(n:Ab)(o:Empty⊕Ret)(h:Lt n=some o):Arr Ux Try.f43 0 (cntSt n) cntHd (zB Try.f43) [] {n:=Try.f43.ntmps,fr:=AI 0 ([Af n]),hp:=([])} o:=Scr.ok h mix (.rn 0 [] [] [] [] (al (u2 t3)) <|.gu fun a0=>have c0:=QC a0;.rn 0 [] [] [(5,hK c0 [] [])] [] (al (u2 (aj (ak (aj t9 (al (c0)))) s2))) <|.br (fun a1=>.rt [13] [] [] [] [] [] (aj (aj a1 (al t3)) (al t3))) (fun a1=>.gu fun a2=>have c1:=Pq a2;.rt [12] [] [(8,hK c1 [] [])] [] [] [] (aj (aj a1 (al (u2 (aj (ak (aj t9 (al (c1)))) (u2 t2))))) (al t3)))) (by kernel_rfl)
theorem cnt_ct(n:Ab)(r:Ret)(h:Aq (cntStep n) (Lt n) r):CT Ux 43 ([]) ([Af n]) r.1 r.2:=
 CT.mach (fn:=Try.f43) (c:=zB Try.f43) (S:=cntSt n) (hd:=cntHd) Try.func43 (by kernel_rfl) (nL rfl)
  (fun s o ho=>match s,ho with
   | x,_=>x.elim)
  (fun o ho=>cntEn_ok n o ho) h
def HU(n:Ab):Int:=if A8 n=true then (Au n:Int) else 0
def Jj(n:Ab):Int:=if A8 n=true then 0 else 20
theorem cnt_c{n:Ab}(hrw:Rows n.nx):CT Ux 43 [] [Af n] [] (.tup [.int .i64 (HU n),.int .i64 (Jj n)]):=by
 refine cnt_ct n ([],_) (.val ?_);unfold Lt HU Jj;rw[Aa hrw];cases hv:A8 n with
 | false=>rfl
 | true=>rw[Ae (by rfl),Aa (CF.1 hv)];rfl
theorem Rcv.trans{g:List (List Int)}{s:List Bool}{a b c:Nat}(h:Rcv g s a b)(k:Rcv g s b c):Rcv g s a c:=by
 induction k with
 | refl _=>exact h
 | step _ hw ho ih=>exact .step ih hw ho
section
variable {n:Nat} {ok:Nat->Bool} {L:Nat->Nat->Bool}
structure Ju(n:Nat)(ok:Nat->Bool)(L:Nat->Nat->Bool)(mk mk':List Bool):Prop where
 len:mk'.length=mk.length
 mono:∀x,mk.getD x false=true->mk'.getD x false=true
 sound:∀P:Nat->Prop,(∀b c,b<n->c<n->P c->ok b=true->L b c=true->P b)->(∀x,mk.getD x false=true->P x)->∀x,mk'.getD x false=true->P x
theorem Ju.trans{a b c:List Bool}(h:Ju n ok L a b)(k:Ju n ok L b c):Ju n ok L a c:=⟨k.len.trans h.len,fun x hx=>k.mono x (h.mono x hx),fun P hP ha=>k.sound P hP (h.sound P hP ha)⟩
end
structure Ac where
 cl:List Bool
 bw:List Int
 pe:List Int
structure Aj where
 ow:List Int
 qu:List (List Int)
def sgA(s:Ac):AV:=.agg [.lst (boL s.cl),lI s.bw,lI s.pe]
def lkA(l:Aj):AV:=.agg [lI l.ow,.lst (gL l.qu)]
inductive Ez where | l0 (v0:Int)
def KH(l:List Int)(q:Int):Ez->St | .l0 v0=>St.mk 19 [(0,Uw (Uq iv l)),(1,iv q),(7,iv (iN (Uq iv l).length)),(8,iv v0)] []
def Ll:Ez->Nat | .l0 _=>0
def idxEn(l:List Int)(q:Int):Option (Ez⊕Ret):=some (.inl (.l0 ((0:Int))))
def Ff(l:List Int)(q v0:Int):Option (Ez⊕Ret):=br (decide (v0<iN (Uq iV l).length)) (gu (0<=v0) <|el l (v0.toNat) fun(x14:Int)=>br (q==x14) (some (.inr ([],iV v0))) (some (.inl (.l0 (i64.wrap (v0+1)))))) (some (.inr ([],iV (-1))))
def idxStep(l:List Int)(q:Int):Ez->Option (Ez⊕Ret) | .l0 v0=>Ff l q v0
theorem idxEn_ok(l:List Int)(q:Int)(o:Ez⊕Ret)(h:idxEn l q=some o):Arr Ux Try.f96 0 (KH l q) Ll (zB Try.f96) [] {n:=Try.f96.ntmps,fr:=AI 0 ([lI l,.int .i64 q]),hp:=([])} o:=Scr.ok h mix (.lp [] [] [] [] [] [] [0,1,7,8] (aj (u2 (al (u2 (u2 t2)))) t5)) (by kernel_rfl)
theorem idxS0_ok(l:List Int)(q v0:Int)(o:Ez⊕Ret)(h:Ff l q v0=some o):Arr Ux Try.f96 0 (KH l q) Ll (Av Try.f96 0) (.rnd (Av Try.f96 0)::AK Try.f96 0) (KH l q (.l0 v0)) o:=Scr.ok h mix (.rn 0 [] [] [] [] (al (al t3)) <|.br (fun a0=>.rn 0 [19] [] [] [] (aj a0 (al (u2 s2))) <|.gu fun a1=>.el fun x14 a2=>.rn 0 [] [(14,iv x14)] [] [] (al (u2 (u2 (u2 (aj (k2 (aj a1 (Ar (f:=iv) a2))) (u2 (al t3))))))) <|.br (fun a3=>.rt [33] [] [] [] [] [] (aj (aj a3 (al (u2 s2))) t2)) (fun a3=>.lp [32] [] [] [] [] [] [0,1,7,8] (aj (aj a3 (al (u2 s2))) t5))) (fun a0=>.rt [18] [] [] [] [] [] (aj (aj a0 s2) t2))) (by kernel_rfl)
theorem idx_ct(l:List Int)(q:Int)(r:Ret)(h:Aq (idxStep l q) (idxEn l q) r):CT Ux 96 ([]) ([lI l,.int .i64 q]) r.1 r.2:=
 CT.mach (fn:=Try.f96) (c:=zB Try.f96) (S:=KH l q) (hd:=Ll) Try.func96 (by kernel_rfl) (nL rfl)
  (fun s o ho=>match s,ho with
   | .l0 v0,ho=>idxS0_ok l q v0 o ho
  )
  (fun o ho=>idxEn_ok l q o ho) h
def isrSt(q:Int):Empty->St | x=>x.elim
def isrHd:Empty->Nat | x=>x.elim
def Lw(q:Int):Option (Empty⊕Ret):=br (decide (0<=q)) (some (.inr ([],bV (decide (q<8))))) (some (.inr ([],bV false)))
def isrStep(q:Int):Empty->Option (Empty⊕Ret) | x=>x.elim
theorem isrEn_ok(q:Int)(o:Empty⊕Ret)(h:Lw q=some o):Arr Ux Try.f98 0 (isrSt q) isrHd (zB Try.f98) [] {n:=Try.f98.ntmps,fr:=AI 0 ([.int .i64 q]),hp:=([])} o:=Scr.ok h mix (.rn 0 [] [] [] [] s2 <|.br (fun a0=>.rt [11] [] [] [] [] [] (aj (al (u2 (u2 (u2 (ag a0 (ag a0 (ag a0 s2))))))) t2)) (fun a0=>.rt [10] [] [] [] [] [] (aj (al (u2 (u2 (u2 (aj a0 (aj a0 (ag a0 s2))))))) t2))) (by kernel_rfl)
theorem isr_ct(q:Int)(r:Ret)(h:Aq (isrStep q) (Lw q) r):CT Ux 98 ([]) ([.int .i64 q]) r.1 r.2:=
 CT.mach (fn:=Try.f98) (c:=zB Try.f98) (S:=isrSt q) (hd:=isrHd) Try.func98 (by kernel_rfl) (nL rfl)
  (fun s o ho=>match s,ho with
   | x,_=>x.elim)
  (fun o ho=>isrEn_ok q o ho) h
inductive EO where | l0 (v0:Int) (v1:List Bool)
def Hq(q:Ac):EO->St | .l0 v0 v1=>St.mk 23 [(1,AV.ptr 0 0 0),(3,AV.sl 1 0 (boL q.cl).length),(4,iv v0)] [some (bK [AV.agg [Uw (boL q.cl),Uw (Uq iv q.bw),Uw (Uq iv q.pe)]] 3),some (bK (Uq bV v1) 1)]
def Nx:EO->Nat | .l0 _ _=>0
def M9(q:Ac):Option (EO⊕Ret):=gu (∀(e:AV),e∈boL q.cl->e.cells.length=1) <|gu ((boL q.cl).length<=9223372036854775807) <|gu ((boL q.cl).length * 1<=140737488355328) <|some (.inl (.l0 ((0:Int)) (q.cl)))
def GV(q:Ac)(v0:Int)(v1:List Bool):Option (EO⊕Ret):=br (decide (v0<iN (Uq iV q.pe).length)) (gu (0<=v0) <|el (q.pe) (v0.toNat) fun(x19:Int)=>gu (0<=x19) <|gu (x19<iN (boL q.cl).length) <|gu ((0+x19.toNat).succ.le (Uq bV v1).length) <|some (.inl (.l0 (i64.wrap (v0+1)) (v1.set (0+x19.toNat) true)))) (gu ((boL q.cl).length=(Uq bV v1).length) <|some (.inr ([],Uw (Uq bV v1))))
def celStep(q:Ac):EO->Option (EO⊕Ret) | .l0 v0 v1=>GV q v0 v1
theorem celEn_ok(q:Ac)(o:EO⊕Ret)(h:M9 q=some o):Arr Ux Try.f105 0 (Hq q) Nx (zB Try.f105) [] {n:=Try.f105.ntmps,fr:=AI 0 ([sgA q]),hp:=([])} o:=Scr.ok h mix (.rn 0 [] [] [] [] (al (u2 t2)) <|.gu fun a0=>.gu fun a1=>.gu fun a2=>.lp [] [] [] [] [] [0,1] [1,3,4] (aj (aj (u2 (u2 (aj (ak (aj a0 (aj a1 a2))) s2))) s2) t6)) (by kernel_rfl)
theorem celS0_ok(q:Ac)(v0:Int)(v1:List Bool)(o:EO⊕Ret)(h:GV q v0 v1=some o):Arr Ux Try.f105 0 (Hq q) Nx (Av Try.f105 0) (.rnd (Av Try.f105 0)::AK Try.f105 0) (Hq q (.l0 v0 v1)) o:=Scr.ok h mix (.rn 0 [] [] [] [] (al (u2 (u2 (u2 (u2 (al t3)))))) <|.br (fun a0=>.gu fun a1=>.el fun x19 a2=>.gu fun a3=>.gu fun a4=>.gu fun a5=>.lq [25] [(19,iv x19)] [] [] [] [0,1] [1,3,4] (up [] [(1,(Uq bV v1).set (0+x19.toNat) (bV true))] (Hq q (.l0 (i64.wrap (v0+1)) (v1.set (0+x19.toNat) true)))) (aj (aj a0 (aj (u2 (u2 (u2 (u2 (aj (k2 (aj a1 (Ar (f:=iv) a2))) (u2 (aj (k2 (aj a3 a4)) (al (ak a5))))))))) (al (u2 (u2 s2))))) t6) (by simp[up,upF,upV,upH,upB,Hq,gL,boL,lI])) (fun a0=>.rn 0 [24] [] [] [] (aj a0 (al (u2 s2))) <|.gu fun a1=>.rt [] [] [] [] [] [1] (ak (al a1)))) (by kernel_rfl)
theorem cel_ct(q:Ac)(r:Ret)(h:Aq (celStep q) (M9 q) r):CT Ux 105 ([]) ([sgA q]) r.1 r.2:=
 CT.mach (fn:=Try.f105) (c:=zB Try.f105) (S:=Hq q) (hd:=Nx) Try.func105 (by kernel_rfl) (nL rfl)
  (fun s o ho=>match s,ho with
   | .l0 v0 v1,ho=>celS0_ok q v0 v1 o ho
  )
  (fun o ho=>celEn_ok q o ho) h
def wkA:AV->AV | .agg cs=>.agg (cs.map wk1) | a=>wk1 a
def wk2:AV->AV | .agg cs=>.agg (cs.map wk1) | .tup cs=>.tup (cs.map wkA) | a=>wk1 a
theorem VR.wkA{φ:Phi}{A:Nat->Prop}{w:World}{a:AV}{v:Value}(h:VR φ A w a v):VR φ A w (wkA a) v:=by
 unfold Proofs.Ytedjkebooffjpaa.wkA;split
 .cases h with
  | imm _ _ h=>
   cases h with
   | agg _ vs hl h=>
    refine .agg _ vs (by simpa using hl) fun i c v hc hv=>?_
    rw[TE] at hc;obtain⟨c',hc',rfl⟩:=Option.map_eq_some_iff.1 hc;exact(VR.imm _ _ (h i c' v hc' hv)).wk1
  | agg _ vs hl h=>
   refine .agg _ vs (by simpa using hl) fun i c v hc hv=>?_
   rw[TE] at hc;obtain⟨c',hc',rfl⟩:=Option.map_eq_some_iff.1 hc;exact(h i c' v hc' hv).wk1
 .exact h.wk1
theorem VR.wk2{φ:Phi}{A:Nat->Prop}{w:World}{a:AV}{v:Value}(h:VR φ A w a v):VR φ A w (wk2 a) v:=by
 unfold Proofs.Ytedjkebooffjpaa.wk2;split
 .exact VR.wkA h
 .cases h with
  | imm _ _ h=>cases h
  | tup _ vs hl h=>
   refine .tup _ vs (by simpa using hl) fun i c v hc hv=>?_
   rw[TE] at hc;obtain⟨c',hc',rfl⟩:=Option.map_eq_some_iff.1 hc;exact VR.wkA (h i c' v hc' hv)
 .exact h.wk1
theorem CT.w2{f:FuncId}{hin hout:List (Option Blk)}{args:List AV}{res:AV}(h:CT Ux f hin args hout res):CT Ux f hin args hout (wk2 res):=h.less fun _ _ _ _ h=>VR.wk2 h
def H1(l:List Int)(x:Int):Int:=match fnd (fun i=>l.getD i 0==x) 0 l.length with | some i=>(i:Int) | none=> -1
theorem idxZ_has(l:List Int)(x:Int):decide (0<=H1 l x)=AC l x:=by
 unfold H1 AC;cases fnd (fun i=>l.getD i 0==x) 0 l.length with
 | none=>rfl
 | some i=>simp
theorem idx_c(l:List Int)(x:Int)(hl:l.length<=9223372036854775807):CT Ux 96 [] [lI l,.int .i64 x] [] (.int .i64 (H1 l x)):=by
 refine idx_ct l x ([],_) ?_;refine(Ki (fun i=>Ez.l0 (i:Int)) l.length (fun i=>l.getD i 0==x) (rF:=fun i=>([],.int .i64 (i:Int))) (r:=([],.int .i64 (-1))) (fun i hi hp=>?_) (fun i r hi hp hr=>?_) (fun _=>?_)).res (by unfold H1;split<;>simp_all)
 .refine .to (show Ff l x i=_ from ?_) (.ret _);unfold Ff;rw[BO 0 hi,Ak (by rw[<-hp];exact BEq.comm)]
 .refine .to (show Ff l x i=_ from ?_) hr;unfold Ff;rw[BO 0 hi,Ae (by rw[<-hp];exact BEq.comm),zW i (by omega)]
 .refine .to (show Ff l x l.length=_ from ?_) (.ret _);unfold Ff;rw[C3]
def Em(q:Int):Bool:=decide (0<=q)&&decide (q<8)
theorem KN(q:Int):CT Ux 98 [] [.int .i64 q] [] (.bool (Em q)):=by refine isr_ct q ([],_) (.val ?_);unfold Lw Em;cases decide (0<=q)<;>rfl
def AF(s:Ac):List Bool:=s.pe.foldl (fun c b=>c.set b.toNat true) s.cl
theorem Jz:∀(l:List Int) (c:List Bool),(l.foldl (fun c b=>c.set b.toNat true) c).length=c.length:=by
 intro l;induction l with
 | nil=>intro c;rfl
 | cons x l ih=>intro c;rw[List.foldl_cons,ih,T3]
theorem CI(s:Ac):(AF s).length=s.cl.length:=Jz _ _
theorem E4(l:List Bool):∀(e:AV),e∈boL l->e.cells.length=1:=fun e he=>by unfold boL at he;obtain⟨b,_,rfl⟩:=T1.1 he;rfl
theorem BA(l:List Int):∀(e:AV),e∈Uq (AV.int .i64) l->e.cells.length=1:=fun e he=>by obtain⟨b,_,rfl⟩:=T1.1 he;rfl
theorem cel_c(s:Ac)(hl:s.cl.length<=1000000)(hp:s.pe.length<=1000000)(hb:∀b∈s.pe,0<=b/\b<(s.cl.length:Int)):CT Ux 105 [] [sgA s] [] (.lst (boL (AF s))):=by
 refine cel_ct s ([],_) ?_;have hL:=BM s.cl;unfold M9;rw[Aa (E4 _),Aa (by omega),Aa (by omega)];refine M0 (L:=fun i b=>EO.l0 (i:Int) b) (f:=fun c b=>c.set b.toNat true) (l:=s.pe) s.cl (fun i x hx h=>?_) ?_
 .have hlen:=Jz (s.pe.take i) s.cl;have h2:=hb x (Ty hx);have hi:=(Tw.1 hx).1;generalize (s.pe.take i).foldl (fun c b=>c.set b.toNat true) s.cl=c at *;refine .to (show GV s i c=_ from ?_) h;unfold GV;rw[JI hx,Aa h2.1,Aa (by simp only[iN];omega),Aa (show Nat.le _ _ from(by simp only[Tx];show 0+x.toNat+1<=_;omega)),zW i (by omega),TJ]
 .refine .to (show GV s s.pe.length (AF s)=_ from ?_) (.ret _);unfold GV;rw[C3,Aa (by rw[hL,Tx,CI])];rfl
def bdW(s:Ac)(i:Nat):Bool:=decide (s.bw.getD i 0 < -1)||(decide (8<=s.bw.getD i 0)||(decide (0<=s.bw.getD i 0)&&!(s.cl.getD i true)))
def bdP(nb:Nat)(s:Ac)(i:Nat):Bool:=decide (s.pe.getD i 0<0)||(decide ((nb:Int)<=s.pe.getD i 0)||(s.cl.getD (s.pe.getD i 0).toNat true||AC (s.pe.take i) (s.pe.getD i 0)))
def Ge(n:Ab)(s:Ac):Bool:=decide (s.cl.length=Au n)&&(decide (s.bw.length=Au n)&&((fnd (bdW s) 0 s.bw.length).isNone&&(fnd (bdP n.bs.length s) 0 s.pe.length).isNone))
def Br(n:Ab)(s:Ac):Bool:=A8 n&&Ge n s
structure A4(n:Ab)(s:Ac):Prop where
 lc:s.cl.length=Au n
 lb:s.bw.length=Au n
 bw:∀i,i<s.bw.length->-1<=s.bw.getD i 0/\s.bw.getD i 0<8/\(0<=s.bw.getD i 0->s.cl.getD i true=true)
 pb:∀b∈s.pe,0<=b/\b<(n.bs.length:Int)/\s.cl.getD b.toNat true=false
 nd:s.pe.Nodup
theorem DZ{l:List Int}{x:Int}:AC l x=true↔x∈l:=by
 constructor
 .intro h;unfold AC at h;cases hf:fnd (fun i=>l.getD i 0==x) 0 l.length with
  | none=>rw[hf] at h;cases h
  | some i=>
   obtain⟨h1,_,h2⟩:=DV hf;have:l.getD i 0=x:=by simpa using h1
   rw[<-this,Tv,Tu (show i<l.length by omega)];exact T2 _
 .intro h;cases hh:AC l x with
  | true=>rfl
  | false=>exact absurd h (Kz hh)
theorem SE{l:List Int}{i j:Nat}(h:j<i)(hj:j<l.length):l.getD j 0∈l.take i:=by
 have hl:j<(l.take i).length:=by rw[TY];omega
 have:(l.take i)[j]=l.getD j 0:=by rw[List.getElem_take,Tv,Tu hj];rfl
 rw[<-this];exact T2 _
theorem Nr{l:List Int}(h:∀i,i<l.length->AC (l.take i) (l.getD i 0)=false):l.Nodup:=by
 refine List.pairwise_iff_getElem.2 fun i j hi hj hij e=>?_
 refine Kz (h j hj) ?_;have h2:l.getD j 0=l.getD i 0:=by rw[Tv,Tu hj,Tv,Tu hi];exact e.symm
 rw[h2];exact SE hij hi
theorem nd_has{l:List Int}(hn:l.Nodup){i:Nat}(hi:i<l.length):AC (l.take i) (l.getD i 0)=false:=by
 cases h:AC (l.take i) (l.getD i 0) with
 | false=>rfl
 | true=>obtain⟨j,hj,e⟩:=T7.1 (DZ.1 h);rw[TY] at hj;rw[List.getElem_take] at e;have:=nd_inj hn (i:=j) (j:=i) (by omega) hi (by rw[Tv,Tu (show j<l.length by omega)];exact e);omega
theorem Ga{l:List Int}{i:Nat}(h:i<l.length):l.getD i 0∈l:=by rw[Tv,Tu h];exact T2 _
theorem sigF_iff{n:Ab}{s:Ac}:Ge n s=true↔A4 n s:=by
 unfold Ge;simp only[TC,decide_eq_true_eq,Uj];constructor
 .rintro⟨h1,h2,h3,h4⟩
  have hp:∀i,i<s.pe.length->bdP n.bs.length s i=false:=fun i hi=>CH h4 i (TG _) (by omega)
  unfold bdP at hp;simp only[Bool.or_eq_false_iff,decide_eq_false_iff_not] at hp;refine⟨h1,h2,fun i hi=>?_,fun b hb=>?_,Nr fun i hi=>(hp i hi).2.2.2⟩
  .have:=CH h3 i (TG _) (by omega);unfold bdW at this;simp only[Bool.or_eq_false_iff,decide_eq_false_iff_not,Bool.and_eq_false_iff] at this;refine⟨by omega,by omega,fun h0=>?_⟩;rcases this.2.2 with h | h
   .omega
   .simpa using h
  .obtain⟨i,hi,rfl⟩:=T7.1 hb;have:=hp i hi;rw[Tv,Tu hi] at this;simp only[Option.getD_some] at this;exact⟨by omega,by omega,this.2.2.1⟩
 .intro h;refine⟨h.lc,h.lb,NI fun i _ hi=>?_,NI fun i _ hi=>?_⟩
  .obtain⟨h1,h2,h3⟩:=h.bw i (by omega);unfold bdW;rw[An (show ¬s.bw.getD i 0 < -1 by omega),An (show ¬8<=s.bw.getD i 0 by omega)];by_cases h0:0<=s.bw.getD i 0
   .rw[h3 h0];simp
   .rw[An h0];rfl
  .obtain⟨h1,h2,h3⟩:=h.pb _ (Ga (show i<s.pe.length by omega));unfold bdP;rw[An (show ¬s.pe.getD i 0<0 by omega),An (show ¬(n.bs.length:Int)<=s.pe.getD i 0 by omega),h3,nd_has h.nd (by omega)];rfl
theorem OU{n:Ab}{s:Ac}:Br n s=true↔Ax n/\A4 n s:=by unfold Br;rw[TC,CF,sigF_iff]
theorem MW{n:Nat}{x:Int}(h0:0<=x)(h1:x<(n:Int)):x∈(List.range n).map (fun i:Nat=>(i:Int)):=T1.2 ⟨x.toNat,Uk.2 (by omega),by omega⟩
theorem A4.pl{n:Ab}{s:Ac}(h:A4 n s):s.pe.length<=n.bs.length:=by
 have:=IS h.nd (d:=(List.range n.bs.length).map fun i:Nat=>(i:Int)) fun x hx=>MW (h.pb x hx).1 (h.pb x hx).2.1
 rwa [Tx,Ud] at this
theorem sht_get:∀{l:List Int} {c:List Bool},(∀b∈l,0<=b/\b<(c.length:Int))->∀(x:Nat),(l.foldl (fun c b=>c.set b.toNat true) c).getD x true=(c.getD x true||AC l (x:Int)):=by
 intro l;induction l with
 | nil=>intro c _ x;simp[AC,fnd]
 | cons y l ih=>
  intro c h x;have hy:=h y (by simp);rw[List.foldl_cons,ih (fun b hb=>by rw[T3];exact h b (TN _ hb)) x];have e:(c.set y.toNat true).getD x true=(c.getD x true||decide (y=(x:Int))):=by
   rw[Tv,Un,Tv];by_cases hx:y=(x:Int)
   .rw[Ts (by omega),Ts (by omega),Az hx];simp
   .rw[Tt (by omega),An hx,Bool.or_false]
  have e2:AC (y::l) (x:Int)=(decide (y=(x:Int))||AC l (x:Int)):=by rw[Bool.eq_iff_iff,T6,DZ,DZ,TZ,decide_eq_true_eq];exact or_congr eq_comm Iff.rfl
  rw[e,e2,Bool.or_assoc]
theorem LD{n:Ab}{s:Ac}(hv:Ax n)(h:A4 n s)(x:Nat):(AF s).getD x true=(s.cl.getD x true||AC s.pe (x:Int)):=sht_get (fun b hb=>by have:=h.pb b hb;have:=h.lc;have:=hv.cel;omega) x
def conSt(l:List Int)(q:Int):Empty->St | x=>x.elim
def conHd:Empty->Nat | x=>x.elim
def Nt(l:List Int)(q:Int):Option (Empty⊕Ret):=gu (l.length<=9223372036854775807) <|some (.inr ([],bV (decide (0<=H1 l q))))
def conStep(l:List Int)(q:Int):Empty->Option (Empty⊕Ret) | x=>x.elim
theorem conEn_ok(l:List Int)(q:Int)(o:Empty⊕Ret)(h:Nt l q=some o):Arr Ux Try.f47 0 (conSt l q) conHd (zB Try.f47) [] {n:=Try.f47.ntmps,fr:=AI 0 ([lI l,.int .i64 q]),hp:=([])} o:=Scr.ok h mix (.rn 0 [] [] [] [] s2 <|.gu fun a0=>have c0:=idx_c l q a0;.rt [] [] [(7,hK c0 [] [])] [] [] [] (aj (al (u2 (u2 (aj (ak (k3 (al (c0)))) (u2 s2))))) t2)) (by kernel_rfl)
theorem con_ct(l:List Int)(q:Int)(r:Ret)(h:Aq (conStep l q) (Nt l q) r):CT Ux 47 ([]) ([lI l,.int .i64 q]) r.1 r.2:=
 CT.mach (fn:=Try.f47) (c:=zB Try.f47) (S:=conSt l q) (hd:=conHd) Try.func47 (by kernel_rfl) (nL rfl)
  (fun s o ho=>match s,ho with
   | x,_=>x.elim)
  (fun o ho=>conEn_ok l q o ho) h
inductive Dq where | l0 (v0:Int) | l1 (v0:Int)
def G8(n:Ab)(q:Ac):Dq->St | .l0 v0=>St.mk 96 [(2,AV.ptr 0 0 0),(3,AV.ptr 1 0 0),(5,iv v0)] [some (bK [Af n] 8),some (bK [AV.agg [Uw (boL q.cl),Uw (Uq iv q.bw),Uw (Uq iv q.pe)]] 3)] | .l1 v0=>St.mk 96 [(2,AV.ptr 0 0 0),(3,AV.ptr 1 0 0),(6,iv v0)] [some (bK [Af n] 8),some (bK [AV.agg [Uw (boL q.cl),Uw (Uq iv q.bw),Uw (Uq iv q.pe)]] 3)]
def Jg:Dq->Nat | .l0 _=>0 | .l1 _=>1
def foEn(n:Ab)(q:Ac):Option (Dq⊕Ret):=gu (Ax n) <|br (iN (boL q.cl).length != iN (Au n)) (some (.inr ([],bV false))) (br (iN (Uq iV q.bw).length != iN (boL q.cl).length) (some (.inr ([],bV false))) (some (.inl (.l0 ((0:Int))))))
def E6(n:Ab)(q:Ac)(v0:Int):Option (Dq⊕Ret):=br (decide (v0<iN (Uq iV q.bw).length)) (gu (0<=v0) <|el (q.bw) (v0.toNat) fun(x33:Int)=>br (decide (x33 < -1)) (some (.inr ([],bV false))) (el (q.bw) (v0.toNat) fun(x40:Int)=>br (decide (8<=x40)) (some (.inr ([],bV false))) (el (q.bw) (v0.toNat) fun(x48:Int)=>br (x48 != -1) (el (q.cl) (v0.toNat) fun(x55:Bool)=>br (!x55) (some (.inr ([],bV false))) (some (.inl (.l0 (i64.wrap (v0+1)))))) (some (.inl (.l0 (i64.wrap (v0+1)))))))) (some (.inl (.l1 ((0:Int)))))
def FA(n:Ab)(q:Ac)(v0:Int):Option (Dq⊕Ret):=br (decide (v0<iN (Uq iV q.pe).length)) (gu (0<=v0) <|el (q.pe) (v0.toNat) fun(x70:Int)=>br (decide (x70<0)) (some (.inr ([],bV false))) (br (decide (iN (Uq bA n.bs).length<=x70)) (some (.inr ([],bV false))) (gu (0<=x70) <|el (q.cl) (x70.toNat) fun(x85:Bool)=>br x85 (some (.inr ([],bV false))) (gu (∀(e:AV),e∈Uq iV q.pe->e.cells.length=1) <|gu (v0<=iN (Uq iV q.pe).length) <|gu ((List.take (v0.toNat-Uv 0) (List.drop (Uv 0) q.pe)).length<=9223372036854775807) <|br (AC (List.take (v0.toNat-Uv 0) (List.drop (Uv 0) q.pe)) x70) (some (.inr ([],bV false))) (some (.inl (.l1 (i64.wrap (v0+1))))))))) (some (.inr ([],bV true)))
def foStep(n:Ab)(q:Ac):Dq->Option (Dq⊕Ret) | .l0 v0=>E6 n q v0 | .l1 v0=>FA n q v0
theorem foEn_ok(n:Ab)(q:Ac)(o:Dq⊕Ret)(h:foEn n q=some o):Arr Ux Try.f117 0 (G8 n q) Jg (zB Try.f117) [] {n:=Try.f117.ntmps,fr:=AI 0 ([Af n,sgA q]),hp:=([])} o:=Scr.ok h mix (.rn 0 [] [] [] [] (al (u2 (u2 t2))) <|.gu fun a0=>.br (fun a1=>have c0:=ED a0;.rt [29] [] [(12,hK c0 [] [])] [] [] [] (aj (aj (u2 (u2 (u2 (u2 (aj (ak (aj t9 (al (c0)))) (aj t3 (u2 (aj a1 (aj a1 (aj a1 (aj a1 (aj a1 (aj a1 (aj a1 (al (aj a1 t2)))))))))))))))) (ak s2)) t2)) (fun a1=>have c0:=ED a0;.rn 0 [28] [] [(12,hK c0 [] [])] [] (al (u2 (u2 (u2 (u2 (aj (ak (aj t9 (al (c0)))) (aj t3 (u2 (ag a1 (ag a1 (ag a1 (ag a1 (ag a1 (ag a1 (aj (aj a1 t3) (al (aj a1 t2))))))))))))))))) <|.br (fun a2=>.rt [28,45] [] [] [] [] [] (aj (aj a2 s2) t2)) (fun a2=>.lp [28,44] [] [] [] [] [0,1] [2,3,5] (aj (aj a2 s2) t6)))) (by kernel_rfl)
theorem foS0_ok(n:Ab)(q:Ac)(v0:Int)(o:Dq⊕Ret)(h:E6 n q v0=some o):Arr Ux Try.f117 0 (G8 n q) Jg (Av Try.f117 0) (.rnd (Av Try.f117 0)::AK Try.f117 0) (G8 n q (.l0 v0)) o:=Scr.ok h mix (.rn 0 [] [] [] [] (al (u2 (u2 (u2 (u2 (al t3)))))) <|.br (fun a0=>.gu fun a1=>.el fun x33 a2=>.br (fun a3=>.rt [55,73] [(33,iv x33)] [] [] [] [] (aj (aj a0 (aj (u2 (u2 (u2 (aj (k2 (aj a1 (Ar (f:=iv) a2))) (u2 (u2 (u2 (aj a3 (aj a3 (aj a3 (aj a3 (aj a3 (aj a3 (ag a3 (u2 (ak (k3 (k5 (k5 (al t3)))))))))))))))))))) (ak s2))) t2)) (fun a3=>.el fun x40 a4=>.br (fun a5=>.rt [55,72,89] [(33,iv x33),(40,iv x40)] [] [] [] [] (aj (aj a0 (aj (u2 (u2 (u2 (aj (k2 (aj a1 (Ar (f:=iv) a2))) (u2 (u2 (u2 (ag a3 (ag a3 (ag a3 (aj (aj a3 (k2 (aj a1 (Ar (f:=iv) a4)))) (ag a3 (ag a3 (ag a3 (u2 (aj a5 (aj a5 (aj a5 (aj a5 (aj a5 (aj a5 (aj a5 (ak (k5 (aj a5 (al (aj a5 t2))))))))))))))))))))))))))) (ak s2))) t2)) (fun a5=>.el fun x48 a6=>.br (fun a7=>.el fun x55 a8=>.rn 0 [55,72,88,103] [(33,iv x33),(40,iv x40),(48,iv x48),(55,bV x55)] [] [] (aj a0 (al (u2 (u2 (u2 (aj (k2 (aj a1 (Ar (f:=iv) a2))) (u2 (u2 (u2 (ag a3 (ag a3 (ag a3 (aj (aj a3 (k2 (aj a1 (Ar (f:=iv) a4)))) (ag a3 (ag a3 (ag a3 (u2 (ag a5 (ag a5 (ag a5 (aj (aj a5 (k2 (aj a1 (Ar (f:=iv) a6)))) (ag a5 (ag a5 (ag a5 (ag a7 (ag a7 (ag a7 (aj (aj a7 (k2 (aj a1 (Ar (f:=bV) a8)))) (ag a7 (ag a7 (aj (aj a5 (aj a7 t2)) (al (aj a5 t2))))))))))))))))))))))))))))))))) <|.br (fun a9=>.rt [72,88,103,119] [] [] [] [] [] (aj (aj a9 s2) t2)) (fun a9=>.lp [72,88,103,118] [] [] [] [] [0,1] [2,3,5] (aj (aj a9 (al (u2 (u2 s2)))) t6))) (fun a7=>.lp [55,72,88,102] [(33,iv x33),(40,iv x40),(48,iv x48)] [] [] [] [0,1] [2,3,5] (aj (aj a0 (aj (u2 (u2 (u2 (aj (k2 (aj a1 (Ar (f:=iv) a2))) (u2 (u2 (u2 (ag a3 (ag a3 (ag a3 (aj (aj a3 (k2 (aj a1 (Ar (f:=iv) a4)))) (ag a3 (ag a3 (ag a3 (u2 (ag a5 (ag a5 (ag a5 (aj (aj a5 (k2 (aj a1 (Ar (f:=iv) a6)))) (ag a5 (ag a5 (ag a5 (aj a7 (aj a7 (aj a7 (aj a7 (aj a7 (aj a7 (aj (aj a5 (aj a7 t2)) (al (aj a5 t2))))))))))))))))))))))))))))))) (ak (al (u2 (u2 s2)))))) t6))))) (fun a0=>.lp [54] [] [] [] [] [0,1] [2,3,6] (aj (aj a0 s2) t6))) (by kernel_rfl)
theorem foS1_ok(n:Ab)(q:Ac)(v0:Int)(o:Dq⊕Ret)(h:FA n q v0=some o):Arr Ux Try.f117 0 (G8 n q) Jg (Av Try.f117 1) (.rnd (Av Try.f117 1)::AK Try.f117 1) (G8 n q (.l1 v0)) o:=Scr.ok h mix (.rn 0 [] [] [] [] (al (u2 (u2 (u2 (u2 (al t3)))))) <|.br (fun a0=>.gu fun a1=>.el fun x70 a2=>.rn 0 [129] [(70,iv x70)] [] [] (aj a0 (al (u2 (u2 (u2 (aj (k2 (aj a1 (Ar (f:=iv) a2))) (u2 s2))))))) <|.br (fun a3=>.rt [149] [] [] [] [] [] (aj (aj (u2 (u2 (u2 (aj a3 (aj a3 (aj a3 (aj a3 (aj a3 (ag a3 (u2 (k5 (aj t3 (u2 (ak (k5 (al t3)))))))))))))))) (ak s2)) t2)) (fun a3=>.br (fun a4=>.rt [148,163] [] [] [] [] [] (aj (aj (u2 (u2 (u2 (ag a3 (ag a3 (ag a3 (ag a3 (aj (aj a3 t3) (ag a3 (u2 (aj a4 (aj a4 (aj a4 (aj a4 (aj a4 (ag a4 (u2 (ak (k5 (al t3)))))))))))))))))))) (ak s2)) t2)) (fun a4=>.gu fun a5=>.el fun x85 a6=>.br (fun a7=>.rt [148,162,177] [(85,bV x85)] [] [] [] [] (aj (aj (u2 (u2 (u2 (ag a3 (ag a3 (ag a3 (ag a3 (aj (aj a3 t3) (ag a3 (u2 (ag a4 (ag a4 (ag a4 (aj (aj a4 (k2 (aj a5 (Ar (f:=bV) a6)))) (ag a4 (ag a4 (u2 (aj a7 (aj a7 (aj a7 (aj a7 (aj a7 (aj a7 (al (aj a7 t2))))))))))))))))))))))))) (ak s2)) t2)) (fun a7=>.gu fun a8=>.gu fun a9=>.gu fun a10=>have c0:=G6 (List.take (v0.toNat-Uv 0) (List.drop (Uv 0) q.pe)) x70 a10;.rn 0 [148,162,176] [(85,bV x85)] [(94,hK c0 [] [])] [] (al (u2 (u2 (u2 (ag a3 (ag a3 (ag a3 (ag a3 (aj (aj a3 t3) (ag a3 (u2 (ag a4 (ag a4 (ag a4 (aj (aj a4 (k2 (aj a5 (Ar (f:=bV) a6)))) (ag a4 (ag a4 (u2 (ag a7 (ag a7 (ag a7 (aj (aj a7 (k2 (aj a8 (aj (Int.le_refl 0) (aj a1 (aj a9 (show iN (Uq iv q.pe).length<=iN (Uq iv q.pe).length by omega))))))) (ag a7 (aj (aj a7 (ak (k3 (al (show CT Ux 26 [] [Uw (List.take (v0.toNat-Uv 0) (List.drop (Uv 0) (Uq iv q.pe))),iv x70] [] (bV (AC (List.take (v0.toNat-Uv 0) (List.drop (Uv 0) q.pe)) x70)) from CT.eqs (c0) (by simp[gL,boL,lI,sA,bA]<;>rfl) (by simp[gL,boL,lI,sA,bA]<;>rfl)))))) (al (aj a7 t2)))))))))))))))))))))))))) <|.br (fun a11=>.rt [148,162,176,191] [] [] [] [] [] (aj (aj a11 s2) t2)) (fun a11=>.lp [148,162,176,190] [] [] [] [] [0,1] [2,3,6] (aj (aj a11 (al (u2 (u2 s2)))) t6)))))) (fun a0=>.rt [128] [] [] [] [] [] (aj (aj a0 s2) t2))) (by kernel_rfl)
theorem fo_ct(n:Ab)(q:Ac)(r:Ret)(h:Aq (foStep n q) (foEn n q) r):CT Ux 117 ([]) ([Af n,sgA q]) r.1 r.2:=
 CT.mach (fn:=Try.f117) (c:=zB Try.f117) (S:=G8 n q) (hd:=Jg) Try.func117 (by kernel_rfl) (nL rfl)
  (fun s o ho=>match s,ho with
   | .l0 v0,ho=>foS0_ok n q v0 o ho
   | .l1 v0,ho=>foS1_ok n q v0 o ho
  )
  (fun o ho=>foEn_ok n q o ho) h
inductive EA where | l0 (v0:Int) (v1:List Int)
def Fo(n:Ab):EA->St | .l0 v0 v1=>St.mk 29 [(2,AV.ptr 0 0 0),(4,AV.ptr 1 0 0),(5,iv v0)] [some (bK [AV.agg [AV.nils,AV.nils,AV.nils]] 3),some (Blk.mk [AV.agg [AV.sl 2 0 (Ur (iN (Au n)).toNat false).length,AV.sl 3 0 v1.length,AV.nils]] 3 false true none),some (bK (Ur (iN (Au n)).toNat (bV false)) 1),some (bK (Uq iv v1) 1)]
def My:EA->Nat | .l0 _ _=>0
def LI(n:Ab):Option (EA⊕Ret):=gu (Rows n.nx) <|br (!A8 n) (some (.inr ([],AV.tup [AV.agg [AV.nils,AV.nils,AV.nils],iV 20]))) (gu (Ax n) <|gu (1 * iN (Au n)<=281474976710656) <|gu (iN (Au n)<=9223372036854775807) <|gu (8 * iN (Au n)<=281474976710656) <|some (.inl (.l0 ((0:Int)) (Ur (iN (Au n)).toNat 0))))
def Hj(n:Ab)(v0:Int)(v1:List Int):Option (EA⊕Ret):=br (decide (v0<iN v1.length)) (gu (0<=v0) <|gu (v0<iN v1.length) <|gu ((0+v0.toNat).succ.le (Uq iV v1).length) <|some (.inl (.l0 (i64.wrap (v0+1)) (v1.set (0+v0.toNat) (-1))))) (some (.inr ([],AV.tup [AV.agg [Uw (Ur (iN (Au n)).toNat (bV false)),Uw (Uq iV v1),AV.nils],iV 0])))
def r20nStep(n:Ab):EA->Option (EA⊕Ret) | .l0 v0 v1=>Hj n v0 v1
theorem Rh(n:Ab)(o:EA⊕Ret)(h:LI n=some o):Arr Ux Try.f31 0 (Fo n) My (zB Try.f31) [] {n:=Try.f31.ntmps,fr:=AI 0 ([Af n]),hp:=([])} o:=Scr.ok h mix (.rn 0 [] [] [] [] (al (u2 t3)) <|.gu fun a0=>have c0:=Kd a0;.rn 0 [] [] [(7,hK c0 [] [])] [] (al (u2 (aj (ak (aj t9 (al (c0)))) s2))) <|.br (fun a1=>.rt [17] [] [] [] [] [] (aj (aj a1 (al (ak (aj (k2 n11) t2)))) (al (aj t4 t2)))) (fun a1=>.gu fun a2=>.gu fun a3=>.gu fun a4=>.gu fun a5=>have c1:=ED a2;have c2:=ED a2;.lq [16] [] [(11,hK c1 [] []),(14,hK c2 [] [])] [] [] [1,4,2,3] [2,4,5] (up [] [(1,[AV.agg [AV.sl 2 0 (iN (Au n)).toNat,AV.sl 3 0 (iN (Au n)).toNat,AV.nils]]),(3,Ur (iN (Au n)).toNat (iv 0))] (Fo n (.l0 ((0:Int)) (Ur (iN (Au n)).toNat 0)))) (aj (aj a1 (aj (u2 (aj (ak (aj t9 (al (c1)))) (aj (k2 (aj (show 0<=iN (Au n) by simp) (aj (show iN (Au n)<=iN (Au n) by omega) (aj a3 a4)))) (u2 (aj (ak (aj t9 (al (c2)))) (aj (k2 (aj (show 0<=iN (Au n) by simp) (aj (show iN (Au n)<=iN (Au n) by omega) (aj a5 a4)))) (aj t3 (ak (al (k2 n11)))))))))) s2)) (ak (k3 (aj (al t4) t3)))) (by simp[up,upF,upV,upH,upB,Fo,gL,boL,lI,sA,bA]))) (by kernel_rfl)
theorem SR(n:Ab)(v0:Int)(v1:List Int)(o:EA⊕Ret)(h:Hj n v0 v1=some o):Arr Ux Try.f31 0 (Fo n) My (Av Try.f31 0) (.rnd (Av Try.f31 0)::AK Try.f31 0) (Fo n (.l0 v0 v1)) o:=Scr.ok h mix (.rn 0 [] [] [] [] (al (u2 (u2 (u2 (u2 (al t3)))))) <|.br (fun a0=>.gu fun a1=>.gu fun a2=>.gu fun a3=>.lq [43] [] [] [] [] [0,1,2,3] [2,4,5] (up [] [(1,[AV.agg [AV.sl 2 0 (Ur (iN (Au n)).toNat false).length,AV.sl 3 0 v1.length,AV.nils]]),(3,(Uq iv v1).set (0+v0.toNat) (iv (-1)))] (Fo n (.l0 (i64.wrap (v0+1)) (v1.set (0+v0.toNat) (-1))))) (aj (aj a0 (aj (u2 (u2 (u2 (aj (k2 (aj a1 a2)) (al (ak a3)))))) (al (u2 (u2 s2))))) (ak (k3 (aj (al t4) t3)))) (by simp[up,upF,upV,upH,upB,Fo,gL,boL,lI,sA,bA])) (fun a0=>.rt [42] [] [] [] [] [2,3] (aj (aj a0 (al (u2 (aj (k2 n11) t2)))) (al (aj (aj (show(Ur (iN (Au n)).toNat false).length=(Ur (iN (Au n)).toNat (bV false)).length by simp) (aj (show v1.length=(Uq iv v1).length by simp) t2)) t2))))) (by kernel_rfl)
theorem r20n_ct(n:Ab)(r:Ret)(h:Aq (r20nStep n) (LI n) r):CT Ux 31 ([]) ([Af n]) r.1 r.2:=
 CT.mach (fn:=Try.f31) (c:=zB Try.f31) (S:=Fo n) (hd:=My) Try.func31 (by kernel_rfl) (nL rfl)
  (fun s o ho=>match s,ho with
   | .l0 v0 v1,ho=>SR n v0 v1 o ho
  )
  (fun o ho=>Rh n o ho) h
inductive Da where | l0 (v0:Int) (v1 v2 v3 v4 v5 v6 v7 v8:Bool) | l1 (v0:Int) (v1:List Int) (v2:Nat) (v3:Int) (v4 v5 v6 v7 v8 v9 v10 v11:Bool)
def Hf(q:Aj):Da->St | .l0 v0 v1 v2 v3 v4 v5 v6 v7 v8=>St.mk 71 [(1,AV.ptr 0 0 0),(3,AV.ptr 1 0 0),(22,Uw (gL q.qu)),(23,iv (iN (gL q.qu).length)),(24,iv v0)] [some (bK [AV.agg [Uw (Uq iv q.ow),Uw (gL q.qu)]] 2),some (bK [AV.agg [bV v1,bV v2,bV v3,bV v4,bV v5,bV v6,bV v7,bV v8]] 8)] | .l1 v0 v1 v2 v3 v4 v5 v6 v7 v8 v9 v10 v11=>St.mk 71 [(1,AV.ptr 0 0 0),(3,AV.ptr 1 0 0),(4,iv v0),(22,Uw (gL q.qu)),(23,iv (iN (gL q.qu).length)),(24,iv v0),(44,Uw (Uq iv v1)),(45,iv (iN v2)),(46,iv v3)] [some (bK [AV.agg [Uw (Uq iv q.ow),Uw (gL q.qu)]] 2),some (bK [AV.agg [bV v4,bV v5,bV v6,bV v7,bV v8,bV v9,bV v10,bV v11]] 8)]
def JL:Da->Nat | .l0 _ _ _ _ _ _ _ _ _=>0 | .l1 _ _ _ _ _ _ _ _ _ _ _ _=>1
def Mv(q:Aj):Option (Da⊕Ret):=br (decide (48<iN (Uq iV q.ow).length)) (some (.inr ([],bV false))) (br (iN (Uq iV q.ow).length != iN (gL q.qu).length) (some (.inr ([],bV false))) (some (.inl (.l0 ((0:Int)) (false) (false) (false) (false) (false) (false) (false) (false)))))
def Gy(q:Aj)(v0:Int)(v1 v2 v3 v4 v5 v6 v7 v8:Bool):Option (Da⊕Ret):=br (decide (v0<iN (gL q.qu).length)) (gu (0<=v0) <|el (q.qu) (v0.toNat) fun(x27:List Int)=>el (q.ow) (v0.toNat) fun(x32:Int)=>br (x32 != -1) (el (q.ow) (v0.toNat) fun(x39:Int)=>br (!Em x39) (some (.inr ([],bV false))) (some (.inl (.l1 v0 x27 ((Uq iV x27).length) ((0:Int)) v1 v2 v3 v4 v5 v6 v7 v8)))) (some (.inl (.l1 v0 x27 ((Uq iV x27).length) ((0:Int)) v1 v2 v3 v4 v5 v6 v7 v8)))) (some (.inr ([],bV true)))
def EX(q:Aj)(v0:Int)(v1:List Int)(v2:Nat)(v3:Int)(v4 v5 v6 v7 v8 v9 v10 v11:Bool):Option (Da⊕Ret):=br (decide (v3<iN v2)) (gu (0<=v3) <|el v1 (v3.toNat) fun(x48:Int)=>br (!Em x48) (some (.inr ([],bV false))) (gu (0<=x48) <|gu (x48<8) <|el ([v4,v5,v6,v7,v8,v9,v10,v11]) (0+x48.toNat * 1) fun(x56:Bool)=>br x56 (some (.inr ([],bV false))) (gu (0<=v0) <|el (q.ow) (v0.toNat) fun(x62:Int)=>br (x62==x48) (some (.inr ([],bV false))) (gu ((0+x48.toNat * 1+1).le 8) <|some (.inl (.l1 v0 v1 v2 (i64.wrap (v3+1)) (bif Nat.beq 0 (0+x48.toNat * 1) then true else v4) (bif Nat.beq 1 (0+x48.toNat * 1) then true else v5) (bif Nat.beq 2 (0+x48.toNat * 1) then true else v6) (bif Nat.beq 3 (0+x48.toNat * 1) then true else v7) (bif Nat.beq 4 (0+x48.toNat * 1) then true else v8) (bif Nat.beq 5 (0+x48.toNat * 1) then true else v9) (bif Nat.beq 6 (0+x48.toNat * 1) then true else v10) (bif Nat.beq 7 (0+x48.toNat * 1) then true else v11))))))) (some (.inl (.l0 (i64.wrap (v0+1)) v4 v5 v6 v7 v8 v9 v10 v11)))
def JY(q:Aj):Da->Option (Da⊕Ret) | .l0 v0 v1 v2 v3 v4 v5 v6 v7 v8=>Gy q v0 v1 v2 v3 v4 v5 v6 v7 v8 | .l1 v0 v1 v2 v3 v4 v5 v6 v7 v8 v9 v10 v11=>EX q v0 v1 v2 v3 v4 v5 v6 v7 v8 v9 v10 v11
theorem ilvEn_ok(q:Aj)(o:Da⊕Ret)(h:Mv q=some o):Arr Ux Try.f51 0 (Hf q) JL (zB Try.f51) [] {n:=Try.f51.ntmps,fr:=AI 0 ([lkA q]),hp:=([])} o:=Scr.ok h mix (.rn 0 [] [] [] [] (al (u2 t2)) <|.br (fun a0=>.rt [25] [] [] [] [] [] (aj (aj (u2 (u2 (u2 (u2 (u2 (aj a0 (aj a0 (aj a0 (aj a0 (aj a0 (aj a0 (aj a0 (al (aj a0 t2)))))))))))))) (ak s2)) t2)) (fun a0=>.rn 0 [24] [] [] [] (al (u2 (u2 (u2 (u2 (u2 (ag a0 (ag a0 (ag a0 (ag a0 (ag a0 (ag a0 (aj (aj a0 t3) (al (aj a0 t2))))))))))))))) <|.br (fun a1=>.rt [24,41] [] [] [] [] [] (aj (aj a1 s2) t2)) (fun a1=>.lp [24,40] [] [] [] [] [0,1] [1,3,22,23,24] (aj (aj a1 (u2 (al (u2 (u2 (u2 t2)))))) t8)))) (by kernel_rfl)
theorem ilvS0_ok(q:Aj)(v0:Int)(v1 v2 v3 v4 v5 v6 v7 v8:Bool)(o:Da⊕Ret)(h:Gy q v0 v1 v2 v3 v4 v5 v6 v7 v8=some o):Arr Ux Try.f51 0 (Hf q) JL (Av Try.f51 0) (.rnd (Av Try.f51 0)::AK Try.f51 0) (Hf q (.l0 v0 v1 v2 v3 v4 v5 v6 v7 v8)) o:=Scr.ok h mix (.rn 0 [] [] [] [] (al (al t3)) <|.br (fun a0=>.gu fun a1=>.el fun x27 a2=>.rn 0 [51] [(27,lI x27)] [] [] (aj a0 (al (u2 (aj (k2 (aj a1 (Ar (f:=lI) a2))) (u2 (u2 s2)))))) <|.el fun x32 a3=>.br (fun a4=>.el fun x39 a5=>have c0:=KN (x39);.rn 0 [71] [(32,iv x32),(39,iv x39)] [(41,hK c0 [] [])] [] (al (u2 (u2 (u2 (aj (k2 (aj a1 (Ar (f:=iv) a3))) (u2 (u2 (u2 (ag a4 (ag a4 (ag a4 (aj (aj a4 (k2 (aj a1 (Ar (f:=iv) a5)))) (ag a4 (aj (aj a4 (k2 (al (c0)))) (ag a4 (al (aj a4 t2))))))))))))))))) <|.br (fun a6=>.rt [71,87] [] [] [] [] [] (aj (aj a6 s2) t2)) (fun a6=>.lp [71,86] [] [] [] [] [0,1] [1,3,4,22,23,24,44,45,46] (aj (aj a6 (al (u2 (u2 t2)))) (k3 t9)))) (fun a4=>.lp [70] [(32,iv x32)] [] [] [] [0,1] [1,3,4,22,23,24,44,45,46] (aj (aj (u2 (u2 (u2 (aj (k2 (aj a1 (Ar (f:=iv) a3))) (u2 (u2 (u2 (aj a4 (aj a4 (aj a4 (aj a4 (aj a4 (aj a4 (aj a4 (al (aj a4 t2)))))))))))))))) (ak (al (u2 (u2 t2))))) (k3 t9)))) (fun a0=>.rt [50] [] [] [] [] [] (aj (aj a0 s2) t2))) (by kernel_rfl)
theorem ilvS1_ok(q:Aj)(v0:Int)(v1:List Int)(v2:Nat)(v3:Int)(v4 v5 v6 v7 v8 v9 v10 v11:Bool)(o:Da⊕Ret)(h:EX q v0 v1 v2 v3 v4 v5 v6 v7 v8 v9 v10 v11=some o):Arr Ux Try.f51 0 (Hf q) JL (Av Try.f51 1) (.rnd (Av Try.f51 1)::AK Try.f51 1) (Hf q (.l1 v0 v1 v2 v3 v4 v5 v6 v7 v8 v9 v10 v11)) o:=Scr.ok h mix (.rn 0 [] [] [] [] (al (al t3)) <|.br (fun a0=>.gu fun a1=>.el fun x48 a2=>.rn 0 [95] [(48,iv x48)] [] [] (aj a0 (al (aj (k2 (aj a1 (Ar (f:=iv) a2))) (u2 s2)))) <|.br (fun a3=>have c0:=KN (x48);.rt [107] [] [(51,hK c0 [] [])] [] [] [] (aj (aj (u2 (aj (k2 (al (c0))) (u2 (u2 (aj a3 (aj a3 (aj a3 (ag a3 (u2 (k2 (k5 (al t3)))))))))))) (ak s2)) t2)) (fun a3=>.gu fun a4=>.gu fun a5=>.el fun x56 a6=>.br (fun a7=>have c0:=KN (x48);.rt [106,117] [(56,AV.tup [bV x56])] [(51,hK c0 [] [])] [] [] [] (aj (aj (u2 (aj (k2 (al (c0))) (u2 (u2 (ag a3 (aj (aj a3 (k2 (aj a4 a5))) (aj (aj a3 (ak (Ar (f:=bV) a6))) (ag a3 (u2 (aj a7 (aj a7 (aj a7 (aj a7 (aj a7 (aj a7 (aj a7 (al (aj a7 t2)))))))))))))))))) (ak s2)) t2)) (fun a7=>.gu fun a8=>.el fun x62 a9=>have c0:=KN (x48);.rn 0 [106,116] [(56,AV.tup [bV x56]),(62,iv x62)] [(51,hK c0 [] [])] [] (al (u2 (aj (k2 (al (c0))) (u2 (u2 (ag a3 (aj (aj a3 (k2 (aj a4 a5))) (aj (aj a3 (ak (Ar (f:=bV) a6))) (ag a3 (u2 (ag a7 (ag a7 (ag a7 (aj (aj a7 (k2 (aj a8 (Ar (f:=iv) a9)))) (ag a7 (ag a7 (aj (aj a7 t3) (al (aj a7 t2))))))))))))))))))) <|.br (fun a10=>.rt [106,116,133] [] [] [] [] [] (aj (aj a10 s2) t2)) (fun a10=>.gu fun a11=>.lp [106,116,132] [(68,AV.tup [AV.unk])] [] [] [] [0,1] [1,3,4,22,23,24,44,45,46] (aj (aj a10 (aj (u2 (aj (k2 (aj a4 a5)) (al (ak a11)))) (al (u2 s2)))) (k3 t9)))))) (fun a0=>.lp [94] [] [] [] [] [0,1] [1,3,22,23,24] (aj (aj a0 (al (u2 s2))) t8))) (by kernel_rfl)
theorem ilv_ct(q:Aj)(r:Ret)(h:Aq (JY q) (Mv q) r):CT Ux 51 ([]) ([lkA q]) r.1 r.2:=
 CT.mach (fn:=Try.f51) (c:=zB Try.f51) (S:=Hf q) (hd:=JL) Try.func51 (by kernel_rfl) (nL rfl)
  (fun s o ho=>match s,ho with
   | .l0 v0 v1 v2 v3 v4 v5 v6 v7 v8,ho=>ilvS0_ok q v0 v1 v2 v3 v4 v5 v6 v7 v8 o ho
   | .l1 v0 v1 v2 v3 v4 v5 v6 v7 v8 v9 v10 v11,ho=>ilvS1_ok q v0 v1 v2 v3 v4 v5 v6 v7 v8 v9 v10 v11 o ho
  )
  (fun o ho=>ilvEn_ok q o ho) h
inductive Dn where | l0 (v0:Int) (v1 v2 v3 v4 v5 v6 v7 v8:Bool) | l1 (v0 v1 v2:Int) (v3 v4 v5 v6 v7 v8 v9 v10 v11:Bool)
def G5(q:Aj):Dn->St | .l0 v0 v1 v2 v3 v4 v5 v6 v7 v8=>St.mk 81 [(1,AV.ptr 0 0 0),(3,AV.ptr 1 0 0),(4,iv v0)] [some (bK [AV.agg [Uw (Uq iv q.ow),Uw (gL q.qu)]] 2),some (bK [AV.agg [bV v1,bV v2,bV v3,bV v4,bV v5,bV v6,bV v7,bV v8]] 8)] | .l1 v0 v1 v2 v3 v4 v5 v6 v7 v8 v9 v10 v11=>St.mk 81 [(1,AV.ptr 0 0 0),(3,AV.ptr 1 0 0),(4,iv v0),(5,iv v1),(34,AV.ptr 0 0 0),(35,Uw (Uq iv q.ow)),(36,iv v0),(37,AV.iptr [iv v2]),(38,iv v2),(39,bV v3)] [some (bK [AV.agg [Uw (Uq iv q.ow),Uw (gL q.qu)]] 2),some (bK [AV.agg [bV v4,bV v5,bV v6,bV v7,bV v8,bV v9,bV v10,bV v11]] 8)]
def Kl:Dn->Nat | .l0 _ _ _ _ _ _ _ _ _=>0 | .l1 _ _ _ _ _ _ _ _ _ _ _ _=>1
def Nz(q:Aj):Option (Dn⊕Ret):=br (decide (48<iN (Uq iV q.ow).length)) (some (.inr ([],bV false))) (br (iN (Uq iV q.ow).length != iN (gL q.qu).length) (some (.inr ([],bV false))) (some (.inl (.l0 ((0:Int)) (false) (false) (false) (false) (false) (false) (false) (false)))))
def Gu(q:Aj)(v0:Int)(v1 v2 v3 v4 v5 v6 v7 v8:Bool):Option (Dn⊕Ret):=br (decide (v0<iN (Uq iV q.ow).length)) (gu (0<=v0) <|el (q.ow) (v0.toNat) fun(x30:Int)=>br (decide (x30 < -1)) (some (.inr ([],bV false))) (el (q.ow) (v0.toNat) fun(x37:Int)=>br (decide (8<=x37)) (some (.inr ([],bV false))) (some (.inl (.l1 v0 ((0:Int)) x37 (decide (8<=x37)) v1 v2 v3 v4 v5 v6 v7 v8))))) (some (.inr ([],bV true)))
def Fx(q:Aj)(v0 v1 v2:Int)(v3 v4 v5 v6 v7 v8 v9 v10 v11:Bool):Option (Dn⊕Ret):=gu (0<=v0) <|el (q.qu) (v0.toNat) fun(x45:List Int)=>br (decide (v1<iN (Uq iV x45).length)) (el (q.qu) (v0.toNat) fun(x54:List Int)=>gu (0<=v1) <|el x54 (v1.toNat) fun(x57:Int)=>br (decide (x57<0)) (some (.inr ([],bV false))) (br (decide (8<=x57)) (some (.inr ([],bV false))) (gu (0<=x57) <|gu (x57<8) <|el ([v4,v5,v6,v7,v8,v9,v10,v11]) (0+x57.toNat * 1) fun(x68:Bool)=>br x68 (some (.inr ([],bV false))) (el (q.ow) (v0.toNat) fun(x75:Int)=>br (x57==x75) (some (.inr ([],bV false))) (gu ((0+x57.toNat * 1+1).le 8) <|some (.inl (.l1 v0 (i64.wrap (v1+1)) v2 v3 (bif Nat.beq 0 (0+x57.toNat * 1) then true else v4) (bif Nat.beq 1 (0+x57.toNat * 1) then true else v5) (bif Nat.beq 2 (0+x57.toNat * 1) then true else v6) (bif Nat.beq 3 (0+x57.toNat * 1) then true else v7) (bif Nat.beq 4 (0+x57.toNat * 1) then true else v8) (bif Nat.beq 5 (0+x57.toNat * 1) then true else v9) (bif Nat.beq 6 (0+x57.toNat * 1) then true else v10) (bif Nat.beq 7 (0+x57.toNat * 1) then true else v11)))))))) (some (.inl (.l0 (i64.wrap (v0+1)) v4 v5 v6 v7 v8 v9 v10 v11)))
def Kh(q:Aj):Dn->Option (Dn⊕Ret) | .l0 v0 v1 v2 v3 v4 v5 v6 v7 v8=>Gu q v0 v1 v2 v3 v4 v5 v6 v7 v8 | .l1 v0 v1 v2 v3 v4 v5 v6 v7 v8 v9 v10 v11=>Fx q v0 v1 v2 v3 v4 v5 v6 v7 v8 v9 v10 v11
theorem rlvEn_ok(q:Aj)(o:Dn⊕Ret)(h:Nz q=some o):Arr Ux Try.f91 0 (G5 q) Kl (zB Try.f91) [] {n:=Try.f91.ntmps,fr:=AI 0 ([lkA q]),hp:=([])} o:=Scr.ok h mix (.rn 0 [] [] [] [] (al (u2 t2)) <|.br (fun a0=>.rt [23] [] [] [] [] [] (aj (aj (u2 (u2 (u2 (u2 (u2 (aj a0 (aj a0 (aj a0 (aj a0 (aj a0 (aj a0 (aj a0 (al (aj a0 t2)))))))))))))) (ak s2)) t2)) (fun a0=>.rn 0 [22] [] [] [] (al (u2 (u2 (u2 (u2 (u2 (ag a0 (ag a0 (ag a0 (ag a0 (ag a0 (ag a0 (aj (aj a0 t3) (al (aj a0 t2))))))))))))))) <|.br (fun a1=>.rt [22,39] [] [] [] [] [] (aj (aj a1 s2) t2)) (fun a1=>.lp [22,38] [] [] [] [] [0,1] [1,3,4] (aj (aj a1 (u2 s2)) t6)))) (by kernel_rfl)
theorem rlvS0_ok(q:Aj)(v0:Int)(v1 v2 v3 v4 v5 v6 v7 v8:Bool)(o:Dn⊕Ret)(h:Gu q v0 v1 v2 v3 v4 v5 v6 v7 v8=some o):Arr Ux Try.f91 0 (G5 q) Kl (Av Try.f91 0) (.rnd (Av Try.f91 0)::AK Try.f91 0) (G5 q (.l0 v0 v1 v2 v3 v4 v5 v6 v7 v8)) o:=Scr.ok h mix (.rn 0 [] [] [] [] (al (u2 (u2 (u2 (u2 (al t3)))))) <|.br (fun a0=>.gu fun a1=>.el fun x30 a2=>.br (fun a3=>.rt [49,67] [(30,iv x30)] [] [] [] [] (aj (aj a0 (aj (u2 (u2 (u2 (aj (k2 (aj a1 (Ar (f:=iv) a2))) (u2 (u2 (u2 (aj a3 (aj a3 (aj a3 (aj a3 (aj a3 (aj a3 (al (aj a3 t2))))))))))))))) (ak s2))) t2)) (fun a3=>.el fun x37 a4=>.rn 0 [49,66] [(30,iv x30),(37,iv x37)] [] [] (aj a0 (al (u2 (u2 (u2 (aj (k2 (aj a1 (Ar (f:=iv) a2))) (u2 (u2 (u2 (ag a3 (ag a3 (ag a3 (aj (aj a3 (k2 (aj a1 (Ar (f:=iv) a4)))) (ag a3 (ag a3 (al (aj a3 t2))))))))))))))))) <|.br (fun a5=>.rt [66,81] [] [] [] [] [] (aj (aj a5 s2) t2)) (fun a5=>.lp [66,80] [] [] [] [] [0,1] [1,3,4,5,34,35,36,37,38,39] (aj (aj a5 s2) (ak (k3 t9)))))) (fun a0=>.rt [48] [] [] [] [] [] (aj (aj a0 s2) t2))) (by kernel_rfl)
theorem rlvS1_ok(q:Aj)(v0 v1 v2:Int)(v3 v4 v5 v6 v7 v8 v9 v10 v11:Bool)(o:Dn⊕Ret)(h:Fx q v0 v1 v2 v3 v4 v5 v6 v7 v8 v9 v10 v11=some o):Arr Ux Try.f91 0 (G5 q) Kl (Av Try.f91 1) (.rnd (Av Try.f91 1)::AK Try.f91 1) (G5 q (.l1 v0 v1 v2 v3 v4 v5 v6 v7 v8 v9 v10 v11)) o:=Scr.ok h mix (.gu fun a0=>.el fun x45 a1=>.rn 0 [] [(45,lI x45)] [] [] (al (u2 (u2 (u2 (u2 (aj (k2 (aj a0 (Ar (f:=lI) a1))) (u2 (u2 (al t3))))))))) <|.br (fun a2=>.el fun x54 a3=>.gu fun a4=>.el fun x57 a5=>.rn 0 [97] [(54,lI x54),(57,iv x57)] [] [] (aj a2 (al (u2 (u2 (u2 (aj (k2 (aj a0 (Ar (f:=lI) a3))) (u2 (u2 (aj (k2 (aj a4 (Ar (f:=iv) a5))) (u2 s2)))))))))) <|.br (fun a6=>.rt [123] [] [] [] [] [] (aj (aj (u2 (u2 (u2 (aj a6 (aj a6 (ag a6 (u2 (k3 (aj t3 (u2 (k2 (k5 (al t3))))))))))))) (ak s2)) t2)) (fun a6=>.br (fun a7=>.rt [122,131] [] [] [] [] [] (aj (aj (u2 (u2 (u2 (ag a6 (ag a6 (ag a6 (u2 (aj a7 (aj a7 (aj a7 (ag a7 (u2 (k2 (k5 (al t3))))))))))))))) (ak s2)) t2)) (fun a7=>.gu fun a8=>.gu fun a9=>.el fun x68 a10=>.br (fun a11=>.rt [122,130,141] [(68,AV.tup [bV x68])] [] [] [] [] (aj (aj (u2 (u2 (u2 (ag a6 (ag a6 (ag a6 (u2 (ag a7 (aj (aj a7 (k2 (aj a8 a9))) (aj (aj a7 (ak (Ar (f:=bV) a10))) (ag a7 (u2 (aj a11 (aj a11 (aj a11 (aj a11 (aj a11 (aj a11 (aj a11 (al (aj a11 t2))))))))))))))))))))) (ak s2)) t2)) (fun a11=>.el fun x75 a12=>.rn 0 [122,130,140] [(68,AV.tup [bV x68]),(75,iv x75)] [] [] (al (u2 (u2 (u2 (ag a6 (ag a6 (ag a6 (u2 (ag a7 (aj (aj a7 (k2 (aj a8 a9))) (aj (aj a7 (ak (Ar (f:=bV) a10))) (ag a7 (u2 (ag a11 (ag a11 (ag a11 (ag a11 (aj (aj a11 (k2 (aj a0 (Ar (f:=iv) a12)))) (ag a11 (aj (aj a11 t3) (al (aj a11 t2)))))))))))))))))))))) <|.br (fun a13=>.rt [122,130,140,157] [] [] [] [] [] (aj (aj a13 s2) t2)) (fun a13=>.gu fun a14=>.lp [122,130,140,156] [(80,AV.tup [AV.unk])] [] [] [] [0,1] [1,3,4,5,34,35,36,37,38,39] (aj (aj a13 (aj (u2 (aj (k2 (aj a8 a9)) (al (ak a14)))) (al (u2 (u2 s2))))) (ak (k3 t9)))))))) (fun a2=>.lp [96] [] [] [] [] [0,1] [1,3,4] (aj (aj a2 (al (u2 (u2 s2)))) t6))) (by kernel_rfl)
theorem rlv_ct(q:Aj)(r:Ret)(h:Aq (Kh q) (Nz q) r):CT Ux 91 ([]) ([lkA q]) r.1 r.2:=
 CT.mach (fn:=Try.f91) (c:=zB Try.f91) (S:=G5 q) (hd:=Kl) Try.func91 (by kernel_rfl) (nL rfl)
  (fun s o ho=>match s,ho with
   | .l0 v0 v1 v2 v3 v4 v5 v6 v7 v8,ho=>rlvS0_ok q v0 v1 v2 v3 v4 v5 v6 v7 v8 o ho
   | .l1 v0 v1 v2 v3 v4 v5 v6 v7 v8 v9 v10 v11,ho=>rlvS1_ok q v0 v1 v2 v3 v4 v5 v6 v7 v8 v9 v10 v11 o ho
  )
  (fun o ho=>rlvEn_ok q o ho) h
theorem Fe{σ ρ:Type}{step:σ->Option (σ⊕ρ)}(L:Nat->σ)(N:Nat)(p:Nat->Bool){rF:Nat->ρ}{r:ρ}
  (hb:∀i,i<N->(∀j,j<i->p j=false)->p i=true->Aq step (some (.inl (L i))) (rF i))
  (hg:∀i x,i<N->(∀j,j<i->p j=false)->p i=false->Aq step (some (.inl (L (i+1)))) x->Aq step (some (.inl (L i))) x)
  (he:fnd p 0 N=none->Aq step (some (.inl (L N))) r):Aq step (some (.inl (L 0))) (match fnd p 0 N with | some i=>rF i | none=>r):=by
 have key:∀k i,i+k=N->(∀j,j<i->p j=false)->fnd p 0 N=fnd p i (N-i)->Aq step (some (.inl (L i))) (match fnd p i (N-i) with | some i=>rF i | none=>r):=by
  intro k;induction k with
  | zero=>intro i hi _ h0
          have e:i=N:=by omega
          subst e;rw[C0 (by omega)] at h0 ⊢
          exact he h0
  | succ k ih=>
   intro i hi hj h0;have hlt:i<N:=by omega
   rw[CS hlt] at h0 ⊢
   cases hp:p i with
   | true=>exact hb i hlt hj hp
   | false=>
    rw[hp] at h0;refine hg i _ hlt hj hp (ih (i+1) (by omega) (fun j h=>?_) h0);rcases Up j i with h1 | h1
    .exact hj j h1
    .have:j=i:=by omega
     subst this;exact hp
 exact key N 0 (by omega) (fun j h=>absurd h (Nat.not_lt_zero _)) rfl
theorem con_c(l:List Int)(x:Int)(hl:l.length<=9223372036854775807):CT Ux 47 [] [lI l,.int .i64 x] [] (.bool (AC l x)):=by refine con_ct l x ([],_) ?_;unfold Nt;rw[Aa hl,idxZ_has];exact .ret _
theorem FO{n:Ab}(hv:Ax n):Au n<=48/\n.bs.length<=Au n:=⟨hv.cel.2.2,hv.cel.2.1⟩
theorem J5{α:Type}(l:List α)(i:Nat):List.take ((i:Int).toNat-Uv 0) (List.drop (Uv 0) l)=l.take i:=by rw[TD];simp
theorem L8{nb:Nat}{s:Ac}{i:Nat}(hi:i<=s.pe.length)(hbd:∀j,j<i->bdP nb s j=false):i<=nb:=by
 unfold bdP at hbd;simp only[Bool.or_eq_false_iff,decide_eq_false_iff_not] at hbd;have hn:(s.pe.take i).Nodup:=Nr fun j h=>by
  rw[TY] at h;have e:(s.pe.take i).getD j 0=s.pe.getD j 0:=by rw[Tv,TP,Ts (by omega),<-Tv]
  rw[e,List.take_take,Nat.min_eq_left (by omega)];exact(hbd j (by omega)).2.2.2
 have:=IS hn (d:=(List.range nb).map fun i:Nat=>(i:Int)) fun x hx=>by obtain⟨j,hj,rfl⟩:=T7.1 hx;rw[TY] at hj;have:=hbd j (by omega);rw[Tv,Tu (show j<s.pe.length by omega)] at this;simp only[Option.getD_some] at this;rw[List.getElem_take];exact MW (by omega) (by omega)
 rw[Tx,Ud,TY] at this;omega
theorem fo_c{n:Ab}(s:Ac)(hv:Ax n):CT Ux 117 [] [Af n,sgA s] [] (.bool (Ge n s)):=by
 refine fo_ct n s ([],_) ?_;obtain⟨h48,hnb⟩:=FO hv;unfold foEn Ge;rw[Aa hv,BM,Tx];by_cases h1:s.cl.length=Au n
 case neg=>rw[Ak (Uh.2 (by simp only[iN];omega)),An h1];exact .ret _
 rw[Ae (by rw[h1];simp),Az h1,Bool.true_and];by_cases h2:s.bw.length=Au n
 case neg=>rw[Ak (Uh.2 (by simp only[iN];omega)),An h2];exact .ret _
 rw[Ae (by rw[h1,h2];simp),Az h2,Bool.true_and];refine(Fe (fun i=>Dq.l0 (i:Int)) s.bw.length (bdW s) (rF:=fun _=>([],.bool false)) (r:=([],.bool (fnd (bdP n.bs.length s) 0 s.pe.length).isNone)) (fun i hi _ hp=>?_) (fun i x hi _ hp hx=>?_) (fun _=>?_)).res (by cases fnd (bdW s) 0 s.bw.length<;>rfl)
 .refine .to (show E6 n s i=_ from ?_) (.ret _);unfold E6;unfold bdW at hp;rw[BO 0 hi];cases hd1:decide (s.bw.getD i 0 < -1) with
  | true=>rw[Ak rfl]
  | false=>
   rw[hd1,Tn] at hp;rw[Ae rfl,elG 0 hi];cases hd2:decide (8<=s.bw.getD i 0) with
   | true=>rw[Ak rfl]
   | false=>rw[hd2,Tn,TC] at hp;rw[Ae rfl,elG 0 hi,Ak (by have:=of_decide_eq_true hp.1;exact Uh.2 (by omega)),elG true (show i<s.cl.length by omega),Ak hp.2]
 .refine .to (show E6 n s i=_ from ?_) hx;unfold E6;unfold bdW at hp;simp only[Bool.or_eq_false_iff] at hp;rw[BO 0 hi,Ae hp.1,elG 0 hi,Ae hp.2.1,elG 0 hi,zW i (by omega)];have h3:=of_decide_eq_false hp.1;by_cases hm:s.bw.getD i 0 = -1
  .rw[Ae (by rw[hm];rfl)]
  .rw[Ak (Uh.2 hm),elG true (show i<s.cl.length by omega)];have hq:=hp.2.2;rw[Az (show 0<=s.bw.getD i 0 by omega),Bool.true_and] at hq;rw[Ae hq]
 .refine .to (show E6 n s s.bw.length=_ from ?_) ?_ (y:=some (.inl (.l1 ((0:Nat):Int))))
  .unfold E6;rw[C3];rfl
  refine(Fe (fun i=>Dq.l1 (i:Int)) s.pe.length (bdP n.bs.length s) (rF:=fun _=>([],.bool false)) (r:=([],.bool true)) (fun i hi hj hp=>?_) (fun i x hi hj hp hx=>?_) (fun _=>?_)).res (by cases fnd (bdP n.bs.length s) 0 s.pe.length<;>rfl)
  .have hi24:=L8 (Nat.le_of_lt hi) hj;refine .to (show FA n s i=_ from ?_) (.ret _);unfold FA;unfold bdP at hp;rw[BO 0 hi];by_cases hd1:s.pe.getD i 0<0
   .rw[Ak (Az hd1)]
   rw[An hd1,Tn] at hp;rw[Ae (An hd1)];by_cases hd2:(n.bs.length:Int)<=s.pe.getD i 0
   .rw[Ak (Az (by rw[Tx];exact hd2))]
   rw[An hd2,Tn] at hp;rw[Ae (An (by rw[Tx];exact hd2)),Aa (by omega),AH (AR true (show(s.pe.getD i 0).toNat<s.cl.length by omega))];cases hd3:s.cl.getD (s.pe.getD i 0).toNat true with
   | true=>rw[Ak rfl]
   | false=>rw[hd3,Tn] at hp;rw[Ae rfl,Aa (BA _),Aa (by simp only[iN,Tx];omega),J5,Aa (by rw[TY];omega),Ak hp]
  .have hi24:=L8 (Nat.le_of_lt hi) hj;refine .to (show FA n s i=_ from ?_) hx;unfold FA;unfold bdP at hp;simp only[Bool.or_eq_false_iff,decide_eq_false_iff_not] at hp;rw[BO 0 hi,Ae (An hp.1),Ae (An (by rw[Tx];exact hp.2.1)),Aa (by omega),AH (AR true (show(s.pe.getD i 0).toNat<s.cl.length by omega)),Ae hp.2.2.1,Aa (BA _),Aa (by simp only[iN,Tx];omega),J5,Aa (by rw[TY];omega),Ae hp.2.2.2,zW i (by omega)]
  .refine .to (show FA n s s.pe.length=_ from ?_) (.ret _);unfold FA;rw[C3]
def prL(l:Aj)(c k:Nat):List Int:=(l.qu.take c).flatten++(l.qu.getD c []).take k
def bdO(l:Aj)(c:Nat):Bool:=decide (l.ow.getD c 0 < -1)||decide (8<=l.ow.getD c 0)
def bdQ(l:Aj)(c k:Nat):Bool:=decide ((l.qu.getD c []).getD k 0<0)||(decide (8<=(l.qu.getD c []).getD k 0)||(AC (prL l c k) ((l.qu.getD c []).getD k 0)||(l.qu.getD c []).getD k 0==l.ow.getD c 0))
def bdR(l:Aj)(c:Nat):Bool:=bdO l c||(fnd (bdQ l c) 0 (l.qu.getD c []).length).isSome
def B3(l:Aj):Bool:=decide (l.ow.length<=48)&&(decide (l.ow.length=l.qu.length)&&(fnd (bdR l) 0 l.qu.length).isNone)
theorem JS{l:Aj}(h:B3 l=true):l.ow.length=l.qu.length/\l.ow.length<=48:=by unfold B3 at h;simp only[TC,decide_eq_true_eq] at h;exact⟨h.2.1,h.1⟩
theorem Cv{l:List Int}{x:Int}(h0:0<=x)(i:Nat):(bif Nat.beq i (0+x.toNat * 1) then true else AC l (i:Int))=AC (l++[x]) (i:Int):=by
 rw[beqM,Bool.eq_iff_iff,DZ,T0,Tj];split
 .exact⟨fun _=>.inr (by omega),fun _=>rfl⟩
 .rw[DZ];exact⟨.inl,fun h=>h.elim id fun e=>absurd e (by omega)⟩
theorem P6{l:Aj}{c k:Nat}(h:k<(l.qu.getD c []).length):prL l c (k+1)=prL l c k++[(l.qu.getD c []).getD k 0]:=by unfold prL;rw[List.take_add_one,AR 0 h,List.append_assoc];rfl
theorem Qm{l:Aj}{c:Nat}:prL l c (l.qu.getD c []).length=prL l (c+1) 0:=by unfold prL;rw[List.take_length,List.take_zero,List.append_nil,List.take_add_one,List.flatten_append,Tv];cases l.qu[c]?<;>simp
theorem I0{α:Type}{f:Nat->Bool}{k:Nat}(h:k<8){F:Bool->Option α}:el [f 0,f 1,f 2,f 3,f 4,f 5,f 6,f 7] (0+k * 1) F=F (f k):=by have e:[f 0,f 1,f 2,f 3,f 4,f 5,f 6,f 7]=(List.range 8).map f:=rfl;rw[e,TJ,Nat.mul_one];exact AH (by rw[TE,TT h];rfl)
theorem le8{x:Int}(h0:0<=x)(h1:x<8):(0+x.toNat * 1+1).le 8:=show 0+x.toNat * 1+1<=8 by omega
theorem Jk{l:Aj}{c k:Nat}(h:bdQ l c k=false):0<=(l.qu.getD c []).getD k 0/\(l.qu.getD c []).getD k 0<8/\AC (prL l c k) ((l.qu.getD c []).getD k 0)=false/\((l.qu.getD c []).getD k 0==l.ow.getD c 0)=false:=by unfold bdQ at h;simp only[Bool.or_eq_false_iff,decide_eq_false_iff_not] at h;exact⟨by omega,by omega,h.2.2.1,h.2.2.2⟩
theorem IE{l:Aj}{c k:Nat}(hk:k<=(l.qu.getD c []).length)(h:∀j,j<k->bdQ l c j=false):k<=8:=by
 have hn:((l.qu.getD c []).take k).Nodup:=Nr fun j hj=>by
  rw[TY] at hj;have e:((l.qu.getD c []).take k).getD j 0=(l.qu.getD c []).getD j 0:=by rw[Tv,TP,Ts (by omega),<-Tv]
  rw[e,List.take_take,Nat.min_eq_left (by omega)];have:=(Jk (h j (by omega))).2.2.1;cases h2:AC ((l.qu.getD c []).take j) ((l.qu.getD c []).getD j 0) with
  | false=>rfl
  | true=>exact absurd (T0.2 (.inr (DZ.1 h2))) (Kz this)
 have:=IS hn (d:=(List.range 8).map fun i:Nat=>(i:Int)) fun x hx=>by obtain⟨j,hj,rfl⟩:=T7.1 hx;rw[TY] at hj;have:=Jk (h j (by omega));rw[Tv,Tu (show j<(l.qu.getD c []).length by omega)] at this;simp only[Option.getD_some] at this;rw[List.getElem_take];exact MW (by omega) (by omega)
 rw[Tx,Ud,TY] at this;omega
def HO(l:Aj)(c:Nat):Da:=let f:=fun i:Nat=>AC (prL l c 0) (i:Int);.l0 (c:Int) (f 0) (f 1) (f 2) (f 3) (f 4) (f 5) (f 6) (f 7)
def Iy(l:Aj)(c k:Nat):Da:=let f:=fun i:Nat=>AC (prL l c k) (i:Int);.l1 (c:Int) (l.qu.getD c []) (l.qu.getD c []).length (k:Int) (f 0) (f 1) (f 2) (f 3) (f 4) (f 5) (f 6) (f 7)
theorem Pt{l:Aj}{c:Nat}(hc:c<l.qu.length)(ho:l.ow.length=l.qu.length)(h48:l.ow.length<=48){x:Ret}(hx:fnd (bdQ l c) 0 (l.qu.getD c []).length=none->Aq (JY l) (some (.inl (HO l (c+1)))) x):
  Aq (JY l) (some (.inl (Iy l c 0))) (match fnd (bdQ l c) 0 (l.qu.getD c []).length with | some _=>([],.bool false) | none=>x):=by
 refine(Fe (fun k=>Iy l c k) (l.qu.getD c []).length (bdQ l c) (rF:=fun _=>(([],.bool false):Ret)) (r:=x) (fun k hk hj hp=>?_) (fun k x hk hj hp hx=>?_) (fun hn=>?_)).res (by cases fnd (bdQ l c) 0 (l.qu.getD c []).length<;>rfl)
 .have h8:=IE (Nat.le_of_lt hk) hj;refine .to (show EX l c (l.qu.getD c []) (l.qu.getD c []).length k (AC (prL l c k) ((0:Nat):Int)) (AC (prL l c k) ((1:Nat):Int)) (AC (prL l c k) ((2:Nat):Int)) (AC (prL l c k) ((3:Nat):Int)) (AC (prL l c k) ((4:Nat):Int)) (AC (prL l c k) ((5:Nat):Int)) (AC (prL l c k) ((6:Nat):Int)) (AC (prL l c k) ((7:Nat):Int))=_ from ?_) (.ret _);unfold EX;unfold bdQ at hp;rw[Ak (Az (by simp only[iN];omega)),Aa (by omega),elG 0 hk];unfold Em;by_cases h0:(l.qu.getD c []).getD k 0<0
  .rw[An (show ¬0<=(l.qu.getD c []).getD k 0 by omega),Ak (by rfl)]
  by_cases h1:8<=(l.qu.getD c []).getD k 0
  .rw[An (show ¬(l.qu.getD c []).getD k 0<8 by omega),Ak (by simp)]
  rw[An h0,An h1,Tn,Tn] at hp;rw[Az (show 0<=(l.qu.getD c []).getD k 0 by omega),Az (show(l.qu.getD c []).getD k 0<8 by omega),Ae (by rfl),Aa (by omega),Aa (by omega),I0 (f:=fun i:Nat=>AC (prL l c k) (i:Int)) (by omega),TX (by omega)];cases h2:AC (prL l c k) ((l.qu.getD c []).getD k 0) with
  | true=>rw[Ak rfl]
  | false=>rw[h2,Tn] at hp;rw[Ae rfl,Aa (by omega),elG 0 (show c<l.ow.length by omega),Ak (by rw[<-hp];exact BEq.comm)]
 .have h8:=IE (Nat.le_of_lt hk) hj;obtain⟨a1,a2,a3,a4⟩:=Jk hp;refine .to (show EX l c (l.qu.getD c []) (l.qu.getD c []).length k (AC (prL l c k) ((0:Nat):Int)) (AC (prL l c k) ((1:Nat):Int)) (AC (prL l c k) ((2:Nat):Int)) (AC (prL l c k) ((3:Nat):Int)) (AC (prL l c k) ((4:Nat):Int)) (AC (prL l c k) ((5:Nat):Int)) (AC (prL l c k) ((6:Nat):Int)) (AC (prL l c k) ((7:Nat):Int))=some (.inl (Iy l c (k+1))) from ?_) hx;unfold EX Iy;rw[Ak (Az (by simp only[iN];omega)),Aa (by omega),elG 0 hk];unfold Em;rw[Az a1,Az a2,Ae (by rfl),Aa a1,Aa a2,I0 (f:=fun i:Nat=>AC (prL l c k) (i:Int)) (by omega),TX a1,a3,Ae rfl,Aa (by omega),elG 0 (show c<l.ow.length by omega),Ae (by rw[<-a4];exact BEq.comm),Aa (le8 a1 a2),zW k (by omega),Cv a1,Cv a1,Cv a1,Cv a1,Cv a1,Cv a1,Cv a1,Cv a1,P6 hk]
 .refine .to (show EX l c (l.qu.getD c []) (l.qu.getD c []).length (l.qu.getD c []).length _ _ _ _ _ _ _ _=some (.inl (HO l (c+1))) from ?_) (hx hn);unfold EX HO;rw[Ae (An (by simp only[iN];omega)),zW c (by omega),Qm]
theorem bdO_rob{x:Int}:(x != -1&&!(Em x))=(decide (x < -1)||decide (8<=x)):=by unfold Em;rw[Bool.eq_iff_iff];simp only[TC,Uh,Uf,Bool.and_eq_false_iff,decide_eq_false_iff_not,T6,decide_eq_true_eq];omega
theorem ilv_c(l:Aj):CT Ux 51 [] [lkA l] [] (.bool (B3 l)):=by
 refine ilv_ct l ([],_) ?_;unfold Mv B3;rw[Tx,BD];by_cases h1:l.ow.length<=48
 case neg=>rw[Ak (Az (by simp only[iN];omega)),An h1];exact .ret _
 rw[Ae (An (by simp only[iN];omega)),Az h1,Bool.true_and];by_cases h2:l.ow.length=l.qu.length
 case neg=>rw[Ak (Uh.2 (by simp only[iN];omega)),An h2];exact .ret _
 rw[Ae (by rw[h2];simp),Az h2,Bool.true_and];refine Aq.res (r:=match fnd (bdR l) 0 l.qu.length with | some _=>(([],.bool false):Ret) | none=>(([],.bool true):Ret)) ?_ (by cases fnd (bdR l) 0 l.qu.length<;>rfl);have st:∀c,c<l.qu.length->JY l (HO l c)=br (bdO l c) (some (.inr ([],.bool false))) (some (.inl (Iy l c 0))):=fun c hc=>by
  show Gy l c _ _ _ _ _ _ _ _=_;unfold Gy;rw[show (gL l.qu).length=(Uq lI l.qu).length from rfl,BO [] hc,elG 0 (show c<l.ow.length by omega)];unfold bdO;rw[<-bdO_rob];cases l.ow.getD c 0 != -1 with
  | false=>rw[Ae rfl,Ae (by rfl),Tx];rfl
  | true=>
   rw[Ak rfl,elG 0 (show c<l.ow.length by omega),Bool.true_and];cases Em (l.ow.getD c 0) with
   | false=>rw[Ak (by rfl),Ak (by rfl)]
   | true=>rw[Ae (by rfl),Ae (by rfl),Tx];rfl
 refine(Fe (fun c=>HO l c) l.qu.length (bdR l) (rF:=fun _=>(([],.bool false):Ret)) (r:=(([],.bool true):Ret)) (fun c hc _ hp=>?_) (fun c x hc _ hp hx=>?_) (fun _=>?_)).res (by cases fnd (bdR l) 0 l.qu.length<;>rfl)
 .refine .to (st c hc) ?_;unfold bdR at hp;cases ho:bdO l c with
  | true=>exact .ret _
  | false=>rw[ho,Tn] at hp;rw[Ae rfl];refine(Pt hc h2 h1 (x:=(([],.bool false):Ret)) fun e=>by rw[e] at hp;cases hp).res ?_;cases fnd (bdQ l c) 0 (l.qu.getD c []).length<;>rfl
 .refine .to (st c hc) ?_;unfold bdR at hp;rw[Bool.or_eq_false_iff] at hp;rw[Ae hp.1];have:=Pt hc h2 h1 (x:=x) fun _=>hx
  cases hf:fnd (bdQ l c) 0 (l.qu.getD c []).length with
  | none=>rw[hf] at this;exact this
  | some i=>rw[hf] at hp;cases hp.2
 .refine .to (show Gy l (l.qu.length:Nat) _ _ _ _ _ _ _ _=_ from ?_) (.ret _);unfold Gy;rw[show (gL l.qu).length=(Uq lI l.qu).length from rfl,C3]
def Ix(l:Aj)(c:Nat):Dn:=let f:=fun i:Nat=>AC (prL l c 0) (i:Int);.l0 (c:Int) (f 0) (f 1) (f 2) (f 3) (f 4) (f 5) (f 6) (f 7)
def Ig(l:Aj)(c k:Nat):Dn:=let f:=fun i:Nat=>AC (prL l c k) (i:Int);.l1 (c:Int) (k:Int) (l.ow.getD c 0) (decide (8<=l.ow.getD c 0)) (f 0) (f 1) (f 2) (f 3) (f 4) (f 5) (f 6) (f 7)
theorem PD{l:Aj}{c:Nat}(hc:c<l.qu.length)(ho:l.ow.length=l.qu.length)(h48:l.ow.length<=48){x:Ret}(hx:fnd (bdQ l c) 0 (l.qu.getD c []).length=none->Aq (Kh l) (some (.inl (Ix l (c+1)))) x):
  Aq (Kh l) (some (.inl (Ig l c 0))) (match fnd (bdQ l c) 0 (l.qu.getD c []).length with | some _=>([],.bool false) | none=>x):=by
 refine(Fe (fun k=>Ig l c k) (l.qu.getD c []).length (bdQ l c) (rF:=fun _=>(([],.bool false):Ret)) (r:=x) (fun k hk hj hp=>?_) (fun k x hk hj hp hx=>?_) (fun hn=>?_)).res (by cases fnd (bdQ l c) 0 (l.qu.getD c []).length<;>rfl)
 .have h8:=IE (Nat.le_of_lt hk) hj;refine .to (show Fx l c k (l.ow.getD c 0) (decide (8<=l.ow.getD c 0)) (AC (prL l c k) ((0:Nat):Int)) (AC (prL l c k) ((1:Nat):Int)) (AC (prL l c k) ((2:Nat):Int)) (AC (prL l c k) ((3:Nat):Int)) (AC (prL l c k) ((4:Nat):Int)) (AC (prL l c k) ((5:Nat):Int)) (AC (prL l c k) ((6:Nat):Int)) (AC (prL l c k) ((7:Nat):Int))=_ from ?_) (.ret _);unfold Fx;unfold bdQ at hp;rw[Aa (by omega),elG [] hc,Ak (Az (by simp only[iN,Tx];omega)),elG [] hc,Aa (by omega),elG 0 hk];by_cases h0:(l.qu.getD c []).getD k 0<0
  .rw[Ak (Az h0)]
  by_cases h1:8<=(l.qu.getD c []).getD k 0
  .rw[Ae (An h0),Ak (Az h1)]
  rw[An h0,An h1,Tn,Tn] at hp;rw[Ae (An h0),Ae (An h1),Aa (by omega),Aa (by omega),I0 (f:=fun i:Nat=>AC (prL l c k) (i:Int)) (by omega),TX (by omega)];cases h2:AC (prL l c k) ((l.qu.getD c []).getD k 0) with
  | true=>rw[Ak rfl]
  | false=>rw[h2,Tn] at hp;rw[Ae rfl,elG 0 (show c<l.ow.length by omega),Ak hp]
 .have h8:=IE (Nat.le_of_lt hk) hj;obtain⟨a1,a2,a3,a4⟩:=Jk hp;refine .to (show Fx l c k (l.ow.getD c 0) (decide (8<=l.ow.getD c 0)) (AC (prL l c k) ((0:Nat):Int)) (AC (prL l c k) ((1:Nat):Int)) (AC (prL l c k) ((2:Nat):Int)) (AC (prL l c k) ((3:Nat):Int)) (AC (prL l c k) ((4:Nat):Int)) (AC (prL l c k) ((5:Nat):Int)) (AC (prL l c k) ((6:Nat):Int)) (AC (prL l c k) ((7:Nat):Int))=some (.inl (Ig l c (k+1))) from ?_) hx;unfold Fx Ig;rw[Aa (by omega),elG [] hc,Ak (Az (by simp only[iN,Tx];omega)),elG [] hc,Aa (by omega),elG 0 hk,Ae (An (by omega)),Ae (An (by omega)),Aa a1,Aa a2,I0 (f:=fun i:Nat=>AC (prL l c k) (i:Int)) (by omega),TX a1,a3,Ae rfl,elG 0 (show c<l.ow.length by omega),Ae a4,Aa (le8 a1 a2),zW k (by omega),Cv a1,Cv a1,Cv a1,Cv a1,Cv a1,Cv a1,Cv a1,Cv a1,P6 hk]
 .refine .to (show Fx l c ((l.qu.getD c []).length:Nat) _ _ _ _ _ _ _ _ _ _=some (.inl (Ix l (c+1))) from ?_) (hx hn);unfold Fx Ix;rw[Aa (by omega),elG [] hc,Tx,Ae (An (by simp only[iN];omega)),zW c (by omega),Qm]
theorem LF(l:Aj):CT Ux 91 [] [lkA l] [] (.bool (B3 l)):=by
 refine rlv_ct l ([],_) ?_;unfold Nz B3;rw[Tx,BD];by_cases h1:l.ow.length<=48
 case neg=>rw[Ak (Az (by simp only[iN];omega)),An h1];exact .ret _
 rw[Ae (An (by simp only[iN];omega)),Az h1,Bool.true_and];by_cases h2:l.ow.length=l.qu.length
 case neg=>rw[Ak (Uh.2 (by simp only[iN];omega)),An h2];exact .ret _
 rw[Ae (by rw[h2];simp),Az h2,Bool.true_and];refine Aq.res (r:=match fnd (bdR l) 0 l.qu.length with | some _=>(([],.bool false):Ret) | none=>(([],.bool true):Ret)) ?_ (by cases fnd (bdR l) 0 l.qu.length<;>rfl);have st:∀c,c<l.qu.length->Kh l (Ix l c)=br (bdO l c) (some (.inr ([],.bool false))) (some (.inl (Ig l c 0))):=fun c hc=>by
  show Gu l c _ _ _ _ _ _ _ _=_;unfold Gu;rw[BO 0 (show c<l.ow.length by omega)];unfold bdO;cases decide (l.ow.getD c 0 < -1) with
  | true=>rfl
  | false=>rw[Ae rfl,elG 0 (show c<l.ow.length by omega),Tn];rfl
 refine(Fe (fun c=>Ix l c) l.qu.length (bdR l) (rF:=fun _=>(([],.bool false):Ret)) (r:=(([],.bool true):Ret)) (fun c hc _ hp=>?_) (fun c x hc _ hp hx=>?_) (fun _=>?_)).res (by cases fnd (bdR l) 0 l.qu.length<;>rfl)
 .refine .to (st c hc) ?_;unfold bdR at hp;cases ho:bdO l c with
  | true=>exact .ret _
  | false=>rw[ho,Tn] at hp;rw[Ae rfl];refine(PD hc h2 h1 (x:=(([],.bool false):Ret)) fun e=>by rw[e] at hp;cases hp).res ?_;cases fnd (bdQ l c) 0 (l.qu.getD c []).length<;>rfl
 .refine .to (st c hc) ?_;unfold bdR at hp;rw[Bool.or_eq_false_iff] at hp;rw[Ae hp.1];have:=PD hc h2 h1 (x:=x) fun _=>hx
  cases hf:fnd (bdQ l c) 0 (l.qu.getD c []).length with
  | none=>rw[hf] at this;exact this
  | some i=>rw[hf] at hp;cases hp.2
 .refine .to (show Gu l (l.qu.length:Nat) _ _ _ _ _ _ _ _=_ from ?_) (.ret _);unfold Gu;rw[Ae (An (by simp only[iN,Tx];omega))]
theorem RB{P:Program}{o:Oper}{ev:Operand->AV}{h:Hp}{nb:Nat}{t t' e:TypeId}{x y:Operand}(ho:o.op = .binOp .eql t x y t')(hu:P.underlying t=some (.slice e))(hx:ev x = .lst [])(hy:ev y = .nils):
  Kp P o ev h nb (fun R=>∃b,R={v:=.bool b}):=by
 intro φ A w a K Q hA hv hh hn k;have h1:=hv x;rw[hx] at h1;have h2:=hv y;rw[hy] at h2;have h2:=h2.nils_inv;have hs:∃ad c,a.eval x = .slice ad 0 c:=by
  rcases h1.lst_inv with ⟨_,ad,he⟩ | ⟨r,o',cap,z,g,he,_⟩
  .exact⟨ad,0,he⟩
  .exact⟨_,cap,he⟩
 obtain⟨ad,c,he⟩:=hs;have key:∃b,(execOp a.eval o).run P w = .ok (.value (.bool b)) w:=by
  have hg:(eqGuard .eql t x y (.slice ad 0 c) (.slice none 0 0)).run P w = .ok () w:=by unfold eqGuard;split<;>simp_all
  have hr:∃b,(Op.equal t (.slice ad 0 c) (.slice none 0 0)).run P w = .ok b w:=by
   have key:∀d,∃b,(Op.equalIn (d+1) t (.slice ad 0 c) (.slice none 0 0)).run P w = .ok b w:=by
    intro d;cases ad with
    | none=>exact⟨true,by simp[Op.equalIn,run_underlying hu]⟩
    | some ad=>exact⟨false,by simp[Op.equalIn,run_underlying hu]⟩
   exact key 9999
  obtain⟨b,hr⟩:=hr;refine⟨b,?_⟩;simp only[execOp,ho,he,h2,Sem.run_bind,hg,Result.andThen_ok,binOp,hr];rfl
 obtain⟨b,hb⟩:=key;have hv1:Ay P o ev h nb {v:=.bool b}->True:=fun _=>trivial
 unfold Oper.wp;rw[hb];refine k {v:=.bool b} _ w φ ⟨b,rfl⟩ ⟨B6.refl _ w,fun _ _=>rfl,fun b hb=>hn b (by simpa using hb),fun b r z hb h=>?_,fun b b' r z z' hb _ h _=>?_,.imm _ _ (.bool _),fun b blk hm=>by simp at hm,fun blk hm=>by simp at hm,?_,?_⟩
 .rw[hn b hb] at h;cases h
 .rw[hn b hb] at h;cases h
 .intro b blk hm;simp at hm
 .intro b blk hm;simp at hm
theorem cl55_e:CT Ux 55 [] [.lst []] [some (Blk.mk [] 1 true true none)] (.sl 0 0 0):=by
 refine CT.of Try.func55 (show Try.f55.body=some (zB Try.f55) from by kernel_rfl) (nL rfl) ?_;refine T.seq ?_;refine T.ops (st':=?st1) ?steps1 ?post1
 case steps1=>refine .av (.nils) rfl rfl rfl (by kernel_rfl) ?_;exact .nil _
 show T Ux 0 _ _ _;refine T.seq (T.seq ?_);refine T.opsN (.val (v:=.lst []) (noG rfl) rfl (nL rfl) (Hz (hint:=.no) (R:={v:=.lst []}) (p:=True) (by kernel_rfl) trivial).1 (.one (S:=fun R=>∃b,R={v:=.bool b}) (noG rfl) (RB (e:=4) rfl (by kernel_rfl) rfl rfl) (fun R hR=>?_) (fun R hR=>?_)))
 .obtain⟨b,rfl⟩:=hR;exact⟨OpR.fits_value _ _,fun b hb=>by simp at hb,fun d hd=>by cases hd;exact nL rfl⟩
 obtain⟨b,rfl⟩:=hR;refine .nil ?_;cases b with
 | true=>
  refine T.cond_true rfl (T.seq ?_);refine T.ops (st':=?st2) ?steps2 ?post2
  case steps2=>refine .av (.nils) rfl rfl rfl (by kernel_rfl) ?_;exact .nil _
  refine T.ret ?_;refine⟨.inr rfl,.nils,⟨Try.f55.ntmps,[(0,.sl 0 0 0)],[some (Blk.mk [] 1 true true none)]⟩,rfl,Ren.less rfl (TG _) (fun s=>?_) (fun b blk hb=>?_),rfl,rfl,(nL rfl)⟩
  .cases s with
   | zero=>exact .nilS _ _
   | succ s=>exact .refl _
  .cases b with
   | zero=>simp[nth] at hb;subst hb;exact .inr ⟨TF _,rfl,rfl,rfl,rfl⟩
   | succ b=>simp[nth] at hb
 | false=>
  refine T.cond_false rfl (T.skip ?_);refine T.seq ?_;refine T.ops (st':=?st3) ?steps3 ?post3
  case steps3=>refine .new (v:=.sl 0 0 0) (blk:=Blk.mk [] 1 true true none) rfl rfl (nL rfl) (Hz (hint:=.no) (R:={v:=.sl 0 0 0,new:=[Blk.mk [] 1 true true none]}) (p:=True) (by kernel_rfl) trivial).1 ?_;refine .av (.lst []) rfl rfl rfl (by kernel_rfl) ?_;refine .move (v:=.sl 1 0 0) (b:=0) (blk:=Blk.mk [] 1 true true none) rfl rfl (nL rfl) rfl rfl (TG _) (Hz (hint:=.no) (R:={v:=.sl 1 0 0,dead:=[0],new:=[Blk.mk [] 1 true true none]}) (p:=0=0/\EL (nth [some (Blk.mk [] 1 true true none)]) 1 (.lst [])/\0+0<=9223372036854775807/\(0+0) * 1<=140737488355328) (by kernel_rfl) ⟨rfl,(fun e he=>by cases he),(by omega),(by omega)⟩).1 ?_;refine .av (.sl 1 0 0) rfl rfl rfl (by kernel_rfl) ?_;exact .nil _
  refine T.ret ?_;exact⟨.inr rfl,.sl 1 0 0,⟨Try.f55.ntmps,[(0,.sl 0 0 0)],[some (Blk.mk [] 1 true true none)]⟩,rfl,Ren.of (p:=True/\True/\True) [1] [] [0] (by kernel_rfl) ⟨trivial,trivial,trivial⟩ rfl rfl rfl,rfl,rfl,(nL rfl)⟩
def rpV(c m:Nat):List Int:=Ur m (-1)++Ur (c-m) 0
theorem GD{c m:Nat}(h:m<=c):(rpV c m).length=c:=by unfold rpV;simp;omega
inductive Dj where | l0 (v0:Int) | l1 (v0:Int)
def Ht(n:Ab)(q:Ac):Dj->St | .l0 v0=>St.mk 101 [(2,AV.ptr 0 0 0),(3,AV.ptr 1 0 0),(42,Uw (Uq iv q.bw)),(43,iv (iN (Uq iv q.bw).length)),(44,iv v0)] [some (bK [Af n] 8),some (bK [AV.agg [Uw (boL q.cl),Uw (Uq iv q.bw),Uw (Uq iv q.pe)]] 3)] | .l1 v0=>St.mk 101 [(2,AV.ptr 0 0 0),(3,AV.ptr 1 0 0),(69,Uw (Uq iv q.pe)),(70,iv (iN (Uq iv q.pe).length)),(71,iv v0)] [some (bK [Af n] 8),some (bK [AV.agg [Uw (boL q.cl),Uw (Uq iv q.bw),Uw (Uq iv q.pe)]] 3)]
def Jr:Dj->Nat | .l0 _=>0 | .l1 _=>1
def Md(n:Ab)(q:Ac):Option (Dj⊕Ret):=gu (Rows n.nx) <|br (Jj n != 0) (some (.inr ([],bV false))) (br (iN (boL q.cl).length != HU n) (some (.inr ([],bV false))) (br (iN (Uq iV q.bw).length != HU n) (some (.inr ([],bV false))) (br (decide (iN (Uq bA n.bs).length<iN (Uq iV q.pe).length)) (some (.inr ([],bV false))) (some (.inl (.l0 ((0:Int))))))))
def Fy(n:Ab)(q:Ac)(v0:Int):Option (Dj⊕Ret):=br (decide (v0<iN (Uq iV q.bw).length)) (gu (0<=v0) <|el (q.bw) (v0.toNat) fun(x47:Int)=>br (decide (x47 < -1)) (some (.inr ([],bV false))) (br (decide (8<=x47)) (some (.inr ([],bV false))) (br (decide (0<=x47)) (el (q.cl) (v0.toNat) fun(x62:Bool)=>br (!x62) (some (.inr ([],bV false))) (some (.inl (.l0 (i64.wrap (v0+1)))))) (some (.inl (.l0 (i64.wrap (v0+1)))))))) (some (.inl (.l1 ((0:Int)))))
def FH(n:Ab)(q:Ac)(v0:Int):Option (Dj⊕Ret):=br (decide (v0<iN (Uq iV q.pe).length)) (gu (0<=v0) <|el (q.pe) (v0.toNat) fun(x74:Int)=>br (decide (x74<0)) (some (.inr ([],bV false))) (br (decide (iN (Uq bA n.bs).length<=x74)) (some (.inr ([],bV false))) (gu (0<=x74) <|el (q.cl) (x74.toNat) fun(x89:Bool)=>br x89 (some (.inr ([],bV false))) (gu (∀(e:AV),e∈Uq iV q.pe->e.cells.length=1) <|gu (v0<=iN (Uq iV q.pe).length) <|gu ((List.take (v0.toNat-Uv 0) (List.drop (Uv 0) q.pe)).length<=9223372036854775807) <|br (AC (List.take (v0.toNat-Uv 0) (List.drop (Uv 0) q.pe)) x74) (some (.inr ([],bV false))) (some (.inl (.l1 (i64.wrap (v0+1))))))))) (some (.inr ([],bV true)))
def svaStep(n:Ab)(q:Ac):Dj->Option (Dj⊕Ret) | .l0 v0=>Fy n q v0 | .l1 v0=>FH n q v0
theorem svaEn_ok(n:Ab)(q:Ac)(o:Dj⊕Ret)(h:Md n q=some o):Arr Ux Try.f25 0 (Ht n q) Jr (zB Try.f25) [] {n:=Try.f25.ntmps,fr:=AI 0 ([Af n,sgA q]),hp:=([])} o:=Scr.ok h mix (.rn 0 [] [] [] [] (al (u2 (u2 t2))) <|.gu fun a0=>have c0:=cnt_c a0;.rn 0 [] [] [(13,hK c0 [] [])] [] (al (u2 (aj (ak (aj t9 (al (c0)))) (u2 (u2 (u2 (u2 s2))))))) <|.br (fun a1=>.rt [37] [] [] [] [] [] (aj (aj (u2 (u2 (u2 (aj a1 (aj a1 (aj a1 (aj a1 (aj a1 (ag a1 (u2 (k5 (aj t3 (u2 (k2 (k5 (al t3)))))))))))))))) (ak s2)) t2)) (fun a1=>.br (fun a2=>.rt [36,51] [] [] [] [] [] (aj (aj (u2 (u2 (u2 (ag a1 (ag a1 (ag a1 (ag a1 (aj (aj a1 t3) (ag a1 (u2 (aj a2 (aj a2 (aj a2 (aj a2 (aj a2 (ag a2 (u2 (k2 (k5 (al t3)))))))))))))))))))) (ak s2)) t2)) (fun a2=>.br (fun a3=>.rt [36,50,65] [] [] [] [] [] (aj (aj (u2 (u2 (u2 (ag a1 (ag a1 (ag a1 (ag a1 (aj (aj a1 t3) (ag a1 (u2 (ag a2 (ag a2 (ag a2 (ag a2 (aj (aj a2 t3) (ag a2 (u2 (aj a3 (aj a3 (aj a3 (aj a3 (aj a3 (aj a3 (aj a3 (al (aj a3 t2)))))))))))))))))))))))))) (ak s2)) t2)) (fun a3=>.rn 0 [36,50,64] [] [] [] (al (u2 (u2 (u2 (ag a1 (ag a1 (ag a1 (ag a1 (aj (aj a1 t3) (ag a1 (u2 (ag a2 (ag a2 (ag a2 (ag a2 (aj (aj a2 t3) (ag a2 (u2 (ag a3 (ag a3 (ag a3 (ag a3 (ag a3 (ag a3 (aj (aj a3 t3) (al (aj a3 t2))))))))))))))))))))))))))) <|.br (fun a4=>.rt [36,50,64,81] [] [] [] [] [] (aj (aj a4 s2) t2)) (fun a4=>.lp [36,50,64,80] [] [] [] [] [0,1] [2,3,42,43,44] (aj (aj a4 (al (u2 (u2 (u2 t2))))) t8)))))) (by kernel_rfl)
theorem svaS0_ok(n:Ab)(q:Ac)(v0:Int)(o:Dj⊕Ret)(h:Fy n q v0=some o):Arr Ux Try.f25 0 (Ht n q) Jr (Av Try.f25 0) (.rnd (Av Try.f25 0)::AK Try.f25 0) (Ht n q (.l0 v0)) o:=Scr.ok h mix (.rn 0 [] [] [] [] (al (al t3)) <|.br (fun a0=>.gu fun a1=>.el fun x47 a2=>.rn 0 [91] [(47,iv x47)] [] [] (aj a0 (al (u2 (aj (k2 (aj a1 (Ar (f:=iv) a2))) (u2 (u2 s2)))))) <|.br (fun a3=>.rt [103] [] [] [] [] [] (aj (aj (u2 (u2 (u2 (aj a3 (aj a3 (ag a3 (u2 (k5 (k5 (al t3)))))))))) (ak s2)) t2)) (fun a3=>.br (fun a4=>.rt [102,111] [] [] [] [] [] (aj (aj (u2 (u2 (u2 (ag a3 (ag a3 (ag a3 (u2 (aj a4 (aj a4 (aj a4 (ak (k5 (aj a4 (al (aj a4 t2))))))))))))))) (ak s2)) t2)) (fun a4=>.br (fun a5=>.el fun x62 a6=>.rn 0 [102,110,117] [(62,bV x62)] [] [] (al (u2 (u2 (u2 (ag a3 (ag a3 (ag a3 (u2 (ag a4 (ag a4 (ag a4 (ag a5 (ag a5 (ag a5 (aj (aj a5 (k2 (aj a1 (Ar (f:=bV) a6)))) (ag a5 (ag a5 (aj (aj a4 (aj a5 t2)) (al (aj a4 t2)))))))))))))))))))) <|.br (fun a7=>.rt [102,110,117,133] [] [] [] [] [] (aj (aj a7 s2) t2)) (fun a7=>.lp [102,110,117,132] [] [] [] [] [0,1] [2,3,42,43,44] (aj (aj a7 (al (u2 s2))) t8))) (fun a5=>.lp [102,110,116] [] [] [] [] [0,1] [2,3,42,43,44] (aj (aj (u2 (u2 (u2 (ag a3 (ag a3 (ag a3 (u2 (ag a4 (ag a4 (ag a4 (aj a5 (aj a5 (aj a5 (aj a5 (aj a5 (aj a5 (aj (aj a4 (aj a5 t2)) (al (aj a4 t2))))))))))))))))))) (ak (al (u2 s2)))) t8))))) (fun a0=>.lp [90] [] [] [] [] [0,1] [2,3,69,70,71] (aj (aj a0 (al (u2 (u2 (u2 t2))))) t8))) (by kernel_rfl)
theorem svaS1_ok(n:Ab)(q:Ac)(v0:Int)(o:Dj⊕Ret)(h:FH n q v0=some o):Arr Ux Try.f25 0 (Ht n q) Jr (Av Try.f25 1) (.rnd (Av Try.f25 1)::AK Try.f25 1) (Ht n q (.l1 v0)) o:=Scr.ok h mix (.rn 0 [] [] [] [] (al (al t3)) <|.br (fun a0=>.gu fun a1=>.el fun x74 a2=>.rn 0 [145] [(74,iv x74)] [] [] (aj a0 (al (u2 (aj (k2 (aj a1 (Ar (f:=iv) a2))) (u2 (u2 s2)))))) <|.br (fun a3=>.rt [157] [] [] [] [] [] (aj (aj (u2 (u2 (u2 (aj a3 (aj a3 (aj a3 (aj a3 (aj a3 (ag a3 (u2 (k5 (aj t3 (u2 (ak (k5 (al t3)))))))))))))))) (ak s2)) t2)) (fun a3=>.br (fun a4=>.rt [156,171] [] [] [] [] [] (aj (aj (u2 (u2 (u2 (ag a3 (ag a3 (ag a3 (ag a3 (aj (aj a3 t3) (ag a3 (u2 (aj a4 (aj a4 (aj a4 (aj a4 (aj a4 (ag a4 (u2 (ak (k5 (al t3)))))))))))))))))))) (ak s2)) t2)) (fun a4=>.gu fun a5=>.el fun x89 a6=>.br (fun a7=>.rt [156,170,185] [(89,bV x89)] [] [] [] [] (aj (aj (u2 (u2 (u2 (ag a3 (ag a3 (ag a3 (ag a3 (aj (aj a3 t3) (ag a3 (u2 (ag a4 (ag a4 (ag a4 (aj (aj a4 (k2 (aj a5 (Ar (f:=bV) a6)))) (ag a4 (ag a4 (u2 (aj a7 (aj a7 (aj a7 (aj a7 (aj a7 (aj a7 (al (aj a7 t2))))))))))))))))))))))))) (ak s2)) t2)) (fun a7=>.gu fun a8=>.gu fun a9=>.gu fun a10=>have c0:=con_c (List.take (v0.toNat-Uv 0) (List.drop (Uv 0) q.pe)) x74 a10;.rn 0 [156,170,184] [(89,bV x89)] [(98,hK c0 [] [])] [] (al (u2 (u2 (u2 (ag a3 (ag a3 (ag a3 (ag a3 (aj (aj a3 t3) (ag a3 (u2 (ag a4 (ag a4 (ag a4 (aj (aj a4 (k2 (aj a5 (Ar (f:=bV) a6)))) (ag a4 (ag a4 (u2 (ag a7 (ag a7 (ag a7 (aj (aj a7 (k2 (aj a8 (aj (Int.le_refl 0) (aj a1 (aj a9 (show iN (Uq iv q.pe).length<=iN (Uq iv q.pe).length by omega))))))) (ag a7 (aj (aj a7 (ak (k3 (al (show CT Ux 47 [] [Uw (List.take (v0.toNat-Uv 0) (List.drop (Uv 0) (Uq iv q.pe))),iv x74] [] (bV (AC (List.take (v0.toNat-Uv 0) (List.drop (Uv 0) q.pe)) x74)) from CT.eqs (c0) (by simp[gL,boL,lI,sA,bA]<;>rfl) (by simp[gL,boL,lI,sA,bA]<;>rfl)))))) (al (aj a7 t2)))))))))))))))))))))))))) <|.br (fun a11=>.rt [156,170,184,199] [] [] [] [] [] (aj (aj a11 s2) t2)) (fun a11=>.lp [156,170,184,198] [] [] [] [] [0,1] [2,3,69,70,71] (aj (aj a11 (al (u2 s2))) t8)))))) (fun a0=>.rt [144] [] [] [] [] [] (aj (aj a0 s2) t2))) (by kernel_rfl)
theorem sva_ct(n:Ab)(q:Ac)(r:Ret)(h:Aq (svaStep n q) (Md n q) r):CT Ux 25 ([]) ([Af n,sgA q]) r.1 r.2:=
 CT.mach (fn:=Try.f25) (c:=zB Try.f25) (S:=Ht n q) (hd:=Jr) Try.func25 (by kernel_rfl) (nL rfl)
  (fun s o ho=>match s,ho with
   | .l0 v0,ho=>svaS0_ok n q v0 o ho
   | .l1 v0,ho=>svaS1_ok n q v0 o ho
  )
  (fun o ho=>svaEn_ok n q o ho) h
def QP(n:Ab)(q:Ac):Empty->St | x=>x.elim
def Oa:Empty->Nat | x=>x.elim
def Ns(n:Ab)(q:Ac):Option (Empty⊕Ret):=gu (Rows n.nx) <|br (A8 n) (gu (Ax n) <|some (.inr ([],bV (Ge n q)))) (some (.inr ([],bV false)))
def r20vStep(n:Ab)(q:Ac):Empty->Option (Empty⊕Ret) | x=>x.elim
theorem Sa(n:Ab)(q:Ac)(o:Empty⊕Ret)(h:Ns n q=some o):Arr Ux Try.f75 0 (QP n q) Oa (zB Try.f75) [] {n:=Try.f75.ntmps,fr:=AI 0 ([Af n,sgA q]),hp:=([])} o:=Scr.ok h mix (.rn 0 [] [] [] [] (al (u2 (u2 t2))) <|.gu fun a0=>.br (fun a1=>.gu fun a2=>have c0:=Kd a0;have c1:=fo_c q a2;.rt [15] [] [(6,hK c0 [] []),(10,hK c1 [] [])] [] [] [] (aj (al (u2 (aj (ak (aj t9 (al (c0)))) (u2 (ag a1 (ag a1 (aj (aj a1 (k2 (aj t9 (aj t4 (al (c1)))))) (ag a1 s2)))))))) t2)) (fun a1=>have c0:=Kd a0;.rt [14] [] [(6,hK c0 [] [])] [] [] [] (aj (al (u2 (aj (ak (aj t9 (al (c0)))) (u2 (aj a1 (aj a1 (aj a1 (ag a1 s2)))))))) t2))) (by kernel_rfl)
theorem r20v_ct(n:Ab)(q:Ac)(r:Ret)(h:Aq (r20vStep n q) (Ns n q) r):CT Ux 75 ([]) ([Af n,sgA q]) r.1 r.2:=
 CT.mach (fn:=Try.f75) (c:=zB Try.f75) (S:=QP n q) (hd:=Oa) Try.func75 (by kernel_rfl) (nL rfl)
  (fun s o ho=>match s,ho with
   | x,_=>x.elim)
  (fun o ho=>Sa n q o ho) h
def clbSt(l:List Bool):Empty->St | x=>x.elim
def clbHd:Empty->Nat | x=>x.elim
def K9(l:List Bool):Option (Empty⊕Ret):=gu (boL l=[]->False) <|gu (∀(e:AV),e∈boL l->e.cells.length=1) <|gu (0+(boL l).length<=9223372036854775807) <|gu ((0+(boL l).length) * 1<=140737488355328) <|some (.inr ([some (bK ([]++boL l) 1)],AV.sl 0 0 (0+(boL l).length)))
def clbStep(l:List Bool):Empty->Option (Empty⊕Ret) | x=>x.elim
theorem clbEn_ok(l:List Bool)(o:Empty⊕Ret)(h:K9 l=some o):Arr Ux Try.f55 0 (clbSt l) clbHd (zB Try.f55) [] {n:=Try.f55.ntmps,fr:=AI 0 ([.lst (boL l)]),hp:=([])} o:=Scr.ok h mix (.rn 0 [] [] [] [] s2 <|.gu fun a0=>.rn 0 [] [] [] [] (al (u2 (al (ak a0)))) <|.gu fun a1=>.gu fun a2=>.gu fun a3=>.rt [] [] [] [] [1] [] (aj (ak (al (ak (u2 (aj (k2 (aj (show nat_lit 0=nat_lit 0 from rfl) (aj a1 (aj a2 a3)))) s2))))) t3)) (by kernel_rfl)
theorem clb_ct(l:List Bool)(r:Ret)(h:Aq (clbStep l) (K9 l) r):CT Ux 55 ([]) ([.lst (boL l)]) r.1 r.2:=
 CT.mach (fn:=Try.f55) (c:=zB Try.f55) (S:=clbSt l) (hd:=clbHd) Try.func55 (by kernel_rfl) (nL rfl)
  (fun s o ho=>match s,ho with
   | x,_=>x.elim)
  (fun o ho=>clbEn_ok l o ho) h
inductive EI where | l0 (v0:Int) (v1:List Int)
def E7(q:Ac)(w:Int):EI->St | .l0 v0 v1=>St.mk 39 [(1,iv w),(2,AV.ptr 0 0 0),(4,AV.ptr 1 0 0),(5,AV.ptr 2 0 0),(6,iv v0)] [some (bK [AV.agg [Uw (boL q.cl),Uw (Uq iv q.bw),Uw (Uq iv q.pe)]] 3),some (bK [AV.agg [AV.nils,AV.nils,AV.nils]] 3),some (Blk.mk [AV.agg [AV.sl 3 0 (boL q.cl).length,AV.sl 4 0 q.bw.length,AV.sl 5 0 v1.length]] 3 false true none),some (bK (boL q.cl) 1),some (bK (Uq iv q.bw) 1),some (bK (Uq iv v1) 1)]
def Lg:EI->Nat | .l0 _ _=>0
def NE(q:Ac)(w:Int):Option (EI⊕Ret):=gu (∀(e:AV),e∈boL q.cl->e.cells.length=1) <|gu ((boL q.cl).length<=9223372036854775807) <|gu ((boL q.cl).length * 1<=140737488355328) <|gu (∀(e:AV),e∈Uq iV q.bw->e.cells.length=1) <|gu ((Uq iV q.bw).length<=9223372036854775807) <|gu ((Uq iV q.bw).length * 8<=140737488355328) <|some (.inl (.l0 ((0:Int)) ([])))
def HB(q:Ac)(w v0:Int)(v1:List Int):Option (EI⊕Ret):=br (decide (v0<iN (Uq iV q.pe).length)) (gu (0<=v0) <|el (q.pe) (v0.toNat) fun(x24:Int)=>br (x24 != w) (el (q.pe) (v0.toNat) fun(x33:Int)=>gu ((Uq iV v1).length+[iV x33].length<=9223372036854775807) <|gu (((Uq iV v1).length+[iV x33].length) * 8<=140737488355328) <|some (.inl (.l0 (i64.wrap (v0+1)) (v1++[x33])))) (some (.inl (.l0 (i64.wrap (v0+1)) v1)))) (some (.inr ([some (bK (boL q.cl) 1),some (bK (Uq iV q.bw) 1),some (bK (Uq iV v1) 1)],AV.agg [AV.sl 0 0 (boL q.cl).length,AV.sl 1 0 q.bw.length,AV.sl 2 0 v1.length])))
def rcpStep(q:Ac)(w:Int):EI->Option (EI⊕Ret) | .l0 v0 v1=>HB q w v0 v1
theorem rcpEn_ok(q:Ac)(w:Int)(o:EI⊕Ret)(h:NE q w=some o):Arr Ux Try.f106 0 (E7 q w) Lg (zB Try.f106) [] {n:=Try.f106.ntmps,fr:=AI 0 ([sgA q,.int .i64 w]),hp:=([])} o:=Scr.ok h mix (.rn 0 [] [] [] [] (al (u2 t2)) <|.gu fun a0=>.gu fun a1=>.gu fun a2=>.gu fun a3=>.gu fun a4=>.gu fun a5=>.lq [] [] [] [] [(3005,1)] [0,1,4,2,3,5] [1,2,4,5,6] (up [] [(2,[AV.agg [AV.sl 3 0 (boL q.cl).length,AV.sl 4 0 (Uq iv q.bw).length,AV.sl 5 0 0]])] (E7 q w (.l0 ((0:Int)) ([])))) (aj (aj (u2 (u2 (aj (ak (aj a0 (aj a1 a2))) (u2 (u2 (aj (ak (aj a3 (aj a4 a5))) (aj t3 (ak (al (k2 n11)))))))))) s2) (k2 (k5 (aj (al t4) t4)))) (by simp[up,upF,upV,upH,upB,E7,gL,boL,lI])) (by kernel_rfl)
theorem rcpS0_ok(q:Ac)(w v0:Int)(v1:List Int)(o:EI⊕Ret)(h:HB q w v0 v1=some o):Arr Ux Try.f106 0 (E7 q w) Lg (Av Try.f106 0) (.rnd (Av Try.f106 0)::AK Try.f106 0) (E7 q w (.l0 v0 v1)) o:=Scr.ok h mix (.rn 0 [] [] [] [] (al (u2 (u2 (u2 (u2 (al t3)))))) <|.br (fun a0=>.gu fun a1=>.el fun x24 a2=>.rn 0 [37] [(24,iv x24)] [] [] (aj a0 (al (u2 (u2 (u2 (aj (k2 (aj a1 (Ar (f:=iv) a2))) (u2 (u2 (al t3))))))))) <|.br (fun a3=>.el fun x33 a4=>.gu fun a5=>.gu fun a6=>.lq [55] [(33,iv x33)] [] [] [] [0,1,2,3,4,7] [1,2,4,5,6] (up [] [(2,[AV.agg [AV.sl 3 0 (boL q.cl).length,AV.sl 4 0 q.bw.length,AV.sl 5 0 ((Uq iv v1).length+[iv x33].length)]]),(5,Uq iv v1++[iv x33])] (E7 q w (.l0 (i64.wrap (v0+1)) (v1++[x33])))) (aj (aj a3 (aj (u2 (u2 (u2 (u2 (u2 (aj (k2 (aj a1 (Ar (f:=iv) a4))) (u2 (u2 (aj (k2 (aj (show(Uq iv v1).length=v1.length by simp) (aj (aj (show nat_lit 1=nat_lit 1 from rfl) (show 1<=[iv x33].length by simp)) (aj a5 a6)))) (u2 (al t3))))))))))) (al (u2 (u2 s2))))) (k2 (k5 (aj (al t4) t4)))) (by simp[up,upF,upV,upH,upB,E7,gL,boL,lI])) (fun a3=>.lp [54] [] [] [] [] [0,1,2,3,4,5] [1,2,4,5,6] (aj (aj a3 (al (u2 (u2 s2)))) (k2 (k5 (aj (al t4) t4)))))) (fun a0=>.rt [36] [] [] [] [3,4,5] [] (aj (aj a0 (al (u2 (al (k2 n11))))) (aj t4 t4)))) (by kernel_rfl)
theorem rcp_ct(q:Ac)(w:Int)(r:Ret)(h:Aq (rcpStep q w) (NE q w) r):CT Ux 106 ([]) ([sgA q,.int .i64 w]) r.1 r.2:=
 CT.mach (fn:=Try.f106) (c:=zB Try.f106) (S:=E7 q w) (hd:=Lg) Try.func106 (by kernel_rfl) (nL rfl)
  (fun s o ho=>match s,ho with
   | .l0 v0 v1,ho=>rcpS0_ok q w v0 v1 o ho
  )
  (fun o ho=>rcpEn_ok q w o ho) h
inductive EB where | l0 (v0:Int) (v1:List Int)
def Fj(q:Int):EB->St | .l0 v0 v1=>St.mk 28 [(0,iv q),(2,AV.ptr 0 0 0),(4,AV.ptr 1 0 0),(5,iv v0)] [some (bK [AV.agg [AV.nils,AV.nils]] 2),some (Blk.mk [AV.agg [AV.sl 2 0 v1.length,AV.sl 3 0 q.toNat]] 2 false true none),some (bK (Uq iv v1) 1),some (bK (Ur q.toNat AV.nils) 1)]
def Ma:EB->Nat | .l0 _ _=>0
def Lo(q:Int):Option (EB⊕Ret):=br (decide (q<0)) (some (.inr ([],AV.tup [AV.agg [AV.nils,AV.nils],iV 19]))) (br (decide (48<q)) (some (.inr ([],AV.tup [AV.agg [AV.nils,AV.nils],iV 19]))) (gu (0<=q) <|gu (8 * q<=281474976710656) <|gu (q<=9223372036854775807) <|gu (24 * q<=281474976710656) <|some (.inl (.l0 ((0:Int)) (Ur q.toNat 0)))))
def HE(q v0:Int)(v1:List Int):Option (EB⊕Ret):=br (decide (v0<q)) (gu (0<=v0) <|gu (v0<iN v1.length) <|gu ((0+v0.toNat).succ.le (Uq iV v1).length) <|some (.inl (.l0 (i64.wrap (v0+1)) (v1.set (0+v0.toNat) (-1))))) (some (.inr ([],AV.tup [AV.agg [Uw (Uq iV v1),Uw (Ur q.toNat AV.nils)],iV 0])))
def n19Step(q:Int):EB->Option (EB⊕Ret) | .l0 v0 v1=>HE q v0 v1
theorem n19En_ok(q:Int)(o:EB⊕Ret)(h:Lo q=some o):Arr Ux Try.f17 0 (Fj q) Ma (zB Try.f17) [] {n:=Try.f17.ntmps,fr:=AI 0 ([.int .i64 q]),hp:=([])} o:=Scr.ok h mix (.rn 0 [] [] [] [] (al t3) <|.br (fun a0=>.rt [17] [] [] [] [] [] (aj (aj (u2 (u2 (u2 (aj a0 (aj a0 (al (aj a0 t2))))))) (ak (al (ak (aj (k2 n11) t2))))) (al (aj t3 t2)))) (fun a0=>.rn 0 [16] [] [] [] (al (u2 (u2 (u2 (ag a0 (ag a0 (al (aj a0 t2)))))))) <|.br (fun a1=>.rt [16,23] [] [] [] [] [] (aj (aj a1 (al (ak (aj (k2 n11) t2)))) (al (aj t3 t2)))) (fun a1=>.gu fun a2=>.gu fun a3=>.gu fun a4=>.gu fun a5=>.lq [16,22] [(16,AV.tup [])] [] [] [] [0,3,1,2] [0,2,4,5] (up [] [(1,[AV.agg [AV.sl 2 0 q.toNat,AV.sl 3 0 q.toNat]]),(2,Ur q.toNat (iv 0))] (Fj q (.l0 ((0:Int)) (Ur q.toNat 0)))) (aj (aj a1 (aj (u2 (aj (k2 (aj a2 (aj (show q<=q by omega) (aj a3 a4)))) (u2 (aj (k2 (aj a2 (aj (show q<=q by omega) (aj a5 a4)))) (aj t3 (ak (al (k2 n11)))))))) s2)) (k5 (aj (al t3) t3))) (by simp[up,upF,upV,upH,upB,Fj,gL,boL,lI])))) (by kernel_rfl)
theorem n19S0_ok(q v0:Int)(v1:List Int)(o:EB⊕Ret)(h:HE q v0 v1=some o):Arr Ux Try.f17 0 (Fj q) Ma (Av Try.f17 0) (.rnd (Av Try.f17 0)::AK Try.f17 0) (Fj q (.l0 v0 v1)) o:=Scr.ok h mix (.rn 0 [] [] [] [] (al (u2 (u2 (al t3)))) <|.br (fun a0=>.gu fun a1=>.gu fun a2=>.gu fun a3=>.lq [41] [] [] [] [] [0,1,2,3] [0,2,4,5] (up [] [(1,[AV.agg [AV.sl 2 0 v1.length,AV.sl 3 0 q.toNat]]),(2,(Uq iv v1).set (0+v0.toNat) (iv (-1)))] (Fj q (.l0 (i64.wrap (v0+1)) (v1.set (0+v0.toNat) (-1))))) (aj (aj a0 (aj (u2 (u2 (u2 (aj (k2 (aj a1 a2)) (al (ak a3)))))) (al (u2 (u2 s2))))) (k5 (aj (al t3) t3))) (by simp[up,upF,upV,upH,upB,Fj,gL,boL,lI])) (fun a0=>.rt [40] [] [] [] [] [2,3] (aj (aj a0 (al (u2 (aj (k2 n11) t2)))) (al (aj (aj (show v1.length=(Uq iv v1).length by simp) (al (show q.toNat=(Ur q.toNat AV.nils).length by simp))) t2))))) (by kernel_rfl)
theorem n19_ct(q:Int)(r:Ret)(h:Aq (n19Step q) (Lo q) r):CT Ux 17 ([]) ([.int .i64 q]) r.1 r.2:=
 CT.mach (fn:=Try.f17) (c:=zB Try.f17) (S:=Fj q) (hd:=Ma) Try.func17 (by kernel_rfl) (nL rfl)
  (fun s o ho=>match s,ho with
   | .l0 v0 v1,ho=>n19S0_ok q v0 v1 o ho
  )
  (fun o ho=>n19En_ok q o ho) h
inductive Ep where | l0 (v0:Int) (v1:List (List Int))
def Fm(q:Aj):Ep->St | .l0 v0 v1=>St.mk 28 [(1,AV.ptr 0 0 0),(2,AV.ptr 1 0 0),(3,AV.ptr 2 0 0),(4,iv v0)] [some (bK [AV.agg [Uw (Uq iv q.ow),Uw (gL q.qu)]] 2),some (bK [AV.agg [AV.nils,AV.nils]] 2),some (Blk.mk [AV.agg [AV.sl 3 0 q.ow.length,AV.sl 4 0 v1.length]] 2 false true none),some (bK (Uq iv q.ow) 1),some (bK (Uq lI v1) 1)]
def Mo:Ep->Nat | .l0 _ _=>0
def Na(q:Aj):Option (Ep⊕Ret):=gu (∀(e:AV),e∈Uq iV q.ow->e.cells.length=1) <|gu ((Uq iV q.ow).length<=9223372036854775807) <|gu ((Uq iV q.ow).length * 8<=140737488355328) <|some (.inl (.l0 ((0:Int)) ([])))
def HC(q:Aj)(v0:Int)(v1:List (List Int)):Option (Ep⊕Ret):=br (decide (v0<iN (gL q.qu).length)) (gu (0<=v0) <|el (q.qu) (v0.toNat) fun(x21:List Int)=>gu (∀(e:AV),e∈Uq iV x21->e.cells.length=1) <|gu ((Uq iV x21).length<=9223372036854775807) <|gu ((Uq iV x21).length * 8<=140737488355328) <|gu ((Uq lI v1).length+[Uw (Uq iV x21)].length<=9223372036854775807) <|gu (((Uq lI v1).length+[Uw (Uq iV x21)].length) * 24<=140737488355328) <|some (.inl (.l0 (i64.wrap (v0+1)) (v1++[x21])))) (some (.inr ([some (bK (Uq iV q.ow) 1),some (bK (Uq lI v1) 1)],AV.agg [AV.sl 0 0 q.ow.length,AV.sl 1 0 v1.length])))
def c19Step(q:Aj):Ep->Option (Ep⊕Ret) | .l0 v0 v1=>HC q v0 v1
theorem c19En_ok(q:Aj)(o:Ep⊕Ret)(h:Na q=some o):Arr Ux Try.f50 0 (Fm q) Mo (zB Try.f50) [] {n:=Try.f50.ntmps,fr:=AI 0 ([lkA q]),hp:=([])} o:=Scr.ok h mix (.rn 0 [] [] [] [] (al (u2 t2)) <|.gu fun a0=>.gu fun a1=>.gu fun a2=>.lq [] [] [] [] [(2003,1)] [0,1,3,2,4] [1,2,3,4] (up [] [(2,[AV.agg [AV.sl 3 0 (Uq iv q.ow).length,AV.sl 4 0 0]])] (Fm q (.l0 ((0:Int)) ([])))) (aj (aj (u2 (u2 (aj (ak (aj a0 (aj a1 a2))) (u2 (ak (al (k2 n11))))))) s2) (ak (k5 (aj (al t3) t3)))) (by simp[up,upF,upV,upH,upB,Fm,gL,boL,lI])) (by kernel_rfl)
theorem c19S0_ok(q:Aj)(v0:Int)(v1:List (List Int))(o:Ep⊕Ret)(h:HC q v0 v1=some o):Arr Ux Try.f50 0 (Fm q) Mo (Av Try.f50 0) (.rnd (Av Try.f50 0)::AK Try.f50 0) (Fm q (.l0 v0 v1)) o:=Scr.ok h mix (.rn 0 [] [] [] [] (al (u2 (u2 (u2 (u2 (al t3)))))) <|.br (fun a0=>.gu fun a1=>.el fun x21 a2=>.gu fun a3=>.gu fun a4=>.gu fun a5=>.gu fun a6=>.gu fun a7=>.lq [27] [(21,lI x21),(23,Uw [])] [] [] [] [0,1,2,3,6] [1,2,3,4] (up [] [(2,[AV.agg [AV.sl 3 0 q.ow.length,AV.sl 4 0 ((Uq lI v1).length+[Uw (Uq iv x21)].length)]]),(4,Uq lI v1++[Uw (Uq iv x21)])] (Fm q (.l0 (i64.wrap (v0+1)) (v1++[x21])))) (aj (aj a0 (aj (u2 (u2 (u2 (u2 (u2 (aj (k2 (aj a1 (Ar (f:=lI) a2))) (u2 (aj (ak (aj (aj a3 (aj a4 a5)) (show(Uq iv x21).length=(Uq iv x21).length from rfl))) (u2 (aj (k2 (aj (show(Uq lI v1).length=v1.length by simp) (aj (aj (show nat_lit 1=nat_lit 1 from rfl) (show 1<=[Uw (Uq iv x21)].length by simp)) (aj a6 a7)))) (u2 (al t3)))))))))))) (al (u2 (u2 s2))))) (ak (k5 (aj (al t3) t3)))) (by simp[up,upF,upV,upH,upB,Fm,gL,boL,lI])) (fun a0=>.rt [26] [] [] [] [3,4] [] (aj (aj a0 (al (u2 (al (k2 n11))))) (aj t3 t3)))) (by kernel_rfl)
theorem c19_ct(q:Aj)(r:Ret)(h:Aq (c19Step q) (Na q) r):CT Ux 50 ([]) ([lkA q]) r.1 r.2:=
 CT.mach (fn:=Try.f50) (c:=zB Try.f50) (S:=Fm q) (hd:=Mo) Try.func50 (by kernel_rfl) (nL rfl)
  (fun s o ho=>match s,ho with
   | .l0 v0 v1,ho=>c19S0_ok q v0 v1 o ho
  )
  (fun o ho=>c19En_ok q o ho) h
def wo(l:List Int)(x:Int):List Int:=l.filter (fun y=>y != x)
theorem wo_succ{l:List Int}{x:Int}{i:Nat}(h:i<l.length):wo (l.take (i+1)) x=wo (l.take i) x++(if (l.getD i 0 != x)=true then [l.getD i 0] else []):=by unfold wo;rw[List.take_add_one,AR 0 h,List.filter_append];congr 1;show List.filter _ [l.getD i 0]=_;rw[List.filter_cons];rfl
theorem NY(l:List Int)(x:Int):(wo l x).length<=l.length:=List.length_filter_le _ _
theorem rcp_c(cl:List Bool)(bw pe:List Int)(w:Int)(h1:cl.length<=1000000)(h2:bw.length<=1000000)(h3:pe.length<=1000000):
  CT Ux 106 [] [sgA ⟨cl,bw,pe⟩,.int .i64 w] [some (Blk.mk (boL cl) 1 true true none),some (Blk.mk (bw.map (AV.int .i64)) 1 true true none),some (Blk.mk ((wo pe w).map (AV.int .i64)) 1 true true none)] (.agg [.sl 0 0 (boL cl).length,.sl 1 0 bw.length,.sl 2 0 (wo pe w).length]):=by
 refine rcp_ct ⟨cl,bw,pe⟩ w ([_,_,_],_) ?_;have hL:=BM cl;unfold NE;rw[Aa (E4 _),Aa (by rw[hL];show cl.length<=_;omega),Aa (by rw[hL];show cl.length * 1<=_;omega),Aa (BA _),Aa (by rw[Tx];show bw.length<=_;omega),Aa (by rw[Tx];show bw.length * 8<=_;omega)];refine Cu (fun i=>EI.l0 (i:Int) (wo (pe.take i) w)) pe.length (fun i hi h=>?_) ?_
 .refine .to (show HB ⟨cl,bw,pe⟩ w i _=_ from ?_) h;have hw:=NY (pe.take i) w;rw[TY] at hw;unfold HB;simp only;rw[BO 0 hi,wo_succ hi];cases hx:pe.getD i 0 != w with
  | false=>rw[Ae rfl,Tt (by simp),List.append_nil,zW i (by omega)]
  | true=>rw[Ak rfl,elG 0 hi,Aa (by simp only[Tx,Ua,Ub];omega),Aa (by simp only[Tx,Ua,Ub];omega),Ts rfl,zW i (by omega)]
 .refine .to (show HB ⟨cl,bw,pe⟩ w pe.length _=_ from ?_) (.ret _);unfold HB;simp only;rw[C3,List.take_length]
theorem clb_c(l:List Bool)(hl:l.length<=1000000):CT Ux 55 [] [.lst (boL l)] [some (Blk.mk (boL l) 1 true true none)] (.sl 0 0 (boL l).length):=by
 have hL:=BM l;by_cases h:l=[]
 .subst h;exact cl55_e
 refine clb_ct l ([_],_) (.val ?_);unfold K9;rw[Aa (fun e=>h (by unfold boL at e;exact List.map_eq_nil_iff.1 e)),Aa (E4 _),Aa (by omega),Aa (by omega),List.nil_append,TJ]
theorem sva_c{n:Ab}(cl:List Bool)(bw pe:List Int)(hrw:Rows n.nx):CT Ux 25 [] [Af n,sgA ⟨cl,bw,pe⟩] [] (.bool (Br n ⟨cl,bw,pe⟩)):=by
 generalize hs:(⟨cl,bw,pe⟩:Ac)=s;refine sva_ct n s ([],_) ?_;unfold Md Br Jj HU;rw[Aa hrw];cases hv:A8 n with
 | false=>exact .ret _
 | true=>
 have hv:=CF.1 hv;obtain⟨h48,hnb⟩:=FO hv;unfold Ge;rw[Ts rfl,Ts rfl,Ae (by rfl),BM,Tx,Tx,Tx,Bool.true_and];by_cases h1:s.cl.length=Au n
 case neg=>rw[Ak (Uh.2 (by simp only[iN];omega)),An h1];exact .ret _
 rw[Ae (by rw[h1];simp),Az h1,Bool.true_and];by_cases h2:s.bw.length=Au n
 case neg=>rw[Ak (Uh.2 (by simp only[iN];omega)),An h2];exact .ret _
 rw[Ae (by rw[h2];simp),Az h2,Bool.true_and];by_cases h3:n.bs.length<s.pe.length
 .rw[Ak (Az (by simp only[iN];omega))];have:(fnd (bdP n.bs.length s) 0 s.pe.length).isNone=false:=by
   cases hf:fnd (bdP n.bs.length s) 0 s.pe.length with
   | some i=>rfl
   | none=>
    have:=L8 (nb:=n.bs.length) (s:=s) (TF _) fun j hj=>CH hf j (TG _) (by omega)
    omega
  rw[this,Bool.and_false];exact .ret _
 rw[Ae (An (by simp only[iN];omega))];refine(Fe (fun i=>Dj.l0 (i:Int)) s.bw.length (bdW s) (rF:=fun _=>(([],.bool false):Ret)) (r:=([],.bool (fnd (bdP n.bs.length s) 0 s.pe.length).isNone)) (fun i hi _ hp=>?_) (fun i x hi _ hp hx=>?_) (fun _=>?_)).res (by cases fnd (bdW s) 0 s.bw.length<;>rfl)
 .refine .to (show Fy n s i=_ from ?_) (.ret _);unfold Fy;unfold bdW at hp;rw[BO 0 hi];cases hd1:decide (s.bw.getD i 0 < -1) with
  | true=>rw[Ak rfl]
  | false=>
   rw[hd1,Tn] at hp;rw[Ae rfl];cases hd2:decide (8<=s.bw.getD i 0) with
   | true=>rw[Ak rfl]
   | false=>rw[hd2,Tn,TC] at hp;rw[Ae rfl,Ak hp.1,elG true (show i<s.cl.length by omega),Ak hp.2]
 .refine .to (show Fy n s i=_ from ?_) hx;unfold Fy;unfold bdW at hp;simp only[Bool.or_eq_false_iff] at hp;rw[BO 0 hi,Ae hp.1,Ae hp.2.1,zW i (by omega)];cases h0:decide (0<=s.bw.getD i 0) with
  | false=>rw[Ae rfl]
  | true=>have hq:=hp.2.2;rw[h0,Bool.true_and] at hq;rw[Ak rfl,elG true (show i<s.cl.length by omega),Ae hq]
 .refine .to (show Fy n s s.bw.length=_ from ?_) ?_ (y:=some (.inl (.l1 ((0:Nat):Int))))
  .unfold Fy;rw[C3];rfl
  refine(Fe (fun i=>Dj.l1 (i:Int)) s.pe.length (bdP n.bs.length s) (rF:=fun _=>(([],.bool false):Ret)) (r:=([],.bool true)) (fun i hi hj hp=>?_) (fun i x hi hj hp hx=>?_) (fun _=>?_)).res (by cases fnd (bdP n.bs.length s) 0 s.pe.length<;>rfl)
  .refine .to (show FH n s i=_ from ?_) (.ret _);unfold FH;unfold bdP at hp;rw[BO 0 hi];by_cases hd1:s.pe.getD i 0<0
   .rw[Ak (Az hd1)]
   rw[An hd1,Tn] at hp;rw[Ae (An hd1)];by_cases hd2:(n.bs.length:Int)<=s.pe.getD i 0
   .rw[Ak (Az (by rw[Tx];exact hd2))]
   rw[An hd2,Tn] at hp;rw[Ae (An (by rw[Tx];exact hd2)),Aa (by omega),AH (AR true (show(s.pe.getD i 0).toNat<s.cl.length by omega))];cases hd3:s.cl.getD (s.pe.getD i 0).toNat true with
   | true=>rw[Ak rfl]
   | false=>rw[hd3,Tn] at hp;rw[Ae rfl,Aa (BA _),Aa (by simp only[iN,Tx];omega),J5,Aa (by rw[TY];omega),Ak hp]
  .refine .to (show FH n s i=_ from ?_) hx;unfold FH;unfold bdP at hp;simp only[Bool.or_eq_false_iff,decide_eq_false_iff_not] at hp;rw[BO 0 hi,Ae (An hp.1),Ae (An (by rw[Tx];exact hp.2.1)),Aa (by omega),AH (AR true (show(s.pe.getD i 0).toNat<s.cl.length by omega)),Ae hp.2.2.1,Aa (BA _),Aa (by simp only[iN,Tx];omega),J5,Aa (by rw[TY];omega),Ae hp.2.2.2,zW i (by omega)]
  .refine .to (show FH n s s.pe.length=_ from ?_) (.ret _);unfold FH;rw[C3]
theorem It{n:Ab}(cl:List Bool)(bw pe:List Int)(hrw:Rows n.nx):CT Ux 75 [] [Af n,sgA ⟨cl,bw,pe⟩] [] (.bool (Br n ⟨cl,bw,pe⟩)):=by
 refine r20v_ct n ⟨cl,bw,pe⟩ ([],_) (.val ?_);unfold Ns Br;rw[Aa hrw];cases hv:A8 n with
 | false=>rfl
 | true=>rw[Ak rfl,Aa (CF.1 hv)];rfl
def nsO(n:Ab):Ac:=⟨Ur (Au n) false,Ur (Au n) (-1),[]⟩
def nsE(n:Ab):Int:=if A8 n=true then 0 else 20
def nsS(n:Ab):Ac:=if A8 n=true then nsO n else ⟨[],[],[]⟩
theorem rep_bo(k:Nat):Ur k (AV.bool false)=boL (Ur k false):=by unfold boL;rw[List.map_replicate]
theorem O3{c i:Nat}(h:i<c):(rpV c i).set (0+i) (-1)=rpV c (i+1):=by
 obtain⟨d,hd⟩:∃d,c-i=d+1:=⟨c-i-1,by omega⟩;have hd2:c-(i+1)=d:=by omega
 unfold rpV;rw[hd,hd2,TJ,List.replicate_succ,List.set_append_right _ _ (by simp)];simp only[TR,Td,List.set_cons_zero];rw[List.replicate_succ',List.append_assoc];rfl
theorem rpV_0(c:Nat):rpV c 0=Ur c 0:=by unfold rpV;simp
theorem rpV_c(c:Nat):rpV c c=Ur c (-1):=by unfold rpV;simp
theorem PJ{n:Ab}(hrw:Rows n.nx):CT Ux 31 [] [Af n] [] (.tup [sgA (nsS n),.int .i64 (nsE n)]):=by
 have h:=r20n_ct n;unfold LI at h;unfold nsS nsE;cases hv:A8 n with
 | false=>rw[hv] at h;exact CT.w2 (h ([],_) (.val (by rw[Aa hrw];rfl)))
 | true=>
  have hvn:=CF.1 hv;have h48:=FO hvn;rw[hv] at h;have k:=CT.w2 (h ([],.tup [.agg [.lst (Ur (Au n) (AV.bool false)),.lst (Uq (AV.int .i64) (Ur (Au n) (-1))),.nils],.int .i64 0]) (by
   rw[Aa hrw,Ae (by rfl),Aa hvn,Aa (by simp only[iN];omega),Aa (by simp only[iN];omega),Aa (by simp only[iN];omega)];rw[show (Ur (iN (Au n)).toNat (0:Int))=rpV (Au n) 0 from(rpV_0 _).symm];refine Cu (fun i=>EA.l0 (i:Int) (rpV (Au n) i)) (Au n) (fun i hi hx=>?_) ?_
   .refine .to (show Hj n i (rpV (Au n) i)=_ from ?_) hx;unfold Hj;rw[Ak (Az (by simp only[iN,GD (Nat.le_of_lt hi)];omega)),Aa (by omega),Aa (by simp only[iN,GD (Nat.le_of_lt hi)];omega),Aa (show Nat.le _ _ from(by rw[Tx,GD (Nat.le_of_lt hi)];show 0+(i:Int).toNat+1<=_;omega)),TD,O3 hi,zW i (by omega)]
   .refine .to (show Hj n (Au n:Nat) (rpV (Au n) (Au n))=_ from ?_) (.ret _);unfold Hj;rw[Ae (An (by simp only[iN,GD (TF _)];omega)),rpV_c];rfl))
  rw[rep_bo] at k;exact k
theorem RT.lwk{A:Nat->Prop}{w:World}{es:List AV}{v:Value}(h:RT A w (.lst es) v):RT A w (.lst (es.map wkq)) v:=by
 cases h with
 | lnil a=>exact .lnil a
 | lst _ r o cap z g hcap hA hz h1 hc hh=>
  have hl:(es.map wkq).length=es.length:=Tx ..;have hcl:∀e:AV,(wkq e).cells.length=e.cells.length:=fun e=>by cases e<;>rfl
  have key:∀{e c:AV},c∈(wkq e).cells->∃c',c'∈e.cells/\(c=c'\/(c' = .nils/\c = .lst [])):=fun {e c} hc=>by
   cases e with
   | nils=>exact⟨.nils,Tj.2 rfl,.inr ⟨rfl,Tj.1 hc⟩⟩
   | _=>exact⟨c,hc,.inl rfl⟩
  rw[<-hl];refine .lst _ r o cap z g (by rw[hl];exact hcap) (fun hn=>hA fun e=>hn (by rw[e];rfl)) (fun e he=>?_) (fun e he c hcm=>?_) (fun i j hi hj=>hc i j (by rw[<-hl];exact hi) hj) fun i j e c he hj=>?_
  .obtain⟨e0,he0,rfl⟩:=T1.1 he;rw[hcl];exact hz e0 he0
  .obtain⟨e0,he0,rfl⟩:=T1.1 he;obtain⟨c',hc',h | ⟨_,h⟩⟩:=key hcm
   .rw[h];exact h1 e0 he0 c' hc'
   .rw[h];rfl
  .rw[TE] at he;obtain⟨e0,he0,rfl⟩:=Option.map_eq_some_iff.1 he;by_cases hn:e0 = .nils
   .subst hn;match j,hj with
    | 0,hj=>
     cases hj;have:=hh i 0 .nils .nils he0 rfl;have e:g i 0 = .slice none 0 0:=by {generalize g i 0=x at this;cases this;rfl}
     rw[e];exact .lnil none
   .have e:wkq e0=e0:=by cases e0<;>first | rfl | exact absurd rfl hn
    rw[e] at hj;exact hh i j e0 c he0 hj
theorem VR.lwk{φ:Phi}{A:Nat->Prop}{w:World}{a b:AV}{es:List AV}{v:Value}(h:VR φ A w (.tup [.agg [a,.lst es],b]) v):VR φ A w (.tup [.agg [a,.lst (es.map wkq)],b]) v:=by
 obtain⟨us,rfl,hl,hh⟩:=h.tup_inv;refine .tup _ us (by simpa using hl) fun i c u hc hu=>?_
 match i,hc with
 | 0,hc=>
  cases hc;obtain⟨vs,rfl,hl2,h2⟩:=(hh 0 _ u rfl hu).agg_inv;refine .agg _ vs (by simpa using hl2) fun j d x hd hx=>?_
  match j,hd with
  | 0,hd=>cases hd;exact h2 0 _ x rfl hx
  | 1,hd=>
   cases hd;have:=h2 1 _ x rfl hx;cases this with
   | imm _ _ h=>exact .imm _ _ (RT.lwk h)
  | j+2,hd=>simp at hd
 | 1,hc=>cases hc;exact hh 1 _ u rfl hu
 | i+2,hc=>simp at hc
def nlS(q:Int):Aj:=if 0<=q/\q<=48 then ⟨Ur q.toNat (-1),Ur q.toNat []⟩ else ⟨[],[]⟩
def nlE(q:Int):Int:=if 0<=q/\q<=48 then 0 else 19
theorem n19_c(q:Int):CT Ux 17 [] [.int .i64 q] [] (.tup [lkA (nlS q),.int .i64 (nlE q)]):=by
 have h:=n19_ct q;unfold Lo at h;unfold nlS nlE;by_cases h0:q<0
 .rw[Tt (by omega),Tt (by omega)];exact CT.w2 (h ([],_) (.val (by rw[Ak (Az h0)])))
 by_cases h1:48<q
 .rw[Tt (by omega),Tt (by omega)];exact CT.w2 (h ([],_) (.val (by rw[Ae (An h0),Ak (Az h1)])))
 rw[Ts (by omega),Ts (by omega)];obtain⟨c,rfl⟩:∃c:Nat,q=(c:Int):=⟨q.toNat,by omega⟩;have k:=(h ([],.tup [.agg [.lst (Uq (AV.int .i64) (Ur c (-1))),.lst (Ur c .nils)],.int .i64 0]) (by
  rw[Ae (An h0),Ae (An h1),Aa (by omega),Aa (by omega),Aa (by omega),Aa (by omega),TD,<-rpV_0];refine Cu (fun i=>EB.l0 (i:Int) (rpV c i)) c (fun i hi hx=>?_) ?_
  .refine .to (show HE (c:Int) i (rpV c i)=_ from ?_) hx;unfold HE;rw[Ak (Az (by omega)),Aa (by omega),Aa (by simp only[iN,GD (Nat.le_of_lt hi)];omega),Aa (show Nat.le _ _ from(by rw[Tx,GD (Nat.le_of_lt hi)];show 0+(i:Int).toNat+1<=_;omega)),TD,O3 hi,zW i (by omega)]
  .refine .to (show HE (c:Int) (c:Nat) (rpV c c)=_ from ?_) (.ret _);unfold HE;rw[Ae (An (by omega)),rpV_c,TD])).less fun _ _ _ _ h=>VR.lwk h
 have e:Uq wkq (Ur c AV.nils)=gL (Ur c []):=by unfold gL;rw[List.map_replicate,List.map_replicate];rfl
 rw[e] at k;exact k
theorem Pa{g:List (List Int)}{i:Nat}(h:i<g.length):g.take (i+1)=g.take i++[g.getD i []]:=by rw[List.take_add_one,AR [] h];rfl
theorem c19_c(ow:List Int)(qu:List (List Int))(h1:ow.length<=1000)(h2:qu.length<=1000)(h3:∀r∈qu,r.length<=1000):
  CT Ux 50 [] [lkA ⟨ow,qu⟩] [some (Blk.mk (ow.map (AV.int .i64)) 1 true true none),some (Blk.mk (gL qu) 1 true true none)] (.agg [.sl 0 0 ow.length,.sl 1 0 qu.length]):=by
 refine c19_ct ⟨ow,qu⟩ ([_,_],_) ?_;unfold Na;rw[Aa (BA _),Aa (by rw[Tx];show ow.length<=_;omega),Aa (by rw[Tx];show ow.length * 8<=_;omega)];refine Cu (fun i=>Ep.l0 (i:Int) (qu.take i)) qu.length (fun i hi hx=>?_) ?_
 .refine .to (show HC ⟨ow,qu⟩ i (qu.take i)=_ from ?_) hx;have hr:=h3 (qu.getD i []) (by rw[Tv,Tu hi];exact T2 _);unfold HC;simp only;rw[show (gL qu).length=(Uq lI qu).length from rfl,BO [] hi,Aa (BA _),Aa (by rw[Tx];omega),Aa (by rw[Tx];omega),Aa (by simp only[Tx,TY,Ua,Ub];omega),Aa (by simp only[Tx,TY,Ua,Ub];omega),Pa hi,zW i (by omega)]
 .refine .to (show HC ⟨ow,qu⟩ qu.length (qu.take qu.length)=_ from ?_) (.ret _);unfold HC;simp only;rw[show (gL qu).length=(Uq lI qu).length from rfl,C3,List.take_length];rfl
theorem wo_none{l:List Int}{w:Int}(h:w∉l):wo l w=l:=by unfold wo;exact List.filter_eq_self.2 fun x hx=>Uh.2 fun e=>h (e ▸ hx)
theorem I1{α:Type}{l:List α}{i j:Nat}{v d:α}:(l.set i v).getD j d=if i=j/\j<l.length then v else l.getD j d:=by
 rw[Tv,Un,Tv];by_cases h:i=j
 .subst h;by_cases hl:i<l.length
  .rw[Ts rfl,Ts hl,Ts ⟨rfl,hl⟩];rfl
  .rw[Ts rfl,Tt hl,Tt (fun e=>hl e.2),TU (by omega)]
 .rw[Tt h,Tt (fun e=>h e.1)]
theorem getR{α:Type}{n i:Nat}{v d:α}(h:i<n):(Ur n v).getD i d=v:=by rw[Tv,TW,Ts h];rfl
def F5(n:Ab):Ac:=⟨Ur (Au n) false,Ur (Au n) (-1),[]⟩
def anS(s:Ac)(x:Int):Ac:=⟨s.cl,s.bw,s.pe++[x]⟩
def clS(s:Ac)(c r:Int):Ac:=⟨s.cl.set c.toNat true,if s.cl.getD c.toNat true=true then s.bw else s.bw.set c.toNat r,wo s.pe c⟩
theorem wo_mem{l:List Int}{x y:Int}:y∈wo l x↔y∈l/\y≠x:=by unfold wo;rw[List.mem_filter,Uh]
theorem PU(n:Ab):A4 n (F5 n):=by
 refine⟨TR ..,TR ..,fun i hi=>?_,fun b hb=>(by cases hb),List.Pairwise.nil⟩;have hi:i<Au n:=by have:(F5 n).bw.length=Au n:=TR ..;omega
 show -1<=(Ur (Au n) (-1:Int)).getD i 0/\_;rw[show (F5 n).bw=Ur (Au n) (-1:Int) from rfl,getR hi];omega
theorem anS_ok{n:Ab}{s:Ac}{x:Int}(h:A4 n s)(hx:0<=x/\x<(n.bs.length:Int))(hc:s.cl.getD x.toNat true=false)(hp:x∉s.pe):A4 n (anS s x):=by
 refine⟨h.lc,h.lb,h.bw,fun b hb=>?_,Q1 h.nd hp⟩;rcases T0.1 hb with hb | hb
 .exact h.pb b hb
 .rw[Tj.1 hb];exact⟨hx.1,hx.2,hc⟩
theorem wo_nd{l:List Int}(x:Int)(h:l.Nodup):(wo l x).Nodup:=h.sublist List.filter_sublist
theorem clS_ok{n:Ab}{s:Ac}{c r:Int}(h:A4 n s)(hc:0<=c/\c<(Au n:Int))(hr : -1<=r/\r<8):A4 n (clS s c r):=by
 have lc:=h.lc;have lb:=h.lb;refine⟨by show(s.cl.set _ _).length=_;rw[T3,lc],by show(if _ then s.bw else s.bw.set _ _).length=_;split<;>simp[lb],fun i hi=>?_,fun b hb=>?_,wo_nd c h.nd⟩
 .show -1<=(if _ then s.bw else s.bw.set _ _).getD i 0/\(if _ then s.bw else s.bw.set _ _).getD i 0<8/\(0<=(if _ then s.bw else s.bw.set _ _).getD i 0->(s.cl.set c.toNat true).getD i true=true);have hi:i<s.bw.length:=by have:(clS s c r).bw.length=s.bw.length:=(by show(if _ then s.bw else s.bw.set _ _).length=_;split<;>simp);omega
  have hb:=h.bw i hi;have e:(s.cl.set c.toNat true).getD i true=if c.toNat=i/\i<s.cl.length then true else s.cl.getD i true:=I1
  rw[e];split
  .refine⟨hb.1,hb.2.1,fun h0=>?_⟩;split
   .rfl
   .exact hb.2.2 h0
  .rw[I1];split
   .rename_i h1;exact⟨hr.1,hr.2,fun _=>by rw[Ts ⟨h1.1,by omega⟩]⟩
   .refine⟨hb.1,hb.2.1,fun h0=>?_⟩;split
    .rfl
    .exact hb.2.2 h0
 .obtain⟨h1,h2⟩:=wo_mem.1 hb;have:=h.pb b h1;refine⟨this.1,this.2.1,?_⟩;show(s.cl.set c.toNat true).getD b.toNat true=false;rw[I1,Tt (by omega)];exact this.2.2
inductive Ej where | l0 (v0:Int) (v1:List Bool)
def Gx(n:Ab)(q:Ac):Ej->St | .l0 v0 v1=>St.mk 28 [(6,AV.sl 0 0 (boL q.cl).length),(17,Uw (Uq iv q.pe)),(18,iv (iN (Uq iv q.pe).length)),(19,iv v0)] [some (bK (Uq bV v1) 1)]
def Ly:Ej->Nat | .l0 _ _=>0
def NH(n:Ab)(q:Ac):Option (Ej⊕Ret):=gu (Rows n.nx) <|br (!Br n q) (some (.inr ([],AV.tup [AV.nils,iV 20]))) (gu (q.cl.length<=1000000) <|some (.inl (.l0 ((0:Int)) (q.cl))))
def Gh(n:Ab)(q:Ac)(v0:Int)(v1:List Bool):Option (Ej⊕Ret):=br (decide (v0<iN (Uq iV q.pe).length)) (gu (0<=v0) <|el (q.pe) (v0.toNat) fun(x21:Int)=>gu (0<=x21) <|gu (x21<iN (boL q.cl).length) <|gu ((0+x21.toNat).succ.le (Uq bV v1).length) <|some (.inl (.l0 (i64.wrap (v0+1)) (v1.set (0+x21.toNat) true)))) (gu ((boL q.cl).length=(Uq bV v1).length) <|some (.inr ([],AV.tup [Uw (Uq bV v1),iV 0])))
def sshStep(n:Ab)(q:Ac):Ej->Option (Ej⊕Ret) | .l0 v0 v1=>Gh n q v0 v1
theorem sshEn_ok(n:Ab)(q:Ac)(o:Ej⊕Ret)(h:NH n q=some o):Arr Ux Try.f24 0 (Gx n q) Ly (zB Try.f24) [] {n:=Try.f24.ntmps,fr:=AI 0 ([Af n,sgA q]),hp:=([])} o:=Scr.ok h mix (.rn 0 [] [] [] [] (al (u2 (u2 t3))) <|.gu fun a0=>have c0:=sva_c (q.cl) (q.bw) (q.pe) a0;.rn 0 [] [] [(11,hK c0 [] [])] [] (al (u2 (u2 (aj (k2 (aj t9 (aj t4 (al (c0))))) s2)))) <|.br (fun a1=>.rt [25] [] [] [] [] [] (aj (aj a1 (al t3)) (al t3))) (fun a1=>.gu fun a2=>have c1:=clb_c (q.cl) a2;.lp [24] [] [(15,hK c1 [] [])] [] [] [2] [6,17,18,19] (aj (aj a1 (aj (u2 (u2 (aj (k2 (al (c1))) s2))) (al (u2 (u2 (u2 t2)))))) t6))) (by kernel_rfl)
theorem sshS0_ok(n:Ab)(q:Ac)(v0:Int)(v1:List Bool)(o:Ej⊕Ret)(h:Gh n q v0 v1=some o):Arr Ux Try.f24 0 (Gx n q) Ly (Av Try.f24 0) (.rnd (Av Try.f24 0)::AK Try.f24 0) (Gx n q (.l0 v0 v1)) o:=Scr.ok h mix (.rn 0 [] [] [] [] (al (al t3)) <|.br (fun a0=>.gu fun a1=>.el fun x21 a2=>.rn 0 [41] [(21,iv x21)] [] [] (aj a0 (al (aj (k2 (aj a1 (Ar (f:=iv) a2))) (u2 s2)))) <|.gu fun a3=>.gu fun a4=>.gu fun a5=>.lq [] [] [] [] [] [0] [6,17,18,19] (up [] [(0,(Uq bV v1).set (0+x21.toNat) (bV true))] (Gx n q (.l0 (i64.wrap (v0+1)) (v1.set (0+x21.toNat) true)))) (aj (aj (u2 (u2 (aj (k2 (aj a3 a4)) (al (ak a5))))) (al (u2 s2))) t6) (by simp[up,upF,upV,upH,upB,Gx,gL,boL,lI,sA,bA])) (fun a0=>.rn 0 [40] [] [] [] (aj a0 (al (u2 (u2 t2)))) <|.gu fun a1=>.rt [] [] [] [] [] [0] (ak (al (aj a1 t2))))) (by kernel_rfl)
theorem ssh_ct(n:Ab)(q:Ac)(r:Ret)(h:Aq (sshStep n q) (NH n q) r):CT Ux 24 ([]) ([Af n,sgA q]) r.1 r.2:=
 CT.mach (fn:=Try.f24) (c:=zB Try.f24) (S:=Gx n q) (hd:=Ly) Try.func24 (by kernel_rfl) (nL rfl)
  (fun s o ho=>match s,ho with
   | .l0 v0 v1,ho=>sshS0_ok n q v0 v1 o ho
  )
  (fun o ho=>sshEn_ok n q o ho) h
def NK(n:Ab)(q:Ac)(c:Int):Empty->St | x=>x.elim
def PG:Empty->Nat | x=>x.elim
def L6(n:Ab)(q:Ac)(c:Int):Option (Empty⊕Ret):=gu (Rows n.nx) <|br (!Br n q) (some (.inr ([],AV.tup [AV.agg [AV.nils,AV.nils,AV.nils],iV 20]))) (br (decide (c<0)) (some (.inr ([],AV.tup [AV.agg [AV.nils,AV.nils,AV.nils],iV 19]))) (br (decide (iN (Uq bA n.bs).length<=c)) (some (.inr ([],AV.tup [AV.agg [AV.nils,AV.nils,AV.nils],iV 19]))) (gu (q.cl.length<=1000000) <|gu (q.pe.length<=1000000) <|gu (∀(b:Int),b∈q.pe->0<=b/\b<iN q.cl.length) <|gu (0<=c) <|el (AF q) (c.toNat) fun(x26:Bool)=>br x26 (some (.inr ([],AV.tup [AV.agg [AV.nils,AV.nils,AV.nils],iV 24]))) (gu (q.bw.length<=1000000) <|gu ((Uq iV (wo q.pe (-1))).length+[iV c].length<=9223372036854775807) <|gu (((Uq iV (wo q.pe (-1))).length+[iV c].length) * 8<=140737488355328) <|some (.inr ([],AV.tup [AV.agg [Uw (boL q.cl),Uw (Uq iV q.bw),Uw (Uq iV (wo q.pe (-1))++[iV c])],iV 0]))))))
def rannStep(n:Ab)(q:Ac)(c:Int):Empty->Option (Empty⊕Ret) | x=>x.elim
theorem Sg(n:Ab)(q:Ac)(c:Int)(o:Empty⊕Ret)(h:L6 n q c=some o):Arr Ux Try.f59 0 (NK n q c) PG (zB Try.f59) [] {n:=Try.f59.ntmps,fr:=AI 0 ([Af n,sgA q,.int .i64 c]),hp:=([])} o:=Scr.ok h mix (.rn 0 [] [] [] [] (al (u2 (u2 t3))) <|.gu fun a0=>have c0:=It (q.cl) (q.bw) (q.pe) a0;.rn 0 [] [] [(10,hK c0 [] [])] [] (al (u2 (u2 (aj (k2 (aj t9 (aj t4 (al (c0))))) s2)))) <|.br (fun a1=>.rt [23] [] [] [] [] [] (aj (aj a1 (al (ak (aj (k2 n11) t2)))) (al (aj t4 t2)))) (fun a1=>.br (fun a2=>.rt [22,31] [] [] [] [] [] (aj (aj a1 (aj (u2 (u2 (u2 (aj a2 (aj a2 (aj a2 (aj a2 (aj a2 (al (aj a2 t2)))))))))) (ak (al (ak (aj (k2 n11) t2)))))) (al (aj t4 t2)))) (fun a2=>.rn 0 [22,30] [] [] [] (aj a1 (al (u2 (u2 (u2 (ag a2 (ag a2 (ag a2 (ag a2 (aj (aj a2 t3) (al (aj a2 t2)))))))))))) <|.br (fun a3=>.rt [30,43] [] [] [] [] [] (aj (aj a3 (al (ak (aj (k2 n11) t2)))) (al (aj t4 t2)))) (fun a3=>.gu fun a4=>.gu fun a5=>.gu fun a6=>.gu fun a7=>.el fun x26 a8=>have c1:=cel_c q a4 a5 a6;.rn 0 [30,42] [(26,bV x26)] [(24,hK c1 [] [])] [] (aj a3 (al (u2 (aj (ak (aj t4 (al (c1)))) (u2 (aj (k2 (aj a7 (Ar (f:=bV) a8))) s2)))))) <|.br (fun a9=>.rt [30,55] [] [] [] [] [] (aj (aj a9 (al (ak (aj (k2 n11) t2)))) (al (aj t4 t2)))) (fun a9=>.gu fun a10=>have c2:=rcp_c (q.cl) (q.bw) (q.pe) (-1) a4 a10 a5;.rn 0 [30,54] [] [(30,hK c2 [] [])] [] (aj a9 (al (u2 (aj (ak (aj t4 (ak (al (c2))))) (al (k2 (show Nat.le 1 [AV.agg [Uw (boL q.cl),Uw (Uq iv q.bw),Uw (Uq iv q.pe)]].length from(nL rfl)))))))) <|.gu fun a11=>.gu fun a12=>.rt [30] [] [] [] [] [3,4,7] (aj (aj (u2 (u2 (u2 (u2 (aj (k2 (aj (show(Uq iv (wo q.pe (-1))).length=(wo q.pe (-1)).length by simp) (aj (aj (show nat_lit 1=nat_lit 1 from rfl) (show 1<=[iv c].length by simp)) (aj a11 a12)))) (u2 (al t3))))))) (al (u2 (aj (k2 n11) t2)))) (al (aj (aj (show(boL q.cl).length=(boL q.cl).length from rfl) (aj (show q.bw.length=(Uq iv q.bw).length by simp) (al (show(Uq iv (wo q.pe (-1))).length+[iv c].length=(Uq iv (wo q.pe (-1))++[iv c]).length by simp)))) t2)))))))) (by kernel_rfl)
theorem rann_ct(n:Ab)(q:Ac)(c:Int)(r:Ret)(h:Aq (rannStep n q c) (L6 n q c) r):CT Ux 59 ([]) ([Af n,sgA q,.int .i64 c]) r.1 r.2:=
 CT.mach (fn:=Try.f59) (c:=zB Try.f59) (S:=NK n q c) (hd:=PG) Try.func59 (by kernel_rfl) (nL rfl)
  (fun s o ho=>match s,ho with
   | x,_=>x.elim)
  (fun o ho=>Sg n q c o ho) h
def Pe(q:Ac)(c d:Int):Empty->St | x=>x.elim
def PO:Empty->Nat | x=>x.elim
def MS(q:Ac)(c d:Int):Option (Empty⊕Ret):=gu (q.cl.length<=1000000) <|gu (q.bw.length<=1000000) <|gu (q.pe.length<=1000000) <|gu (0<=c) <|gu (c<iN (boL q.cl).length) <|el (q.cl) (0+c.toNat) fun(x14:Bool)=>br (!x14) (gu ((0+c.toNat).succ.le (boL q.cl).length) <|gu (c<iN q.bw.length) <|gu ((0+c.toNat).succ.le (Uq iV q.bw).length) <|some (.inr ([],AV.agg [Uw ((boL q.cl).set (0+c.toNat) (bV true)),Uw ((Uq iV q.bw).set (0+c.toNat) (iV d)),Uw (Uq iV (wo q.pe c))]))) (some (.inr ([],AV.agg [Uw (boL q.cl),Uw (Uq iV q.bw),Uw (Uq iV (wo q.pe c))])))
def rshsStep(q:Ac)(c d:Int):Empty->Option (Empty⊕Ret) | x=>x.elim
theorem Rp(q:Ac)(c d:Int)(o:Empty⊕Ret)(h:MS q c d=some o):Arr Ux Try.f60 0 (Pe q c d) PO (zB Try.f60) [] {n:=Try.f60.ntmps,fr:=AI 0 ([sgA q,.int .i64 c,.int .i64 d]),hp:=([])} o:=Scr.ok h mix (.rn 0 [] [] [] [] (al (u2 t2)) <|.gu fun a0=>.gu fun a1=>.gu fun a2=>have c0:=rcp_c (q.cl) (q.bw) (q.pe) c a0 a1 a2;.rn 0 [] [] [(9,hK c0 [] [])] [] (al (u2 (u2 (aj (k2 (aj t4 (ak (al (c0))))) (al (k2 (show Nat.le 1 [AV.agg [Uw (boL q.cl),Uw (Uq iv q.bw),Uw (Uq iv q.pe)]].length from(nL rfl)))))))) <|.gu fun a3=>.gu fun a4=>.el fun x14 a5=>.rn 0 [] [(14,bV x14)] [] [] (al (u2 (u2 (u2 (aj (k2 (aj a3 a4)) (aj (ak (Ar (f:=bV) a5)) s2)))))) <|.br (fun a6=>.gu fun a7=>.gu fun a8=>.gu fun a9=>.rt [31] [] [] [] [] [2,3,4] (aj (aj a6 (aj (u2 (u2 (u2 (u2 (u2 (u2 (u2 (aj (k2 (aj a3 a4)) (aj (ak a7) (aj (k2 (aj a3 a8)) (al (k2 a9)))))))))))) (al (u2 (al (k2 n11)))))) (al (aj (show(boL q.cl).length=((boL q.cl).set (0+c.toNat) (bV true)).length by simp) (aj (show q.bw.length=((Uq iv q.bw).set (0+c.toNat) (iv d)).length by simp) (al (show(wo q.pe c).length=(Uq iv (wo q.pe c)).length by simp))))))) (fun a6=>.rt [30] [] [] [] [] [2,3,4] (aj (aj a6 (al (u2 (al (k2 n11))))) (al (aj (show(boL q.cl).length=(boL q.cl).length from rfl) (aj (show q.bw.length=(Uq iv q.bw).length by simp) (al (show(wo q.pe c).length=(Uq iv (wo q.pe c)).length by simp)))))))) (by kernel_rfl)
theorem rshs_ct(q:Ac)(c d:Int)(r:Ret)(h:Aq (rshsStep q c d) (MS q c d) r):CT Ux 60 ([]) ([sgA q,.int .i64 c,.int .i64 d]) r.1 r.2:=
 CT.mach (fn:=Try.f60) (c:=zB Try.f60) (S:=Pe q c d) (hd:=PO) Try.func60 (by kernel_rfl) (nL rfl)
  (fun s o ho=>match s,ho with
   | x,_=>x.elim)
  (fun o ho=>Rp q c d o ho) h
def k19St(q:Aj)(c d:Int):Empty->St | x=>x.elim
def k19Hd:Empty->Nat | x=>x.elim
def Np(q:Aj)(c d:Int):Option (Empty⊕Ret):=br (!B3 q) (some (.inr ([],iV 20))) (br (decide (c<0)) (some (.inr ([],iV 19))) (br (decide (8<=c)) (some (.inr ([],iV 19))) (br (decide (d<0)) (some (.inr ([],iV 19))) (br (decide (iN (Uq iV q.ow).length<=d)) (some (.inr ([],iV 19))) (some (.inr ([],iV 0)))))))
def k19Step(q:Aj)(c d:Int):Empty->Option (Empty⊕Ret) | x=>x.elim
theorem k19En_ok(q:Aj)(c d:Int)(o:Empty⊕Ret)(h:Np q c d=some o):Arr Ux Try.f49 0 (k19St q c d) k19Hd (zB Try.f49) [] {n:=Try.f49.ntmps,fr:=AI 0 ([lkA q,.int .i64 c,.int .i64 d]),hp:=([])} o:=Scr.ok h mix (have c0:=LF (q);.rn 1 [] [] [(8,hK c0 [] [])] [] (ag t2 (al (u2 (aj (ak (aj t3 (al (c0)))) s2)))) <|.br (fun a0=>.rt [19] [] [] [] [] [] (aj (aj a0 s2) t2)) (fun a0=>.br (fun a1=>.rt [18,25] [] [] [] [] [] (aj (aj a0 (aj (u2 (u2 (u2 (aj a1 (aj a1 (ag a1 (u2 (k2 (aj t3 (u2 (k5 (al t3)))))))))))) (ak s2))) t2)) (fun a1=>.br (fun a2=>.rt [18,24,33] [] [] [] [] [] (aj (aj a0 (aj (u2 (u2 (u2 (ag a1 (ag a1 (ag a1 (u2 (aj a2 (aj a2 (ag a2 (u2 (k5 (al t3))))))))))))) (ak s2))) t2)) (fun a2=>.br (fun a3=>.rt [18,24,32,41] [] [] [] [] [] (aj (aj a0 (aj (u2 (u2 (u2 (ag a1 (ag a1 (ag a1 (u2 (ag a2 (ag a2 (ag a2 (u2 (aj a3 (aj a3 (aj a3 (aj a3 (aj a3 (al (aj a3 t2)))))))))))))))))) (ak s2))) t2)) (fun a3=>.rn 0 [18,24,32,40] [] [] [] (aj a0 (al (u2 (u2 (u2 (ag a1 (ag a1 (ag a1 (u2 (ag a2 (ag a2 (ag a2 (u2 (ag a3 (ag a3 (ag a3 (ag a3 (aj (aj a3 t3) (al (aj a3 t2)))))))))))))))))))) <|.br (fun a4=>.rt [24,32,40,53] [] [] [] [] [] (aj (aj a4 s2) t2)) (fun a4=>.rt [24,32,40,52] [] [] [] [] [] (aj (aj a4 s2) t2))))))) (by kernel_rfl)
theorem k19_ct(q:Aj)(c d:Int)(r:Ret)(h:Aq (k19Step q c d) (Np q c d) r):CT Ux 49 ([]) ([lkA q,.int .i64 c,.int .i64 d]) r.1 r.2:=
 CT.mach (fn:=Try.f49) (c:=zB Try.f49) (S:=k19St q c d) (hd:=k19Hd) Try.func49 (by kernel_rfl) (nL rfl)
  (fun s o ho=>match s,ho with
   | x,_=>x.elim)
  (fun o ho=>k19En_ok q c d o ho) h
def shE(n:Ab)(s:Ac):Int:=if Br n s=true then 0 else 20
def shO(n:Ab)(s:Ac):List Bool:=if Br n s=true then AF s else []
theorem Dv{n:Ab}{s:Ac}(h:Br n s=true):Ax n/\A4 n s/\s.cl.length<=48/\s.bw.length<=48/\s.pe.length<=48/\n.bs.length<=s.cl.length/\∀b∈s.pe,0<=b/\b<(s.cl.length:Int):=by obtain⟨hv,h⟩:=OU.1 h;have hc:=FO hv;have lc:=h.lc;have lb:=h.lb;have pl:=h.pl;exact⟨hv,h,by omega,by omega,by omega,by omega,fun b hb=>by have:=h.pb b hb;omega⟩
theorem ssh_c{n:Ab}(cl:List Bool)(bw pe:List Int)(hrw:Rows n.nx):CT Ux 24 [] [Af n,sgA ⟨cl,bw,pe⟩] [] (.tup [.lst (boL (shO n ⟨cl,bw,pe⟩)),.int .i64 (shE n ⟨cl,bw,pe⟩)]):=by
 generalize hs:(⟨cl,bw,pe⟩:Ac)=s;have k:=ssh_ct n s;unfold NH at k;unfold shO shE;cases h:Br n s with
 | false=>rw[h] at k;exact CT.w2 (k ([],_) (.val (by rw[Aa hrw];rfl)))
 | true=>
  obtain⟨hv,hS,l1,l2,l3,l4,l5⟩:=Dv h;rw[h] at k;refine k ([],_) ?_;rw[Aa hrw,Ae (by rfl),Aa (by omega)];refine M0 (L:=fun i b=>Ej.l0 (i:Int) b) (f:=fun c b=>c.set b.toNat true) (l:=s.pe) s.cl (fun i x hx h=>?_) ?_
  .have hlen:=Jz (s.pe.take i) s.cl;have h2:=l5 x (Ty hx);have hi:=(Tw.1 hx).1;have hL:=BM s.cl;generalize (s.pe.take i).foldl (fun c b=>c.set b.toNat true) s.cl=c at *;refine .to (show Gh n s i c=_ from ?_) h;unfold Gh;rw[JI hx,Aa h2.1,Aa (by simp only[iN];omega),Aa (show Nat.le _ _ from(by simp only[Tx];show 0+x.toNat+1<=_;omega)),zW i (by omega),TJ]
  .refine .to (show Gh n s s.pe.length (AF s)=_ from ?_) (.ret _);unfold Gh;rw[C3,Aa (by rw[BM,Tx,CI])];rfl
def anE(n:Ab)(s:Ac)(x:Int):Int:=if Br n s=true then (if 0<=x/\x<(n.bs.length:Int) then (if (AF s).getD x.toNat true=true then 24 else 0) else 19) else 20
def anO(n:Ab)(s:Ac)(x:Int):Ac:=if anE n s x=0 then anS s x else ⟨[],[],[]⟩
theorem anE_ok{n:Ab}{s:Ac}{x:Int}(h:anE n s x=0):Br n s=true/\(0<=x/\x<(n.bs.length:Int))/\(AF s).getD x.toNat true=false:=by
 unfold anE at h;split at h
 .rename_i h1;split at h
  .rename_i h2;split at h
   .cases h
   .rename_i h3;exact⟨h1,h2,by simpa using h3⟩
  .cases h
 .cases h
theorem wo_neg{n:Ab}{s:Ac}(h:A4 n s):wo s.pe (-1)=s.pe:=wo_none fun hm=>by have:=h.pb _ hm;omega
theorem rann_c{n:Ab}(cl:List Bool)(bw pe:List Int)(x:Int)(hrw:Rows n.nx):CT Ux 59 [] [Af n,sgA ⟨cl,bw,pe⟩,.int .i64 x] [] (.tup [sgA (anO n ⟨cl,bw,pe⟩ x),.int .i64 (anE n ⟨cl,bw,pe⟩ x)]):=by
 generalize hs:(⟨cl,bw,pe⟩:Ac)=s;have k:=rann_ct n s x;unfold L6 at k;unfold anO;have hbad:anE n s x≠0->(.tup [sgA (if anE n s x=0 then anS s x else ⟨[],[],[]⟩),.int .i64 (anE n s x)]:AV)=wk2 (.tup [.agg [.nils,.nils,.nils],.int .i64 (anE n s x)]):=fun h=>by rw[Tt h];rfl
 unfold anE at hbad ⊢
 cases h:Br n s with
 | false=>rw[h] at k hbad;rw[hbad (by simp)];exact CT.w2 (k ([],_) (.val (by rw[Aa hrw];rfl)))
 | true=>
 obtain⟨hv,hS,l1,l2,l3,l4,l5⟩:=Dv h;rw[h] at k hbad;simp only[Ts] at hbad ⊢
 by_cases h0:0<=x/\x<(n.bs.length:Int)
 case neg=>
  rw[Tt h0] at hbad ⊢
  rw[hbad (by decide)];refine CT.w2 (k ([],_) (.val ?_));rw[Aa hrw,Ae (by rfl)];by_cases h1:x<0
  .rw[Ak (Az h1)]
  .rw[Ae (An h1),Ak (Az (by rw[Tx];simp only[iN];omega))]
 rw[Ts h0] at hbad ⊢
 have hsl:=CI s;have hgx:=AR true (show x.toNat<(AF s).length by omega);cases hx:(AF s).getD x.toNat true with
 | true=>rw[hx,Ts rfl] at hbad;simp only[Ts];rw[hbad (by decide)];refine CT.w2 (k ([],_) (.val ?_));rw[Aa hrw,Ae (by rfl),Ae (An (by omega)),Ae (An (by rw[Tx];simp only[iN];omega)),Aa (by omega),Aa (by omega),Aa l5,Aa h0.1,AH hgx,hx,Ak rfl]
 | false=>
  have e:(.tup [sgA (anS s x),.int .i64 0]:AV) = .tup [.agg [.lst (boL s.cl),.lst (Uq (AV.int .i64) s.bw),.lst (Uq (AV.int .i64) (wo s.pe (-1))++[.int .i64 x])],.int .i64 0]:=by rw[wo_neg hS];unfold anS sgA lI;rw[TH];rfl
  have e2:(if (if false=true then (24:Int) else 0)=0 then anS s x else ⟨[],[],[]⟩)=anS s x:=rfl;have e3:(if false=true then (24:Int) else 0)=0:=rfl;rw[e2,e3,e];refine k ([],_) (.val ?_);have hw:=NY s.pe (-1);rw[Aa hrw,Ae (by rfl),Ae (An (by omega)),Ae (An (by rw[Tx];simp only[iN];omega)),Aa (by omega),Aa (by omega),Aa l5,Aa h0.1,AH hgx,hx,Ae rfl,Aa (by omega),Aa (by simp only[Tx,Ua,Ub];omega),Aa (by simp only[Tx,Ua,Ub];omega)]
theorem set_same{l:List Bool}{i:Nat}{v:Bool}(h:l.getD i true=v)(hi:i<l.length):l.set i v=l:=by
 apply List.ext_getElem?;intro j;rw[Un];split
 .rename_i e;subst e;rw[Tu hi];rw[Tv,Tu hi] at h;exact congrArg some h.symm
 .rfl
theorem rshs_c(cl:List Bool)(bw pe:List Int)(c d:Int)(h1:cl.length<=1000000)(h2:bw.length<=1000000)(h3:pe.length<=1000000)(hc:0<=c)(hc1:c<(cl.length:Int))(hc2:c<(bw.length:Int)):
  CT Ux 60 [] [sgA ⟨cl,bw,pe⟩,.int .i64 c,.int .i64 d] [] (sgA (clS ⟨cl,bw,pe⟩ c d)):=by
 refine rshs_ct ⟨cl,bw,pe⟩ c d ([],_) (.val ?_);have hL:=BM cl;unfold MS;simp only;rw[Aa h1,Aa h2,Aa h3,Aa hc,Aa (by simp only[iN];omega),TJ,AH (AR true (show c.toNat<cl.length by omega))];unfold clS;simp only;cases h:cl.getD c.toNat true with
 | false=>rw[Ak (by rfl),Aa (show Nat.le _ _ from(show c.toNat+1<=_ by omega)),Aa hc2,Aa (show Nat.le _ _ from(by rw[Tx];show c.toNat+1<=_;omega)),Tt (by simp)];unfold lI boL;rw[Um,Um]
 | true=>rw[Ae (by rfl),Ts rfl,set_same h (by omega)];rfl
def k9E(l:Aj)(c d:Int):Int:=if B3 l=true then (if 0<=c/\c<8/\0<=d/\d<(l.ow.length:Int) then 0 else 19) else 20
theorem k19_c(ow:List Int)(qu:List (List Int))(c d:Int):CT Ux 49 [] [lkA ⟨ow,qu⟩,.int .i64 c,.int .i64 d] [] (.int .i64 (k9E ⟨ow,qu⟩ c d)):=by
 refine k19_ct ⟨ow,qu⟩ c d ([],_) (.val ?_);unfold Np k9E;simp only;cases h:B3 ⟨ow,qu⟩ with
 | false=>rfl
 | true=>
  rw[Ae (by rfl),Ts rfl,Tx];by_cases h0:c<0
  .rw[Ak (Az h0),Tt (by omega)]
  by_cases h1:8<=c
  .rw[Ae (An h0),Ak (Az h1),Tt (by omega)]
  by_cases h2:d<0
  .rw[Ae (An h0),Ae (An h1),Ak (Az h2),Tt (by omega)]
  by_cases h3:(ow.length:Int)<=d
  .rw[Ae (An h0),Ae (An h1),Ae (An h2),Ak (Az h3),Tt (by omega)]
  .rw[Ae (An h0),Ae (An h1),Ae (An h2),Ae (An h3),Ts (by omega)]
end Go.Proofs.Ytedjkebooffjpaa
namespace Go.AX
variable {P:Program}
def sgL:List Nat->List Nat
 | []=>[]
 | x::r=>match Nat.ble 1000000 x with | true=>sgL r | false=>x::sgL r
def fzL:List Nat->List Nat
 | []=>[]
 | x::r=>match Nat.ble 1000000 x with | true=>(x-1000000)::fzL r | false=>fzL r
inductive A2 {σ:Type} (S:σ->St):Option (σ⊕Ret)->Type 1 where | br {X Y:Option (σ⊕Ret)} {b:Bool} (x:b=true->A2 S X) (y:b=false->A2 S Y):A2 S (Go.AX.br b X Y) | gu {X:Option (σ⊕Ret)} {p:Prop} (x:p->A2 S X):A2 S (Go.AX.gu p X) | el {β:Type} {F:β->Option (σ⊕Ret)} {l:List β} {i:Nat} (x:(v:β)->l[i]?=some v->A2 S (F v)):A2 S (Go.AX.el l i F) | rn {X:Option (σ⊕Ret)} (K:Nat) (d:List Nat) (e:List (Nat×AV)) (cl:List (Nat×AN)) (F:List (Nat×Nat)) {p:Prop} (hp:p) (x:A2 S X):A2 S X | lp (d:List Nat) (e:List (Nat×AV)) (cl:List (Nat×AN)) (F vl:List (Nat×Nat)) (sg vars:List Nat) {s:σ} {p:Prop} (hp:p):A2 S (some (.inl s)) | lq (d:List Nat) (e:List (Nat×AV)) (cl:List (Nat×AN)) (F vl:List (Nat×Nat)) (sg vars:List Nat) {s:σ} (s':St) {p:Prop} (hp:p) (h:s'=S s):A2 S (some (.inl s)) | rt (d:List Nat) (e:List (Nat×AV)) (cl:List (Nat×AN)) (F:List (Nat×Nat)) (sg fz:List Nat) {r:Ret} {p:Prop} (hp:p):A2 S (some (.inr r)) | no:A2 S none
def A2.go{σ:Type}{S:σ->St}(P:Program)(fn:Func)(m:Nat){X:Option (σ⊕Ret)}(t:A2 S X):Cfg:=A2.rec (motive:=fun _ _=>Cfg) (fun {_ _ b} _ _ ix iy c k st=>Raw.br b (fun h=>ix h c k st) (fun h=>iy h c k st)) (fun {_ p} _ ix c k st=>Raw.gu p (fun h=>ix h c k st)) (fun {_ _ l i} _ ix c k st=>Raw.el l i (fun v h=>ix v h c k st)) (fun K d e cl F _ _ _ ix c k st=>rnR ix (gk P F m 4000 K (hT (ds d) e cl) c k st)) (fun d e cl F vl sg vars _ _ _ c k st=>Raw.lp (Fp m vl (sgL sg) (fzL sg) vars (gm P F m 4000 (hT (ds d) e cl) c k st))) (fun d e cl F vl sg vars _ _ _ _ _ c k st=>Raw.lp (Fp m vl (sgL sg) (fzL sg) vars (gm P F m 4000 (hT (ds d) e cl) c k st))) (fun d e cl F sg fz _ _ _ c k st=>Raw.rt (Iu P fn m sg fz (gm P F m 4000 (hT (ds d) e cl) c k st))) (fun _ _ _=>Raw.no) t
def A2.er{σ:Type}{S:σ->St}(fn:Func)(hd:σ->Nat){X:Option (σ⊕Ret)}(t:A2 S X):Raw:=A2.rec (motive:=fun _ _=>Raw) (fun {_ _ b} _ _ ix iy=>Raw.br b ix iy) (fun {_ p} _ ix=>Raw.gu p ix) (fun {_ _ l i} _ ix=>Raw.el l i ix) (fun _ _ _ _ _ p _ _ ix=>Raw.rn p ix) (fun _ _ _ _ _ _ _ s p _=>Raw.lp (some (Av fn (hd s),AK fn (hd s),S s,p))) (fun _ _ _ _ _ _ _ s s' p _ _=>Raw.lp (some (Av fn (hd s),AK fn (hd s),s',p))) (fun _ _ _ _ _ _ r p _=>Raw.rt (some (r.1,r.2,p))) Raw.no t
theorem A2.sound{σ:Type}{S:σ->St}{fn:Func}{m:Nat}{hd:σ->Nat}(hmix:P.follows .mixedOrders=true){X:Option (σ⊕Ret)}(t:A2 S X):
  ∀c k st,t.go P fn m c k st=t.er fn hd->∀o,X=some o->Cx P fn m S hd c k st o:=by
 induction t with
 | br x y ix iy=>
  intro c k st h o ho;have h':=h;simp only[A2.go,A2.er,Raw.br.injEq,Tm,true_and] at h';rcases Mw ho with ⟨hb,ho⟩ | ⟨hb,ho⟩
  .exact ix hb c k st (congrFun h'.1 hb) o ho
  .exact iy hb c k st (congrFun h'.2 hb) o ho
 | gu x ix=>intro c k st h o ho;have h':=h;simp only[A2.go,A2.er,Raw.gu.injEq,Tm,true_and] at h';obtain⟨hp,ho⟩:=L2 ho;exact ix hp c k st (congrFun h' hp) o ho
 | el x ix=>intro c k st h o ho;have h':=h;simp only[A2.go,A2.er,Raw.el.injEq,Tm,true_and] at h';obtain⟨v,hv,ho⟩:=MZ ho;exact ix v hv c k st (congrFun (congrFun h' v) hv) o ho
 | rn K d e cl F hp x ix=>
  intro c k st h o ho;have h':rnR (fun c k st=>x.go P fn m c k st) (gk P F m 4000 K (hT (ds d) e cl) c k st)=Raw.rn _ (x.er fn hd):=h;generalize hg:gk P F m 4000 K (hT (ds d) e cl) c k st=y at h';cases y with
  | none=>simp[rnR] at h'
  | some y=>
   obtain⟨c',k',st',p'⟩:=y;simp only[rnR,Raw.rn.injEq] at h';have hp':p':=h'.1 ▸ hp;have hr:=ix c' k' st' h'.2 o ho;cases o with
   | inl s=>exact fun post hk=>E1 hmix _ _ _ _ _ _ _ _ _ _ hg hp' (hr post hk)
   | inr r=>exact E1 hmix _ _ _ _ _ _ _ _ _ _ hg hp' hr
 | lp d e cl F vl sg vars hp=>intro c k st h o ho;cases ho;have h':=h;simp only[A2.go,A2.er,Raw.lp.injEq] at h';exact Cx.loop hmix h' hp
 | lq d e cl F vl sg vars s' hp hs=>intro c k st h o ho;cases ho;have h':=h;simp only[A2.go,A2.er,Raw.lp.injEq] at h';subst hs;exact Cx.loop hmix h' hp
 | rt d e cl F sg fz hp=>intro c k st h o ho;cases ho;have h':=h;simp only[A2.go,A2.er,Raw.rt.injEq] at h';exact Cx.ret hmix h' hp
 | no=>intro c k st h o ho;cases ho
theorem A2.ok{σ:Type}{S:σ->St}{fn:Func}{m:Nat}{hd:σ->Nat}{X:Option (σ⊕Ret)}{c:Code}{k:List Ks}{st:St}{o:σ⊕Ret}(ho:X=some o)(hmix:P.follows .mixedOrders=true)(t:A2 S X)
  (h:t.go P fn m (.inl c) k st=t.er fn hd):Arr P fn m S hd c k st o:=by
 have:=A2.sound hmix t (.inl c) k st h o ho;cases o<;>exact this
def endH(vars:List Nat):Nat->Option (DJ×St×Prop)->Option (Code×List Ks×St×Prop) | 0,some (.loop c k,st,p)=>some (c,k,⟨st.n,vars.map fun s=>(s,Ao st.fr s),st.hp⟩,p) | _,_=>none
def endV(P:Program)(fn:Func):Nat->Option (DJ×St×Prop)->Option (St×AV×Prop)
 | 0,some (.done e,st,p)=>match Hk e&&Nat.blt 0 st.n,GC P fn st with
  | true,some v=>some (⟨st.n,[],st.hp⟩,v,p)
  | _,_=>none
 | _,_=>none
def HI(m:Nat)(σ fz vars:List Nat):Option ((Code⊕Exit)×List Ks×St×Prop)->Option ((Code⊕Exit)×List Ks×St×Prop)
 | some (.inr .normal,.code c::k,st,p)=>match FF m σ fz,st.ren σ fz vars with
  | true,some (s,q)=>some (.inl c,k,s,p/\q)
  | _,_=>none
 | _=>none
theorem On{m:Nat}{σ fz vars:List Nat}{x:Option ((Code⊕Exit)×List Ks×St×Prop)}{c':Code⊕Exit}{k':List Ks}{st':St}{p:Prop}(h:HI m σ fz vars x=some (c',k',st',p))(hp:p){post:Exit->St->Prop}(hh:F8 P m post c' k' st'):
  ∃c k st q,x=some (c,k,st,q)/\q/\F8 P m post c k st:=by
 unfold HI at h;split at h
 .rename_i c k st q;split at h
  .rename_i s q' h1 h2;simp only[Ta,Ti] at h;obtain⟨rfl,rfl,rfl,rfl⟩:=h;exact⟨_,_,_,_,rfl,hp.1,T.ren (GQ h1 h2 hp.2) hh⟩
  .cases h
 .cases h
inductive AY:Type 1 where | br (b:Bool) (x:b=true->AY) (y:b=false->AY) | gu (p:Prop) (x:p->AY) | el {β:Type} (l:List β) (i:Nat) (x:(v:β)->l[i]?=some v->AY) | rn (p:Prop) (x:AY) | lp (x:Option (Code×List Ks×St×Prop)) | rt (x:Option (List (Option Blk)×AV×Prop)) | lr (x:Option (St×AV×Prop)) | no
abbrev Cfg3:=Code⊕Exit->List Ks->St->AY
def ES(f:Code⊕Exit->List Ks->St->AY):Option ((Code⊕Exit)×List Ks×St×Prop)->AY | some (c,k,st,p)=>.rn p (f c k st) | none=>.no
inductive AS {σ:Type} (S:σ->St):Option (σ⊕Ret)->Type 1 where | br {X Y:Option (σ⊕Ret)} {b:Bool} (x:b=true->AS S X) (y:b=false->AS S Y):AS S (Go.AX.br b X Y) | gu {X:Option (σ⊕Ret)} {p:Prop} (x:p->AS S X):AS S (Go.AX.gu p X) | el {β:Type} {F:β->Option (σ⊕Ret)} {l:List β} {i:Nat} (x:(v:β)->l[i]?=some v->AS S (F v)):AS S (Go.AX.el l i F) | rn {X:Option (σ⊕Ret)} (K:Nat) (d:List Nat) (e:List (Nat×AV)) (cl:List (Nat×AN)) (F:List (Nat×Nat)) {p:Prop} (hp:p) (x:AS S X):AS S X | rf {X:Option (σ⊕Ret)} (K:Nat) (d:List Nat) (e:List (Nat×AV)) (cl:List (Nat×AN)) (F:List (Nat×Nat)) (sg fz vars:List Nat) {p:Prop} (hp:p) (x:AS S X):AS S X | lp (d:List Nat) (e:List (Nat×AV)) (cl:List (Nat×AN)) (F vl:List (Nat×Nat)) (sg vars:List Nat) {s:σ} {p:Prop} (hp:p):AS S (some (.inl s)) | lq (d:List Nat) (e:List (Nat×AV)) (cl:List (Nat×AN)) (F vl:List (Nat×Nat)) (sg vars:List Nat) {s:σ} (s':St) {p:Prop} (hp:p) (h:s'=S s):AS S (some (.inl s)) | rt (d:List Nat) (e:List (Nat×AV)) (cl:List (Nat×AN)) (F:List (Nat×Nat)) (sg fz:List Nat) {r:Ret} {p:Prop} (hp:p):AS S (some (.inr r)) | lr (d:List Nat) (e:List (Nat×AV)) (cl:List (Nat×AN)) (F:List (Nat×Nat)) (vars:List Nat) {s:σ} (s':St) {p:Prop} (hp:p) (h:Ren 0 s' (S s)):AS S (some (.inl s)) | rr (d:List Nat) (e:List (Nat×AV)) (cl:List (Nat×AN)) (F:List (Nat×Nat)) {r:Ret} (s':St) (v:AV) {p:Prop} (hp:p) (h:∃st1,Ren 0 {s' with fr:=[(0,v)]} st1/\st1.hp=r.1/\Ao st1.fr 0=r.2):AS S (some (.inr r)) | no:AS S none
def AS.go{σ:Type}{S:σ->St}(P:Program)(fn:Func)(m:Nat){X:Option (σ⊕Ret)}(t:AS S X):Cfg3:=AS.rec (motive:=fun _ _=>Cfg3) (fun {_ _ b} _ _ ix iy c k st=>AY.br b (fun h=>ix h c k st) (fun h=>iy h c k st)) (fun {_ p} _ ix c k st=>AY.gu p (fun h=>ix h c k st)) (fun {_ _ l i} _ ix c k st=>AY.el l i (fun v h=>ix v h c k st)) (fun K d e cl F _ _ _ ix c k st=>ES ix (gk P F m 4000 K (hT (ds d) e cl) c k st)) (fun K d e cl F sg fz vars _ _ _ ix c k st=>ES ix (HI m sg fz vars (gk P F m 4000 K (hT (ds d) e cl) c k st))) (fun d e cl F vl sg vars _ _ _ c k st=>AY.lp (Fp m vl (sgL sg) (fzL sg) vars (gm P F m 4000 (hT (ds d) e cl) c k st))) (fun d e cl F vl sg vars _ _ _ _ _ c k st=>AY.lp (Fp m vl (sgL sg) (fzL sg) vars (gm P F m 4000 (hT (ds d) e cl) c k st))) (fun d e cl F sg fz _ _ _ c k st=>AY.rt (Iu P fn m sg fz (gm P F m 4000 (hT (ds d) e cl) c k st))) (fun d e cl F vars _ _ _ _ _ c k st=>AY.lp (endH vars m (gm P F m 4000 (hT (ds d) e cl) c k st))) (fun d e cl F _ _ _ _ _ _ c k st=>AY.lr (endV P fn m (gm P F m 4000 (hT (ds d) e cl) c k st))) (fun _ _ _=>AY.no) t
def AS.er{σ:Type}{S:σ->St}(fn:Func)(hd:σ->Nat){X:Option (σ⊕Ret)}(t:AS S X):AY:=AS.rec (motive:=fun _ _=>AY) (fun {_ _ b} _ _ ix iy=>AY.br b ix iy) (fun {_ p} _ ix=>AY.gu p ix) (fun {_ _ l i} _ ix=>AY.el l i ix) (fun _ _ _ _ _ p _ _ ix=>AY.rn p ix) (fun _ _ _ _ _ _ _ _ p _ _ ix=>AY.rn p ix) (fun _ _ _ _ _ _ _ s p _=>AY.lp (some (Av fn (hd s),AK fn (hd s),S s,p))) (fun _ _ _ _ _ _ _ s s' p _ _=>AY.lp (some (Av fn (hd s),AK fn (hd s),s',p))) (fun _ _ _ _ _ _ r p _=>AY.rt (some (r.1,r.2,p))) (fun _ _ _ _ _ s s' p _ _=>AY.lp (some (Av fn (hd s),AK fn (hd s),s',p))) (fun _ _ _ _ _ s' v p _ _=>AY.lr (some (s',v,p))) AY.no t
theorem AS.sound{σ:Type}{S:σ->St}{fn:Func}{m:Nat}{hd:σ->Nat}(hmix:P.follows .mixedOrders=true){X:Option (σ⊕Ret)}(t:AS S X):
  ∀c k st,t.go P fn m c k st=t.er fn hd->∀o,X=some o->Cx P fn m S hd c k st o:=by
 induction t with
 | br x y ix iy=>
  intro c k st h o ho;have h':=h;simp only[AS.go,AS.er,AY.br.injEq,Tm,true_and] at h';rcases Mw ho with ⟨hb,ho⟩ | ⟨hb,ho⟩
  .exact ix hb c k st (congrFun h'.1 hb) o ho
  .exact iy hb c k st (congrFun h'.2 hb) o ho
 | gu x ix=>intro c k st h o ho;have h':=h;simp only[AS.go,AS.er,AY.gu.injEq,Tm,true_and] at h';obtain⟨hp,ho⟩:=L2 ho;exact ix hp c k st (congrFun h' hp) o ho
 | el x ix=>intro c k st h o ho;have h':=h;simp only[AS.go,AS.er,AY.el.injEq,Tm,true_and] at h';obtain⟨v,hv,ho⟩:=MZ ho;exact ix v hv c k st (congrFun (congrFun h' v) hv) o ho
 | rn K d e cl F hp x ix=>
  intro c k st h o ho;have h':ES (fun c k st=>x.go P fn m c k st) (gk P F m 4000 K (hT (ds d) e cl) c k st)=AY.rn _ (x.er fn hd):=h;generalize hg:gk P F m 4000 K (hT (ds d) e cl) c k st=y at h';cases y with
  | none=>simp[ES] at h'
  | some y=>
   obtain⟨c',k',st',p'⟩:=y;simp only[ES,AY.rn.injEq] at h';have hp':p':=h'.1 ▸ hp;have hr:=ix c' k' st' h'.2 o ho;cases o with
   | inl s=>exact fun post hk=>E1 hmix _ _ _ _ _ _ _ _ _ _ hg hp' (hr post hk)
   | inr r=>exact E1 hmix _ _ _ _ _ _ _ _ _ _ hg hp' hr
 | rf K d e cl F sg fz vars hp x ix=>
  intro c k st h o ho;have h':ES (fun c k st=>x.go P fn m c k st) (HI m sg fz vars (gk P F m 4000 K (hT (ds d) e cl) c k st))=AY.rn _ (x.er fn hd):=h;generalize hg:HI m sg fz vars (gk P F m 4000 K (hT (ds d) e cl) c k st)=y at h';cases y with
  | none=>simp[ES] at h'
  | some y=>
   obtain⟨c',k',st',p'⟩:=y;simp only[ES,AY.rn.injEq] at h';have hp':p':=h'.1 ▸ hp;have hr:=ix c' k' st' h'.2 o ho;cases o with
   | inl s=>intro post hk;obtain⟨c1,k1,st1,q1,g1,g2,g3⟩:=On hg hp' (hr post hk);exact E1 hmix _ _ _ _ _ _ _ _ _ _ g1 g2 g3
   | inr r=>obtain⟨c1,k1,st1,q1,g1,g2,g3⟩:=On hg hp' hr;exact E1 hmix _ _ _ _ _ _ _ _ _ _ g1 g2 g3
 | lp d e cl F vl sg vars hp=>intro c k st h o ho;cases ho;have h':=h;simp only[AS.go,AS.er,AY.lp.injEq] at h';exact Cx.loop hmix h' hp
 | lq d e cl F vl sg vars s' hp hs=>intro c k st h o ho;cases ho;have h':=h;simp only[AS.go,AS.er,AY.lp.injEq] at h';subst hs;exact Cx.loop hmix h' hp
 | rt d e cl F sg fz hp=>intro c k st h o ho;cases ho;have h':=h;simp only[AS.go,AS.er,AY.rt.injEq] at h';exact Cx.ret hmix h' hp
 | lr d e cl F vars s' hp hs=>
  intro c k st h o ho;cases ho;have h':=h;simp only[AS.go,AS.er,AY.lp.injEq] at h';unfold endH at h';split at h'
  .rename_i c' k' st1 q hg;simp only[Ta,Ti] at h';obtain⟨rfl,rfl,rfl,rfl⟩:=h';intro post hk;exact KY hmix 4000 _ c k st _ _ _ hg hp (hk _ ((Ren.slots fun s=>PR (fun s=>Ao st1.fr s) vars s).trans hs))
  .cases h'
 | rr d e cl F s' v hp hs=>
  intro c k st h o ho;cases ho;have h':=h;simp only[AS.go,AS.er,AY.lr.injEq] at h';unfold endV at h';split at h'
  .rename_i e1 st1 q hg;split at h'
   .rename_i v1 hr1 hv;simp only[Ta,Ti] at h';obtain⟨rfl,rfl,rfl⟩:=h';simp only[TC] at hr1;obtain⟨st2,k1,k2,k3⟩:=hs;refine KY (post:=Fin P fn 0 _ _) hmix 4000 _ c k st _ _ _ hg hp ⟨?_,v1,st2,hv,k1,k2,k3,TV hr1.2⟩;cases e1<;>simp[Hk] at hr1<;>simp
   .cases h'
  .cases h'
 | no=>intro c k st h o ho;cases ho
theorem AS.ok{σ:Type}{S:σ->St}{fn:Func}{m:Nat}{hd:σ->Nat}{X:Option (σ⊕Ret)}{c:Code}{k:List Ks}{st:St}{o:σ⊕Ret}(ho:X=some o)(hmix:P.follows .mixedOrders=true)(t:AS S X)
  (h:t.go P fn m (.inl c) k st=t.er fn hd):Arr P fn m S hd c k st o:=by
 have:=AS.sound hmix t (.inl c) k st h o ho;cases o<;>exact this
end Go.AX
namespace Go.Proofs.Ytedjkebooffjpaa
def AJ(A:List (List Int))(R k:Nat)(B:List (List Int)):List AV:=gL A++AV.sl R 0 k::gL B
theorem IT(A:List (List Int))(R k:Nat)(B:List (List Int)):(AJ A R k B).length=A.length+1+B.length:=by unfold AJ gL;simp;omega
theorem Sx{l:List Prop}(h:∀q∈l,q):l.foldr And True:=by
 induction l with
 | nil=>trivial
 | cons x r ih=>exact⟨h x (by simp),ih fun q hq=>h q (TN _ hq)⟩
theorem B4{α β:Type}{f:α->Option β}{x:α}{r:List α}{y:β}{l:List β}(h1:f x=some y)(h2:Cc f r=some l):Cc f (x::r)=some (y::l):=by simp only[Cc,h1,h2]
theorem PV(σ fz:List Nat)(hp:List (Option Blk)):∀A:List (List Int),Cc (HK σ fz hp) (gL A)=some ((gL A).map fun v=>(v,True)) | []=>rfl | x::A=>B4 (y:=(lI x,True)) rfl (PV σ fz hp A)
theorem OX{σ fz:List Nat}{hp:List (Option Blk)}{R k:Nat}{B:List (List Int)}{x:AV}{p:Prop}(h:DC σ fz hp R 0 k=some (x,p)): ∀A:List (List Int),Cc (HK σ fz hp) (AJ A R k B)=some (((gL A).map fun v=>(v,True))++(x,p)::((gL B).map fun v=>(v,True))) | []=>B4 (y:=(x,p)) h (PV σ fz hp B) | y::A=>B4 (y:=(lI y,True)) rfl (OX h A)
theorem noref_sl(A:List (List Int))(R k:Nat)(B:List (List Int)):Df (AJ A R k B)=false:=by unfold Df AJ;rw[List.all_append,List.all_cons];simp[BE,AV.cells,AV.noref]
theorem noref_gL(A:List (List Int)):Df (gL A)=true:=by unfold Df gL;rw[List.all_map,TI];intro x _;rfl
theorem PK{σ fz:List Nat}{hp:List (Option Blk)}{A:List (List Int)}{R k z:Nat}{B:List (List Int)}{x:AV}{p:Prop}(h:DC σ fz hp R 0 k=some (x,p))(hp':p):
  ∃q,BN σ fz hp (Blk.mk (AJ A R k B) z false true none)=some (Blk.mk (gL A++x::gL B) z (Df (gL A++x::gL B)) true none,q)/\q:=by
 have e1:((((gL A).map fun v=>(v,True))++(x,p)::((gL B).map fun v=>(v,True))):List (AV×Prop)).map (·.1)=gL A++x::gL B:=by rw[TH,Tq,Ul,Ul];have:((fun y:AV×Prop=>y.1) ∘ fun v:AV=>(v,True))=id:=rfl;rw[this,List.map_id,List.map_id]
 refine⟨((((gL A).map fun v=>(v,True))++(x,p)::((gL B).map fun v=>(v,True))).map (·.2)).foldr And True,?_,Sx fun q hq=>?_⟩
 .unfold BN;simp only[OX h A,e1]
 .rw[TH,Tq,Ul,Ul] at hq;rcases T0.1 hq with hq | hq
  .obtain⟨_,_,rfl⟩:=T1.1 hq;trivial
  .rcases TZ.1 hq with rfl | hq
   .exact hp'
   .obtain⟨_,_,rfl⟩:=T1.1 hq;trivial
theorem MU{σ fz:List Nat}{hp:List (Option Blk)}(A:List (List Int)){R k z R':Nat}(B:List (List Int))(h:C6 σ R=some R'):
  ∃q,BN σ fz hp (Blk.mk (AJ A R k B) z false true none)=some (Blk.mk (AJ A R' k B) z false true none,q)/\q:=by
 obtain⟨q,h1,h2⟩:=PK (fz:=fz) (hp:=hp) (A:=A) (R:=R) (k:=k) (z:=z) (B:=B) (x:=.sl R' 0 k) (p:=True) (σ:=σ) (by unfold DC;rw[h]) trivial;have e:Df (gL A++ .sl R' 0 k::gL B)=false:=noref_sl A R' k B;rw[e] at h1;exact⟨q,h1,h2⟩
theorem renB_fz{σ fz:List Nat}{hp:List (Option Blk)}(A:List (List Int)){R k z:Nat}(B:List (List Int)){r:List Int}(h:C6 σ R=none)(hm:Bp fz R=true)(hm2:Bp fz (R+1000)=false)(hr:nth hp R=some (Blk.mk (r.map (AV.int .i64)) 1 true true none))(hk:k=r.length):
  ∃q,BN σ fz hp (Blk.mk (AJ A R k B) z false true none)=some (Blk.mk (gL (A++r::B)) z true true none,q)/\q:=by
 obtain⟨q,h1,h2⟩:=PK (fz:=fz) (hp:=hp) (A:=A) (R:=R) (k:=k) (z:=z) (B:=B) (x:=lI r) (p:=k=(r.map (AV.int .i64)).length) (σ:=σ) (by unfold DC;rw[h,hm,hr];simp only[hm2];rfl) (by rw[hk,Tx]);have e:gL A++lI r::gL B=gL (A++r::B):=by unfold gL;rw[TH];rfl
 rw[e,noref_gL] at h1;exact⟨q,h1,h2⟩
def c19F(q:Aj)(x v0:Int)(v1:List (List Int))(v2:List Int)(v3:List (List Int)):St:=St.mk 28 [(1,.ptr 0 0 0),(2,.ptr 1 0 0),(3,.ptr 2 0 0),(4,.int .i64 v0)] [some (Blk.mk [.agg [.lst (Uq (AV.int .i64) q.ow),.lst (gL q.qu)]] 2 true true none),some (Blk.mk [.agg [.nils,.nils]] 2 true true none),some (Blk.mk [.agg [.sl 3 0 q.ow.length,.sl 4 0 (v1.length+1+v3.length)]] 2 false true none),some (Blk.mk (Uq (AV.int .i64) q.ow) 1 true true none),some (Blk.mk (AJ v1 5 v2.length v3) 1 false true none),some (Blk.mk (v2.map (AV.int .i64)) 1 true true none)]
def KT(q:Aj)(x:Int)(v1:List (List Int))(v2:List Int)(v3:List (List Int)):Ret:=([some (Blk.mk (Uq (AV.int .i64) q.ow) 1 true true none),some (Blk.mk (AJ v1 2 v2.length v3) 1 false true none),some (Blk.mk (v2.map (AV.int .i64)) 1 true true none)],.agg [.sl 0 0 q.ow.length,.sl 1 0 (v1.length+1+v3.length)])
theorem J7{σ fz vars:List Nat}{st:St}{L:List (Option Blk×Prop)}(h:DT σ fz st.hp=some L):st.ren σ fz vars=some (⟨st.n,vars.map fun s=>(s,(BB σ fz st.hp 3 (AX.Ao st.fr s)).1),L.map (·.1)⟩,(vars.map fun s=>(BB σ fz st.hp 3 (AX.Ao st.fr s)).2).foldr And ((L.map (·.2)).foldr And True)):=by unfold St.ren;rw[h]
theorem Qg(A:List (List Int))(R k:Nat):Uq lI A++[AV.sl R 0 k]=AJ A R k []:=rfl
theorem PP(A:List (List Int))(R k:Nat)(B:List (List Int))(r:List Int):AJ A R k B++[Uw (r.map (AV.int .i64))]=AJ A R k (B++[r]):=by unfold AJ gL;rw[List.append_assoc,List.cons_append,TH];rfl
theorem P0(k:Nat)(A:List (List Int)):Js k (gL A):=fun e he c hc=>by unfold gL at he;obtain⟨r,_,rfl⟩:=T1.1 he;rw[Tj.1 hc];rfl
theorem Kw{n R:Nat}(h:R<n)(A:List (List Int))(k:Nat)(B:List (List Int)):Js n (AJ A R k B):=fun e he c hc=>by
 rcases T0.1 he with he | he
 .exact P0 n A e he c hc
 .rcases TZ.1 he with rfl | he
  .rw[Tj.1 hc];exact Nat.ble_eq_true_of_le h
  .exact P0 n B e he c hc
theorem c19ra{q:Aj}{x v0:Int}{v1:List (List Int)}{x21:List Int}{fr:List (Nat×AV)}{n7 n5:Nat}{b:Blk}(h1:AX.Ao fr 1 = .ptr 0 0 0)(h2:AX.Ao fr 2 = .ptr 1 0 0)(h3:AX.Ao fr 3 = .ptr 2 0 0)(h4:AX.Ao fr 4 = .int .i64 v0)
  (h7:n7=(Uq lI v1).length+1) (h5:n5=(Uq (AV.int .i64) x21).length):
  Ren 0 (St.mk 28 fr [some (Blk.mk [.agg [.lst (Uq (AV.int .i64) q.ow),.lst (gL q.qu)]] 2 true true none),some (Blk.mk [.agg [.nils,.nils]] 2 true true none),some (Blk.mk [.agg [.sl 3 0 q.ow.length,.sl 7 0 n7]] 2 false true none),some (Blk.mk (Uq (AV.int .i64) q.ow) 1 true true none),none,some (Blk.mk (Uq (AV.int .i64) x21) 1 true true none),some b,some (Blk.mk (Uq lI v1++[.sl 5 0 n5]) 1 false true none)]) (c19F q x v0 v1 x21 []):=by
 rw[Tx] at h7 h5;subst h7 h5;rw[Qg];refine(Ren.keys (fr':=[(1,.ptr 0 0 0),(2,.ptr 1 0 0),(3,.ptr 2 0 0),(4,.int .i64 v0)]) ⟨h1.symm,h2.symm,h3.symm,h4.symm,trivial⟩).trans ?_;obtain⟨Q,hQ,hq⟩:=MU (σ:=[0,1,2,3,7,5]) (fz:=[]) (hp:=[some (Blk.mk [.agg [.lst (Uq (AV.int .i64) q.ow),.lst (gL q.qu)]] 2 true true none),some (Blk.mk [.agg [.nils,.nils]] 2 true true none),some (Blk.mk [.agg [.sl 3 0 q.ow.length,.sl 7 0 (v1.length+1)]] 2 false true none),some (Blk.mk (Uq (AV.int .i64) q.ow) 1 true true none),none,some (Blk.mk (Uq (AV.int .i64) x21) 1 true true none),some b,some (Blk.mk (AJ v1 5 x21.length []) 1 false true none)]) v1 (R:=5) (k:=x21.length) (z:=1) [] (R':=5) rfl;have e:DT [0,1,2,3,7,5] [] [some (Blk.mk [.agg [.lst (Uq (AV.int .i64) q.ow),.lst (gL q.qu)]] 2 true true none),some (Blk.mk [.agg [.nils,.nils]] 2 true true none),some (Blk.mk [.agg [.sl 3 0 q.ow.length,.sl 7 0 (v1.length+1)]] 2 false true none),some (Blk.mk (Uq (AV.int .i64) q.ow) 1 true true none),none,some (Blk.mk (Uq (AV.int .i64) x21) 1 true true none),some b,some (Blk.mk (AJ v1 5 x21.length []) 1 false true none)]=some _:=B4 rfl (B4 rfl (B4 rfl (B4 rfl (B4 (y:=(some (Blk.mk (AJ v1 5 x21.length []) 1 false true none),Q)) (by
  show(match BN _ _ _ (Blk.mk (AJ v1 5 x21.length []) 1 false true none) with | some x=>some (some x.1,x.2) | none=>none)=_;rw[hQ]) (B4 rfl rfl)))))
 have R:=Ren.of (m:=0) [0,1,2,3,7,5] [] [1,2,3,4] (J7 (st:=⟨28,[(1,.ptr 0 0 0),(2,.ptr 1 0 0),(3,.ptr 2 0 0),(4,.int .i64 v0)],[some (Blk.mk [.agg [.lst (Uq (AV.int .i64) q.ow),.lst (gL q.qu)]] 2 true true none),some (Blk.mk [.agg [.nils,.nils]] 2 true true none),some (Blk.mk [.agg [.sl 3 0 q.ow.length,.sl 7 0 (v1.length+1)]] 2 false true none),some (Blk.mk (Uq (AV.int .i64) q.ow) 1 true true none),none,some (Blk.mk (Uq (AV.int .i64) x21) 1 true true none),some b,some (Blk.mk (AJ v1 5 x21.length []) 1 false true none)]⟩) (vars:=[1,2,3,4]) e) ⟨trivial,trivial,trivial,trivial,trivial,trivial,⟨⟨trivial,trivial,trivial⟩,trivial⟩,trivial,hq,trivial,trivial⟩ rfl rfl rfl;exact R
theorem c19rb{q:Aj}{x v0:Int}{v1:List (List Int)}{v2:List Int}{v3:List (List Int)}{x21:List Int}{fr:List (Nat×AV)}{n7:Nat}{b:Blk}(h1:AX.Ao fr 1 = .ptr 0 0 0)(h2:AX.Ao fr 2 = .ptr 1 0 0)(h3:AX.Ao fr 3 = .ptr 2 0 0)(h4:AX.Ao fr 4 = .int .i64 v0)
  (h7:n7=(AJ v1 5 v2.length v3).length+1):
  Ren 0 (St.mk 28 fr [some (Blk.mk [.agg [.lst (Uq (AV.int .i64) q.ow),.lst (gL q.qu)]] 2 true true none),some (Blk.mk [.agg [.nils,.nils]] 2 true true none),some (Blk.mk [.agg [.sl 3 0 q.ow.length,.sl 7 0 n7]] 2 false true none),some (Blk.mk (Uq (AV.int .i64) q.ow) 1 true true none),none,some (Blk.mk (Uq (AV.int .i64) v2) 1 true true none),some b,some (Blk.mk (AJ v1 5 v2.length v3++[Uw (Uq (AV.int .i64) x21)]) 1 false true none)]) (c19F q x v0 v1 v2 (v3++[x21])):=by
 have h7:n7=v1.length+1+(v3++[x21]).length:=by rw[h7,IT,TQ];simp;omega
 subst h7;rw[PP];generalize v3++[x21]=v3;refine(Ren.keys (fr':=[(1,.ptr 0 0 0),(2,.ptr 1 0 0),(3,.ptr 2 0 0),(4,.int .i64 v0)]) ⟨h1.symm,h2.symm,h3.symm,h4.symm,trivial⟩).trans ?_;obtain⟨Q,hQ,hq⟩:=MU (σ:=[0,1,2,3,7,5]) (fz:=[]) (hp:=[some (Blk.mk [.agg [.lst (Uq (AV.int .i64) q.ow),.lst (gL q.qu)]] 2 true true none),some (Blk.mk [.agg [.nils,.nils]] 2 true true none),some (Blk.mk [.agg [.sl 3 0 q.ow.length,.sl 7 0 (v1.length+1+v3.length)]] 2 false true none),some (Blk.mk (Uq (AV.int .i64) q.ow) 1 true true none),none,some (Blk.mk (Uq (AV.int .i64) v2) 1 true true none),some b,some (Blk.mk (AJ v1 5 v2.length v3) 1 false true none)]) v1 (R:=5) (k:=v2.length) (z:=1) v3 (R':=5) rfl;have e:DT [0,1,2,3,7,5] [] [some (Blk.mk [.agg [.lst (Uq (AV.int .i64) q.ow),.lst (gL q.qu)]] 2 true true none),some (Blk.mk [.agg [.nils,.nils]] 2 true true none),some (Blk.mk [.agg [.sl 3 0 q.ow.length,.sl 7 0 (v1.length+1+v3.length)]] 2 false true none),some (Blk.mk (Uq (AV.int .i64) q.ow) 1 true true none),none,some (Blk.mk (Uq (AV.int .i64) v2) 1 true true none),some b,some (Blk.mk (AJ v1 5 v2.length v3) 1 false true none)]=some _:=B4 rfl (B4 rfl (B4 rfl (B4 rfl (B4 (y:=(some (Blk.mk (AJ v1 5 v2.length v3) 1 false true none),Q)) (by
  show(match BN _ _ _ (Blk.mk (AJ v1 5 v2.length v3) 1 false true none) with | some x=>some (some x.1,x.2) | none=>none)=_;rw[hQ]) (B4 rfl rfl)))))
 have R:=Ren.of (m:=0) [0,1,2,3,7,5] [] [1,2,3,4] (J7 (st:=⟨28,[(1,.ptr 0 0 0),(2,.ptr 1 0 0),(3,.ptr 2 0 0),(4,.int .i64 v0)],[some (Blk.mk [.agg [.lst (Uq (AV.int .i64) q.ow),.lst (gL q.qu)]] 2 true true none),some (Blk.mk [.agg [.nils,.nils]] 2 true true none),some (Blk.mk [.agg [.sl 3 0 q.ow.length,.sl 7 0 (v1.length+1+v3.length)]] 2 false true none),some (Blk.mk (Uq (AV.int .i64) q.ow) 1 true true none),none,some (Blk.mk (Uq (AV.int .i64) v2) 1 true true none),some b,some (Blk.mk (AJ v1 5 v2.length v3) 1 false true none)]⟩) (vars:=[1,2,3,4]) e) ⟨trivial,trivial,trivial,trivial,trivial,trivial,⟨⟨trivial,trivial,trivial⟩,trivial⟩,trivial,hq,trivial,trivial⟩ rfl rfl rfl;exact R
theorem c19re{q:Aj}{x:Int}{v1:List (List Int)}{v2:List Int}{v3:List (List Int)}{b0 b1 b2:Blk}:
  ∃st1,Ren 0 {(St.mk 28 [] [some b0,some b1,some b2,some (Blk.mk (Uq (AV.int .i64) q.ow) 1 true true none),some (Blk.mk (AJ v1 5 v2.length v3) 1 false true none),some (Blk.mk (Uq (AV.int .i64) v2) 1 true true none)]) with fr:=[(0,.agg [.sl 3 0 q.ow.length,.sl 4 0 (v1.length+1+v3.length)])]} st1/\st1.hp=(KT q x v1 v2 v3).1/\AX.Ao st1.fr 0=(KT q x v1 v2 v3).2:=by
 obtain⟨Q,hQ,hq⟩:=MU (σ:=[3,4,5]) (fz:=[]) (hp:=[some b0,some b1,some b2,some (Blk.mk (Uq (AV.int .i64) q.ow) 1 true true none),some (Blk.mk (AJ v1 5 v2.length v3) 1 false true none),some (Blk.mk (Uq (AV.int .i64) v2) 1 true true none)]) v1 (R:=5) (k:=v2.length) (z:=1) v3 (R':=2) rfl;have e:DT [3,4,5] [] [some b0,some b1,some b2,some (Blk.mk (Uq (AV.int .i64) q.ow) 1 true true none),some (Blk.mk (AJ v1 5 v2.length v3) 1 false true none),some (Blk.mk (Uq (AV.int .i64) v2) 1 true true none)]=some _:=B4 rfl (B4 (y:=(some (Blk.mk (AJ v1 2 v2.length v3) 1 false true none),Q)) (by
  show(match BN _ _ _ (Blk.mk (AJ v1 5 v2.length v3) 1 false true none) with | some x=>some (some x.1,x.2) | none=>none)=_;rw[hQ]) (B4 rfl rfl))
 exact⟨_,Ren.of [3,4,5] [] [0] (J7 e) ⟨⟨trivial,trivial,trivial⟩,trivial,hq,trivial,trivial⟩ rfl rfl rfl,rfl,rfl⟩
end Go.Proofs.Ytedjkebooffjpaa

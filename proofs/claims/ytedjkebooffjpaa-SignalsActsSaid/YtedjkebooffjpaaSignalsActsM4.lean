/- Parts of the proof:RtQ,Rt11p,RtA,Rt13p,RtC,RtD,Rt9p,RtU,Gi1p,GiA,GiB,Rt12p,RtB,GiC,Gi2p,GiD,NmA,Nm2p,NmC,NmD,NmE,NmF. -/
import Derived.KernelRfl
import Derived.Test.YtedjkebooffjpaaProg
import Derived.Test.YtedjkebooffjpaaSignalsActsM3
noncomputable section
set_option linter.unusedVariables false
set_option linter.unusedSimpArgs false
open Go Go.AX Go.Proofs
set_option maxRecDepth 100000
set_option linter.unusedVariables false
set_option linter.unusedSimpArgs false
open Go.IntKind (i64 u64)
namespace Go.Proofs.Ytedjkebooffjpaa
def qw(g:List (List Int))(s:List Bool)(d:List Int)(v w i:Nat)(r p:List Int)(x y:Int):QK:=⟨g,s,d,v,w,0,i,r,x,y,false,0,p,[]⟩
theorem set_set'(l:List Int)(v:Nat)(a b:Int):(l.set v a).set v b=l.set v b:=by rw[List.set_set]
theorem rhb_run{g:List (List Int)}{s:List Bool}(hg:OkG g s)(d:List Int)(hd:d.length=g.length)(hsm:EO d)(v:Nat)(hv:v<g.length){R:St->Prop}{post:Exit->St->Prop}
  (hR:∀st,Ren 0 st (Fo (qw g s d (v+1) 0 0 [] (Bl g d (v+1)) 0 0))->R st):
  T Try.prog 0 (.loop (zC (zC (zB Try.f143) 0) 0)) (Fc (qw g s d v 0 (g.getD v []).length (g.getD v []) ((Bl g d v).set v (-1)) 0 0)) (TK Try.prog 0 (andThen R post) (zK (zC (zB Try.f143) 0) 0)):=by
 have hgl:=hg.len
 have hr1:=(hg.row v hv).1
 have hrow:=DX hv
 have hget:=fun i=>Hm hg hv (i:=i)
 have hdv:=hsm.get (v:=v) (by omega)
 have hv1:=BU (l:=d) (j:=v) (by omega)
 have hz:Dt g d v=DS (g.getD v []) (fnd (EU g d v) 0 (g.getD v []).length):=rfl
 have hP:∀i,EU g d v i=(decide (0<d.getD v 0)&&(d.getD ((g.getD v []).getD i 0).toNat 0==d.getD v 0-1)):=fun i=>rfl
 have hfs:=Sb g d v hv
 have hfl:=MR g d v
 generalize EU g d v=pp at hz hP
 generalize g.getD v []=r at hr1 hrow hget hP hz
 rw[hz] at hfs
 have fin:∀cur,cur=DS r (fnd pp 0 r.length)->∀st,Ren 0 st (Fo (qw g s d (v+1) 0 0 [] ((Bl g d v).set v cur) 0 0))->R st:=by
  intro cur hc st hst
  rw[hc,hfs] at hst
  exact hR st hst
 have lenS:∀cur:Int,((Bl g d v).set v cur).length=g.length:=by intro cur;simp[hfl]
 have wv:i64.wrap (iN v+1)=((v+1:Nat):Int):=zW v (by omega)
 refine T.loop (fun i:Nat=>Fc (qw g s d v 0 i r ((Bl g d v).set v (DS r (fnd pp i (r.length-i)))) 0 0)) (fun i=>i<=r.length) (fun i=>i) r.length ?_ ?_ |> fun h=>by
  simpa [fnd,DS] using h
 .exact Tx _
 intro i hi
 by_cases h0:0<i
 .have hik:decide (0<=iN i-1)=true:=Ts (by simp only[iN];omega)
  by_cases hp:0<d.getD v 0
  .obtain⟨w,hw,hw1,hw2⟩:=hget (i-1) (by omega)
   have hg1:=BU (l:=r) (j:=i-1) (by omega)
   rw[hw] at hg1
   have hidx:(iN i-1).toNat=i-1:=by simp only[iN];omega
   have hw3:=BU (l:=d) (j:=w) (by omega)
   have hpi:=hP (i-1)
   rw[hw,Tv,Ts hp,Bool.true_and] at hpi
   obtain⟨m,hm⟩:∃m:Nat,d.getD v 0=(m:Int):=⟨(d.getD v 0).toNat,by omega⟩
   have hwr:i64.wrap (d.getD v 0-1)=d.getD v 0-1:=by rw[hm,F4 m (by omega) (by omega)];omega
   have hwi:i64.wrap (iN i-1-1)=iN (i-1)-1:=by
    by_cases h1:1<i
    .have:=F4 (i-1) (by omega) (by omega)
     have e:iN i-1-1=((i-1:Nat):Int)-1:=by simp only[iN];omega
     rw[e,this];simp only[iN];omega
    .obtain rfl:i=1:=by omega
     exact AU _ (by decide) (by decide)
   have hf:fnd pp (i-1) (r.length-(i-1))=(match pp (i-1) with | true=>some (i-1) | false=>fnd pp i (r.length-i)):=by
    have:=Dq (p:=pp) (s:=i-1) (k:=r.length) (by omega)
    rwa [show i-1+1=i by omega] at this
   by_cases he:(d.getD w 0==d.getD v 0-1)=true
   .rw[he] at hpi
    refine T.path mix (rhbr_0 ⟨g,s,d,v,w,0,i,r,d.getD v 0,d.getD w 0,false,0,(Bl g d v).set v (DS r (fnd pp i (r.length-i))),[]⟩ hik (by simp[iN]) hv1 (Ts hp) hrow (by simp only[iN];omega) (by simp only[hidx];exact hg1) (by simp[iN]) hw3 (by simp only[hwr];exact he) (by simp[iN,hfl];omega) (by simp[iN,hfl];omega) ?_)
    intro st hst
    refine⟨i-1,?_,by omega,by omega⟩
    simp only[iN,Tv] at hst hwi
    rw[hwi,map_set,set_set'] at hst
    rw[hf,hpi]
    simp only[TV] at hst
    unfold Fc qw
    simp only[TV]
    show Ren 0 st {n:=_,fr:=_,hp:=[some (dB ((Bl g d v).set v (r.getD (i-1) 0)))]}
    rw[hw]
    exact hst
   .have he:=T8.2 he
    rw[he] at hpi
    refine T.path mix (rhbr_1 ⟨g,s,d,v,w,0,i,r,d.getD v 0,d.getD w 0,false,0,(Bl g d v).set v (DS r (fnd pp i (r.length-i))),[]⟩ hik (by simp[iN]) hv1 (Ts hp) hrow (by simp only[iN];omega) (by simp only[hidx];exact hg1) (by simp[iN]) hw3 (by simp only[hwr];exact he) ?_)
    intro st hst
    refine⟨i-1,?_,by omega,by omega⟩
    simp only[iN] at hst hwi
    rw[hwi] at hst
    rw[hf,hpi]
    exact hst
  .have hall:∀j n',fnd pp j n'=none:=fun j n'=>HA fun k _ _=>by rw[hP k,Tq hp,Bool.false_and]
   refine T.out mix (rhbx_0 ⟨g,s,d,v,0,0,i,r,d.getD v 0,0,false,0,(Bl g d v).set v (DS r (fnd pp i (r.length-i))),[]⟩ hik (by simp[iN]) hv1 (Tq hp) ?_)
   intro st hst
   simp only[wv] at hst
   refine fin (DS r (fnd pp i (r.length-i))) (by rw[hall,hall]) st hst
 .obtain rfl:i=0:=by omega
  refine T.out mix (rhbx_1 ⟨g,s,d,v,0,0,0,r,0,0,false,0,(Bl g d v).set v (DS r (fnd pp 0 (r.length-0))),[]⟩ (by simp[iN]) ?_)
  intro st hst
  simp only[wv] at hst
  exact fin _ rfl st hst
theorem rhops_ct{g:List (List Int)}{s:List Bool}(hg:OkG g s)(goal:Nat)(hgo:goal<g.length):CT Try.prog 143 [] [.lst (gL g),.lst (boL s),.int .i64 (goal:Nat)] [] (lI (BB g (AL g s goal g.length))):=by
 have hgl:=hg.len
 have hl:=Bt g
 have c0:=M0 hg goal hgo
 rw[Lv hg hgo] at c0
 have hdl:=Og g s goal g.length
 have hsm:=RB g s goal g.length (by omega)
 generalize AL g s goal g.length=d at c0 hdl hsm
 refine CT.path mix Try.func143 (show Try.f143.body=some (zB Try.f143) by kernel_rfl) (nL rfl) (rh_0 ⟨g,s,d,goal,0,0,0,[],0,0,false,0,[],[]⟩ c0 (Int.le_refl _) (by simp only[iN,hl];omega) (by simp only[iN,hl];omega) ?_)
 have key:T Try.prog 0 (.loop (zC (zB Try.f143) 0)) (Fo (qw g s d 0 0 0 [] (Bl g d 0) 0 0)) (TK Try.prog 0 (Fin Try.prog Try.f143 0 [] (lI (BB g d))) (zK (zB Try.f143) 0)):=by
  refine T.loop (fun v:Nat=>Fo (qw g s d v 0 0 [] (Bl g d v) 0 0)) (fun v=>v<=g.length) (fun v=>g.length+1-v) 0 (Ty _) ?_
  intro v hv
  have hfl:=MR g d v
  by_cases h:v<g.length
  .have hr1:=(hg.row v h).1
   have ew:i64.wrap (iN ((g.getD v []).map (AV.int .i64)).length-1)=iN (g.getD v []).length-1:=by
    rw[Cm]
    by_cases h1:0<(g.getD v []).length
    .have:=F4 _ h1 (by omega)
     simp only[iN];rw[this];omega
    .rw[show (g.getD v []).length=0 by omega];exact AU _ (by decide) (by decide)
   refine T.path mix (rhi_0 (qw g s d v 0 0 (g.getD v []) (Bl g d v) 0 0) (Ts (by simp only[iN,qw,hl];omega)) (by simp[iN]) (by simp[iN,qw,hfl];omega) (by simp[iN,qw,hfl];omega) (DX h) ?_)
   have k:=rhb_run hg d hdl hsm v h (R:=fun st'=>∃j,Ren 0 st' (Fo (qw g s d j 0 0 [] (Bl g d j) 0 0))/\j<=g.length/\g.length+1-j<g.length+1-v) (post:=TK Try.prog 0 (Fin Try.prog Try.f143 0 [] (lI (BB g d))) (zK (zB Try.f143) 0)) fun st hst=>⟨v+1,hst,h,by omega⟩
   simp only[qw,ew]
   rw[show (iN v).toNat=v from rfl,map_set]
   unfold Fc qw at k
   simp only[TV] at k
   exact k
  .obtain rfl:v=g.length:=by omega
   have k:=rhx_0 (qw g s d g.length 0 0 [] (Bl g d g.length) 0 0) (Tq (by simp only[iN,qw,hl];omega)) (by simp[qw])
   rw[<-fillH_n]
   exact T.out mix k
 unfold Fo qw dB at key
 simp only[MR,Ql g d] at key
 simp only[hl,Ql g d]
 exact key
end Go.Proofs.Ytedjkebooffjpaa
set_option maxHeartbeats 4000000
namespace Go.Proofs.Ytedjkebooffjpaa
def upd(m:Nat->Bool)(w:Nat):Nat->Bool:=fun i=>if i=w then true else m i
def cnt(m:Nat->Bool):Nat->Nat
 | 0=>0
 | n+1=>cnt m n+if m n=true then 0 else 1
theorem R0(m:Nat->Bool)(w:Nat):∀n,n<=w->cnt (upd m w) n=cnt m n:=by
 intro n
 induction n with
 | zero=>intro _;rfl
 | succ n ih=>intro h;rw[cnt,cnt,ih (by omega)];simp[upd,show n≠w by omega]
theorem cnt_upd(m:Nat->Bool)(w:Nat)(hm:m w=false):∀n,w<n->cnt (upd m w) n+1=cnt m n:=by
 intro n
 induction n with
 | zero=>intro h;omega
 | succ n ih=>
  intro h
  rw[cnt,cnt]
  by_cases e:n=w
  .subst e;rw[R0 m n n (Tx _),hm];simp[upd]
  .have:=ih (by omega)
   simp only[upd,e,if_false] at this ⊢
   omega
def Clo(g:List (List Int))(s:List Bool)(C:Nat->Prop):Prop:=∀u,u<g.length->C u->∀w∈g.getD u [],s.getD w.toNat false=false->C w.toNat
def Rch(g:List (List Int))(s:List Bool)(v u:Nat):Prop:=s.getD v false=false/\∀C:Nat->Prop,C v->Clo g s C->C u
theorem Rch.step{g:List (List Int)}{s:List Bool}{v u:Nat}(h:Rch g s v u)(hu:u<g.length){w:Int}(hw:w∈g.getD u [])(ho:s.getD w.toNat false=false):Rch g s v w.toNat:=
 ⟨h.1,fun C hv hc=>hc u hu (h.2 C hv hc) w hw ho⟩
theorem Rch.refl{g:List (List Int)}{s:List Bool}{v:Nat}(h:s.getD v false=false):Rch g s v v:=⟨h,fun _ hv _=>hv⟩
theorem Rch.lt{g:List (List Int)}{s:List Bool}(hg:OkG g s){v u:Nat}(hv:v<g.length)(h:Rch g s v u):u<g.length:=
 h.2 (· < g.length) hv fun x hx _ w hw _=>by have:=(hg.row x hx).2 w hw;omega
def BS(r:List Int)(i:Nat):Int:=if i=0 then -1 else r.getD (i-1) 0
theorem Rf{r:List Int}{i:Nat}:BS r (i+1)=r.getD i 0:=by unfold BS;simp
def Nd(g:List (List Int))(s:List Bool)(m:Nat->Bool)(u:Nat):Prop:=∀w∈g.getD u [],s.getD w.toNat false=false->m w.toNat=true
theorem Nd.upd{g:List (List Int)}{s:List Bool}{m:Nat->Bool}{u:Nat}(h:Nd g s m u)(w:Nat):Nd g s (upd m w) u:=fun x hx ho=>by unfold Go.Proofs.Ytedjkebooffjpaa.upd;rw[h x hx ho];simp
def Hz(d:List Int)(n:Nat):Nat:=cnt (fun v=>decide (0<=d.getD v 0)) n
theorem cntD_set{d:List Int}{v:Nat}{x:Int}(hv:v<d.length)(hd:d.getD v 0<0)(hx:0<=x){n:Nat}(hn:v<n):Hz (d.set v x) n+1=Hz d n:=by
 have e:(fun u=>decide (0<=(d.set v x).getD u 0))=upd (fun u=>decide (0<=d.getD u 0)) v:=by
  funext u
  rw[Kk d v u x hv]
  unfold upd
  by_cases h:u=v
  .subst h;simp[hx]
  .rw[Tj (fun e=>h e.symm),Tj h]
 unfold Hz
 rw[e]
 exact cnt_upd _ v (Tq (by omega)) n hn
structure Bf(g:List (List Int))(s:List Bool)(goal:Nat)(d o:List Int):Prop where
 len:d.length=g.length
 zero:d.getD goal 0=0
 neg:∀v,v<g.length->-1<=d.getD v 0
 que:∀x∈o,∃u:Nat,x=(u:Int)/\u<g.length/\0<=d.getD u 0
 srt:o.Pairwise fun a b=>d.getD a.toNat 0<=d.getD b.toNat 0
 back:∀v,v<g.length->0<=d.getD v 0->v=goal\/(s.getD v false=false/\∃w∈g.getD v [],0<=d.getD w.toNat 0/\d.getD v 0=d.getD w.toNat 0+1)
 bnd:∀v,v<g.length->d.getD v 0+(Hz d g.length:Nat)<g.length
 mea:o.length+Hz d g.length<=g.length
def Ju(g:List (List Int))(s:List Bool)(d:List Int)(u:Nat):Prop:=∀v,v<g.length->s.getD v false=false->(u:Int)∈g.getD v []->0<=d.getD v 0/\d.getD v 0<=d.getD u 0+1
structure Bm(g:List (List Int))(s:List Bool)(goal:Nat)(d o:List Int)(w k:Nat):Prop where
 bf:Bf g s goal d o
 wl:w<g.length
 pos:0<=d.getD w 0
 le:∀v,v<g.length->d.getD v 0<=d.getD w 0+1
 ge:∀x∈o,d.getD w 0<=d.getD x.toNat 0
 cls:∀u,u<g.length->0<=d.getD u 0->(u:Int)∈o\/u=w\/Ju g s d u
 don:∀v,v<k->v<g.length->s.getD v false=false->(w:Int)∈g.getD v []->0<=d.getD v 0
structure Bo(g:List (List Int))(s:List Bool)(goal:Nat)(d o:List Int):Prop where
 bf:Bf g s goal d o
 le:∀x∈o,∀v,v<g.length->d.getD v 0<=d.getD x.toNat 0+1
 cls:∀u,u<g.length->0<=d.getD u 0->(u:Int)∈o\/Ju g s d u
theorem Bm.skip{g:List (List Int)}{s:List Bool}{goal:Nat}{d o:List Int}{w k:Nat}(h:Bm g s goal d o w k)(hk:0<=d.getD k 0\/s.getD k false=true\/(w:Int)∉g.getD k []):Bm g s goal d o w (k+1):=
 ⟨h.bf,h.wl,h.pos,h.le,h.ge,h.cls,fun v hv hvl hs hm=>by
  by_cases e:v=k
  .subst e
   rcases hk with h1 | h1 | h1
   .exact h1
   .rw[hs] at h1;cases h1
   .exact absurd hm h1
  .exact h.don v (by omega) hvl hs hm⟩
theorem Bm.push{g:List (List Int)}{s:List Bool}{goal:Nat}{d o:List Int}{w k:Nat}(h:Bm g s goal d o w k)(hk:k<g.length)(hd:d.getD k 0<0)(hs:s.getD k false=false)(hm:(w:Int)∈g.getD k []):
  Bm g s goal (d.set k (d.getD w 0+1)) (o++[(k:Int)]) w (k+1):=by
 have hkl:k<d.length:=by rw[h.bf.len];exact hk
 have gs:=fun u=>Kk d k u (d.getD w 0+1) hkl
 have hne:∀u,0<=d.getD u 0->(d.set k (d.getD w 0+1)).getD u 0=d.getD u 0:=by
  intro u hu
  rw[gs,Tj (by rintro rfl;omega)]
 have hkk:(d.set k (d.getD w 0+1)).getD k 0=d.getD w 0+1:=by rw[gs,Ti rfl]
 have hgk:goal≠k:=by rintro rfl;rw[h.bf.zero] at hd;omega
 have hc:=cntD_set hkl hd (show 0<=d.getD w 0+1 by have:=h.pos;omega) hk
 have hw0:=hne w h.pos
 have hq:∀x∈o,(d.set k (d.getD w 0+1)).getD x.toNat 0=d.getD x.toNat 0:=by
  intro x hx
  obtain⟨u,rfl,_,hu⟩:=h.bf.que x hx
  exact hne _ (by simpa using hu)
 have hcls:∀u,u<g.length->0<=d.getD u 0->Ju g s d u->Ju g s (d.set k (d.getD w 0+1)) u:=by
  intro u _ hu hc v hv hsv hmv
  obtain⟨a,b⟩:=hc v hv hsv hmv
  rw[hne v a,hne u hu]
  exact⟨a,b⟩
 refine⟨⟨by rw[TV];exact h.bf.len,by rw[hne goal (by rw[h.bf.zero];omega)];exact h.bf.zero,fun v hv=>?_,fun x hx=>?_,?_,fun v hv h0=>?_,fun v hv=>?_,by simp only[TF,T2,T3];have:=h.bf.mea;omega⟩,h.wl,by rw[hw0];exact h.pos,fun v hv=>?_,fun x hx=>?_,fun u hu h0=>?_,fun v hv hvl hsv hmv=>?_⟩
 .rw[gs];split
  .have:=h.pos;omega
  .exact h.bf.neg v hv
 .rcases TR.1 hx with hx | hx
  .obtain⟨u,rfl,hu1,hu2⟩:=h.bf.que x hx
   exact⟨u,rfl,hu1,by rw[hne u hu2];exact hu2⟩
  .simp only[Tb] at hx
   exact⟨k,hx,hk,by rw[hkk];have:=h.pos;omega⟩
 .rw[List.pairwise_append]
  refine⟨h.bf.srt.imp_of_mem fun {a b} ha hb hab=>by rw[hq a ha,hq b hb];exact hab,by simp,fun a ha b hb=>?_⟩
  simp only[Tb] at hb
  subst hb
  rw[hq a ha,Tv,hkk]
  obtain⟨u,rfl,hu,_⟩:=h.bf.que a ha
  rw[Tv]
  exact h.le u hu
 .by_cases e:v=k
  .subst e
   refine .inr ⟨hs,(w:Int),hm,?_,?_⟩
   .rw[Tv,hw0];exact h.pos
   .rw[Tv,hw0,hkk]
  .have e2:(d.set k (d.getD w 0+1)).getD v 0=d.getD v 0:=by rw[gs,Tj (fun e'=>e e'.symm)]
   rw[e2] at h0 ⊢
   rcases h.bf.back v hv h0 with h1 | ⟨h1,x,hx,h2,h3⟩
   .exact .inl h1
   .exact .inr ⟨h1,x,hx,by rw[hne _ h2];exact h2,by rw[hne _ h2];exact h3⟩
 .rw[gs];split
  .have:=h.bf.bnd w h.wl;omega
  .have:=h.bf.bnd v hv;omega
 .rw[hw0,gs];split
  .exact Int.le_refl _
  .exact h.le v hv
 .rw[hw0]
  rcases TR.1 hx with hx | hx
  .rw[hq x hx];exact h.ge x hx
  .simp only[Tb] at hx
   rw[hx,Tv,hkk];omega
 .by_cases e:u=k
  .exact .inl (by rw[e];simp)
  .have e2:(d.set k (d.getD w 0+1)).getD u 0=d.getD u 0:=by rw[gs,Tj (fun e'=>e e'.symm)]
   rw[e2] at h0
   rcases h.cls u hu h0 with h1 | h1 | h1
   .exact .inl (List.mem_append_left _ h1)
   .exact .inr (.inl h1)
   .exact .inr (.inr (hcls u hu h0 h1))
 .by_cases e:v=k
  .subst e;rw[hkk];have:=h.pos;omega
  .have:=h.don v (by omega) hvl hsv hmv
   rw[hne v this];exact this
theorem Bm.fin{g:List (List Int)}{s:List Bool}{goal:Nat}{d o:List Int}{w:Nat}(h:Bm g s goal d o w g.length):Bo g s goal d o:=by
 refine⟨h.bf,fun x hx v hv=>?_,fun u hu h0=>?_⟩
 .have h1:=h.le v hv
  have h2:=h.ge x hx
  omega
 .rcases h.cls u hu h0 with h1 | h1 | h1
  .exact .inl h1
  .exact .inr (by rw[h1];exact fun v hv hs hm=>⟨h.don v hv hv hs hm,h.le v hv⟩)
  .exact .inr h1
theorem Bo.dst{g:List (List Int)}{s:List Bool}(hg:OkG g s){goal:Nat}(hs:s.getD goal false=false){d:List Int}(h:Bo g s goal d []):Dst g s goal d:=by
 refine⟨h.bf.len,fun h'=>(by rw[hs] at h';cases h'),fun _=>h.bf.zero,fun v hv=>⟨h.bf.neg v hv,by have:=h.bf.bnd v hv;omega⟩,h.bf.back,fun v hv hsv w hw h0=>?_⟩
 have hr:=(hg.row v hv).2 w hw
 rcases h.cls w.toNat (by omega) h0 with h1 | h1
 .cases h1
 .exact h1 v hv hsv (by rw[TN hr.1];exact hw)
theorem shM{g:List (List Int)}{s:List Bool}{goal a:Nat}{d:List Int}(hD:Dst g s goal d)(ha:a<g.length)(h0:0<=d.getD a 0):s.getD goal false=false:=by
 cases h:s.getD goal false with
 | false=>rfl
 | true=>have:=hD.shut h a ha;omega
theorem Dst.le{g:List (List Int)}{s:List Bool}(hg:OkG g s){goal:Nat}{d e:List Int}(hD:Dst g s goal d)(hE:Dst g s goal e):∀(m v:Nat),v<g.length->d.getD v 0=(m:Int)->0<=e.getD v 0/\e.getD v 0<=(m:Int):=by
 intro m
 induction m with
 | zero=>
  intro v hv hm
  rcases hD.back v hv (by omega) with rfl | ⟨_,w,_,h1,h2⟩
  .rw[hE.zero (shM hD hv (by omega))];exact⟨Int.le_refl _,Int.le_refl _⟩
  .omega
 | succ m ih=>
  intro v hv hm
  rcases hD.back v hv (by omega) with rfl | ⟨ho,w,hw,h1,h2⟩
  .rw[hE.zero (shM hD hv (by omega))];omega
  .have hr:=(hg.row v hv).2 w hw
   obtain⟨a,b⟩:=ih w.toNat (by omega) (by omega)
   obtain⟨a',b'⟩:=hE.fwd v hv ho w hw a
   exact⟨a',by omega⟩
def IP(d:List Int)(b w:Int):Int:=if 0<=d.getD w.toNat 0 then (if b<0 then w else if d.getD w.toNat 0<d.getD b.toNat 0 then w else b) else b
def B9(d r:List Int):Nat->Int
 | 0=> -1
 | i+1=>IP d (B9 d r i) (r.getD i 0)
def BestOk(d r:List Int)(i:Nat)(b:Int):Prop:=(b = -1/\∀j,j<i->d.getD (r.getD j 0).toNat 0<0)\/
 ∃k,k<i/\b=r.getD k 0/\0<=d.getD (r.getD k 0).toNat 0/\(∀j,j<i->0<=d.getD (r.getD j 0).toNat 0->d.getD (r.getD k 0).toNat 0<=d.getD (r.getD j 0).toNat 0)/\∀j,j<k->0<=d.getD (r.getD j 0).toNat 0->d.getD (r.getD k 0).toNat 0<d.getD (r.getD j 0).toNat 0
theorem PZ{d r:List Int}(h0:∀j,j<r.length->0<=r.getD j 0):∀i,i<=r.length->BestOk d r i (B9 d r i):=by
 intro i
 induction i with
 | zero=>intro _;exact .inl ⟨rfl,fun j hj=>by omega⟩
 | succ i ih=>
  intro hi
  have ih:=ih (by omega)
  rw[B9]
  generalize B9 d r i=b at ih
  unfold IP
  by_cases c1:0<=d.getD (r.getD i 0).toNat 0
  .rw[Ti c1]
   rcases ih with ⟨rfl,hn⟩ | ⟨k,hk,rfl,hk0,hmin,hfst⟩
   .rw[Ti (by decide)]
    refine .inr ⟨i,by omega,rfl,c1,fun j hj hj0=>?_,fun j hj hj0=>?_⟩
    .by_cases e:j=i
     .rw[e];exact Int.le_refl _
     .have:=hn j (by omega);omega
    .have:=hn j (by omega);omega
   .have:=h0 k (by omega)
    rw[Tj (by omega)]
    by_cases c2:d.getD (r.getD i 0).toNat 0<d.getD (r.getD k 0).toNat 0
    .rw[Ti c2]
     refine .inr ⟨i,by omega,rfl,c1,fun j hj hj0=>?_,fun j hj hj0=>?_⟩
     .by_cases e:j=i
      .rw[e];exact Int.le_refl _
      .have:=hmin j (by omega) hj0;omega
     .have:=hmin j (by omega) hj0;omega
    .rw[Tj c2]
     refine .inr ⟨k,by omega,rfl,hk0,fun j hj hj0=>?_,hfst⟩
     by_cases e:j=i
     .rw[e];omega
     .exact hmin j (by omega) hj0
  .rw[Tj c1]
   rcases ih with ⟨rfl,hn⟩ | ⟨k,hk,rfl,hk0,hmin,hfst⟩
   .refine .inl ⟨rfl,fun j hj=>?_⟩
    by_cases e:j=i
    .rw[e];omega
    .exact hn j (by omega)
   .refine .inr ⟨k,by omega,rfl,hk0,fun j hj hj0=>?_,hfst⟩
    by_cases e:j=i
    .rw[e] at hj0;omega
    .exact hmin j (by omega) hj0
theorem QC{p:Nat->Bool}:∀{n s j:Nat},fnd p s n=some j->∀i,s<=i->i<j->p i=false:=by
 intro n
 induction n with
 | zero=>intro s j h;cases h
 | succ n ih=>
  intro s j h i hi hij
  rw[fnd] at h
  cases hp:p s with
  | true=>rw[hp] at h;cases h;omega
  | false=>
   rw[hp] at h
   by_cases e:i=s
   .rw[e];exact hp
   .exact ih h i (by omega) hij
theorem OY{g:List (List Int)}{s:List Bool}(hg:OkG g s){v:Nat}(hv:v<g.length):∀j,j<(g.getD v []).length->0<=(g.getD v []).getD j 0:=fun j hj=>by
 obtain⟨w,hw,_⟩:=Hm hg hv hj;omega
theorem row_mem{g:List (List Int)}{v j:Nat}(hj:j<(g.getD v []).length):(g.getD v []).getD j 0∈g.getD v []:=by
 rw[Tl (l:=g.getD v []),Tk hj]
 exact TU hj
theorem N4{g:List (List Int)}{v:Nat}{w:Int}(h:w∈g.getD v []):∃j,j<(g.getD v []).length/\(g.getD v []).getD j 0=w:=by
 obtain⟨j,hj,e⟩:=TZ.1 h
 exact⟨j,hj,by rw[Tl (l:=g.getD v []),Tk hj];exact e⟩
def thD(g:List (List Int))(d:List Int)(v:Nat)(b:Int):List Int:=if b<0 then [] else (v:Int)::(List.range (d.getD b.toNat 0).toNat).map (wkZ g d b.toNat)
def thZ(g:List (List Int))(s:List Bool)(v:Nat):List Int:=if s.getD v false=true then [] else thD g (AL g s v g.length) v (B9 (AL g s v g.length) (g.getD v []) (g.getD v []).length)
theorem toN{v:Int}(h:0<=v):((v.toNat:Nat):Int)=v:=TN h
theorem shutNeg{g:List (List Int)}{s:List Bool}{goal a:Nat}{d:List Int}(hD:Dst g s goal d)(ha:a<g.length)(h0:0<=d.getD a 0):s.getD goal false=false:=by
 cases h:s.getD goal false with
 | false=>rfl
 | true=>have:=hD.shut h a ha;omega
theorem first_ct{g:List (List Int)}{s:List Bool}(hg:OkG g s)(a goal:Nat)(hal:a<g.length)(hgo:goal<g.length):CT Try.prog 126 [] [.lst (gL g),.lst (boL s),.int .i64 (a:Nat),.int .i64 (goal:Nat)] [] (lI (if (AL g s goal g.length).getD a 0<0 then [] else wkL g (AL g s goal g.length) a ((AL g s goal g.length).getD a 0).toNat)):=by
 have hb:Try.f126.body=some (zB Try.f126):=by kernel_rfl
 have hn:[AV.lst (gL g),.lst (boL s),.int .i64 (a:Nat),.int .i64 (goal:Nat)].length<=Try.f126.ntmps:=nL rfl
 have hgl:=hg.len
 have cd:=M0 hg goal hgo
 rw[Lv hg hgo] at cd
 have ch:=rhops_ct hg goal hgo
 have hD:=HF hg hgo
 have hbd:=hD.bnd a hal
 generalize AL g s goal g.length=d at cd ch hD hbd
 have hda:=BU (l:=d) (j:=a) (by rw[hD.len];exact hal)
 by_cases hneg:d.getD a 0<0
 .rw[Ti hneg]
  exact CT.pathW mix Try.func126 hb hn (rfn_0 ⟨g,s,d,a,goal,0,0,[],d.getD a 0,0,false,0,[],[]⟩ cd (by simp[iN]) hda (Ts hneg)) rfl
 .rw[Tj hneg]
  obtain⟨m,hm⟩:∃m:Nat,d.getD a 0=(m:Int):=⟨(d.getD a 0).toNat,(toN (by omega)).symm⟩
  have hgd:=shutNeg hD hal (by omega)
  have hok:=wk_ok hg hgo hD hal hm hgd
  rw[hm,Tv]
  refine CT.path mix Try.func126 hb hn (rf_0 ⟨g,s,d,a,goal,0,0,[],d.getD a 0,0,false,0,BB g d,[]⟩ cd (by simp[iN]) hda (Tq hneg) ch ?_)
  have key:T Try.prog 0 (.loop (zC (zB Try.f126) 0)) (Hc ⟨g,s,d,(wkZ g d a 0).toNat,goal,0,0,wkL g d a 0,0,0,false,0,BB g d,[]⟩) (TK Try.prog 0 (Fin Try.prog Try.f126 0 [] (lI (wkL g d a m))) (zK (zB Try.f126) 0)):=by
   refine T.loop (fun k:Nat=>Hc ⟨g,s,d,(wkZ g d a k).toNat,goal,0,k,wkL g d a k,0,0,false,0,BB g d,[]⟩) (fun k=>k<=m) (fun k=>m+1-k) 0 (Ty _) ?_
   intro k hk
   obtain⟨w1,w2,w3⟩:=hok k hk
   have hlen:=NC g d a k
   by_cases h:k<m
   .obtain⟨x1,x2,x3⟩:=hok (k+1) h
    have hne:(wkZ g d a k).toNat≠goal:=by
     intro e;rw[e,hD.zero hgd] at w3;omega
    have hgt:(BB g d).getD (wkZ g d a k).toNat 0=wkZ g d a (k+1):=by
     have hlt:(wkZ g d a k).toNat<g.length:=by omega
     simp[BB,Tl,TH hlt,wkZ]
    have hg2:=BU (l:=BB g d) (j:=(wkZ g d a k).toNat) (by simp[BB];omega)
    rw[hgt,<-toN x1] at hg2
    refine T.path mix (rfe_0 ⟨g,s,d,(wkZ g d a k).toNat,goal,(wkZ g d a (k+1)).toNat,k,wkL g d a k,0,0,false,0,BB g d,[]⟩ (by simp[iN];omega) (Int.natCast_nonneg _) hg2 (by simp[hlen]) (by simp) (by simp[hlen];omega) (by simp[hlen];omega) ?_)
    intro st hst
    refine⟨k+1,?_,h,by omega⟩
    have e2:∀y:AV,((wkL g d a k).map (AV.int .i64)).length+[y].length=k+1+1:=by intro y;simp[hlen]
    have e3:(wkL g d a (k+1)).map (AV.int .i64)=(wkL g d a k).map (AV.int .i64)++[.int .i64 (((wkZ g d a (k+1)).toNat:Nat):Int)]:=by
     rw[wkL_succ,Tz,toN x1];rfl
    simp only[e2] at hst
    show Ren 0 st (Hc ⟨g,s,d,(wkZ g d a (k+1)).toNat,goal,0,k+1,wkL g d a (k+1),0,0,false,0,BB g d,[]⟩)
    unfold Hc dB
    simp only[e3]
    exact hst
   .obtain rfl:k=m:=by omega
    have he:(wkZ g d a k).toNat=goal:=Mt hD (by omega) (by rw[w3];omega)
    exact T.out mix (rfex_0 ⟨g,s,d,(wkZ g d a k).toNat,goal,0,k,wkL g d a k,0,0,false,0,BB g d,[]⟩ (by simp[iN,he]) (by simp[hlen]))
  exact key
structure QE where
 g:List (List Int)
 s:List Bool
 v:Int
 p:List Int
 o:List Int
 d:List Int
 r:List Int
 e:Int
 i:Nat
 a:Nat
 w:Nat
 x:Int
 y:Int
 z:Int
 bz:Int
 b:Bool
 sb:Bool
def cE(q:QE):Nat->FuncId->List AV->List (Option Blk)->AE:=fun dst f args hp=>match f with
 | 134=>.call [] [] [] (.int .i64 q.e)
 | 135=>.call [] [] [] (lI q.p)
 | 26=>.call [] [] [] (.bool q.b)
 | 125=>.call [] [] [] (lI q.d)
 | 126=>.call [] [] [] (lI q.p)
 | _=>.no
def eN(q:QE):List (Nat×AV):=[]
def st13(q:QE):St:={n:=Try.f103.ntmps,fr:=[(0,.lst (gL q.g)),(1,.lst (boL q.s))],hp:=[]}
def ET(q:QE):St:={n:=Try.f103.ntmps,fr:=[(0,.lst (gL q.g)),(1,.lst (boL q.s)),(8,lI q.o),(9,.int .i64 (iN q.i))],hp:=[]}
def st26(q:QE):St:={n:=Try.f135.ntmps,fr:=[(0,.lst (gL q.g)),(1,.lst (boL q.s)),(2,.int .i64 (iN q.a))],hp:=[]}
def D1(q:QE):St:={n:=Try.f135.ntmps,fr:=[(0,.lst (gL q.g)),(1,.lst (boL q.s)),(2,.int .i64 (iN q.a)),(7,lI q.d),(8,.int .i64 q.bz),(9,.int .i64 (iN q.i))],hp:=[]}
def e26(q:QE):List (Nat×AV):=[(14,.bool q.sb),(23,lI q.r),(31,lI q.r),(34,.int .i64 (iN q.w)),(38,.int .i64 q.x),(47,.int .i64 q.x),(51,.int .i64 q.y)]
theorem rgi_0(q:QE)(h1:(CT Try.prog 134 [] [AV.lst (gL q.g),AV.lst (boL q.s)] [] (iv q.e)))(h2:((q.e != 0)=true)):GoP Try.prog (hU [31] (eN q) (cE q)) 0 (zB Try.f103) (st13 q) (Fin Try.prog Try.f103 0 [] (AV.tup [iv 0,AV.nils,iv q.e])):=
 zF (σ:=[]) (fz:=[]) (by kernel_rfl) (aj (aj t4 (aj (u2 (u2 (aj (ak (k3 (al h1))) s2))) (aj (u2 s2) (aj h2 (al (u2 (k2 s2))))))) (al t4))
theorem rgi_1(q:QE)(h1:(CT Try.prog 134 [] [AV.lst (gL q.g),AV.lst (boL q.s)] [] (iv q.e)))(h2:((q.e != 0)=false)){post:Exit->St->Prop}(ht:T Try.prog 0 (.loop (zC (zB Try.f103) 0)) (St.mk 46 [(0,AV.lst (gL q.g)),(1,AV.lst (boL q.s)),(8,AV.nils),(9,iv 0)] []) (TK Try.prog 0 post (zK (zB Try.f103) 0))):GoP Try.prog (hU [30] (eN q) (cE q)) 0 (zB Try.f103) (st13 q) post:=
 zR (σ:=[]) (fz:=[]) (vars:=[0,1,8,9]) (by kernel_rfl) (aj (aj t4 (aj (u2 (u2 (aj (ak (k3 (al h1))) s2))) (aj (u2 s2) (aj h2 (u2 s2))))) t5) ht
theorem rgx_0(q:QE)(h1:(decide (iN q.i<iN (gL q.g).length)=false)):GoO Try.prog (hU [40] (eN q) (cE q)) 0 (zC (zB Try.f103) 0) (zK (zB Try.f103) 0) (ET q) (Fin Try.prog Try.f103 0 [] (AV.tup [iv (iN (List.map (iv) q.o).length),AV.lst (List.map (iv) q.o),iv 0])):=
 zF (σ:=[]) (fz:=[]) (by kernel_rfl) (aj (aj (aj (u2 (u2 (u2 (al t3)))) (al h1)) (al (u2 (u2 (u2 (u2 (u2 t2))))))) (al t4))
theorem rgr_0(q:QE)(h1:(decide (iN q.i<iN (gL q.g).length)=true))(h2:(CT Try.prog 135 [] [AV.lst (gL q.g),AV.lst (boL q.s),iv (iN q.i)] [] (AV.lst (List.map (iv) q.p))))(h3:(decide (0<iN (List.map (iv) q.p).length)=true))(h4:((iN (List.map (iv) q.o).length==0)=true)){post:Exit->St->Prop}{R:St->Prop}(hR:∀st,Ren 0 st (St.mk 46 [(0,AV.lst (gL q.g)),(1,AV.lst (boL q.s)),(8,AV.lst (List.map (iv) q.p)),(9,iv (i64.wrap (iN q.i+1)))] [])->R st):GoP Try.prog (hU [41,61,69] (eN q) (cE q)) 0 (zC (zB Try.f103) 0) (ET q) (andThen R post):=
 zN (σ:=[]) (fz:=[]) (vars:=[0,1,8,9]) (by kernel_rfl) (aj (aj (u2 (u2 (u2 (al t3)))) (aj h1 (aj (u2 (u2 (u2 (aj (ak (k5 (al h2))) s2)))) (aj (u2 (u2 (u2 (u2 (ag h3 (ag h3 (ag h3 (ag h3 (aj h4 (aj h4 (aj h4 (aj h4 (aj h4 (aj (aj h3 (aj h4 t2)) (al (aj h3 t2)))))))))))))))) (ak (aj (u2 s2) (al (u2 (u2 s2))))))))) t5) hR
theorem rgr_1(q:QE)(h1:(decide (iN q.i<iN (gL q.g).length)=true))(h2:(CT Try.prog 135 [] [AV.lst (gL q.g),AV.lst (boL q.s),iv (iN q.i)] [] (AV.lst (List.map (iv) q.p))))(h3:(decide (0<iN (List.map (iv) q.p).length)=true))(h4:((iN (List.map (iv) q.o).length==0)=false))(h5:(decide (iN (List.map (iv) q.p).length<iN (List.map (iv) q.o).length)=true)){post:Exit->St->Prop}{R:St->Prop}(hR:∀st,Ren 0 st (St.mk 46 [(0,AV.lst (gL q.g)),(1,AV.lst (boL q.s)),(8,AV.lst (List.map (iv) q.p)),(9,iv (i64.wrap (iN q.i+1)))] [])->R st):GoP Try.prog (hU [41,61,68,83] (eN q) (cE q)) 0 (zC (zB Try.f103) 0) (ET q) (andThen R post):=
 zN (σ:=[]) (fz:=[]) (vars:=[0,1,8,9]) (by kernel_rfl) (aj (aj (u2 (u2 (u2 (al t3)))) (aj h1 (aj (u2 (u2 (u2 (aj (ak (k5 (al h2))) s2)))) (aj (u2 (u2 (u2 (u2 (ag h3 (ag h3 (ag h3 (ag h3 (ag h4 (ag h4 (ag h4 (ag h4 (aj (aj h4 t3) (aj (aj h3 (aj h4 t2)) (al (aj h3 t2)))))))))))))))) (aj h5 (aj (u2 s2) (al (u2 (u2 s2))))))))) t5) hR
theorem rgr_2(q:QE)(h1:(decide (iN q.i<iN (gL q.g).length)=true))(h2:(CT Try.prog 135 [] [AV.lst (gL q.g),AV.lst (boL q.s),iv (iN q.i)] [] (AV.lst (List.map (iv) q.p))))(h3:(decide (0<iN (List.map (iv) q.p).length)=true))(h4:((iN (List.map (iv) q.o).length==0)=false))(h5:(decide (iN (List.map (iv) q.p).length<iN (List.map (iv) q.o).length)=false)){post:Exit->St->Prop}{R:St->Prop}(hR:∀st,Ren 0 st (St.mk 46 [(0,AV.lst (gL q.g)),(1,AV.lst (boL q.s)),(8,AV.lst (List.map (iv) q.o)),(9,iv (i64.wrap (iN q.i+1)))] [])->R st):GoP Try.prog (hU [41,61,68,82] (eN q) (cE q)) 0 (zC (zB Try.f103) 0) (ET q) (andThen R post):=
 zN (σ:=[]) (fz:=[]) (vars:=[0,1,8,9]) (by kernel_rfl) (aj (aj (u2 (u2 (u2 (al t3)))) (aj h1 (aj (u2 (u2 (u2 (aj (ak (k5 (al h2))) s2)))) (aj (u2 (u2 (u2 (u2 (ag h3 (ag h3 (ag h3 (ag h3 (ag h4 (ag h4 (ag h4 (ag h4 (aj (aj h4 t3) (aj (aj h3 (aj h4 t2)) (al (aj h3 t2)))))))))))))))) (aj h5 (al (u2 (u2 s2)))))))) t5) hR
theorem rgr_3(q:QE)(h1:(decide (iN q.i<iN (gL q.g).length)=true))(h2:(CT Try.prog 135 [] [AV.lst (gL q.g),AV.lst (boL q.s),iv (iN q.i)] [] (AV.lst (List.map (iv) q.p))))(h3:(decide (0<iN (List.map (iv) q.p).length)=false)){post:Exit->St->Prop}{R:St->Prop}(hR:∀st,Ren 0 st (St.mk 46 [(0,AV.lst (gL q.g)),(1,AV.lst (boL q.s)),(8,AV.lst (List.map (iv) q.o)),(9,iv (i64.wrap (iN q.i+1)))] [])->R st):GoP Try.prog (hU [41,60] (eN q) (cE q)) 0 (zC (zB Try.f103) 0) (ET q) (andThen R post):=
 zN (σ:=[]) (fz:=[]) (vars:=[0,1,8,9]) (by kernel_rfl) (aj (aj (u2 (u2 (u2 (al t3)))) (aj h1 (aj (u2 (u2 (u2 (aj (ak (k5 (al h2))) s2)))) (aj (u2 (u2 (u2 (u2 (aj h3 (aj h3 (aj h3 (aj h3 (k5 (aj h3 (al (aj h3 t2)))))))))))) (ak (al (u2 (u2 s2)))))))) t5) hR
theorem rwz_0(q:QE)(h1:(0<=iN q.a))(h2:((boL q.s)[(iN q.a).toNat]?=some (AV.bool q.sb)))(h3:(q.sb=true)):GoP Try.prog (hU [31] (e26 q) (cE q)) 0 (zB Try.f135) (st26 q) (Fin Try.prog Try.f135 0 [] (AV.nils)):=
 zF (σ:=[]) (fz:=[]) (by kernel_rfl) (aj (u2 (aj (u2 (u2 (aj (k2 (aj h1 h2)) s2))) (aj h3 s2))) t2)
theorem rw_0(q:QE)(h1:(0<=iN q.a))(h2:((boL q.s)[(iN q.a).toNat]?=some (AV.bool q.sb)))(h3:(q.sb=false))(h4:(CT Try.prog 125 [] [AV.lst (gL q.g),AV.lst (boL q.s),iv (iN q.a)] [] (AV.lst (List.map (iv) q.d)))){post:Exit->St->Prop}(ht:T Try.prog 0 (.loop (zC (zB Try.f135) 0)) (St.mk 72 [(0,AV.lst (gL q.g)),(1,AV.lst (boL q.s)),(2,iv (iN q.a)),(7,AV.lst (List.map (iv) q.d)),(8,iv (-1)),(9,iv 0)] []) (TK Try.prog 0 post (zK (zB Try.f135) 0))):GoP Try.prog (hU [30] (e26 q) (cE q)) 0 (zB Try.f135) (st26 q) post:=
 zR (σ:=[]) (fz:=[]) (vars:=[0,1,2,7,8,9]) (by kernel_rfl) (aj (u2 (aj (u2 (u2 (aj (k2 (aj h1 h2)) s2))) (aj h3 (aj (u2 (u2 (u2 (aj (ak (k5 (al h4))) s2)))) (u2 s2))))) t7) ht
theorem rwr_0(q:QE)(h1:(0<=iN q.a))(h2:((gL q.g)[(iN q.a).toNat]?=some (AV.lst (List.map (iv) q.r))))(h3:(decide (iN q.i<iN (List.map (iv) q.r).length)=true))(h4:(0<=iN q.i))(h5:((List.map (iv) q.r)[(iN q.i).toNat]?=some (iv (iN q.w))))(h6:(0<=iN q.w))(h7:((List.map (iv) q.d)[(iN q.w).toNat]?=some (iv q.x)))(h8:(decide (0<=q.x)=true))(h9:(decide (q.bz<0)=true)){post:Exit->St->Prop}{R:St->Prop}(hR:∀st,Ren 0 st (St.mk 72 [(0,AV.lst (gL q.g)),(1,AV.lst (boL q.s)),(2,iv (iN q.a)),(7,AV.lst (List.map (iv) q.d)),(8,iv (iN q.w)),(9,iv (i64.wrap (iN q.i+1)))] [])->R st):GoP Try.prog (hU [53,83,89] (e26 q) (cE q)) 0 (zC (zB Try.f135) 0) (D1 q) (andThen R post):=
 zN (σ:=[]) (fz:=[]) (vars:=[0,1,2,7,8,9]) (by kernel_rfl) (aj (aj (u2 (u2 (u2 (aj (k2 (aj h1 h2)) (u2 (u2 (al t3))))))) (aj h3 (aj (u2 (u2 (aj (k2 (aj h1 h2)) (u2 (u2 (aj (k2 (aj h4 h5)) (u2 s2))))))) (aj (u2 (u2 (aj (k2 (aj h6 h7)) (u2 (u2 (u2 (ag h8 (ag h8 (ag h8 (aj h9 (aj h9 (aj h9 (aj h9 (aj h9 (aj h9 (aj h9 (aj h9 (aj h9 (aj (aj h8 (aj h9 t2)) (al (aj h8 t2))))))))))))))))))))) (ak (aj (u2 s2) (al (u2 (u2 s2))))))))) t7) hR
theorem rwr_1(q:QE)(h1:(0<=iN q.a))(h2:((gL q.g)[(iN q.a).toNat]?=some (AV.lst (List.map (iv) q.r))))(h3:(decide (iN q.i<iN (List.map (iv) q.r).length)=true))(h4:(0<=iN q.i))(h5:((List.map (iv) q.r)[(iN q.i).toNat]?=some (iv (iN q.w))))(h6:(0<=iN q.w))(h7:((List.map (iv) q.d)[(iN q.w).toNat]?=some (iv q.x)))(h8:(decide (0<=q.x)=true))(h9:(decide (q.bz<0)=false))(h10:(0<=q.bz))(h11:((List.map (iv) q.d)[q.bz.toNat]?=some (iv q.y)))(h12:(decide (q.x<q.y)=true)){post:Exit->St->Prop}{R:St->Prop}(hR:∀st,Ren 0 st (St.mk 72 [(0,AV.lst (gL q.g)),(1,AV.lst (boL q.s)),(2,iv (iN q.a)),(7,AV.lst (List.map (iv) q.d)),(8,iv (iN q.w)),(9,iv (i64.wrap (iN q.i+1)))] [])->R st):GoP Try.prog (hU [53,83,88,111] (e26 q) (cE q)) 0 (zC (zB Try.f135) 0) (D1 q) (andThen R post):=
 zN (σ:=[]) (fz:=[]) (vars:=[0,1,2,7,8,9]) (by kernel_rfl) (aj (aj (u2 (u2 (u2 (aj (k2 (aj h1 h2)) (u2 (u2 (al t3))))))) (aj h3 (aj (u2 (u2 (aj (k2 (aj h1 h2)) (u2 (u2 (aj (k2 (aj h4 h5)) (u2 s2))))))) (aj (u2 (u2 (aj (k2 (aj h6 h7)) (u2 (u2 (u2 (ag h8 (ag h8 (ag h8 (ag h9 (ag h9 (aj (aj h9 (k2 (aj h6 h7))) (ag h9 (ag h9 (ag h9 (aj (aj h9 (k2 (aj h10 h11))) (ag h9 (aj (aj h9 t3) (aj (aj h8 (aj h9 t2)) (al (aj h8 t2))))))))))))))))))))) (aj h12 (aj (u2 s2) (al (u2 (u2 s2))))))))) t7) hR
theorem rwr_2(q:QE)(h1:(0<=iN q.a))(h2:((gL q.g)[(iN q.a).toNat]?=some (AV.lst (List.map (iv) q.r))))(h3:(decide (iN q.i<iN (List.map (iv) q.r).length)=true))(h4:(0<=iN q.i))(h5:((List.map (iv) q.r)[(iN q.i).toNat]?=some (iv (iN q.w))))(h6:(0<=iN q.w))(h7:((List.map (iv) q.d)[(iN q.w).toNat]?=some (iv q.x)))(h8:(decide (0<=q.x)=true))(h9:(decide (q.bz<0)=false))(h10:(0<=q.bz))(h11:((List.map (iv) q.d)[q.bz.toNat]?=some (iv q.y)))(h12:(decide (q.x<q.y)=false)){post:Exit->St->Prop}{R:St->Prop}(hR:∀st,Ren 0 st (St.mk 72 [(0,AV.lst (gL q.g)),(1,AV.lst (boL q.s)),(2,iv (iN q.a)),(7,AV.lst (List.map (iv) q.d)),(8,iv q.bz),(9,iv (i64.wrap (iN q.i+1)))] [])->R st):GoP Try.prog (hU [53,83,88,110] (e26 q) (cE q)) 0 (zC (zB Try.f135) 0) (D1 q) (andThen R post):=
 zN (σ:=[]) (fz:=[]) (vars:=[0,1,2,7,8,9]) (by kernel_rfl) (aj (aj (u2 (u2 (u2 (aj (k2 (aj h1 h2)) (u2 (u2 (al t3))))))) (aj h3 (aj (u2 (u2 (aj (k2 (aj h1 h2)) (u2 (u2 (aj (k2 (aj h4 h5)) (u2 s2))))))) (aj (u2 (u2 (aj (k2 (aj h6 h7)) (u2 (u2 (u2 (ag h8 (ag h8 (ag h8 (ag h9 (ag h9 (aj (aj h9 (k2 (aj h6 h7))) (ag h9 (ag h9 (ag h9 (aj (aj h9 (k2 (aj h10 h11))) (ag h9 (aj (aj h9 t3) (aj (aj h8 (aj h9 t2)) (al (aj h8 t2))))))))))))))))))))) (aj h12 (al (u2 (u2 s2)))))))) t7) hR
theorem rwr_3(q:QE)(h1:(0<=iN q.a))(h2:((gL q.g)[(iN q.a).toNat]?=some (AV.lst (List.map (iv) q.r))))(h3:(decide (iN q.i<iN (List.map (iv) q.r).length)=true))(h4:(0<=iN q.i))(h5:((List.map (iv) q.r)[(iN q.i).toNat]?=some (iv (iN q.w))))(h6:(0<=iN q.w))(h7:((List.map (iv) q.d)[(iN q.w).toNat]?=some (iv q.x)))(h8:(decide (0<=q.x)=false)){post:Exit->St->Prop}{R:St->Prop}(hR:∀st,Ren 0 st (St.mk 72 [(0,AV.lst (gL q.g)),(1,AV.lst (boL q.s)),(2,iv (iN q.a)),(7,AV.lst (List.map (iv) q.d)),(8,iv q.bz),(9,iv (i64.wrap (iN q.i+1)))] [])->R st):GoP Try.prog (hU [53,82] (e26 q) (cE q)) 0 (zC (zB Try.f135) 0) (D1 q) (andThen R post):=
 zN (σ:=[]) (fz:=[]) (vars:=[0,1,2,7,8,9]) (by kernel_rfl) (aj (aj (u2 (u2 (u2 (aj (k2 (aj h1 h2)) (u2 (u2 (al t3))))))) (aj h3 (aj (u2 (u2 (aj (k2 (aj h1 h2)) (u2 (u2 (aj (k2 (aj h4 h5)) (u2 s2))))))) (aj (u2 (u2 (aj (k2 (aj h6 h7)) (u2 (u2 (u2 (aj h8 (aj h8 (aj h8 (ak (k3 (k5 (aj h8 (al (aj h8 t2))))))))))))))) (ak (al (u2 (u2 s2)))))))) t7) hR
theorem rwx_0(q:QE)(h1:(0<=iN q.a))(h2:((gL q.g)[(iN q.a).toNat]?=some (AV.lst (List.map (iv) q.r))))(h3:(decide (iN q.i<iN (List.map (iv) q.r).length)=false))(h4:(decide (q.bz<0)=true)):GoO Try.prog (hU [52,117] (e26 q) (cE q)) 0 (zC (zB Try.f135) 0) (zK (zB Try.f135) 0) (D1 q) (Fin Try.prog Try.f135 0 [] (AV.nils)):=
 zF (σ:=[]) (fz:=[0,1]) (by kernel_rfl) (aj (aj (aj (u2 (u2 (u2 (aj (k2 (aj h1 h2)) (u2 (u2 (al t3))))))) (al h3)) (aj (u2 s2) (aj h4 s2))) t2)
theorem rwx_1(q:QE)(h1:(0<=iN q.a))(h2:((gL q.g)[(iN q.a).toNat]?=some (AV.lst (List.map (iv) q.r))))(h3:(decide (iN q.i<iN (List.map (iv) q.r).length)=false))(h4:(decide (q.bz<0)=false))(h5:(CT Try.prog 126 [] [AV.lst (gL q.g),AV.lst (boL q.s),iv q.bz,iv (iN q.a)] [] (AV.lst (List.map (iv) q.p))))(h6:(∀(e:AV),e∈List.map (iv) q.p->e.cells.length=1))(h7:(0<=i64.wrap (iN (List.map (iv) q.p).length-1)))(h8:(i64.wrap (iN (List.map (iv) q.p).length-1)<=iN (List.map (iv) q.p).length))(h9:(iN (List.map (iv) q.p).length<=iN (List.map (iv) q.p).length))(h10:([iv (iN q.a)].length=1))(h11:(∀(e:AV),e∈List.take ((i64.wrap (iN (List.map (iv) q.p).length-1)).toNat-Int.toNat 0) (List.drop (Int.toNat 0) (List.map (iv) q.p))->e.cells.length=1))(h12:([iv (iN q.a)].length+(List.take ((i64.wrap (iN (List.map (iv) q.p).length-1)).toNat-Int.toNat 0) (List.drop (Int.toNat 0) (List.map (iv) q.p))).length<=9223372036854775807))(h13:(([iv (iN q.a)].length+(List.take ((i64.wrap (iN (List.map (iv) q.p).length-1)).toNat-Int.toNat 0) (List.drop (Int.toNat 0) (List.map (iv) q.p))).length) * 8<=140737488355328))(h14:([iv (iN q.a)].length+(List.take ((i64.wrap (iN (List.map (iv) q.p).length-1)).toNat-Int.toNat 0) (List.drop (Int.toNat 0) (List.map (iv) q.p))).length=(iv (iN q.a)::List.append._f [] PUnit.unit (List.take ((i64.wrap (iN (List.map (iv) q.p).length-1)).toNat-Int.toNat 0) (List.drop (Int.toNat 0) (List.map (iv) q.p)))).length)):GoO Try.prog (hU [52,116] (e26 q) (cE q)) 0 (zC (zB Try.f135) 0) (zK (zB Try.f135) 0) (D1 q) (Fin Try.prog Try.f135 0 [] (AV.lst (iv (iN q.a)::List.append._f [] PUnit.unit (List.take ((i64.wrap (iN (List.map (iv) q.p).length-1)).toNat-Int.toNat 0) (List.drop (Int.toNat 0) (List.map (iv) q.p)))))):=
 zF (σ:=[]) (fz:=[0,1]) (by kernel_rfl) (aj (aj (aj (u2 (u2 (u2 (aj (k2 (aj h1 h2)) (u2 (u2 (al t3))))))) (al h3)) (aj (u2 s2) (aj h4 (aj (u2 (u2 (u2 (u2 (aj (k3 (k5 (al h5))) s2))))) (al (u2 (u2 (u2 (u2 (u2 (u2 (aj (k2 (aj h6 (aj (show((0:Int)<=(0:Int)) by first | exact nL rfl | decide) (aj h7 (aj h8 h9))))) (aj (k2 (aj h10 (aj h11 (aj h12 h13)))) s2))))))))))))) (al h14))
def DM(r:List Int)(n v i:Nat):Bool:=decide (r.getD i 0<=BS r i)||(decide ((n:Int)<=r.getD i 0)||r.getD i 0==(v:Int))
theorem RO{r:List Int}{n v:Nat}:(fnd (DM r n v) 0 r.length).isSome=(fnd (AJ r n v) 0 r.length).isSome:=by
 have up:∀i,DM r n v i=true->AJ r n v i=true:=by
  intro i h
  unfold DM BS at h
  unfold AJ
  simp only[TY,Tu,decide_eq_true_eq,beq_iff_eq] at h ⊢
  rcases h with h | h | h
  .split at h
   .exact .inl (by omega)
   .exact .inr (.inr (.inr ⟨by omega,h⟩))
  .exact .inr (.inl h)
  .exact .inr (.inr (.inl h))
 have dn:∀i,AJ r n v i=true->∃j,j<=i/\DM r n v j=true:=by
  intro i
  induction i with
  | zero=>
   intro h
   refine⟨0,Tx _,?_⟩
   unfold AJ at h
   unfold DM BS
   simp only[TY,Tu,decide_eq_true_eq,beq_iff_eq] at h ⊢
   rcases h with h | h | h | ⟨h,_⟩
   .exact .inl (show r.getD 0 0<=(-1:Int) by omega)
   .exact .inr (.inl h)
   .exact .inr (.inr h)
   .omega
  | succ i ih=>
   intro h
   by_cases hl:DM r n v (i+1)=true
   .exact⟨i+1,Tx _,hl⟩
   .have hneg:AJ r n v i=true:=by
     unfold DM BS at hl
     unfold AJ at h ⊢
     simp only[TY,Tu,decide_eq_true_eq,beq_iff_eq,not_or] at h hl ⊢
     rw[Tj (by omega)] at hl
     rcases h with h | h | h | ⟨_,h⟩
     .simp only[S5] at hl
      exact .inl (by omega)
     .exact absurd h hl.2.1
     .exact absurd h hl.2.2
     .exact absurd h hl.1
    obtain⟨j,hj,h2⟩:=ih hneg
    exact⟨j,by omega,h2⟩
 cases h1:fnd (DM r n v) 0 r.length with
 | none=>
  cases h2:fnd (AJ r n v) 0 r.length with
  | none=>rfl
  | some i=>
   obtain⟨a,_,b⟩:=D6 h2
   obtain⟨j,hj,hb⟩:=dn i a
   have:=Dc h1 j (Ty _) (by omega)
   rw[hb] at this;cases this
 | some i=>
  cases h2:fnd (AJ r n v) 0 r.length with
  | some _=>rfl
  | none=>
   obtain⟨a,_,b⟩:=D6 h1
   have:=Dc h2 i (Ty _) (by omega)
   rw[up i a] at this;cases this
theorem Hs{g:List (List Int)}{s:List Bool}(hrw:Rows g)(h:C9 g s=0):OkG g s/\Asc g:=by
 unfold C9 at h
 by_cases h1:24<g.length
 .rw[Ti h1] at h;cases h
 rw[Tj h1] at h
 by_cases h2:DI g=true
 .rw[Ti h2] at h;cases h
 rw[Tj h2] at h
 by_cases h3:s.length=g.length
 .have hb:∀a,a<g.length->∀i,i<(g.getD a []).length->AJ (g.getD a []) g.length a i=false:=by
   intro a ha i hi
   have e1:fnd (DA g) 0 g.length=none:=by unfold DI at h2;simpa using h2
   have e2:=Dc e1 a (Ty _) (by omega)
   unfold DA at e2
   have e3:fnd (AJ (g.getD a []) g.length a) 0 (g.getD a []).length=none:=by simpa using e2
   exact Dc e3 i (Ty _) (by omega)
  refine⟨⟨by omega,fun a ha=>⟨hrw a ha,fun x hx=>?_⟩,h3⟩,fun a ha i h0 hi=>?_⟩
  .obtain⟨i,hi,rfl⟩:=N4 hx
   have hbad:=hb a ha i hi
   unfold AJ at hbad
   simp only[Bool.or_eq_false_iff,decide_eq_false_iff_not,TX,ne_eq] at hbad
   exact⟨by omega,by omega,hbad.2.2.1⟩
  .have hbad:=hb a ha i hi
   unfold AJ at hbad
   rw[Ts h0,Bool.true_and] at hbad
   simp only[Bool.or_eq_false_iff,decide_eq_false_iff_not] at hbad
   omega
 .rw[Ti h3] at h;cases h
theorem wkL_take(g:List (List Int))(d:List Int)(a k:Nat):(wkL g d a k).take k=(List.range k).map (wkZ g d a):=by
 unfold wkL
 rw[<-List.map_take,List.take_range,Nat.min_eq_left (by omega)]
theorem Q9{g:List (List Int)}{s:List Bool}(hg:OkG g s)(v:Nat)(hv:v<g.length):CT Try.prog 135 [] [.lst (gL g),.lst (boL s),.int .i64 (v:Nat)] [] (lI (thZ g s v)):=by
 have hgl:=hg.len
 have hl:=Bt g
 have hsv:=J3 (s:=s) (v:=v) (by rw[hg.sh];exact hv)
 have hb:Try.f135.body=some (zB Try.f135):=by kernel_rfl
 have hn:[AV.lst (gL g),.lst (boL s),.int .i64 (v:Nat)].length<=Try.f135.ntmps:=nL rfl
 unfold thZ
 by_cases hso:s.getD v false=true
 .rw[Ti hso]
  exact CT.pathW mix Try.func135 hb hn (rwz_0 ⟨g,s,0,[],[],[],[],0,0,v,0,0,0,0,0,false,s.getD v false⟩ (by simp[iN]) hsv hso) rfl
 .rw[Tj hso]
  have hso:=T8.2 hso
  have c1:=M0 hg v hv
  rw[Lv hg hv] at c1
  have hD:=HF hg hv
  have hfirst:∀w,w<g.length->0<=(AL g s v g.length).getD w 0->CT Try.prog 126 [] [.lst (gL g),.lst (boL s),.int .i64 (w:Nat),.int .i64 (v:Nat)] [] (lI (wkL g (AL g s v g.length) w ((AL g s v g.length).getD w 0).toNat)):=by
   intro w hw h0
   have:=first_ct hg w v hw hv
   rwa [Tj (by omega)] at this
  generalize AL g s v g.length=d at c1 hD hfirst
  have hbo:=fun i=>PZ (d:=d) (OY hg hv) i
  have hr1:=(hg.row v hv).1
  have hrow:=DX hv
  have hget:=fun i=>Hm hg hv (i:=i)
  generalize g.getD v []=r at hbo hr1 hrow hget
  have hrl:=Cm r
  have hbr:∀i,i<=r.length->B9 d r i = -1\/∃b:Nat,B9 d r i=(b:Int)/\b<g.length/\0<=d.getD b 0:=by
   intro i hi
   rcases hbo i hi with h | ⟨k,hk,h,h0,_⟩
   .exact .inl h.1
   .obtain⟨w,hw,hw1,_⟩:=hget k (by omega)
    rw[hw,Tv] at h0
    exact .inr ⟨w,by rw[h,hw],hw1,h0⟩
  have run:∀res,(B9 d r r.length = -1->res = .nils)->(∀b:Nat,B9 d r r.length=(b:Int)->res=lI ((v:Int)::(List.range (d.getD b 0).toNat).map (wkZ g d b)))->
    T Try.prog 0 (.loop (zC (zB Try.f135) 0)) (D1 ⟨g,s,0,[],[],d,r,0,0,v,0,0,0,0,-1,false,false⟩) (TK Try.prog 0 (Fin Try.prog Try.f135 0 [] res) (zK (zB Try.f135) 0)):=by
   intro res hnil hsome
   refine T.loop (fun i:Nat=>D1 ⟨g,s,0,[],[],d,r,0,i,v,0,0,0,0,B9 d r i,false,false⟩) (fun i=>i<=r.length) (fun i=>r.length+1-i) 0 (Ty _) ?_
   intro i hi
   by_cases h:i<r.length
   .obtain⟨w,hw,hw1,hw2⟩:=hget i h
    have hg1:=BU h
    rw[hw] at hg1
    have hdw:=BU (l:=d) (j:=w) (by rw[hD.len];omega)
    have dk:decide (iN i<iN (r.map (AV.int .i64)).length)=true:=Ts (by simp only[iN,hrl];omega)
    have wi:i64.wrap (iN i+1)=((i+1:Nat):Int):=zW i (by omega)
    have hstep:B9 d r (i+1)=IP d (B9 d r i) (w:Int):=by rw[B9,hw]
    unfold IP at hstep
    rw[Tv] at hstep
    have next:∀st,Ren 0 st (D1 ⟨g,s,0,[],[],d,r,0,i+1,v,0,0,0,0,B9 d r (i+1),false,false⟩)->∃j,Ren 0 st (D1 ⟨g,s,0,[],[],d,r,0,j,v,0,0,0,0,B9 d r j,false,false⟩)/\j<=r.length/\r.length+1-j<r.length+1-i:=fun st hst=>⟨i+1,hst,h,by omega⟩
    by_cases c1:0<=d.getD w 0
    .rw[Ti c1] at hstep
     rcases hbr i hi with hb | ⟨b,hb,hbl,_⟩
     .rw[hb,Ti (by decide)] at hstep
      rw[hstep] at next
      rw[hb]
      refine T.path mix (rwr_0 ⟨g,s,0,[],[],d,r,0,i,v,w,d.getD w 0,0,0,-1,false,false⟩ (by simp[iN]) hrow dk (by simp[iN]) hg1 (by simp[iN]) hdw (Ts c1) rfl ?_)
      intro st hst
      simp only[wi] at hst
      exact next st hst
     .rw[hb,Tj (by omega),Tv] at hstep
      have hdb:=BU (l:=d) (j:=b) (by rw[hD.len];omega)
      rw[hb]
      by_cases c2:d.getD w 0<d.getD b 0
      .rw[Ti c2] at hstep
       rw[hstep] at next
       refine T.path mix (rwr_1 ⟨g,s,0,[],[],d,r,0,i,v,w,d.getD w 0,d.getD b 0,0,(b:Int),false,false⟩ (by simp[iN]) hrow dk (by simp[iN]) hg1 (by simp[iN]) hdw (Ts c1) (Tq (by simp only;omega)) (by simp) hdb (Ts c2) ?_)
       intro st hst
       simp only[wi] at hst
       exact next st hst
      .rw[Tj c2] at hstep
       rw[hstep] at next
       refine T.path mix (rwr_2 ⟨g,s,0,[],[],d,r,0,i,v,w,d.getD w 0,d.getD b 0,0,(b:Int),false,false⟩ (by simp[iN]) hrow dk (by simp[iN]) hg1 (by simp[iN]) hdw (Ts c1) (Tq (by simp only;omega)) (by simp) hdb (Tq c2) ?_)
       intro st hst
       simp only[wi] at hst
       exact next st hst
    .rw[Tj c1] at hstep
     rw[hstep] at next
     refine T.path mix (rwr_3 ⟨g,s,0,[],[],d,r,0,i,v,w,d.getD w 0,0,0,B9 d r i,false,false⟩ (by simp[iN]) hrow dk (by simp[iN]) hg1 (by simp[iN]) hdw (Tq c1) ?_)
     intro st hst
     simp only[wi] at hst
     exact next st hst
   .obtain rfl:i=r.length:=by omega
    have dn:decide (iN r.length<iN (r.map (AV.int .i64)).length)=false:=Tq (by simp only[iN,hrl];omega)
    rcases hbr r.length (Tx _) with hb | ⟨b,hb,hbl,hb0⟩
    .rw[hnil hb,hb]
     exact T.out mix (rwx_0 ⟨g,s,0,[],[],d,r,0,r.length,v,0,0,0,0,-1,false,false⟩ (by simp[iN]) hrow dn rfl)
    .rw[hsome b hb,hb]
     have hbd:=(hD.bnd b hbl).2
     have hf:=hfirst b hbl hb0
     obtain⟨m,hm⟩:∃m:Nat,d.getD b 0=(m:Int):=⟨(d.getD b 0).toNat,by omega⟩
     rw[hm,Tv] at hf ⊢
     have hpl:=NC g d b m
     have htk:=wkL_take g d b m
     generalize wkL g d b m=p at hf hpl htk
     have hlp:=Cm p
     have hw1:i64.wrap (iN (p.map (AV.int .i64)).length-1)=((m:Nat):Int):=by
      rw[hlp,hpl]
      have:=F4 (m+1) (by omega) (by omega)
      simp only[iN];rw[this];simp
     have e3:List.take (((m:Nat):Int).toNat-Int.toNat 0) (List.drop (Int.toNat 0) (p.map (AV.int .i64)))=((List.range m).map (wkZ g d b)).map (AV.int .i64):=by
      rw[<-htk];simp[List.map_take]
     have k:=rwx_1 ⟨g,s,0,p,[],d,r,0,r.length,v,0,0,0,0,(b:Int),false,false⟩ (by simp[iN]) hrow dn (Tq (by simp only;omega)) hf (fun x hx=>by obtain⟨y,_,rfl⟩:=TT.1 hx;rfl) (by simp only[hw1];omega) (by simp only[hw1];simp only[iN,hlp,hpl];omega) (Int.le_refl _) rfl
      (fun x hx=>by simp only[hw1,e3] at hx;obtain⟨y,_,rfl⟩:=TT.1 hx;rfl) (by simp only[hw1,e3];simp;omega) (by simp only[hw1,e3];simp;omega) (by simp only[hw1,e3];show _=([AV.int .i64 (iN v)]++_).length;rw[TF])
     simp only[hw1,e3] at k
     exact T.out mix k
  have hz:=hbr r.length (Tx _)
  generalize B9 d r r.length=b at run hz
  unfold thD
  rcases hz with rfl | ⟨b,rfl,hbl,hb0⟩
  .rw[Ti (by decide)]
   refine CT.pathW mix Try.func135 hb hn (res:=.nils) (rw_0 ⟨g,s,0,[],[],d,[],0,0,v,0,0,0,0,0,false,s.getD v false⟩ (by simp[iN]) hsv hso c1 ?_) rfl
   exact run _ (fun _=>rfl) (fun b h=>by omega)
  .rw[Tj (by omega),Tv]
   refine CT.path mix Try.func135 hb hn (rw_0 ⟨g,s,0,[],[],d,[],0,0,v,0,0,0,0,0,false,s.getD v false⟩ (by simp[iN]) hsv hso c1 ?_)
   exact run _ (fun h=>by omega) (fun b' h=>by rw[show b'=b by omega])
def thT(e:Int)(l:List Int):AV:=.tup [.int .i64 (iN l.length),lI l,.int .i64 e]
def Im(o p:List Int):List Int:=if 0<p.length/\(o=[]\/p.length<o.length) then p else o
def B7(g:List (List Int))(s:List Bool):Nat->List Int
 | 0=>[]
 | v+1=>Im (B7 g s v) (thZ g s v)
def H4(g:List (List Int))(s:List Bool):List Int:=if C9 g s=0 then B7 g s g.length else []
def qgi(g:List (List Int))(s:List Bool)(p o:List Int)(i:Nat):QE:=⟨g,s,0,p,o,[],[],0,i,0,0,0,0,0,0,false,false⟩
theorem RJ{g:List (List Int)}{s:List Bool}(hrw:Rows g):CT Try.prog 103 [] [.lst (gL g),.lst (boL s)] [] (thT (C9 g s) (H4 g s)):=by
 have hl:=Bt g
 have c:=Sd (s:=s) hrw
 have hb:Try.f103.body=some (zB Try.f103):=by kernel_rfl
 have hn:[AV.lst (gL g),.lst (boL s)].length<=Try.f103.ntmps:=nL rfl
 unfold H4
 by_cases h:C9 g s=0
 .rw[Ti h]
  rw[h] at c ⊢
  obtain⟨hg,ha⟩:=Hs hrw h
  have hgl:=hg.len
  refine CT.path mix Try.func103 hb hn (rgi_1 ⟨g,s,0,[],[],[],[],0,0,0,0,0,0,0,0,false,false⟩ c rfl (T.nil ?_))
  refine T.loop (fun i:Nat=>ET (qgi g s [] (B7 g s i) i)) (fun i=>i<=g.length) (fun i=>g.length+1-i) 0 (Ty _) ?_
  intro i hi
  by_cases hil:i<g.length
  .have ct:=Q9 hg i hil
   have hs1:B7 g s (i+1)=Im (B7 g s i) (thZ g s i):=rfl
   have next:∀st,Ren 0 st (ET (qgi g s [] (B7 g s (i+1)) (i+1)))->∃j,Ren 0 st (ET (qgi g s [] (B7 g s j) j))/\j<=g.length/\g.length+1-j<g.length+1-i:=fun st hst=>⟨i+1,hst,hil,by omega⟩
   rw[hs1] at next
   generalize thZ g s i=p at ct next
   generalize B7 g s i=o at next
   have hpl:=Cm p
   have hol:=Cm o
   have dk:decide (iN i<iN (gL g).length)=true:=Ts (by simp only[iN,hl];omega)
   have wi:i64.wrap (iN i+1)=((i+1:Nat):Int):=zW i (by omega)
   unfold Im at next
   by_cases hp:0<p.length
   .have dp:decide (0<iN (p.map (AV.int .i64)).length)=true:=Ts (by simp only[iN,hpl];omega)
    by_cases ho:o=[]
    .rw[Ti ⟨hp,.inl ho⟩] at next
     refine T.path mix (rgr_0 (qgi g s p o i) dk ct dp (by simp[qgi,ho,iN]) ?_)
     intro st hst
     simp only[wi,qgi] at hst
     exact next st hst
    .have hol0:(iN (o.map (AV.int .i64)).length==0)=false:=by
      simp only[iN,hol,TX,ne_eq]
      intro e
      exact ho (List.length_eq_zero_iff.1 (by omega))
     by_cases hlt:p.length<o.length
     .rw[Ti ⟨hp,.inr hlt⟩] at next
      refine T.path mix (rgr_1 (qgi g s p o i) dk ct dp hol0 (Ts (by simp only[iN,qgi,hpl,hol];omega)) ?_)
      intro st hst
      simp only[wi,qgi] at hst
      exact next st hst
     .rw[Tj (fun h=>h.2.elim ho hlt)] at next
      refine T.path mix (rgr_2 (qgi g s p o i) dk ct dp hol0 (Tq (by simp only[iN,qgi,hpl,hol];omega)) ?_)
      intro st hst
      simp only[wi,qgi] at hst
      exact next st hst
   .rw[Tj (fun h=>hp h.1)] at next
    refine T.path mix (rgr_3 (qgi g s p o i) dk ct (Tq (by simp only[iN,qgi,hpl];omega)) ?_)
    intro st hst
    simp only[wi,qgi] at hst
    exact next st hst
  .obtain rfl:i=g.length:=by omega
   have k:=rgx_0 (qgi g s [] (B7 g s g.length) g.length) (Tq (by simp only[iN,qgi,hl];omega))
   simp only[Cm,qgi] at k
   exact T.out mix k
 .rw[Tj h]
  exact CT.pathW mix Try.func103 hb hn (rgi_0 ⟨g,s,0,[],[],[],[],C9 g s,0,0,0,0,0,0,0,false,false⟩ c (by simpa using h)) rfl
def Kd(g:List (List Int))(s:List Bool)(o:List Int):Prop:=o≠[]/\(∀x∈o,0<=x/\x<(g.length:Int)/\s.getD x.toNat false=false)/\∀i,i<o.length->o.getD ((i+1) % o.length) 0∈g.getD (o.getD i 0).toNat []
theorem get_mem{o:List Int}{i:Nat}(h:i<o.length):o.getD i 0∈o:=by
 rw[Tl,Tk h]
 exact TU h
theorem Nf{o:List Int}{x:Int}(h:x∈o):∃i,i<o.length/\o.getD i 0=x:=by
 obtain⟨i,hi,e⟩:=TZ.1 h
 exact⟨i,hi,by rw[Tl,Tk hi];exact e⟩
theorem PQ{g:List (List Int)}{s:List Bool}(hg:OkG g s)(ha:Asc g){v:Nat}(hv:v<g.length):(g.getD v []).length<=g.length:=by
 have hget:=fun i=>Hm hg hv (i:=i)
 have hs:=ha v hv
 generalize g.getD v []=r at hget hs
 have key:∀i,i<r.length->(i:Int)<=r.getD i 0:=by
  intro i
  induction i with
  | zero=>intro h;obtain⟨w,hw,_⟩:=hget 0 h;omega
  | succ i ih=>intro h;have h1:=ih (by omega);have h2:=hs (i+1) (by omega) h;simp only[S5] at h2;omega
 by_cases h:r.length=0
 .omega
 .have h1:=key (r.length-1) (by omega)
  obtain⟨w,hw,hw1,_⟩:=hget (r.length-1) (by omega)
  omega
def Kx(o:List Int)(i:Nat):Int:=if i=0 then o.getD (o.length-1) 0 else o.getD (i-1) 0
theorem Kd.of{g:List (List Int)}{s:List Bool}{o:List Int}(h0:o≠[])(h:∀i,i<o.length->(0<=o.getD i 0/\o.getD i 0<(g.length:Int)/\s.getD (o.getD i 0).toNat false=false)/\o.getD i 0∈g.getD (Kx o i).toNat []):Kd g s o:=by
 refine⟨h0,fun x hx=>?_,fun i hi=>?_⟩
 .obtain⟨i,hi,rfl⟩:=Nf hx
  exact(h i hi).1
 .by_cases e:i+1=o.length
  .rw[e,Nat.mod_self]
   have:=(h 0 (by omega)).2
   unfold Kx at this
   rw[Ti rfl] at this
   rwa [show i=o.length-1 by omega]
  .rw[Tc (by omega)]
   have:=(h (i+1) (by omega)).2
   unfold Kx at this
   rwa [Tj (by omega),S5] at this
structure QL where
 L:List Int
 g:List (List Int)
 s:List Bool
 v:Nat
 goal:Nat
 p:List Int
 d:List Int
 h:List Int
 rl:List Bool
 k:Nat
 w:Nat
 x:Int
 y:Int
 z:Int
 b:Bool
 sb:Bool
 r:List Int
 m1:Nat
 m2:Nat
def c6(q:QL):Nat->FuncId->List AV->List (Option Blk)->AE:=fun dst f args hp=>match f with
 | 15=>M9 q.L args hp (match dst with | 34=>iN q.v | _=>iN q.goal)
 | 111=>.call [] [] [] (.tup [lI q.p,.int .i64 0])
 | 32=>.call [] [] [] (.tup [lI q.d,.int .i64 0])
 | 26=>.call [] [] [] (.bool true)
 | _=>.no
theorem Rp{l:List Int}{x:Int}(h:x∈l):Ak l x=true:=by
 cases e:Ak l x with
 | true=>rfl
 | false=>exact absurd h (JG e)
theorem hop_mem{g:List (List Int)}{s:List Bool}(hg:OkG g s){goal:Nat}{d:List Int}(hD:Dst g s goal d){u:Nat}(hu:u<g.length)(h0:0<d.getD u 0)(hgd:s.getD goal false=false):Dt g d u∈g.getD u []:=by
 have h:=(Qp hg hD hu h0 hgd).1
 unfold Dt at h ⊢
 cases hf:fnd (EU g d u) 0 (g.getD u []).length with
 | none=>rw[hf] at h;exact absurd h (show ¬(0:Int)<=-1 by decide)
 | some i=>
  obtain⟨_,_,b⟩:=D6 hf
  show(g.getD u []).getD i 0∈g.getD u []
  rw[Tl (l:=g.getD u []),Tk (by omega)]
  exact TU (by omega)
theorem OM{g:List (List Int)}{s:List Bool}(hg:OkG g s){v:Nat}(hv:v<g.length)(hne:thZ g s v≠[]):
  ∃b m:Nat,s.getD v false=false/\b<g.length/\(b:Int)∈g.getD v []/\(AL g s v g.length).getD b 0=(m:Int)/\1<=m/\thZ g s v=(v:Int)::(List.range m).map (wkZ g (AL g s v g.length) b)/\
   ∀w∈g.getD v [],0<=(AL g s v g.length).getD w.toNat 0->(m:Int)<=(AL g s v g.length).getD w.toNat 0:=by
 unfold thZ at hne ⊢
 by_cases hso:s.getD v false=true
 .rw[Ti hso] at hne;exact absurd rfl hne
 .rw[Tj hso] at hne ⊢
  have hso:=T8.2 hso
  have hD:=HF hg hv
  generalize AL g s v g.length=d at hne hD ⊢
  have hbo:=PZ (d:=d) (OY hg hv) _ (Tx _)
  generalize hbb:B9 d (g.getD v []) (g.getD v []).length=b at hbo hne ⊢
  unfold thD at hne ⊢
  rcases hbo with ⟨rfl,_⟩ | ⟨k,hk,hbk,hk0,hmin,_⟩
  .rw[Ti (by decide)] at hne;exact absurd rfl hne
  .obtain⟨w,hw,hw1,hw2⟩:=Hm hg hv hk
   rw[hw] at hbk
   subst hbk
   rw[hw,Tv] at hk0 hmin
   rw[Tj (by omega)]
   refine⟨w,(d.getD w 0).toNat,hso,hw1,by rw[<-hw];exact row_mem hk,by omega,?_,by rw[Tv],fun x hx h0=>?_⟩
   .by_cases e:d.getD w 0=0
    .exact absurd (Mt hD hw1 e) hw2
    .omega
   .obtain⟨j,hj,rfl⟩:=N4 hx
    have:=hmin j hj h0
    omega
theorem th_get{g:List (List Int)}{d:List Int}{v b m:Nat}:∀i,i<m+1->((v:Int)::(List.range m).map (wkZ g d b)).getD i 0=if i=0 then (v:Int) else wkZ g d b (i-1):=by
 intro i hi
 cases i with
 | zero=>rfl
 | succ i=>rw[Tj (by omega),S5,List.getD_cons_succ,Tl,Tw,TH (by omega)];rfl
theorem th_cls{g:List (List Int)}{s:List Bool}(hg:OkG g s){v:Nat}(hv:v<g.length)(hne:thZ g s v≠[]):Kd g s (thZ g s v)/\(thZ g s v).getD 0 0=(v:Int)/\∀i,i<(thZ g s v).length->(thZ g s v).getD i 0∉(thZ g s v).take i:=by
 obtain⟨b,m,hso,hb,hbm,hm,h1,e,_⟩:=OM hg hv hne
 rw[e]
 have hD:=HF hg hv
 generalize AL g s v g.length=d at hD hm
 have hok:=wk_ok hg hv hD hb hm hso
 have hz:=hD.zero hso
 have hlen:((v:Int)::(List.range m).map (wkZ g d b)).length=m+1:=by simp
 have hget:=th_get (g:=g) (d:=d) (v:=v) (b:=b) (m:=m)
 have hwm:wkZ g d b m=(v:Int):=by
  obtain⟨a1,a2,a3⟩:=hok m (Tx _)
  have:=Mt hD (v:=(wkZ g d b m).toNat) (by omega) (by rw[a3];simp)
  omega
 generalize hl:(v:Int)::(List.range m).map (wkZ g d b)=l at hlen hget
 refine⟨⟨by rw[<-hl];simp,fun x hx=>?_,fun i hi=>?_⟩,by rw[<-hl];rfl,fun i hi hm'=>?_⟩
 .obtain⟨i,hi,rfl⟩:=Nf hx
  rw[hget i (by omega)]
  split
  .exact⟨by omega,by omega,by rw[Tv];exact hso⟩
  .obtain⟨a1,a2,a3⟩:=hok (i-1) (by omega)
   exact⟨a1,a2,by
    have hu:(wkZ g d b (i-1)).toNat<g.length:=by omega
    rcases hD.back _ hu (by rw[a3];omega) with e | e
    .rw[e];exact hso
    .exact e.1⟩
 .have hnx:l.getD ((i+1) % l.length) 0=wkZ g d b i:=by
   by_cases e2:i=m
   .rw[hlen,e2,Nat.mod_self,hget 0 (by omega),Ti rfl,hwm]
   .rw[hlen,Tc (by omega),hget (i+1) (by omega),Tj (by omega),S5]
  rw[hnx,hget i (by omega)]
  split
  .rename_i e0
   rw[e0,Tv]
   exact hbm
  .rename_i e0
   obtain⟨a1,a2,a3⟩:=hok (i-1) (by omega)
   have:=hop_mem hg hD (u:=(wkZ g d b (i-1)).toNat) (by omega) (by rw[a3];omega) hso
   obtain⟨i',rfl⟩:∃i',i=i'+1:=⟨i-1,by omega⟩
   exact this
 .have hm2:∃j,j<i/\l.getD j 0=l.getD i 0:=by
   obtain⟨j,hj,e2⟩:=Nf hm'
   have hj2:j<i:=by simp only[TP] at hj;omega
   refine⟨j,hj2,?_⟩
   rw[<-e2,Tl,Tl,TE,Ti hj2]
  obtain⟨j,hj,e2⟩:=hm2
  rw[hget i (by omega),hget j (by omega),Tj (show ¬i=0 by omega)] at e2
  obtain⟨a1,a2,a3⟩:=hok (i-1) (by omega)
  by_cases ej:j=0
  .rw[Ti ej] at e2
   rw[<-e2,Tv,hz] at a3
   omega
  .rw[Tj ej] at e2
   obtain⟨b1,b2,b3⟩:=hok (j-1) (by omega)
   rw[e2,a3] at b3
   omega
theorem Qk(g:List (List Int))(s:List Bool):∀k,(B7 g s k=[]/\∀v,v<k->thZ g s v=[])\/∃v,v<k/\B7 g s k=thZ g s v/\thZ g s v≠[]/\∀u,u<k->thZ g s u≠[]->(thZ g s v).length<=(thZ g s u).length:=by
 intro k
 induction k with
 | zero=>exact .inl ⟨rfl,fun v hv=>by omega⟩
 | succ k ih=>
  have e:B7 g s (k+1)=Im (B7 g s k) (thZ g s k):=rfl
  rw[e]
  unfold Im
  by_cases hp:thZ g s k=[]
  .rw[Tj (fun h=>by rw[hp] at h;exact absurd h.1 (by simp))]
   rcases ih with ⟨h1,h2⟩ | ⟨v,hv,h1,h2,h3⟩
   .refine .inl ⟨h1,fun v hv=>?_⟩
    by_cases ev:v=k
    .rw[ev];exact hp
    .exact h2 v (by omega)
   .refine .inr ⟨v,by omega,h1,h2,fun u hu hne=>?_⟩
    by_cases eu:u=k
    .rw[eu] at hne;exact absurd hp hne
    .exact h3 u (by omega) hne
  .have hpl:0<(thZ g s k).length:=List.length_pos_iff.2 hp
   rcases ih with ⟨h1,h2⟩ | ⟨v,hv,h1,h2,h3⟩
   .rw[Ti ⟨hpl,.inl h1⟩]
    refine .inr ⟨k,by omega,rfl,hp,fun u hu hne=>?_⟩
    by_cases eu:u=k
    .rw[eu];exact Tx _
    .exact absurd (h2 u (by omega)) hne
   .rw[h1]
    by_cases hlt:(thZ g s k).length<(thZ g s v).length
    .rw[Ti ⟨hpl,.inr hlt⟩]
     refine .inr ⟨k,by omega,rfl,hp,fun u hu hne=>?_⟩
     by_cases eu:u=k
     .rw[eu];exact Tx _
     .have:=h3 u (by omega) hne;omega
    .rw[Tj (fun h=>h.2.elim h2 hlt)]
     refine .inr ⟨v,by omega,rfl,h2,fun u hu hne=>?_⟩
     by_cases eu:u=k
     .rw[eu];omega
     .exact h3 u (by omega) hne
theorem R9{g:List (List Int)}{s:List Bool}(hg:OkG g s)(hne:B7 g s g.length≠[]):Kd g s (B7 g s g.length)/\∀i,i<(B7 g s g.length).length->(B7 g s g.length).getD i 0∉(B7 g s g.length).take i:=by
 rcases Qk g s g.length with ⟨h,_⟩ | ⟨v,hv,h1,h2,_⟩
 .exact absurd h hne
 .rw[h1]
  obtain⟨a,_,c⟩:=th_cls hg hv h2
  exact⟨a,c⟩
theorem thZ_len{g:List (List Int)}{s:List Bool}(hg:OkG g s){v:Nat}(hv:v<g.length):(thZ g s v).length<=1000:=by
 by_cases h:thZ g s v=[]
 .rw[h];simp
 .obtain⟨b,m,_,hb,_,hm,_,e,_⟩:=OM hg hv h
  have:=((HF hg hv).bnd b hb).2
  have:=hg.len
  rw[e]
  simp only[T2,Tn,T5]
  omega
theorem Fz{l:List Int}{x:Int}:Ak l x=true↔x∈l:=by
 constructor
 .intro hh
  unfold Ak at hh
  cases hfd:fnd (fun j=>l.getD j 0==x) 0 l.length with
  | none=>rw[hfd] at hh;cases hh
  | some j=>
   obtain⟨a1,_,a2⟩:=D6 hfd
   rw[<-beq_iff_eq.1 a1]
   exact get_mem (by omega)
 .exact Rp
@[irreducible] def AF(c:Int):Bool:=(decide (97<=c)&&decide (c<=122))||(decide (65<=c)&&decide (c<=90))
@[irreducible] def okB(c:Int):Bool:=AF c||!(decide (c<48)||decide (57<c))||(c==45)||(c==95)
@[irreducible] def nmB(s:ByteArray):Bool:= !(s.toList==(ByteArray.mk #[]).toList)&&!(decide (12<iN s.size))&&AF (bAt s 0)&&!(fnd (fun i=> !(okB (bAt s i))) 0 s.size).isSome
theorem NK(c:Int):CT Try.prog 144 [] [.int .u8 c] [] (.bool (AF c)):=by
 have hb:Try.f144.body=some (zB Try.f144):=by kernel_rfl
 have hn:[AV.int .u8 c].length<=Try.f144.ntmps:=nL rfl
 cases t1:decide (97<=(QN.mk ⟨#[]⟩ c 0 false false 0 0 0 0).c)
 case false=>
  cases t2:decide (65<=(QN.mk ⟨#[]⟩ c 0 false false 0 0 0 0).c)
  case false=>
   exact CT.pathS mix Try.func144 hb hn (let_4 (QN.mk ⟨#[]⟩ c 0 false false 0 0 0 0) t1 t2) (by simp_all [AF]<;>omega)
  case true=>
   exact CT.pathS mix Try.func144 hb hn (let_3 (QN.mk ⟨#[]⟩ c 0 false false 0 0 0 0) t1 t2) (by simp_all [AF]<;>omega)
 case true=>
  cases t3:decide ((QN.mk ⟨#[]⟩ c 0 false false 0 0 0 0).c<=122)
  case false=>
   cases t4:decide (65<=(QN.mk ⟨#[]⟩ c 0 false false 0 0 0 0).c)
   case false=>
    exact CT.pathS mix Try.func144 hb hn (let_2 (QN.mk ⟨#[]⟩ c 0 false false 0 0 0 0) t1 t3 t4) (by simp_all [AF]<;>omega)
   case true=>
    exact CT.pathS mix Try.func144 hb hn (let_1 (QN.mk ⟨#[]⟩ c 0 false false 0 0 0 0) t1 t3 t4) (by simp_all [AF]<;>omega)
  case true=>
   exact CT.pathS mix Try.func144 hb hn (let_0 (QN.mk ⟨#[]⟩ c 0 false false 0 0 0 0) t1 t3) (by simp_all [AF]<;>omega)
theorem Pn(c:Int):CT Try.prog 146 [] [.int .u8 c] [] (.bool (AF c)):=by
 have hb:Try.f146.body=some (zB Try.f146):=by kernel_rfl
 have hn:[AV.int .u8 c].length<=Try.f146.ntmps:=nL rfl
 cases t5:decide (97<=(QN.mk ⟨#[]⟩ c 0 false false 0 0 0 0).c)
 case false=>
  cases t6:decide (65<=(QN.mk ⟨#[]⟩ c 0 false false 0 0 0 0).c)
  case false=>
   exact CT.pathS mix Try.func146 hb hn (rlet_4 (QN.mk ⟨#[]⟩ c 0 false false 0 0 0 0) t5 t6) (by simp_all [AF]<;>omega)
  case true=>
   exact CT.pathS mix Try.func146 hb hn (rlet_3 (QN.mk ⟨#[]⟩ c 0 false false 0 0 0 0) t5 t6) (by simp_all [AF]<;>omega)
 case true=>
  cases t7:decide ((QN.mk ⟨#[]⟩ c 0 false false 0 0 0 0).c<=122)
  case false=>
   cases t8:decide (65<=(QN.mk ⟨#[]⟩ c 0 false false 0 0 0 0).c)
   case false=>
    exact CT.pathS mix Try.func146 hb hn (rlet_2 (QN.mk ⟨#[]⟩ c 0 false false 0 0 0 0) t5 t7 t8) (by simp_all [AF]<;>omega)
   case true=>
    exact CT.pathS mix Try.func146 hb hn (rlet_1 (QN.mk ⟨#[]⟩ c 0 false false 0 0 0 0) t5 t7 t8) (by simp_all [AF]<;>omega)
  case true=>
   exact CT.pathS mix Try.func146 hb hn (rlet_0 (QN.mk ⟨#[]⟩ c 0 false false 0 0 0 0) t5 t7) (by simp_all [AF]<;>omega)
theorem wit_ct(x y z:Int):CT Try.prog 127 [] [.int .i64 x,.int .i64 y,.int .i64 z] [] (.bool (decide (y<=x)&&decide (x<=z))):=by
 have hb:Try.f127.body=some (zB Try.f127):=by kernel_rfl
 have hn:[AV.int .i64 x,.int .i64 y,.int .i64 z].length<=Try.f127.ntmps:=nL rfl
 cases t9:decide ((QN.mk ⟨#[]⟩ 0 0 false false x y z 0).y<=(QN.mk ⟨#[]⟩ 0 0 false false x y z 0).x)
 case false=>
  exact CT.pathS mix Try.func127 hb hn (wit_1 (QN.mk ⟨#[]⟩ 0 0 false false x y z 0) t9) (by simp_all)
 case true=>
  exact CT.pathS mix Try.func127 hb hn (wit_0 (QN.mk ⟨#[]⟩ 0 0 false false x y z 0) t9) (by simp_all)
theorem Rw(s:ByteArray):(AH s).length=s.size:=by simp[AH]
theorem Sw{s:ByteArray}{i:Nat}(h:i<s.size):(AH s)[i]?=some (.int .u8 (bAt s i)):=by
 have h':i<s.data.toList.length:=by simpa using h
 unfold AH bAt
 rw[Tw,Tl,Tk h'];rfl
theorem Pb{s:ByteArray}(h:(s.toList==(ByteArray.mk #[]).toList)=false):0<s.size:=by
 rcases Nat.eq_zero_or_pos s.size with h0 | h0
 .have:s=ByteArray.mk #[]:=by
   cases s;rename_i d;congr;exact Array.eq_empty_of_size_eq_zero h0
  subst this
  simp at h
 .exact h0
def qN(s:ByteArray)(c:Int)(i:Nat)(b:Bool):QN:=QN.mk s c i b false 0 0 0 0
theorem Oe(s:ByteArray):CT Try.prog 129 [] [.str s] [] (.bool (nmB s)):=by
 have hb:Try.f129.body=some (zB Try.f129):=by kernel_rfl
 have hn:[AV.str s].length<=Try.f129.ntmps:=nL rfl
 have hl:=Rw s
 have hle:=NK (bAt s 0)
 unfold nmB
 cases h1:s.toList==(ByteArray.mk #[]).toList
 case true=>exact CT.pathS mix Try.func129 hb hn (nmi_0 (qN s 0 0 false) h1) (by simp)
 have h0:=Pb h1
 cases h2:decide (12<iN s.size)
 case true=>exact CT.pathS mix Try.func129 hb hn (nmi_1 (qN s 0 0 false) h1 h2) (by simp)
 cases h3:AF (bAt s 0)
 case false=>rw[h3] at hle;exact CT.pathS mix Try.func129 hb hn (nmi_2 (qN s 0 0 false) h1 h2 (by simpa [iN,qN] using h0) hle rfl) (by simp)
 rw[h3] at hle
 refine CT.path mix Try.func129 hb hn (nmi_3 (qN s 0 0 true) h1 h2 (by simpa [iN,qN] using h0) hle rfl ?_)
 simp only[Tf,Bool.true_and]
 have h12:s.size<=12:=by have:=of_decide_eq_false h2;simp only[iN] at this;omega
 generalize hrr:fnd (fun i=> !(okB (bAt s i))) 0 s.size=res
 refine T.loop (fun i:Nat=>C8 (qN s 0 i false)) (fun i=>i<=s.size/\fnd (fun i=> !(okB (bAt s i))) i (s.size-i)=res) (fun i=>s.size+1-i) 0 ⟨Ty _,hrr⟩ ?_
 rintro i ⟨hi,hf⟩
 by_cases h:i<s.size
 .rw[Dq h] at hf
  have hg1:=Sw h
  have dk:decide (iN i<iN (AH s).length)=true:=Ts (by simp only[iN,hl];omega)
  have k0:(0:Int)<=iN i:=by simp[iN]
  have hci:=NK (bAt s i)
  have wi:i64.wrap (iN i+1)=((i+1:Nat):Int):=zW i (by omega)
  have next:okB (bAt s i)=true->∀st,Ren 0 st (C8 (qN s 0 (i+1) false))->∃j,Ren 0 st (C8 (qN s 0 j false))/\(j<=s.size/\fnd (fun i=> !(okB (bAt s i))) j (s.size-j)=res)/\s.size+1-j<s.size+1-i:=by
   intro hb st hst
   simp only[hb,Bool.not_true] at hf
   exact⟨i+1,hst,⟨h,hf⟩,by omega⟩
  have stop:okB (bAt s i)=false->res=some i:=by intro hb;simp only[hb,Tf] at hf;exact hf.symm
  cases t10:(!(qN s (bAt s i) i (AF (bAt s i))).b)
  case false=>
   exact T.path mix (nml_7 (qN s (bAt s i) i (AF (bAt s i))) dk (by first | assumption | (exact hg1)) (by first | assumption | (exact hg1)) (by first | assumption | (exact hg1)) t10 (fun st hst=>by simp only[qN,wi] at hst;exact next (by simp_all [okB,qN]) st hst))
  case true=>
   cases t11:decide ((qN s (bAt s i) i (AF (bAt s i))).c<48)
   case false=>
    cases t12:decide (57<(qN s (bAt s i) i (AF (bAt s i))).c)
    case false=>
     exact T.path mix (nml_6 (qN s (bAt s i) i (AF (bAt s i))) dk (by first | assumption | (exact hg1)) (by first | assumption | (exact hg1)) (by first | assumption | (exact hg1)) t10 t11 t12 (fun st hst=>by simp only[qN,wi] at hst;exact next (by simp_all [okB,qN]) st hst))
    case true=>
     cases t13:((qN s (bAt s i) i (AF (bAt s i))).c != 45)
     case false=>
      exact T.path mix (nml_5 (qN s (bAt s i) i (AF (bAt s i))) dk (by first | assumption | (exact hg1)) (by first | assumption | (exact hg1)) (by first | assumption | (exact hg1)) t10 t11 t12 t13 (fun st hst=>by simp only[qN,wi] at hst;exact next (by simp_all [okB,qN]) st hst))
     case true=>
      cases t14:((qN s (bAt s i) i (AF (bAt s i))).c != 95)
      case false=>
       exact T.path mix (nml_4 (qN s (bAt s i) i (AF (bAt s i))) dk (by first | assumption | (exact hg1)) (by first | assumption | (exact hg1)) (by first | assumption | (exact hg1)) t10 t11 t12 t13 t14 (fun st hst=>by simp only[qN,wi] at hst;exact next (by simp_all [okB,qN]) st hst))
      case true=>
       rw[stop (by simp_all [okB,qN])]
       exact T.out mix (nml_3 (qN s (bAt s i) i (AF (bAt s i))) dk (by first | assumption | (exact hg1)) (by first | assumption | (exact hg1)) (by first | assumption | (exact hg1)) t10 t11 t12 t13 t14)
   case true=>
    cases t15:((qN s (bAt s i) i (AF (bAt s i))).c != 45)
    case false=>
     exact T.path mix (nml_2 (qN s (bAt s i) i (AF (bAt s i))) dk (by first | assumption | (exact hg1)) (by first | assumption | (exact hg1)) (by first | assumption | (exact hg1)) t10 t11 t15 (fun st hst=>by simp only[qN,wi] at hst;exact next (by simp_all [okB,qN]) st hst))
    case true=>
     cases t16:((qN s (bAt s i) i (AF (bAt s i))).c != 95)
     case false=>
      exact T.path mix (nml_1 (qN s (bAt s i) i (AF (bAt s i))) dk (by first | assumption | (exact hg1)) (by first | assumption | (exact hg1)) (by first | assumption | (exact hg1)) t10 t11 t15 t16 (fun st hst=>by simp only[qN,wi] at hst;exact next (by simp_all [okB,qN]) st hst))
     case true=>
      rw[stop (by simp_all [okB,qN])]
      exact T.out mix (nml_0 (qN s (bAt s i) i (AF (bAt s i))) dk (by first | assumption | (exact hg1)) (by first | assumption | (exact hg1)) (by first | assumption | (exact hg1)) t10 t11 t15 t16)
 .rw[DW h] at hf
  subst hf
  exact T.out mix (nml_8 (qN s 0 i false) (Tq (by simp only[qN];change ¬iN i<iN (AH s).length;simp only[iN,hl];omega)))
structure AQ where
 nm:ByteArray
 x:Int
 y:Int
structure Az where
 nm:ByteArray
 dep:Bool
 i:Int
 o:Int
 k:Int
 b:Int
structure Aa where
 bs:List AQ
 nx:List (List Int)
 ss:List Az
 rs:List Int
 q:Int
 a:Int
 d:Int
 p:Int
def bA(b:AQ):AV:=.agg [.str b.nm,.int .i64 b.x,.int .i64 b.y]
def sA(s:Az):AV:=.agg [.str s.nm,.bool s.dep,.int .i64 s.i,.int .i64 s.o,.int .i64 s.k,.int .i64 s.b]
def Ad(n:Aa):AV:=.agg [.lst (n.bs.map bA),.lst (gL n.nx),.lst (n.ss.map sA),lI n.rs,.int .i64 n.q,.int .i64 n.a,.int .i64 n.d,.int .i64 n.p]
def nB(n:Aa):Blk:={es:=[Ad n],z:=8}
def mpB(l:List MapEntry)(c:Nat):Blk:={es:=[],z:=0,mp:=some (l,c)}
structure Ay where
 n:Aa
 l:List MapEntry
 c:Nat
 l2:List MapEntry
 c2:Nat
 b:AQ
 s:Az
 r:List Int
 i:Nat
 base:Int
 k:Nat
 ok:Bool
 x:Int
 y:Int
 z:Int
 sp:Bool
 nb:ByteArray
@[irreducible] def Am(x y z:Int):Bool:=decide (y<=x)&&decide (x<=z)
@[irreducible] def AZ(n:Aa):Bool:=Am n.q 1 8&&Am n.a 0 4&&Am n.d 0 3&&Am n.p 1 16
@[irreducible] def nxE(r:List Int)(i m:Int)(k:Nat):Bool:=decide (r.getD k 0<=BS r k)||decide (m<=r.getD k 0)||r.getD k 0==i
@[irreducible] def nxB(r:List Int)(i m:Int):Bool:= !(fnd (nxE r i m) 0 r.length).isSome&&decide (r.length<=4)
def blkE(n:Aa)(i:Nat):Bool:=match n.bs[i]? with
 | some b=> !(Am b.x (-9999) 9999&&Am b.y (-9999) 9999&&nxB (n.nx.getD i []) i n.bs.length)
 | none=>false
@[irreducible] def blsB(n:Aa):Bool:=decide (1<=n.bs.length)&&decide (n.bs.length<=24)&&decide (n.nx.length=n.bs.length)&&!(fnd (blkE n) 0 n.bs.length).isSome
def BZ(n:Aa):List ByteArray:=n.bs.map (·.nm)++n.ss.map (·.nm)
open Classical in
@[irreducible] def nmsB(n:Aa):Bool:=(BZ n).all nmB&&decide (BZ n).Nodup
def AC(q:Ay):Nat->FuncId->List AV->List (Option Blk)->AE:=fun dst f args hp=>match f with
 | 144=>match args with
  | [.int _ c]=>.call [] [] [] (.bool (AF c))
  | _=>.no
 | 146=>match args with
  | [.int _ c]=>.call [] [] [] (.bool (AF c))
  | _=>.no
 | 127=>match args with
  | [.int _ x,.int _ y,.int _ z]=>.call [] [] [] (.bool (Am x y z))
  | _=>.no
 | 128=>.call [] [] [] (.bool (AZ q.n))
 | 115=>.call [] [] [] (.bool (AZ q.n))
 | 129=>match args with
  | [.str s]=>.call [] [] [] (.bool (nmB s))
  | _=>.no
 | 140=>match args with
  | [.str s]=>.call [] [] [] (.bool (nmB s))
  | _=>.no
 | 130=>match args with
  | [.lst l,.int _ i,.int _ m]=>.call [] [] [] (.bool (nxB q.r i m))
  | _=>.no
 | 113=>.call [] [] [] (.bool (blsB q.n))
 | 114=>.call [] [] [] (.bool (nmsB q.n))
 | 26=>.call [] [] [] (.bool q.ok)
 | _=>.no
def BA(q:Ay):List (Nat×AV):=[]
def Ke(q:Ay):St:={n:=Try.f140.ntmps,fr:=[(0,.str q.nb)],hp:=[]}
def De(q:Ay):St:={n:=Try.f140.ntmps,fr:=[(0,.str q.nb),(3,.int .i64 (iN q.i))],hp:=[]}
def Ki(q:Ay):St:={n:=Try.f128.ntmps,fr:=[(0,.agg [.int .i64 q.n.q,.int .i64 q.n.a,.int .i64 q.n.d,.int .i64 q.n.p])],hp:=[]}
def Fb(q:Ay):St:={n:=Try.f115.ntmps,fr:=[(0,.agg [.int .i64 q.n.q,.int .i64 q.n.a,.int .i64 q.n.d,.int .i64 q.n.p])],hp:=[]}
def st152(q:Ay):St:={n:=Try.f130.ntmps,fr:=[(0,lI q.r),(1,.int .i64 q.x),(2,.int .i64 q.y)],hp:=[]}
def EW(q:Ay):St:={n:=Try.f130.ntmps,fr:=[(0,lI q.r),(1,.int .i64 q.x),(2,.int .i64 q.y),(7,.int .i64 q.z),(10,lI q.r),(11,.int .i64 (iN (q.r.map (AV.int .i64)).length)),(12,.int .i64 (iN q.i))],hp:=[]}
def G1(q:Ay):List (Nat×AV):=[(14,.int .i64 q.base)]
def F7(q:Ay):St:={n:=Try.f93.ntmps,fr:=[(0,Ad q.n)],hp:=[]}
def D3(q:Ay):St:={n:=Try.f93.ntmps,fr:=[(1,.ptr 0 0 0),(3,.map 1),(47,.lst (q.n.bs.map bA)),(48,.int .i64 (iN (q.n.bs.map bA).length)),(49,.int .i64 (iN q.i))],hp:=[some (nB q.n),some (mpB q.l q.c)]}
def CJ(q:Ay):St:={n:=Try.f93.ntmps,fr:=[(1,.ptr 0 0 0),(3,.map 1),(6,.int .i64 q.base),(7,.map 2),(94,.lst (q.n.ss.map sA)),(95,.int .i64 (iN (q.n.ss.map sA).length)),(96,.int .i64 (iN q.i))],hp:=[some (nB q.n),some (mpB q.l q.c),some (mpB q.l2 q.c2)]}
def spB(s:Az):Blk:={es:=[sA s],z:=6}
def Eu(q:Ay):St:={n:=Try.f93.ntmps,fr:=[(1,.ptr 0 0 0),(3,.map 1),(6,.int .i64 q.base),(7,.map 2),(9,.ptr 3 0 0),(94,.lst (q.n.ss.map sA)),(95,.int .i64 (iN (q.n.ss.map sA).length)),(96,.int .i64 (iN q.i)),(142,.int .i64 q.s.k),(143,.int .i64 (iN q.k))],hp:=[some (nB q.n),some (mpB q.l q.c),some (mpB q.l2 q.c2),some (spB q.s)]}
def Fy(q:Ay):St:={n:=Try.f93.ntmps,fr:=[(7,.map 0),(10,.bool q.ok),(169,lI q.n.rs),(170,.int .i64 (iN (q.n.rs.map (AV.int .i64)).length)),(171,.int .i64 (iN q.i))],hp:=[some (mpB q.l2 q.c2)]}
def Bs(q:Ay):List (Nat×AV):=[(52,bA q.b),(79,lI q.r),(98,sA q.s),(173,.int .i64 q.x)]
theorem rni_0(q:Ay)(h1:((q.nb.toList==(ByteArray.mk #[]).toList)=true)):GoP Try.prog (hU [15] (BA q) (AC q)) 0 (zB Try.f140) (Ke q) (Fin Try.prog Try.f140 0 [] (AV.bool false)):=
 zF (σ:=[]) (fz:=[]) (by kernel_rfl) (aj (u2 (aj (u2 (u2 (u2 (aj h1 (aj h1 (aj h1 (ag h1 (u2 (ak (k3 (al t3))))))))))) (ak s2))) t2)
theorem rni_1(q:Ay)(h1:((q.nb.toList==(ByteArray.mk #[]).toList)=false))(h2:(decide (12<iN q.nb.size)=true)):GoP Try.prog (hU [14,25] (BA q) (AC q)) 0 (zB Try.f140) (Ke q) (Fin Try.prog Try.f140 0 [] (AV.bool false)):=
 zF (σ:=[]) (fz:=[]) (by kernel_rfl) (aj (u2 (aj (u2 (u2 (u2 (ag h1 (ag h1 (ag h1 (ag h1 (u2 (aj h2 (aj h2 (aj h2 (aj h2 (al (aj h2 t2)))))))))))))) (ak s2))) t2)
theorem rni_2(q:Ay)(h1:((q.nb.toList==(ByteArray.mk #[]).toList)=false))(h2:(decide (12<iN q.nb.size)=false))(h3:(0<iN q.nb.size))(h4:(CT Try.prog 146 [] [AV.int IntKind.u8 (bAt q.nb (Int.toNat 0))] [] (AV.bool (AF (bAt q.nb (Int.toNat 0))))))(h5:((!AF (bAt q.nb (Int.toNat 0)))=true)):GoP Try.prog (hU [14,24,35] (BA q) (AC q)) 0 (zB Try.f140) (Ke q) (Fin Try.prog Try.f140 0 [] (AV.bool false)):=
 zF (σ:=[]) (fz:=[]) (by kernel_rfl) (aj (u2 (aj (u2 (u2 (u2 (ag h1 (ag h1 (ag h1 (ag h1 (u2 (ag h2 (aj (aj h2 (ak (aj (show((0:Int)<=(0:Int)) by first | exact nL rfl | decide) h3))) (aj (aj h2 (k2 (al h4))) (ag h2 (al (aj h2 t2)))))))))))))) (aj h5 s2))) t2)
theorem rni_3(q:Ay)(h1:((q.nb.toList==(ByteArray.mk #[]).toList)=false))(h2:(decide (12<iN q.nb.size)=false))(h3:(0<iN q.nb.size))(h4:(CT Try.prog 146 [] [AV.int IntKind.u8 (bAt q.nb (Int.toNat 0))] [] (AV.bool (AF (bAt q.nb (Int.toNat 0))))))(h5:((!AF (bAt q.nb (Int.toNat 0)))=false)){post:Exit->St->Prop}(ht:T Try.prog 0 (.loop (zC (zB Try.f140) 0)) (St.mk 46 [(0,AV.str q.nb),(3,iv 0)] []) (TK Try.prog 0 post (zK (zB Try.f140) 0))):GoP Try.prog (hU [14,24,34] (BA q) (AC q)) 0 (zB Try.f140) (Ke q) post:=
 zR (σ:=[]) (fz:=[]) (vars:=[0,3]) (by kernel_rfl) (aj (u2 (aj (u2 (u2 (u2 (ag h1 (ag h1 (ag h1 (ag h1 (u2 (ag h2 (aj (aj h2 (ak (aj (show((0:Int)<=(0:Int)) by first | exact nL rfl | decide) h3))) (aj (aj h2 (k2 (al h4))) (ag h2 (al (aj h2 t2)))))))))))))) (aj h5 s2))) t3) ht
theorem rnl_0(q:Ay)(h1:(decide (iN q.i<iN q.nb.size)=true))(h2:(0<=iN q.i))(h3:(iN q.i<iN q.nb.size))(h4:(CT Try.prog 146 [] [AV.int IntKind.u8 (bAt q.nb (iN q.i).toNat)] [] (AV.bool (AF (bAt q.nb (iN q.i).toNat)))))(h5:((!AF (bAt q.nb (iN q.i).toNat))=true))(h6:(decide (bAt q.nb (iN q.i).toNat<48)=true))(h7:((bAt q.nb (iN q.i).toNat != 45)=true))(h8:((bAt q.nb (iN q.i).toNat != 95)=true)):GoO Try.prog (hU [43,61,67,85,91] (BA q) (AC q)) 0 (zC (zB Try.f140) 0) (zK (zB Try.f140) 0) (De q) (Fin Try.prog Try.f140 0 [] (AV.bool false)):=
 zF (σ:=[]) (fz:=[]) (by kernel_rfl) (aj (al (aj (u2 (u2 (u2 (al t3)))) (aj h1 (aj (u2 (u2 (aj (k2 (aj h2 h3)) s2))) (aj (u2 (aj (k2 (al h4)) (u2 (u2 (ag h5 (ag h5 (ag h5 (aj h6 (aj h6 (aj (aj h5 (aj h6 t2)) (ag h5 (u2 (aj t3 (aj t3 (aj t3 (u2 (ag h7 (ag h7 (al (aj h7 t2)))))))))))))))))))) (aj h8 s2)))))) t2)
theorem rnl_1(q:Ay)(h1:(decide (iN q.i<iN q.nb.size)=true))(h2:(0<=iN q.i))(h3:(iN q.i<iN q.nb.size))(h4:(CT Try.prog 146 [] [AV.int IntKind.u8 (bAt q.nb (iN q.i).toNat)] [] (AV.bool (AF (bAt q.nb (iN q.i).toNat)))))(h5:((!AF (bAt q.nb (iN q.i).toNat))=true))(h6:(decide (bAt q.nb (iN q.i).toNat<48)=true))(h7:((bAt q.nb (iN q.i).toNat != 45)=true))(h8:((bAt q.nb (iN q.i).toNat != 95)=false)){post:Exit->St->Prop}{R:St->Prop}(hR:∀st,Ren 0 st (St.mk 46 [(0,AV.str q.nb),(3,iv (i64.wrap (iN q.i+1)))] [])->R st):GoP Try.prog (hU [43,61,67,85,90] (BA q) (AC q)) 0 (zC (zB Try.f140) 0) (De q) (andThen R post):=
 zN (σ:=[]) (fz:=[]) (vars:=[0,3]) (by kernel_rfl) (aj (aj (u2 (u2 (u2 (al t3)))) (aj h1 (aj (u2 (u2 (aj (k2 (aj h2 h3)) s2))) (aj (u2 (aj (k2 (al h4)) (u2 (u2 (ag h5 (ag h5 (ag h5 (aj h6 (aj h6 (aj (aj h5 (aj h6 t2)) (ag h5 (u2 (aj t3 (aj t3 (aj t3 (u2 (ag h7 (ag h7 (al (aj h7 t2)))))))))))))))))))) (aj h8 (al (u2 (u2 s2)))))))) t3) hR
theorem rnl_2(q:Ay)(h1:(decide (iN q.i<iN q.nb.size)=true))(h2:(0<=iN q.i))(h3:(iN q.i<iN q.nb.size))(h4:(CT Try.prog 146 [] [AV.int IntKind.u8 (bAt q.nb (iN q.i).toNat)] [] (AV.bool (AF (bAt q.nb (iN q.i).toNat)))))(h5:((!AF (bAt q.nb (iN q.i).toNat))=true))(h6:(decide (bAt q.nb (iN q.i).toNat<48)=true))(h7:((bAt q.nb (iN q.i).toNat != 45)=false)){post:Exit->St->Prop}{R:St->Prop}(hR:∀st,Ren 0 st (St.mk 46 [(0,AV.str q.nb),(3,iv (i64.wrap (iN q.i+1)))] [])->R st):GoP Try.prog (hU [43,61,67,84] (BA q) (AC q)) 0 (zC (zB Try.f140) 0) (De q) (andThen R post):=
 zN (σ:=[]) (fz:=[]) (vars:=[0,3]) (by kernel_rfl) (aj (aj (u2 (u2 (u2 (al t3)))) (aj h1 (aj (u2 (u2 (aj (k2 (aj h2 h3)) s2))) (aj (u2 (aj (k2 (al h4)) (u2 (u2 (ag h5 (ag h5 (ag h5 (aj h6 (aj h6 (aj (aj h5 (aj h6 t2)) (ag h5 (u2 (aj t3 (aj t3 (aj t3 (u2 (aj h7 (aj h7 (al (aj h7 t2)))))))))))))))))))) (ak (al (u2 (u2 s2)))))))) t3) hR
theorem rnl_3(q:Ay)(h1:(decide (iN q.i<iN q.nb.size)=true))(h2:(0<=iN q.i))(h3:(iN q.i<iN q.nb.size))(h4:(CT Try.prog 146 [] [AV.int IntKind.u8 (bAt q.nb (iN q.i).toNat)] [] (AV.bool (AF (bAt q.nb (iN q.i).toNat)))))(h5:((!AF (bAt q.nb (iN q.i).toNat))=true))(h6:(decide (bAt q.nb (iN q.i).toNat<48)=false))(h7:(decide (57<bAt q.nb (iN q.i).toNat)=true))(h8:((bAt q.nb (iN q.i).toNat != 45)=true))(h9:((bAt q.nb (iN q.i).toNat != 95)=true)):GoO Try.prog (hU [43,61,66,77,85,91] (BA q) (AC q)) 0 (zC (zB Try.f140) 0) (zK (zB Try.f140) 0) (De q) (Fin Try.prog Try.f140 0 [] (AV.bool false)):=
 zF (σ:=[]) (fz:=[]) (by kernel_rfl) (aj (al (aj (u2 (u2 (u2 (al t3)))) (aj h1 (aj (u2 (u2 (aj (k2 (aj h2 h3)) s2))) (aj (u2 (aj (k2 (al h4)) (u2 (u2 (ag h5 (ag h5 (ag h5 (ag h6 (ag h6 (aj (aj h5 (aj h6 t2)) (ag h5 (u2 (ag h7 (ag h7 (ag h7 (u2 (ag h8 (ag h8 (al (aj h8 t2)))))))))))))))))))) (aj h9 s2)))))) t2)
theorem rnl_4(q:Ay)(h1:(decide (iN q.i<iN q.nb.size)=true))(h2:(0<=iN q.i))(h3:(iN q.i<iN q.nb.size))(h4:(CT Try.prog 146 [] [AV.int IntKind.u8 (bAt q.nb (iN q.i).toNat)] [] (AV.bool (AF (bAt q.nb (iN q.i).toNat)))))(h5:((!AF (bAt q.nb (iN q.i).toNat))=true))(h6:(decide (bAt q.nb (iN q.i).toNat<48)=false))(h7:(decide (57<bAt q.nb (iN q.i).toNat)=true))(h8:((bAt q.nb (iN q.i).toNat != 45)=true))(h9:((bAt q.nb (iN q.i).toNat != 95)=false)){post:Exit->St->Prop}{R:St->Prop}(hR:∀st,Ren 0 st (St.mk 46 [(0,AV.str q.nb),(3,iv (i64.wrap (iN q.i+1)))] [])->R st):GoP Try.prog (hU [43,61,66,77,85,90] (BA q) (AC q)) 0 (zC (zB Try.f140) 0) (De q) (andThen R post):=
 zN (σ:=[]) (fz:=[]) (vars:=[0,3]) (by kernel_rfl) (aj (aj (u2 (u2 (u2 (al t3)))) (aj h1 (aj (u2 (u2 (aj (k2 (aj h2 h3)) s2))) (aj (u2 (aj (k2 (al h4)) (u2 (u2 (ag h5 (ag h5 (ag h5 (ag h6 (ag h6 (aj (aj h5 (aj h6 t2)) (ag h5 (u2 (ag h7 (ag h7 (ag h7 (u2 (ag h8 (ag h8 (al (aj h8 t2)))))))))))))))))))) (aj h9 (al (u2 (u2 s2)))))))) t3) hR
theorem rnl_5(q:Ay)(h1:(decide (iN q.i<iN q.nb.size)=true))(h2:(0<=iN q.i))(h3:(iN q.i<iN q.nb.size))(h4:(CT Try.prog 146 [] [AV.int IntKind.u8 (bAt q.nb (iN q.i).toNat)] [] (AV.bool (AF (bAt q.nb (iN q.i).toNat)))))(h5:((!AF (bAt q.nb (iN q.i).toNat))=true))(h6:(decide (bAt q.nb (iN q.i).toNat<48)=false))(h7:(decide (57<bAt q.nb (iN q.i).toNat)=true))(h8:((bAt q.nb (iN q.i).toNat != 45)=false)){post:Exit->St->Prop}{R:St->Prop}(hR:∀st,Ren 0 st (St.mk 46 [(0,AV.str q.nb),(3,iv (i64.wrap (iN q.i+1)))] [])->R st):GoP Try.prog (hU [43,61,66,77,84] (BA q) (AC q)) 0 (zC (zB Try.f140) 0) (De q) (andThen R post):=
 zN (σ:=[]) (fz:=[]) (vars:=[0,3]) (by kernel_rfl) (aj (aj (u2 (u2 (u2 (al t3)))) (aj h1 (aj (u2 (u2 (aj (k2 (aj h2 h3)) s2))) (aj (u2 (aj (k2 (al h4)) (u2 (u2 (ag h5 (ag h5 (ag h5 (ag h6 (ag h6 (aj (aj h5 (aj h6 t2)) (ag h5 (u2 (ag h7 (ag h7 (ag h7 (u2 (aj h8 (aj h8 (al (aj h8 t2)))))))))))))))))))) (ak (al (u2 (u2 s2)))))))) t3) hR
theorem rnl_6(q:Ay)(h1:(decide (iN q.i<iN q.nb.size)=true))(h2:(0<=iN q.i))(h3:(iN q.i<iN q.nb.size))(h4:(CT Try.prog 146 [] [AV.int IntKind.u8 (bAt q.nb (iN q.i).toNat)] [] (AV.bool (AF (bAt q.nb (iN q.i).toNat)))))(h5:((!AF (bAt q.nb (iN q.i).toNat))=true))(h6:(decide (bAt q.nb (iN q.i).toNat<48)=false))(h7:(decide (57<bAt q.nb (iN q.i).toNat)=false)){post:Exit->St->Prop}{R:St->Prop}(hR:∀st,Ren 0 st (St.mk 46 [(0,AV.str q.nb),(3,iv (i64.wrap (iN q.i+1)))] [])->R st):GoP Try.prog (hU [43,61,66,76] (BA q) (AC q)) 0 (zC (zB Try.f140) 0) (De q) (andThen R post):=
 zN (σ:=[]) (fz:=[]) (vars:=[0,3]) (by kernel_rfl) (aj (aj (u2 (u2 (u2 (al t3)))) (aj h1 (aj (u2 (u2 (aj (k2 (aj h2 h3)) s2))) (aj (u2 (aj (k2 (al h4)) (u2 (u2 (ag h5 (ag h5 (ag h5 (ag h6 (ag h6 (aj (aj h5 (aj h6 t2)) (ag h5 (u2 (aj h7 (aj h7 (ag h7 (u2 (k2 (al t3)))))))))))))))))) (ak (al (u2 (u2 s2)))))))) t3) hR
theorem rnl_7(q:Ay)(h1:(decide (iN q.i<iN q.nb.size)=true))(h2:(0<=iN q.i))(h3:(iN q.i<iN q.nb.size))(h4:(CT Try.prog 146 [] [AV.int IntKind.u8 (bAt q.nb (iN q.i).toNat)] [] (AV.bool (AF (bAt q.nb (iN q.i).toNat)))))(h5:((!AF (bAt q.nb (iN q.i).toNat))=false)){post:Exit->St->Prop}{R:St->Prop}(hR:∀st,Ren 0 st (St.mk 46 [(0,AV.str q.nb),(3,iv (i64.wrap (iN q.i+1)))] [])->R st):GoP Try.prog (hU [43,60] (BA q) (AC q)) 0 (zC (zB Try.f140) 0) (De q) (andThen R post):=
 zN (σ:=[]) (fz:=[]) (vars:=[0,3]) (by kernel_rfl) (aj (aj (u2 (u2 (u2 (al t3)))) (aj h1 (aj (u2 (u2 (aj (k2 (aj h2 h3)) s2))) (aj (u2 (aj (k2 (al h4)) (u2 (u2 (aj h5 (aj h5 (aj h5 (k2 (aj h5 (ag h5 (u2 (k2 (aj t3 (u2 (k2 (al t3)))))))))))))))) (ak (al (u2 (u2 s2)))))))) t3) hR
theorem rnl_8(q:Ay)(h1:(decide (iN q.i<iN q.nb.size)=false)):GoO Try.prog (hU [42] (BA q) (AC q)) 0 (zC (zB Try.f140) 0) (zK (zB Try.f140) 0) (De q) (Fin Try.prog Try.f140 0 [] (AV.bool true)):=
 zF (σ:=[]) (fz:=[]) (by kernel_rfl) (aj (aj (aj (u2 (u2 (u2 (al t3)))) (al h1)) s2) t2)
theorem mvc_0(q:Ay)(h1:(CT Try.prog 127 [] [iv q.n.q,iv 1,iv 8] [] (AV.bool (Am q.n.q 1 8))))(h2:(Am q.n.q 1 8=true))(h3:(CT Try.prog 127 [] [iv q.n.a,iv 0,iv 4] [] (AV.bool (Am q.n.a 0 4))))(h4:(Am q.n.a 0 4=true))(h5:(CT Try.prog 127 [] [iv q.n.d,iv 0,iv 3] [] (AV.bool (Am q.n.d 0 3))))(h6:(Am q.n.d 0 3=true))(h7:(CT Try.prog 127 [] [iv q.n.p,iv 1,iv 16] [] (AV.bool (Am q.n.p 1 16)))):GoP Try.prog (hU [13,23,33] (BA q) (AC q)) 0 (zB Try.f128) (Ki q) (Fin Try.prog Try.f128 0 [] (AV.bool (Am q.n.p 1 16))):=
 zF (σ:=[]) (fz:=[]) (by kernel_rfl) (aj (ag t2 (al (u2 (u2 (aj (ak (k3 (al h1))) (u2 (ag h2 (ag h2 (aj (aj h2 (ak (k3 (al h3)))) (ag h2 (u2 (ag h4 (ag h4 (aj (aj h4 (ak (k3 (al h5)))) (ag h4 (u2 (ag h6 (ag h6 (aj (aj h6 (ak (k3 (al h7)))) (ag h6 s2)))))))))))))))))))) t2)
theorem mvc_1(q:Ay)(h1:(CT Try.prog 127 [] [iv q.n.q,iv 1,iv 8] [] (AV.bool (Am q.n.q 1 8))))(h2:(Am q.n.q 1 8=true))(h3:(CT Try.prog 127 [] [iv q.n.a,iv 0,iv 4] [] (AV.bool (Am q.n.a 0 4))))(h4:(Am q.n.a 0 4=true))(h5:(CT Try.prog 127 [] [iv q.n.d,iv 0,iv 3] [] (AV.bool (Am q.n.d 0 3))))(h6:(Am q.n.d 0 3=false)):GoP Try.prog (hU [13,23,32] (BA q) (AC q)) 0 (zB Try.f128) (Ki q) (Fin Try.prog Try.f128 0 [] (AV.bool false)):=
 zF (σ:=[]) (fz:=[]) (by kernel_rfl) (aj (ag t2 (al (u2 (u2 (aj (ak (k3 (al h1))) (u2 (ag h2 (ag h2 (aj (aj h2 (ak (k3 (al h3)))) (ag h2 (u2 (ag h4 (ag h4 (aj (aj h4 (ak (k3 (al h5)))) (ag h4 (u2 (aj h6 (aj h6 (aj h6 (ag h6 s2)))))))))))))))))))) t2)
theorem mvc_2(q:Ay)(h1:(CT Try.prog 127 [] [iv q.n.q,iv 1,iv 8] [] (AV.bool (Am q.n.q 1 8))))(h2:(Am q.n.q 1 8=true))(h3:(CT Try.prog 127 [] [iv q.n.a,iv 0,iv 4] [] (AV.bool (Am q.n.a 0 4))))(h4:(Am q.n.a 0 4=false)):GoP Try.prog (hU [13,22] (BA q) (AC q)) 0 (zB Try.f128) (Ki q) (Fin Try.prog Try.f128 0 [] (AV.bool false)):=
 zF (σ:=[]) (fz:=[]) (by kernel_rfl) (aj (ag t2 (al (u2 (u2 (aj (ak (k3 (al h1))) (u2 (ag h2 (ag h2 (aj (aj h2 (ak (k3 (al h3)))) (ag h2 (u2 (aj h4 (aj h4 (aj h4 (ag h4 (u2 (k3 (aj t3 s2)))))))))))))))))) t2)
theorem mvc_3(q:Ay)(h1:(CT Try.prog 127 [] [iv q.n.q,iv 1,iv 8] [] (AV.bool (Am q.n.q 1 8))))(h2:(Am q.n.q 1 8=false)):GoP Try.prog (hU [12] (BA q) (AC q)) 0 (zB Try.f128) (Ki q) (Fin Try.prog Try.f128 0 [] (AV.bool false)):=
 zF (σ:=[]) (fz:=[]) (by kernel_rfl) (aj (ag t2 (al (u2 (u2 (aj (ak (k3 (al h1))) (u2 (aj h2 (aj h2 (aj h2 (ag h2 (u2 (k3 (aj t3 (u2 (k3 (aj t3 s2)))))))))))))))) t2)
theorem cg_0(q:Ay)(h1:(decide (1<=q.n.q)=true))(h2:(decide (q.n.q<=8)=true))(h3:(decide (0<=q.n.a)=true))(h4:(decide (q.n.a<=4)=true))(h5:(decide (0<=q.n.d)=true))(h6:(decide (q.n.d<=3)=true))(h7:(decide (1<=q.n.p)=true)):GoP Try.prog (hU [13,23,33,43,53,63,73] (BA q) (AC q)) 0 (zB Try.f115) (Fb q) (Fin Try.prog Try.f115 0 [] (AV.bool (decide (q.n.p<=16)))):=
 zF (σ:=[]) (fz:=[]) (by kernel_rfl) (aj (ag t2 (al (u2 (u2 (u2 (u2 (ag h1 (ag h1 (ag h1 (ag h1 (u2 (ag h2 (ag h2 (ag h2 (ag h2 (u2 (ag h3 (ag h3 (ag h3 (ag h3 (u2 (ag h4 (ag h4 (ag h4 (ag h4 (u2 (ag h5 (ag h5 (ag h5 (ag h5 (u2 (ag h6 (ag h6 (ag h6 (ag h6 (u2 (ag h7 (ag h7 (ag h7 (ag h7 s2)))))))))))))))))))))))))))))))))))))))) t2)
theorem cg_1(q:Ay)(h1:(decide (1<=q.n.q)=true))(h2:(decide (q.n.q<=8)=true))(h3:(decide (0<=q.n.a)=true))(h4:(decide (q.n.a<=4)=true))(h5:(decide (0<=q.n.d)=true))(h6:(decide (q.n.d<=3)=true))(h7:(decide (1<=q.n.p)=false)):GoP Try.prog (hU [13,23,33,43,53,63,72] (BA q) (AC q)) 0 (zB Try.f115) (Fb q) (Fin Try.prog Try.f115 0 [] (AV.bool false)):=
 zF (σ:=[]) (fz:=[]) (by kernel_rfl) (aj (ag t2 (al (u2 (u2 (u2 (u2 (ag h1 (ag h1 (ag h1 (ag h1 (u2 (ag h2 (ag h2 (ag h2 (ag h2 (u2 (ag h3 (ag h3 (ag h3 (ag h3 (u2 (ag h4 (ag h4 (ag h4 (ag h4 (u2 (ag h5 (ag h5 (ag h5 (ag h5 (u2 (ag h6 (ag h6 (ag h6 (ag h6 (u2 (aj h7 (aj h7 (aj h7 (ag h7 s2)))))))))))))))))))))))))))))))))))))))) t2)
theorem cg_2(q:Ay)(h1:(decide (1<=q.n.q)=true))(h2:(decide (q.n.q<=8)=true))(h3:(decide (0<=q.n.a)=true))(h4:(decide (q.n.a<=4)=true))(h5:(decide (0<=q.n.d)=true))(h6:(decide (q.n.d<=3)=false)):GoP Try.prog (hU [13,23,33,43,53,62] (BA q) (AC q)) 0 (zB Try.f115) (Fb q) (Fin Try.prog Try.f115 0 [] (AV.bool false)):=
 zF (σ:=[]) (fz:=[]) (by kernel_rfl) (aj (ag t2 (al (u2 (u2 (u2 (u2 (ag h1 (ag h1 (ag h1 (ag h1 (u2 (ag h2 (ag h2 (ag h2 (ag h2 (u2 (ag h3 (ag h3 (ag h3 (ag h3 (u2 (ag h4 (ag h4 (ag h4 (ag h4 (u2 (ag h5 (ag h5 (ag h5 (ag h5 (u2 (aj h6 (aj h6 (aj h6 (ag h6 (u2 (k3 (aj t3 s2)))))))))))))))))))))))))))))))))))))) t2)
theorem cg_3(q:Ay)(h1:(decide (1<=q.n.q)=true))(h2:(decide (q.n.q<=8)=true))(h3:(decide (0<=q.n.a)=true))(h4:(decide (q.n.a<=4)=true))(h5:(decide (0<=q.n.d)=false)):GoP Try.prog (hU [13,23,33,43,52] (BA q) (AC q)) 0 (zB Try.f115) (Fb q) (Fin Try.prog Try.f115 0 [] (AV.bool false)):=
 zF (σ:=[]) (fz:=[]) (by kernel_rfl) (aj (ag t2 (al (u2 (u2 (u2 (u2 (ag h1 (ag h1 (ag h1 (ag h1 (u2 (ag h2 (ag h2 (ag h2 (ag h2 (u2 (ag h3 (ag h3 (ag h3 (ag h3 (u2 (ag h4 (ag h4 (ag h4 (ag h4 (u2 (aj h5 (aj h5 (aj h5 (ag h5 (u2 (k3 (aj t3 (u2 (k3 (aj t3 s2)))))))))))))))))))))))))))))))))))) t2)
theorem cg_4(q:Ay)(h1:(decide (1<=q.n.q)=true))(h2:(decide (q.n.q<=8)=true))(h3:(decide (0<=q.n.a)=true))(h4:(decide (q.n.a<=4)=false)):GoP Try.prog (hU [13,23,33,42] (BA q) (AC q)) 0 (zB Try.f115) (Fb q) (Fin Try.prog Try.f115 0 [] (AV.bool false)):=
 zF (σ:=[]) (fz:=[]) (by kernel_rfl) (aj (ag t2 (al (u2 (u2 (u2 (u2 (ag h1 (ag h1 (ag h1 (ag h1 (u2 (ag h2 (ag h2 (ag h2 (ag h2 (u2 (ag h3 (ag h3 (ag h3 (ag h3 (u2 (aj h4 (aj h4 (aj h4 (ag h4 (u2 (k3 (aj t3 (u2 (k3 (aj t3 (u2 (k3 (aj t3 s2)))))))))))))))))))))))))))))))))) t2)
theorem cg_5(q:Ay)(h1:(decide (1<=q.n.q)=true))(h2:(decide (q.n.q<=8)=true))(h3:(decide (0<=q.n.a)=false)):GoP Try.prog (hU [13,23,32] (BA q) (AC q)) 0 (zB Try.f115) (Fb q) (Fin Try.prog Try.f115 0 [] (AV.bool false)):=
 zF (σ:=[]) (fz:=[]) (by kernel_rfl) (aj (ag t2 (al (u2 (u2 (u2 (u2 (ag h1 (ag h1 (ag h1 (ag h1 (u2 (ag h2 (ag h2 (ag h2 (ag h2 (u2 (aj h3 (aj h3 (aj h3 (ag h3 (u2 (k3 (aj t3 (u2 (k3 (aj t3 (u2 (k3 (aj t3 (u2 (k3 (aj t3 s2)))))))))))))))))))))))))))))))) t2)
theorem cg_6(q:Ay)(h1:(decide (1<=q.n.q)=true))(h2:(decide (q.n.q<=8)=false)):GoP Try.prog (hU [13,22] (BA q) (AC q)) 0 (zB Try.f115) (Fb q) (Fin Try.prog Try.f115 0 [] (AV.bool false)):=
 zF (σ:=[]) (fz:=[]) (by kernel_rfl) (aj (ag t2 (al (u2 (u2 (u2 (u2 (ag h1 (ag h1 (ag h1 (ag h1 (u2 (aj h2 (aj h2 (aj h2 (ag h2 (u2 (k3 (aj t3 (u2 (k3 (aj t3 (u2 (k3 (aj t3 (u2 (k3 (aj t3 (u2 (k3 (aj t3 s2)))))))))))))))))))))))))))))) t2)
theorem cg_7(q:Ay)(h1:(decide (1<=q.n.q)=false)):GoP Try.prog (hU [12] (BA q) (AC q)) 0 (zB Try.f115) (Fb q) (Fin Try.prog Try.f115 0 [] (AV.bool false)):=
 zF (σ:=[]) (fz:=[]) (by kernel_rfl) (aj (ag t2 (al (u2 (u2 (u2 (u2 (aj h1 (aj h1 (aj h1 (ag h1 (u2 (k3 (aj t3 (u2 (k3 (aj t3 (u2 (k3 (aj t3 (u2 (k3 (aj t3 (u2 (k3 (aj t3 (u2 (k3 (aj t3 s2)))))))))))))))))))))))))))) t2)
theorem vni_0(q:Ay){post:Exit->St->Prop}(ht:T Try.prog 0 (.loop (zC (zB Try.f130) 0)) (St.mk 34 [(0,AV.lst (List.map (iv) q.r)),(1,iv q.x),(2,iv q.y),(7,iv (-1)),(10,AV.lst (List.map (iv) q.r)),(11,iv (iN (List.map (iv) q.r).length)),(12,iv 0)] []) (TK Try.prog 0 post (zK (zB Try.f130) 0))):GoP Try.prog (hU [] (G1 q) (AC q)) 0 (zB Try.f130) (st152 q) post:=
 zR (σ:=[]) (fz:=[]) (vars:=[0,1,2,7,10,11,12]) (by kernel_rfl) (aj (u2 (u2 (al (u2 (u2 t2))))) t8) ht
theorem vnl_0(q:Ay)(h1:(decide (iN q.i<iN (List.map (iv) q.r).length)=true))(h2:(0<=iN q.i))(h3:((List.map (iv) q.r)[(iN q.i).toNat]?=some (iv q.base)))(h4:(decide (q.base<=q.z)=true)):GoO Try.prog (hU [27,39] (G1 q) (AC q)) 0 (zC (zB Try.f130) 0) (zK (zB Try.f130) 0) (EW q) (Fin Try.prog Try.f130 0 [] (AV.bool false)):=
 zF (σ:=[]) (fz:=[]) (by kernel_rfl) (aj (al (aj (al t3) (aj h1 (aj (aj (k2 (aj h2 h3)) (u2 s2)) (aj (u2 (u2 (aj t3 (u2 (aj h4 (aj h4 (aj h4 (ag h4 (u2 (k3 (al t3))))))))))) (ak s2)))))) t2)
theorem vnl_1(q:Ay)(h1:(decide (iN q.i<iN (List.map (iv) q.r).length)=true))(h2:(0<=iN q.i))(h3:((List.map (iv) q.r)[(iN q.i).toNat]?=some (iv q.base)))(h4:(decide (q.base<=q.z)=false))(h5:(decide (q.y<=q.base)=true)):GoO Try.prog (hU [27,38,49] (G1 q) (AC q)) 0 (zC (zB Try.f130) 0) (zK (zB Try.f130) 0) (EW q) (Fin Try.prog Try.f130 0 [] (AV.bool false)):=
 zF (σ:=[]) (fz:=[]) (by kernel_rfl) (aj (al (aj (al t3) (aj h1 (aj (aj (k2 (aj h2 h3)) (u2 s2)) (aj (u2 (u2 (aj t3 (u2 (ag h4 (ag h4 (aj (aj h4 t3) (ag h4 (u2 (aj h5 (aj h5 (aj h5 (al (aj h5 t2)))))))))))))) (ak s2)))))) t2)
theorem vnl_2(q:Ay)(h1:(decide (iN q.i<iN (List.map (iv) q.r).length)=true))(h2:(0<=iN q.i))(h3:((List.map (iv) q.r)[(iN q.i).toNat]?=some (iv q.base)))(h4:(decide (q.base<=q.z)=false))(h5:(decide (q.y<=q.base)=false))(h6:((q.base==q.x)=true)):GoO Try.prog (hU [27,38,48,57] (G1 q) (AC q)) 0 (zC (zB Try.f130) 0) (zK (zB Try.f130) 0) (EW q) (Fin Try.prog Try.f130 0 [] (AV.bool false)):=
 zF (σ:=[]) (fz:=[]) (by kernel_rfl) (aj (al (aj (al t3) (aj h1 (aj (aj (k2 (aj h2 h3)) (u2 s2)) (aj (u2 (u2 (aj t3 (u2 (ag h4 (ag h4 (aj (aj h4 t3) (ag h4 (u2 (ag h5 (ag h5 (aj (aj h5 t3) (al (aj h5 t2)))))))))))))) (aj h6 s2)))))) t2)
theorem vnl_3(q:Ay)(h1:(decide (iN q.i<iN (List.map (iv) q.r).length)=true))(h2:(0<=iN q.i))(h3:((List.map (iv) q.r)[(iN q.i).toNat]?=some (iv q.base)))(h4:(decide (q.base<=q.z)=false))(h5:(decide (q.y<=q.base)=false))(h6:((q.base==q.x)=false)){post:Exit->St->Prop}{R:St->Prop}(hR:∀st,Ren 0 st (St.mk 34 [(0,AV.lst (List.map (iv) q.r)),(1,iv q.x),(2,iv q.y),(7,iv q.base),(10,AV.lst (List.map (iv) q.r)),(11,iv (iN (List.map (iv) q.r).length)),(12,iv (i64.wrap (iN q.i+1)))] [])->R st):GoP Try.prog (hU [27,38,48,56] (G1 q) (AC q)) 0 (zC (zB Try.f130) 0) (EW q) (andThen R post):=
 zN (σ:=[]) (fz:=[]) (vars:=[0,1,2,7,10,11,12]) (by kernel_rfl) (aj (aj (al t3) (aj h1 (aj (aj (k2 (aj h2 h3)) (u2 s2)) (aj (u2 (u2 (aj t3 (u2 (ag h4 (ag h4 (aj (aj h4 t3) (ag h4 (u2 (ag h5 (ag h5 (aj (aj h5 t3) (al (aj h5 t2)))))))))))))) (aj h6 (aj (u2 s2) (al (u2 s2)))))))) t8) hR
theorem vnl_4(q:Ay)(h1:(decide (iN q.i<iN (List.map (iv) q.r).length)=false)):GoO Try.prog (hU [26] (G1 q) (AC q)) 0 (zC (zB Try.f130) 0) (zK (zB Try.f130) 0) (EW q) (Fin Try.prog Try.f130 0 [] (AV.bool (decide (iN (List.map (iv) q.r).length<=4)))):=
 zF (σ:=[]) (fz:=[]) (by kernel_rfl) (aj (aj (aj (al t3) (al h1)) (al (u2 (u2 (u2 s2))))) t2)
theorem mvi_0(q:Ay)(h1:(CT Try.prog 127 [] [iv (iN (List.map bA q.n.bs).length),iv 1,iv 24] [] (AV.bool (Am (iN (List.map bA q.n.bs).length) 1 24))))(h2:((!Am (iN (List.map bA q.n.bs).length) 1 24)=true)):GoP Try.prog (hU [37] (Bs q) (AC q)) 0 (zB Try.f93) (F7 q) (Fin Try.prog Try.f93 0 [] (AV.bool false)):=
 zF (σ:=[]) (fz:=[]) (by kernel_rfl) (aj (ag t2 (aj (u2 (u2 (u2 (aj (ak (k3 (al h1))) (u2 (u2 (aj h2 (aj h2 (aj h2 (aj h2 (aj h2 (aj h2 (aj h2 (ag h2 (u2 (ak (k3 (aj t3 (u2 (ak (k3 (aj t3 (u2 (ak (k3 (al t3)))))))))))))))))))))))))) (ak s2))) t2)
theorem mvi_1(q:Ay)(h1:(CT Try.prog 127 [] [iv (iN (List.map bA q.n.bs).length),iv 1,iv 24] [] (AV.bool (Am (iN (List.map bA q.n.bs).length) 1 24))))(h2:((!Am (iN (List.map bA q.n.bs).length) 1 24)=false))(h3:((iN (gL q.n.nx).length != iN (List.map bA q.n.bs).length)=true)):GoP Try.prog (hU [36,55] (Bs q) (AC q)) 0 (zB Try.f93) (F7 q) (Fin Try.prog Try.f93 0 [] (AV.bool false)):=
 zF (σ:=[]) (fz:=[]) (by kernel_rfl) (aj (ag t2 (aj (u2 (u2 (u2 (aj (ak (k3 (al h1))) (u2 (u2 (ag h2 (ag h2 (ag h2 (ag h2 (ag h2 (ag h2 (aj (aj h2 t3) (ag h2 (u2 (aj h3 (aj h3 (aj h3 (aj h3 (ag h3 (u2 (ak (k3 (aj t3 (u2 (ak (k3 (al t3)))))))))))))))))))))))))))) (ak s2))) t2)
theorem mvi_2(q:Ay)(h1:(CT Try.prog 127 [] [iv (iN (List.map bA q.n.bs).length),iv 1,iv 24] [] (AV.bool (Am (iN (List.map bA q.n.bs).length) 1 24))))(h2:((!Am (iN (List.map bA q.n.bs).length) 1 24)=false))(h3:((iN (gL q.n.nx).length != iN (List.map bA q.n.bs).length)=false))(h4:(decide (6<iN (List.map sA q.n.ss).length)=true)):GoP Try.prog (hU [36,54,67] (Bs q) (AC q)) 0 (zB Try.f93) (F7 q) (Fin Try.prog Try.f93 0 [] (AV.bool false)):=
 zF (σ:=[]) (fz:=[]) (by kernel_rfl) (aj (ag t2 (aj (u2 (u2 (u2 (aj (ak (k3 (al h1))) (u2 (u2 (ag h2 (ag h2 (ag h2 (ag h2 (ag h2 (ag h2 (aj (aj h2 t3) (ag h2 (u2 (ag h3 (ag h3 (ag h3 (ag h3 (ag h3 (u2 (aj h4 (aj h4 (aj h4 (aj h4 (ag h4 (u2 (ak (k3 (al t3)))))))))))))))))))))))))))))) (ak s2))) t2)
theorem mvi_3(q:Ay)(h1:(CT Try.prog 127 [] [iv (iN (List.map bA q.n.bs).length),iv 1,iv 24] [] (AV.bool (Am (iN (List.map bA q.n.bs).length) 1 24))))(h2:((!Am (iN (List.map bA q.n.bs).length) 1 24)=false))(h3:((iN (gL q.n.nx).length != iN (List.map bA q.n.bs).length)=false))(h4:(decide (6<iN (List.map sA q.n.ss).length)=false))(h5:(decide (8<iN (List.map (iv) q.n.rs).length)=true)):GoP Try.prog (hU [36,54,66,79] (Bs q) (AC q)) 0 (zB Try.f93) (F7 q) (Fin Try.prog Try.f93 0 [] (AV.bool false)):=
 zF (σ:=[]) (fz:=[]) (by kernel_rfl) (aj (ag t2 (aj (u2 (u2 (u2 (aj (ak (k3 (al h1))) (u2 (u2 (ag h2 (ag h2 (ag h2 (ag h2 (ag h2 (ag h2 (aj (aj h2 t3) (ag h2 (u2 (ag h3 (ag h3 (ag h3 (ag h3 (ag h3 (u2 (ag h4 (ag h4 (ag h4 (ag h4 (ag h4 (u2 (aj h5 (aj h5 (aj h5 (aj h5 (al (aj h5 t2))))))))))))))))))))))))))))))))) (ak s2))) t2)
theorem mvi_4(q:Ay)(h1:(CT Try.prog 127 [] [iv (iN (List.map bA q.n.bs).length),iv 1,iv 24] [] (AV.bool (Am (iN (List.map bA q.n.bs).length) 1 24))))(h2:((!Am (iN (List.map bA q.n.bs).length) 1 24)=false))(h3:((iN (gL q.n.nx).length != iN (List.map bA q.n.bs).length)=false))(h4:(decide (6<iN (List.map sA q.n.ss).length)=false))(h5:(decide (8<iN (List.map (iv) q.n.rs).length)=false))(h6:(CT Try.prog 128 [] [AV.agg [iv q.n.q,iv q.n.a,iv q.n.d,iv q.n.p]] [] (AV.bool (AZ q.n))))(h7:((!AZ q.n)=true)):GoP Try.prog (hU [36,54,66,78,89] (Bs q) (AC q)) 0 (zB Try.f93) (F7 q) (Fin Try.prog Try.f93 0 [] (AV.bool false)):=
 zF (σ:=[]) (fz:=[]) (by kernel_rfl) (aj (ag t2 (aj (u2 (u2 (u2 (aj (ak (k3 (al h1))) (u2 (u2 (ag h2 (ag h2 (ag h2 (ag h2 (ag h2 (ag h2 (aj (aj h2 t3) (ag h2 (u2 (ag h3 (ag h3 (ag h3 (ag h3 (ag h3 (u2 (ag h4 (ag h4 (ag h4 (ag h4 (ag h4 (u2 (ag h5 (ag h5 (aj (aj h5 (ak (aj t5 (al h6)))) (ag h5 (al (aj h5 t2))))))))))))))))))))))))))))))))) (aj h7 s2))) t2)
theorem mvi_5(q:Ay)(h1:(CT Try.prog 127 [] [iv (iN (List.map bA q.n.bs).length),iv 1,iv 24] [] (AV.bool (Am (iN (List.map bA q.n.bs).length) 1 24))))(h2:((!Am (iN (List.map bA q.n.bs).length) 1 24)=false))(h3:((iN (gL q.n.nx).length != iN (List.map bA q.n.bs).length)=false))(h4:(decide (6<iN (List.map sA q.n.ss).length)=false))(h5:(decide (8<iN (List.map (iv) q.n.rs).length)=false))(h6:(CT Try.prog 128 [] [AV.agg [iv q.n.q,iv q.n.a,iv q.n.d,iv q.n.p]] [] (AV.bool (AZ q.n))))(h7:((!AZ q.n)=false)){post:Exit->St->Prop}(ht:T Try.prog 0 (.loop (zC (zB Try.f93) 0)) (St.mk 185 [(1,AV.ptr 0 0 0),(3,AV.map 1),(47,AV.lst (List.map bA q.n.bs)),(48,iv (iN (List.map bA q.n.bs).length)),(49,iv 0)] [some (Blk.mk [Ad q.n] [AV.lst (List.map bA q.n.bs),AV.lst (gL q.n.nx),AV.lst (List.map sA q.n.ss),AV.lst (List.map (iv) q.n.rs),iv q.n.q,iv q.n.a,iv q.n.d,iv q.n.p].length true true none),some (Blk.mk [] 0 true true (some ([],0)))]) (TK Try.prog 0 post (zK (zB Try.f93) 0))):GoP Try.prog (hU [36,54,66,78,88] (Bs q) (AC q)) 0 (zB Try.f93) (F7 q) post:=
 zR (σ:=[0,1]) (fz:=[]) (vars:=[1,3,47,48,49]) (by kernel_rfl) (aj (ag t2 (aj (u2 (u2 (u2 (aj (ak (k3 (al h1))) (u2 (u2 (ag h2 (ag h2 (ag h2 (ag h2 (ag h2 (ag h2 (aj (aj h2 t3) (ag h2 (u2 (ag h3 (ag h3 (ag h3 (ag h3 (ag h3 (u2 (ag h4 (ag h4 (ag h4 (ag h4 (ag h4 (u2 (ag h5 (ag h5 (aj (aj h5 (ak (aj t5 (al h6)))) (ag h5 (al (aj h5 t2))))))))))))))))))))))))))))))))) (aj h7 (aj (ak s2) (al (u2 (u2 (u2 t2)))))))) t8) ht
theorem mvbx_0(q:Ay)(h1:(decide (iN q.i<iN (List.map bA q.n.bs).length)=false)){post:Exit->St->Prop}(ht:T Try.prog 0 (.loop (zC (zB Try.f93) 1)) (St.mk 185 [(1,AV.ptr 0 0 0),(3,AV.map 1),(6,iv (iN (List.map bA q.n.bs).length)),(7,AV.map 2),(94,AV.lst (List.map sA q.n.ss)),(95,iv (iN (List.map sA q.n.ss).length)),(96,iv 0)] [some (Blk.mk [Ad q.n] 8 true true none),some (Blk.mk [] 0 true true (some (q.l,q.c))),some (Blk.mk [] 0 true true (some ([],0)))]) (TK Try.prog 0 post (zK (zB Try.f93) 1))):GoO Try.prog (hU [100] (Bs q) (AC q)) 0 (zC (zB Try.f93) 0) (zK (zB Try.f93) 0) (D3 q) post:=
 zR (σ:=[0,1,2]) (fz:=[]) (vars:=[1,3,6,7,94,95,96]) (by kernel_rfl) (aj (aj (aj (al t3) (al h1)) (aj (u2 (u2 (u2 (ak (u2 s2))))) (al (u2 (u2 (u2 t2)))))) (k2 t9)) ht
theorem mvb_0 (q : Ay) (h1 : (decide (iN q.i < iN (List.map bA q.n.bs).length) = true)) (h2 : (0 <= iN q.i)) (h3 : ((List.map bA q.n.bs)[(iN q.i).toNat]? = some (AV.agg [AV.str q.b.nm, iv q.b.x, iv q.b.y]))) (h4 : (∀ (x : MapEntry), x ∈ q.l -> AS (TypeInfo.mk TypeDesc.string "string" 1 16 true 8 8 (some (Value.string (ByteArray.mk #[]))) true #[]).desc x.key = true /\ BM (MK.i i64) x.val)) (h5 : (CT Try.prog 129 [] [AV.str q.b.nm] [] (AV.bool (nmB q.b.nm)))) (h6 : ((!nmB q.b.nm) = true)) : GoO Try.prog (hU [101, 127] (Bs q) (AC q)) 0 (zC (zB Try.f93) 0) (zK (zB Try.f93) 0) (D3 q) (Fin Try.prog Try.f93 0 [] (AV.bool false)) :=
 zF (σ:=[]) (fz:=[]) (by kernel_rfl) (aj (al (aj (al t3) (aj h1 (aj (u2 (aj (k2 (aj h2 h3)) (u2 (ak (u2 (al (k2 (show(Nat.le (nat_lit 1) (nat_lit 1)) by first | exact nL rfl | decide)))))))) (aj (u2 (u2 (u2 (aj (k2 h4) (u2 (al (k3 h4))))))) (aj (u2 (u2 (aj (k2 (al h5)) (u2 (u2 (aj h6 (aj h6 (aj h6 (aj h6 (ag h6 (u2 (ak (k3 (aj t3 (u2 (ak (k5 (k5 (al t3))))))))))))))))))) (ak s2))))))) t2)
theorem mvb_1 (q : Ay) (h1 : (decide (iN q.i < iN (List.map bA q.n.bs).length) = true)) (h2 : (0 <= iN q.i)) (h3 : ((List.map bA q.n.bs)[(iN q.i).toNat]? = some (AV.agg [AV.str q.b.nm, iv q.b.x, iv q.b.y]))) (h4 : (∀ (x : MapEntry), x ∈ q.l -> AS (TypeInfo.mk TypeDesc.string "string" 1 16 true 8 8 (some (Value.string (ByteArray.mk #[]))) true #[]).desc x.key = true /\ BM (MK.i i64) x.val)) (h5 : (CT Try.prog 129 [] [AV.str q.b.nm] [] (AV.bool (nmB q.b.nm)))) (h6 : ((!nmB q.b.nm) = false)) (h7 : (CT Try.prog 127 [] [iv q.b.x, iv (-9999), iv 9999] [] (AV.bool (Am q.b.x (-9999) 9999)))) (h8 : ((!Am q.b.x (-9999) 9999) = true)) : GoO Try.prog (hU [101, 126, 139] (Bs q) (AC q)) 0 (zC (zB Try.f93) 0) (zK (zB Try.f93) 0) (D3 q) (Fin Try.prog Try.f93 0 [] (AV.bool false)) :=
 zF (σ:=[]) (fz:=[]) (by kernel_rfl) (aj (al (aj (al t3) (aj h1 (aj (u2 (aj (k2 (aj h2 h3)) (u2 (ak (u2 (al (k2 (show(Nat.le (nat_lit 1) (nat_lit 1)) by first | exact nL rfl | decide)))))))) (aj (u2 (u2 (u2 (aj (k2 h4) (u2 (al (k3 h4))))))) (aj (u2 (u2 (aj (k2 (al h5)) (u2 (u2 (ag h6 (ag h6 (aj (aj h6 (ak (k3 (al h7)))) (ag h6 (ag h6 (u2 (aj h8 (aj h8 (aj h8 (aj h8 (ag h8 (u2 (ak (k5 (k5 (al t3))))))))))))))))))))) (ak s2))))))) t2)
theorem mvb_2 (q : Ay) (h1 : (decide (iN q.i < iN (List.map bA q.n.bs).length) = true)) (h2 : (0 <= iN q.i)) (h3 : ((List.map bA q.n.bs)[(iN q.i).toNat]? = some (AV.agg [AV.str q.b.nm, iv q.b.x, iv q.b.y]))) (h4 : (∀ (x : MapEntry), x ∈ q.l -> AS (TypeInfo.mk TypeDesc.string "string" 1 16 true 8 8 (some (Value.string (ByteArray.mk #[]))) true #[]).desc x.key = true /\ BM (MK.i i64) x.val)) (h5 : (CT Try.prog 129 [] [AV.str q.b.nm] [] (AV.bool (nmB q.b.nm)))) (h6 : ((!nmB q.b.nm) = false)) (h7 : (CT Try.prog 127 [] [iv q.b.x, iv (-9999), iv 9999] [] (AV.bool (Am q.b.x (-9999) 9999)))) (h8 : ((!Am q.b.x (-9999) 9999) = false)) (h9 : (CT Try.prog 127 [] [iv q.b.y, iv (-9999), iv 9999] [] (AV.bool (Am q.b.y (-9999) 9999)))) (h10 : ((!Am q.b.y (-9999) 9999) = true)) : GoO Try.prog (hU [101, 126, 138, 151] (Bs q) (AC q)) 0 (zC (zB Try.f93) 0) (zK (zB Try.f93) 0) (D3 q) (Fin Try.prog Try.f93 0 [] (AV.bool false)) :=
 zF (σ:=[]) (fz:=[]) (by kernel_rfl) (aj (al (aj (al t3) (aj h1 (aj (u2 (aj (k2 (aj h2 h3)) (u2 (ak (u2 (al (k2 (show(Nat.le (nat_lit 1) (nat_lit 1)) by first | exact nL rfl | decide)))))))) (aj (u2 (u2 (u2 (aj (k2 h4) (u2 (al (k3 h4))))))) (aj (u2 (u2 (aj (k2 (al h5)) (u2 (u2 (ag h6 (ag h6 (aj (aj h6 (ak (k3 (al h7)))) (ag h6 (ag h6 (u2 (ag h8 (ag h8 (aj (aj h8 (ak (k3 (al h9)))) (ag h8 (ag h8 (u2 (aj h10 (aj h10 (aj h10 (aj h10 (aj h10 (aj h10 (aj h10 (aj h10 (aj h10 (aj h10 (aj h10 (al (aj h10 t2)))))))))))))))))))))))))))))) (ak s2))))))) t2)
theorem mvb_3 (q : Ay) (h1 : (decide (iN q.i < iN (List.map bA q.n.bs).length) = true)) (h2 : (0 <= iN q.i)) (h3 : ((List.map bA q.n.bs)[(iN q.i).toNat]? = some (AV.agg [AV.str q.b.nm, iv q.b.x, iv q.b.y]))) (h4 : (∀ (x : MapEntry), x ∈ q.l -> AS (TypeInfo.mk TypeDesc.string "string" 1 16 true 8 8 (some (Value.string (ByteArray.mk #[]))) true #[]).desc x.key = true /\ BM (MK.i i64) x.val)) (h5 : (CT Try.prog 129 [] [AV.str q.b.nm] [] (AV.bool (nmB q.b.nm)))) (h6 : ((!nmB q.b.nm) = false)) (h7 : (CT Try.prog 127 [] [iv q.b.x, iv (-9999), iv 9999] [] (AV.bool (Am q.b.x (-9999) 9999)))) (h8 : ((!Am q.b.x (-9999) 9999) = false)) (h9 : (CT Try.prog 127 [] [iv q.b.y, iv (-9999), iv 9999] [] (AV.bool (Am q.b.y (-9999) 9999)))) (h10 : ((!Am q.b.y (-9999) 9999) = false)) (h11 : ((gL q.n.nx)[(iN q.i).toNat]? = some (AV.lst (List.map (iv) q.r)))) (h12 : (CT Try.prog 130 [] [AV.lst (List.map (iv) q.r), iv (iN q.i), iv (iN (List.map bA q.n.bs).length)] [] (AV.bool (nxB q.r (iN q.i) (iN (List.map bA q.n.bs).length))))) (h13 : ((!nxB q.r (iN q.i) (iN (List.map bA q.n.bs).length)) = true)) : GoO Try.prog (hU [101, 126, 138, 150, 175] (Bs q) (AC q)) 0 (zC (zB Try.f93) 0) (zK (zB Try.f93) 0) (D3 q) (Fin Try.prog Try.f93 0 [] (AV.bool false)) :=
 zF (σ:=[]) (fz:=[]) (by kernel_rfl) (aj (al (aj (al t3) (aj h1 (aj (u2 (aj (k2 (aj h2 h3)) (u2 (ak (u2 (al (k2 (show(Nat.le (nat_lit 1) (nat_lit 1)) by first | exact nL rfl | decide)))))))) (aj (u2 (u2 (u2 (aj (k2 h4) (u2 (al (k3 h4))))))) (aj (u2 (u2 (aj (k2 (al h5)) (u2 (u2 (ag h6 (ag h6 (aj (aj h6 (ak (k3 (al h7)))) (ag h6 (ag h6 (u2 (ag h8 (ag h8 (aj (aj h8 (ak (k3 (al h9)))) (ag h8 (ag h8 (u2 (ag h10 (ag h10 (ag h10 (aj (aj h10 (k2 (aj h2 h11))) (ag h10 (ag h10 (ag h10 (ag h10 (ag h10 (aj (aj h10 (ak (k5 (al h12)))) (ag h10 (al (aj h10 t2)))))))))))))))))))))))))))))) (aj h13 s2))))))) t2)
theorem mvb_4 (q : Ay) (h1 : (decide (iN q.i < iN (List.map bA q.n.bs).length) = true)) (h2 : (0 <= iN q.i)) (h3 : ((List.map bA q.n.bs)[(iN q.i).toNat]? = some (AV.agg [AV.str q.b.nm, iv q.b.x, iv q.b.y]))) (h4 : (∀ (x : MapEntry), x ∈ q.l -> AS (TypeInfo.mk TypeDesc.string "string" 1 16 true 8 8 (some (Value.string (ByteArray.mk #[]))) true #[]).desc x.key = true /\ BM (MK.i i64) x.val)) (h5 : (CT Try.prog 129 [] [AV.str q.b.nm] [] (AV.bool (nmB q.b.nm)))) (h6 : ((!nmB q.b.nm) = false)) (h7 : (CT Try.prog 127 [] [iv q.b.x, iv (-9999), iv 9999] [] (AV.bool (Am q.b.x (-9999) 9999)))) (h8 : ((!Am q.b.x (-9999) 9999) = false)) (h9 : (CT Try.prog 127 [] [iv q.b.y, iv (-9999), iv 9999] [] (AV.bool (Am q.b.y (-9999) 9999)))) (h10 : ((!Am q.b.y (-9999) 9999) = false)) (h11 : ((gL q.n.nx)[(iN q.i).toNat]? = some (AV.lst (List.map (iv) q.r)))) (h12 : (CT Try.prog 130 [] [AV.lst (List.map (iv) q.r), iv (iN q.i), iv (iN (List.map bA q.n.bs).length)] [] (AV.bool (nxB q.r (iN q.i) (iN (List.map bA q.n.bs).length))))) (h13 : ((!nxB q.r (iN q.i) (iN (List.map bA q.n.bs).length)) = false)) {post : Exit -> St -> Prop} {R : St -> Prop} (hR : ∀ st, Ren 0 st (St.mk 185 [(1, AV.ptr 0 0 0), (3, AV.map 1), (47, AV.lst (List.map bA q.n.bs)), (48, iv (iN (List.map bA q.n.bs).length)), (49, iv (i64.wrap (iN q.i + 1)))] [some (Blk.mk [Ad q.n] 8 true true none), some (Blk.mk [] 0 true true (some (BJ TypeDesc.string (Value.string q.b.nm) (Value.int i64 (i64.wrap (DT TypeDesc.string (Value.string q.b.nm) q.l + 1))) q.l q.c, BD TypeDesc.string (Value.string q.b.nm) q.l q.c)))]) -> R st) : GoP Try.prog (hU [101, 126, 138, 150, 174] (Bs q) (AC q)) 0 (zC (zB Try.f93) 0) (D3 q) (andThen R post) :=
 zN (σ:=[0,1]) (fz:=[]) (vars:=[1,3,47,48,49]) (by kernel_rfl) (aj (aj (al t3) (aj h1 (aj (u2 (aj (k2 (aj h2 h3)) (u2 (ak (u2 (al (k2 (show(Nat.le (nat_lit 1) (nat_lit 1)) by first | exact nL rfl | decide)))))))) (aj (u2 (u2 (u2 (aj (k2 h4) (u2 (al (k3 h4))))))) (aj (u2 (u2 (aj (k2 (al h5)) (u2 (u2 (ag h6 (ag h6 (aj (aj h6 (ak (k3 (al h7)))) (ag h6 (ag h6 (u2 (ag h8 (ag h8 (aj (aj h8 (ak (k3 (al h9)))) (ag h8 (ag h8 (u2 (ag h10 (ag h10 (ag h10 (aj (aj h10 (k2 (aj h2 h11))) (ag h10 (ag h10 (ag h10 (ag h10 (ag h10 (aj (aj h10 (ak (k5 (al h12)))) (ag h10 (al (aj h10 t2)))))))))))))))))))))))))))))) (aj h13 (al (u2 s2)))))))) t8) hR
theorem mvsx_0(q:Ay)(h1:(decide (iN q.i<iN (List.map sA q.n.ss).length)=false))(h2:(decide (0<iN q.l2.length)=true)){post:Exit->St->Prop}(ht:T Try.prog 0 (.loop (zC (zB Try.f93) 2)) (St.mk 185 [(7,AV.map 0),(10,AV.bool (iN q.l.length==i64.wrap (iN (List.map bA q.n.bs).length+iN (List.map sA q.n.ss).length))),(169,AV.lst (List.map (iv) q.n.rs)),(170,iv (iN (List.map (iv) q.n.rs).length)),(171,iv 0)] [some (Blk.mk [] 0 true true (some (q.l2,q.c2)))]) (TK Try.prog 0 post (zK (zB Try.f93) 2))):GoO Try.prog (hU [194,313] (Bs q) (AC q)) 0 (zC (zB Try.f93) 1) (zK (zB Try.f93) 1) (CJ q) post:=
 zR (σ:=[2]) (fz:=[]) (vars:=[7,10,169,170,171]) (by kernel_rfl) (aj (aj (aj (al t3) (al h1)) (aj (u2 (u2 (u2 (u2 (ag h2 (ag h2 (ag h2 (ag h2 (ag h2 (ag h2 (ag h2 (ag h2 (aj (aj h2 t3) (aj (aj h2 t3) (ag h2 s2))))))))))))))) (al (u2 (u2 (u2 t2)))))) t7) ht
theorem mvsx_1(q:Ay)(h1:(decide (iN q.i<iN (List.map sA q.n.ss).length)=false))(h2:(decide (0<iN q.l2.length)=false)){post:Exit->St->Prop}(ht:T Try.prog 0 (.loop (zC (zB Try.f93) 2)) (St.mk 185 [(7,AV.map 0),(10,AV.bool false),(169,AV.lst (List.map (iv) q.n.rs)),(170,iv (iN (List.map (iv) q.n.rs).length)),(171,iv 0)] [some (Blk.mk [] 0 true true (some (q.l2,q.c2)))]) (TK Try.prog 0 post (zK (zB Try.f93) 2))):GoO Try.prog (hU [194,312] (Bs q) (AC q)) 0 (zC (zB Try.f93) 1) (zK (zB Try.f93) 1) (CJ q) post:=
 zR (σ:=[2]) (fz:=[]) (vars:=[7,10,169,170,171]) (by kernel_rfl) (aj (aj (aj (al t3) (al h1)) (aj (u2 (u2 (u2 (u2 (aj h2 (aj h2 (aj h2 (aj h2 (aj h2 (aj h2 (aj h2 (aj h2 (aj h2 (aj h2 (ag h2 s2))))))))))))))) (al (u2 (u2 (u2 t2)))))) t7) ht
theorem mvs_0 (q : Ay) (h1 : (decide (iN q.i < iN (List.map sA q.n.ss).length) = true)) (h2 : (0 <= iN q.i)) (h3 : ((List.map sA q.n.ss)[(iN q.i).toNat]? = some (sA q.s))) (h4 : (∀ (x : MapEntry), x ∈ q.l -> AS (TypeInfo.mk TypeDesc.string "string" 1 16 true 8 8 (some (Value.string (ByteArray.mk #[]))) true #[]).desc x.key = true /\ BM (MK.i i64) x.val)) (h5 : (CT Try.prog 129 [] [AV.str q.s.nm] [] (AV.bool (nmB q.s.nm)))) (h6 : ((!nmB q.s.nm) = true)) : GoO Try.prog (hU [195, 219] (Bs q) (AC q)) 0 (zC (zB Try.f93) 1) (zK (zB Try.f93) 1) (CJ q) (Fin Try.prog Try.f93 0 [] (AV.bool false)) :=
 zF (σ:=[]) (fz:=[]) (by kernel_rfl) (aj (al (aj (al t3) (aj h1 (aj (aj (k2 (aj h2 h3)) (u2 (ak (al (k2 (show(Nat.le (nat_lit 1) (nat_lit 1)) by first | exact nL rfl | decide)))))) (aj (u2 (u2 (u2 (aj (k2 h4) (u2 (al (k3 h4))))))) (aj (u2 (u2 (aj (k2 (al h5)) (u2 (u2 (aj h6 (aj h6 (aj h6 (aj h6 (aj h6 (aj h6 (aj h6 (aj h6 (ag h6 (u2 (k3 (k5 (aj t3 (u2 (ak (k3 (aj t3 (u2 (ak (k3 (al t3)))))))))))))))))))))))))) (ak s2))))))) t2)
theorem mvs_1 (q : Ay) (h1 : (decide (iN q.i < iN (List.map sA q.n.ss).length) = true)) (h2 : (0 <= iN q.i)) (h3 : ((List.map sA q.n.ss)[(iN q.i).toNat]? = some (sA q.s))) (h4 : (∀ (x : MapEntry), x ∈ q.l -> AS (TypeInfo.mk TypeDesc.string "string" 1 16 true 8 8 (some (Value.string (ByteArray.mk #[]))) true #[]).desc x.key = true /\ BM (MK.i i64) x.val)) (h5 : (CT Try.prog 129 [] [AV.str q.s.nm] [] (AV.bool (nmB q.s.nm)))) (h6 : ((!nmB q.s.nm) = false)) (h7 : (CT Try.prog 127 [] [iv q.s.i, iv 0, iv (i64.wrap (iN (List.map bA q.n.bs).length - 1))] [] (AV.bool (Am q.s.i 0 (i64.wrap (iN (List.map bA q.n.bs).length - 1)))))) (h8 : ((!Am q.s.i 0 (i64.wrap (iN (List.map bA q.n.bs).length - 1))) = true)) : GoO Try.prog (hU [195, 218, 239] (Bs q) (AC q)) 0 (zC (zB Try.f93) 1) (zK (zB Try.f93) 1) (CJ q) (Fin Try.prog Try.f93 0 [] (AV.bool false)) :=
 zF (σ:=[]) (fz:=[]) (by kernel_rfl) (aj (al (aj (al t3) (aj h1 (aj (aj (k2 (aj h2 h3)) (u2 (ak (al (k2 (show(Nat.le (nat_lit 1) (nat_lit 1)) by first | exact nL rfl | decide)))))) (aj (u2 (u2 (u2 (aj (k2 h4) (u2 (al (k3 h4))))))) (aj (u2 (u2 (aj (k2 (al h5)) (u2 (u2 (ag h6 (ag h6 (ag h6 (ag h6 (ag h6 (ag h6 (aj (aj h6 (k5 (al h7))) (ag h6 (ag h6 (u2 (aj h8 (aj h8 (aj h8 (aj h8 (aj h8 (aj h8 (aj h8 (aj h8 (ag h8 (u2 (ak (k3 (aj t3 (u2 (ak (k3 (al t3)))))))))))))))))))))))))))))))) (ak s2))))))) t2)
theorem mvs_2 (q : Ay) (h1 : (decide (iN q.i < iN (List.map sA q.n.ss).length) = true)) (h2 : (0 <= iN q.i)) (h3 : ((List.map sA q.n.ss)[(iN q.i).toNat]? = some (sA q.s))) (h4 : (∀ (x : MapEntry), x ∈ q.l -> AS (TypeInfo.mk TypeDesc.string "string" 1 16 true 8 8 (some (Value.string (ByteArray.mk #[]))) true #[]).desc x.key = true /\ BM (MK.i i64) x.val)) (h5 : (CT Try.prog 129 [] [AV.str q.s.nm] [] (AV.bool (nmB q.s.nm)))) (h6 : ((!nmB q.s.nm) = false)) (h7 : (CT Try.prog 127 [] [iv q.s.i, iv 0, iv (i64.wrap (iN (List.map bA q.n.bs).length - 1))] [] (AV.bool (Am q.s.i 0 (i64.wrap (iN (List.map bA q.n.bs).length - 1)))))) (h8 : ((!Am q.s.i 0 (i64.wrap (iN (List.map bA q.n.bs).length - 1))) = false)) (h9 : (CT Try.prog 127 [] [iv q.s.o, iv 0, iv (i64.wrap (iN (List.map bA q.n.bs).length - 1))] [] (AV.bool (Am q.s.o 0 (i64.wrap (iN (List.map bA q.n.bs).length - 1)))))) (h10 : ((!Am q.s.o 0 (i64.wrap (iN (List.map bA q.n.bs).length - 1))) = true)) : GoO Try.prog (hU [195, 218, 238, 259] (Bs q) (AC q)) 0 (zC (zB Try.f93) 1) (zK (zB Try.f93) 1) (CJ q) (Fin Try.prog Try.f93 0 [] (AV.bool false)) :=
 zF (σ:=[]) (fz:=[]) (by kernel_rfl) (aj (al (aj (al t3) (aj h1 (aj (aj (k2 (aj h2 h3)) (u2 (ak (al (k2 (show(Nat.le (nat_lit 1) (nat_lit 1)) by first | exact nL rfl | decide)))))) (aj (u2 (u2 (u2 (aj (k2 h4) (u2 (al (k3 h4))))))) (aj (u2 (u2 (aj (k2 (al h5)) (u2 (u2 (ag h6 (ag h6 (ag h6 (ag h6 (ag h6 (ag h6 (aj (aj h6 (k5 (al h7))) (ag h6 (ag h6 (u2 (ag h8 (ag h8 (ag h8 (ag h8 (ag h8 (ag h8 (aj (aj h8 (k5 (al h9))) (ag h8 (ag h8 (u2 (aj h10 (aj h10 (aj h10 (aj h10 (ag h10 (u2 (ak (k3 (al t3)))))))))))))))))))))))))))))))))) (ak s2))))))) t2)
theorem mvs_3 (q : Ay) (h1 : (decide (iN q.i < iN (List.map sA q.n.ss).length) = true)) (h2 : (0 <= iN q.i)) (h3 : ((List.map sA q.n.ss)[(iN q.i).toNat]? = some (sA q.s))) (h4 : (∀ (x : MapEntry), x ∈ q.l -> AS (TypeInfo.mk TypeDesc.string "string" 1 16 true 8 8 (some (Value.string (ByteArray.mk #[]))) true #[]).desc x.key = true /\ BM (MK.i i64) x.val)) (h5 : (CT Try.prog 129 [] [AV.str q.s.nm] [] (AV.bool (nmB q.s.nm)))) (h6 : ((!nmB q.s.nm) = false)) (h7 : (CT Try.prog 127 [] [iv q.s.i, iv 0, iv (i64.wrap (iN (List.map bA q.n.bs).length - 1))] [] (AV.bool (Am q.s.i 0 (i64.wrap (iN (List.map bA q.n.bs).length - 1)))))) (h8 : ((!Am q.s.i 0 (i64.wrap (iN (List.map bA q.n.bs).length - 1))) = false)) (h9 : (CT Try.prog 127 [] [iv q.s.o, iv 0, iv (i64.wrap (iN (List.map bA q.n.bs).length - 1))] [] (AV.bool (Am q.s.o 0 (i64.wrap (iN (List.map bA q.n.bs).length - 1)))))) (h10 : ((!Am q.s.o 0 (i64.wrap (iN (List.map bA q.n.bs).length - 1))) = false)) (h11 : (CT Try.prog 127 [] [iv q.s.k, iv 1, iv 4] [] (AV.bool (Am q.s.k 1 4)))) (h12 : ((!Am q.s.k 1 4) = true)) : GoO Try.prog (hU [195, 218, 238, 258, 271] (Bs q) (AC q)) 0 (zC (zB Try.f93) 1) (zK (zB Try.f93) 1) (CJ q) (Fin Try.prog Try.f93 0 [] (AV.bool false)) :=
 zF (σ:=[]) (fz:=[]) (by kernel_rfl) (aj (al (aj (al t3) (aj h1 (aj (aj (k2 (aj h2 h3)) (u2 (ak (al (k2 (show(Nat.le (nat_lit 1) (nat_lit 1)) by first | exact nL rfl | decide)))))) (aj (u2 (u2 (u2 (aj (k2 h4) (u2 (al (k3 h4))))))) (aj (u2 (u2 (aj (k2 (al h5)) (u2 (u2 (ag h6 (ag h6 (ag h6 (ag h6 (ag h6 (ag h6 (aj (aj h6 (k5 (al h7))) (ag h6 (ag h6 (u2 (ag h8 (ag h8 (ag h8 (ag h8 (ag h8 (ag h8 (aj (aj h8 (k5 (al h9))) (ag h8 (ag h8 (u2 (ag h10 (ag h10 (aj (aj h10 (ak (k3 (al h11)))) (ag h10 (ag h10 (u2 (aj h12 (aj h12 (aj h12 (aj h12 (al (aj h12 t2))))))))))))))))))))))))))))))))))))) (ak s2))))))) t2)
theorem mvs_4 (q : Ay) (h1 : (decide (iN q.i < iN (List.map sA q.n.ss).length) = true)) (h2 : (0 <= iN q.i)) (h3 : ((List.map sA q.n.ss)[(iN q.i).toNat]? = some (sA q.s))) (h4 : (∀ (x : MapEntry), x ∈ q.l -> AS (TypeInfo.mk TypeDesc.string "string" 1 16 true 8 8 (some (Value.string (ByteArray.mk #[]))) true #[]).desc x.key = true /\ BM (MK.i i64) x.val)) (h5 : (CT Try.prog 129 [] [AV.str q.s.nm] [] (AV.bool (nmB q.s.nm)))) (h6 : ((!nmB q.s.nm) = false)) (h7 : (CT Try.prog 127 [] [iv q.s.i, iv 0, iv (i64.wrap (iN (List.map bA q.n.bs).length - 1))] [] (AV.bool (Am q.s.i 0 (i64.wrap (iN (List.map bA q.n.bs).length - 1)))))) (h8 : ((!Am q.s.i 0 (i64.wrap (iN (List.map bA q.n.bs).length - 1))) = false)) (h9 : (CT Try.prog 127 [] [iv q.s.o, iv 0, iv (i64.wrap (iN (List.map bA q.n.bs).length - 1))] [] (AV.bool (Am q.s.o 0 (i64.wrap (iN (List.map bA q.n.bs).length - 1)))))) (h10 : ((!Am q.s.o 0 (i64.wrap (iN (List.map bA q.n.bs).length - 1))) = false)) (h11 : (CT Try.prog 127 [] [iv q.s.k, iv 1, iv 4] [] (AV.bool (Am q.s.k 1 4)))) (h12 : ((!Am q.s.k 1 4) = false)) (h13 : ((q.s.b != q.base) = true)) : GoO Try.prog (hU [195, 218, 238, 258, 270, 281] (Bs q) (AC q)) 0 (zC (zB Try.f93) 1) (zK (zB Try.f93) 1) (CJ q) (Fin Try.prog Try.f93 0 [] (AV.bool false)) :=
 zF (σ:=[]) (fz:=[]) (by kernel_rfl) (aj (al (aj (al t3) (aj h1 (aj (aj (k2 (aj h2 h3)) (u2 (ak (al (k2 (show(Nat.le (nat_lit 1) (nat_lit 1)) by first | exact nL rfl | decide)))))) (aj (u2 (u2 (u2 (aj (k2 h4) (u2 (al (k3 h4))))))) (aj (u2 (u2 (aj (k2 (al h5)) (u2 (u2 (ag h6 (ag h6 (ag h6 (ag h6 (ag h6 (ag h6 (aj (aj h6 (k5 (al h7))) (ag h6 (ag h6 (u2 (ag h8 (ag h8 (ag h8 (ag h8 (ag h8 (ag h8 (aj (aj h8 (k5 (al h9))) (ag h8 (ag h8 (u2 (ag h10 (ag h10 (aj (aj h10 (ak (k3 (al h11)))) (ag h10 (ag h10 (u2 (ag h12 (ag h12 (ag h12 (aj (aj h12 t3) (al (aj h12 t2))))))))))))))))))))))))))))))))))))) (aj h13 s2))))))) t2)
theorem mvs_5 (q : Ay) (h1 : (decide (iN q.i < iN (List.map sA q.n.ss).length) = true)) (h2 : (0 <= iN q.i)) (h3 : ((List.map sA q.n.ss)[(iN q.i).toNat]? = some (sA q.s))) (h4 : (∀ (x : MapEntry), x ∈ q.l -> AS (TypeInfo.mk TypeDesc.string "string" 1 16 true 8 8 (some (Value.string (ByteArray.mk #[]))) true #[]).desc x.key = true /\ BM (MK.i i64) x.val)) (h5 : (CT Try.prog 129 [] [AV.str q.s.nm] [] (AV.bool (nmB q.s.nm)))) (h6 : ((!nmB q.s.nm) = false)) (h7 : (CT Try.prog 127 [] [iv q.s.i, iv 0, iv (i64.wrap (iN (List.map bA q.n.bs).length - 1))] [] (AV.bool (Am q.s.i 0 (i64.wrap (iN (List.map bA q.n.bs).length - 1)))))) (h8 : ((!Am q.s.i 0 (i64.wrap (iN (List.map bA q.n.bs).length - 1))) = false)) (h9 : (CT Try.prog 127 [] [iv q.s.o, iv 0, iv (i64.wrap (iN (List.map bA q.n.bs).length - 1))] [] (AV.bool (Am q.s.o 0 (i64.wrap (iN (List.map bA q.n.bs).length - 1)))))) (h10 : ((!Am q.s.o 0 (i64.wrap (iN (List.map bA q.n.bs).length - 1))) = false)) (h11 : (CT Try.prog 127 [] [iv q.s.k, iv 1, iv 4] [] (AV.bool (Am q.s.k 1 4)))) (h12 : ((!Am q.s.k 1 4) = false)) (h13 : ((q.s.b != q.base) = false)) {post : Exit -> St -> Prop} (ht : T Try.prog 0 (.loop (zC (zC (zB Try.f93) 1) 0)) (St.mk 185 [(1, AV.ptr 0 0 0), (3, AV.map 1), (6, iv q.base), (7, AV.map 2), (9, AV.ptr 3 0 0), (94, AV.lst (List.map sA q.n.ss)), (95, iv (iN (List.map sA q.n.ss).length)), (96, iv (iN q.i)), (142, iv q.s.k), (143, iv 0)] [some (Blk.mk [Ad q.n] 8 true true none), some (Blk.mk [] 0 true true (some (BJ TypeDesc.string (Value.string q.s.nm) (Value.int i64 (i64.wrap (DT TypeDesc.string (Value.string q.s.nm) q.l + 1))) q.l q.c, BD TypeDesc.string (Value.string q.s.nm) q.l q.c))), some (Blk.mk [] 0 true true (some (q.l2, q.c2))), some (Blk.mk [sA q.s] 6 true true none)]) (TK Try.prog 0 post (zK (zC (zB Try.f93) 1) 0))) : GoP Try.prog (hU [195, 218, 238, 258, 270, 280] (Bs q) (AC q)) 0 (zC (zB Try.f93) 1) (CJ q) post :=
 zR (σ:=[0,1,2,3]) (fz:=[]) (vars:=[1,3,6,7,9,94,95,96,142,143]) (by kernel_rfl) (aj (aj (al t3) (aj h1 (aj (aj (k2 (aj h2 h3)) (u2 (ak (al (k2 (show(Nat.le (nat_lit 1) (nat_lit 1)) by first | exact nL rfl | decide)))))) (aj (u2 (u2 (u2 (aj (k2 h4) (u2 (al (k3 h4))))))) (aj (u2 (u2 (aj (k2 (al h5)) (u2 (u2 (ag h6 (ag h6 (ag h6 (ag h6 (ag h6 (ag h6 (aj (aj h6 (k5 (al h7))) (ag h6 (ag h6 (u2 (ag h8 (ag h8 (ag h8 (ag h8 (ag h8 (ag h8 (aj (aj h8 (k5 (al h9))) (ag h8 (ag h8 (u2 (ag h10 (ag h10 (aj (aj h10 (ak (k3 (al h11)))) (ag h10 (ag h10 (u2 (ag h12 (ag h12 (ag h12 (aj (aj h12 t3) (al (aj h12 t2))))))))))))))))))))))))))))))))))))) (aj h13 (al (u2 (u2 t2))))))))) (ak (k5 t9))) ht
theorem mvtx_0(q:Ay)(h1:(decide (iN q.k<q.s.k)=false)){post:Exit->St->Prop}{R:St->Prop}(hR:∀st,Ren 0 st (St.mk 185 [(1,AV.ptr 0 0 0),(3,AV.map 1),(6,iv q.base),(7,AV.map 2),(94,AV.lst (List.map sA q.n.ss)),(95,iv (iN (List.map sA q.n.ss).length)),(96,iv (i64.wrap (iN q.i+1)))] [some (Blk.mk [Ad q.n] 8 true true none),some (Blk.mk [] 0 true true (some (q.l,q.c))),some (Blk.mk [] 0 true true (some (q.l2,q.c2)))])->R st):GoO Try.prog (hU [288] (Bs q) (AC q)) 0 (zC (zC (zB Try.f93) 1) 0) (zK (zC (zB Try.f93) 1) 0) (Eu q) (andThen R post):=
 zN (σ:=[0,1,2]) (fz:=[]) (vars:=[1,3,6,7,94,95,96]) (by kernel_rfl) (aj (aj (aj (al t3) (al h1)) (al (u2 s2))) (k2 t9)) hR
theorem mvt_0 (q : Ay) (h1 : (decide (iN q.k < q.s.k) = true)) (h2 : (q.s.dep = true)) (h3 : (∀ (x : MapEntry), x ∈ q.l2 -> AS (TypeInfo.mk (TypeDesc.int i64) "int" 1 8 false 8 8 (some (Value.int i64 0)) true #[]).desc x.key = true /\ BM MK.b x.val)) {post : Exit -> St -> Prop} {R : St -> Prop} (hR : ∀ st, Ren 0 st (St.mk 185 [(1, AV.ptr 0 0 0), (3, AV.map 1), (6, iv (i64.wrap (q.base + 1))), (7, AV.map 2), (9, AV.ptr 3 0 0), (94, AV.lst (List.map sA q.n.ss)), (95, iv (iN (List.map sA q.n.ss).length)), (96, iv (iN q.i)), (142, iv q.s.k), (143, iv (i64.wrap (iN q.k + 1)))] [some (Blk.mk [Ad q.n] 8 true true none), some (Blk.mk [] 0 true true (some (q.l, q.c))), some (Blk.mk [] 0 true true (some (BJ (TypeDesc.int i64) (Value.int i64 q.base) (Value.bool true) q.l2 q.c2, BD (TypeDesc.int i64) (Value.int i64 q.base) q.l2 q.c2))), some (Blk.mk [sA q.s] 6 true true none)]) -> R st) : GoP Try.prog (hU [289, 293] (Bs q) (AC q)) 0 (zC (zC (zB Try.f93) 1) 0) (Eu q) (andThen R post) :=
 zN (σ:=[0,1,2,3]) (fz:=[]) (vars:=[1,3,6,7,9,94,95,96,142,143]) (by kernel_rfl) (aj (aj (al t3) (aj h1 (aj (u2 s2) (aj h2 (aj (u2 (u2 (al (k2 h3)))) (aj (u2 (u2 s2)) (al (u2 s2)))))))) (ak (k5 t9))) hR
theorem mvt_1(q:Ay)(h1:(decide (iN q.k<q.s.k)=true))(h2:(q.s.dep=false)){post:Exit->St->Prop}{R:St->Prop}(hR:∀st,Ren 0 st (St.mk 185 [(1,AV.ptr 0 0 0),(3,AV.map 1),(6,iv (i64.wrap (q.base+1))),(7,AV.map 2),(9,AV.ptr 3 0 0),(94,AV.lst (List.map sA q.n.ss)),(95,iv (iN (List.map sA q.n.ss).length)),(96,iv (iN q.i)),(142,iv q.s.k),(143,iv (i64.wrap (iN q.k+1)))] [some (Blk.mk [Ad q.n] 8 true true none),some (Blk.mk [] 0 true true (some (q.l,q.c))),some (Blk.mk [] 0 true true (some (q.l2,q.c2))),some (Blk.mk [sA q.s] 6 true true none)])->R st):GoP Try.prog (hU [289,292] (Bs q) (AC q)) 0 (zC (zC (zB Try.f93) 1) 0) (Eu q) (andThen R post):=
 zN (σ:=[0,1,2,3]) (fz:=[]) (vars:=[1,3,6,7,9,94,95,96,142,143]) (by kernel_rfl) (aj (aj (al t3) (aj h1 (aj (u2 s2) (aj h2 (aj (u2 (u2 s2)) (al (u2 s2))))))) (ak (k5 t9))) hR
theorem mvr_0 (q : Ay) (h1 : (decide (iN q.i < iN (List.map (iv) q.n.rs).length) = true)) (h2 : (0 <= iN q.i)) (h3 : ((List.map (iv) q.n.rs)[(iN q.i).toNat]? = some (iv q.x))) (h4 : (q.ok = true)) (h5 : (∀ (x : MapEntry), x ∈ q.l2 -> AS (TypeInfo.mk (TypeDesc.int i64) "int" 1 8 false 8 8 (some (Value.int i64 0)) true #[]).desc x.key = true /\ BM MK.b x.val)) {post : Exit -> St -> Prop} {R : St -> Prop} (hR : ∀ st, Ren 0 st (St.mk 185 [(7, AV.map 0), (10, AV.bool (FW (TypeDesc.int i64) (Value.int i64 q.x) q.l2)), (169, AV.lst (List.map (iv) q.n.rs)), (170, iv (iN (List.map (iv) q.n.rs).length)), (171, iv (i64.wrap (iN q.i + 1)))] [some (Blk.mk [] 0 true true (some (CC (TypeDesc.int i64) (Value.int i64 q.x) q.l2, q.c2)))]) -> R st) : GoP Try.prog (hU [345, 353] (Bs q) (AC q)) 0 (zC (zB Try.f93) 2) (Fy q) (andThen R post) :=
 zN (σ:=[0]) (fz:=[]) (vars:=[7,10,169,170,171]) (by kernel_rfl) (aj (aj (al t3) (aj h1 (aj (aj (k2 (aj h2 h3)) (u2 s2)) (aj (u2 (u2 (ag h4 (ag h4 (aj (aj h4 (k2 h5)) (ag h4 s2)))))) (aj (u2 (u2 (al (k2 h5)))) (al (u2 s2))))))) t7) hR
theorem mvr_1 (q : Ay) (h1 : (decide (iN q.i < iN (List.map (iv) q.n.rs).length) = true)) (h2 : (0 <= iN q.i)) (h3 : ((List.map (iv) q.n.rs)[(iN q.i).toNat]? = some (iv q.x))) (h4 : (q.ok = false)) (h5 : (∀ (x : MapEntry), x ∈ q.l2 -> AS (TypeInfo.mk (TypeDesc.int i64) "int" 1 8 false 8 8 (some (Value.int i64 0)) true #[]).desc x.key = true /\ BM MK.b x.val)) {post : Exit -> St -> Prop} {R : St -> Prop} (hR : ∀ st, Ren 0 st (St.mk 185 [(7, AV.map 0), (10, AV.bool false), (169, AV.lst (List.map (iv) q.n.rs)), (170, iv (iN (List.map (iv) q.n.rs).length)), (171, iv (i64.wrap (iN q.i + 1)))] [some (Blk.mk [] 0 true true (some (CC (TypeDesc.int i64) (Value.int i64 q.x) q.l2, q.c2)))]) -> R st) : GoP Try.prog (hU [345, 352] (Bs q) (AC q)) 0 (zC (zB Try.f93) 2) (Fy q) (andThen R post) :=
 zN (σ:=[0]) (fz:=[]) (vars:=[7,10,169,170,171]) (by kernel_rfl) (aj (aj (al t3) (aj h1 (aj (aj (k2 (aj h2 h3)) (u2 s2)) (aj (u2 (u2 (aj h4 (aj h4 (aj h4 (ag h4 s2)))))) (aj (u2 (u2 (al (k2 h5)))) (al (u2 s2))))))) t7) hR
theorem mvr_2(q:Ay)(h1:(decide (iN q.i<iN (List.map (iv) q.n.rs).length)=false)):GoO Try.prog (hU [344] (Bs q) (AC q)) 0 (zC (zB Try.f93) 2) (zK (zB Try.f93) 2) (Fy q) (Fin Try.prog Try.f93 0 [] (AV.bool q.ok)):=
 zF (σ:=[]) (fz:=[]) (by kernel_rfl) (aj (aj (aj (al t3) (al h1)) (al (u2 s2))) t2)
def qM0:Ay:=⟨⟨[],[],[],[],0,0,0,0⟩,[],0,[],0,⟨⟨#[]⟩,0,0⟩,⟨⟨#[]⟩,false,0,0,0,0⟩,[],0,0,0,false,0,0,0,false,⟨#[]⟩⟩
def AW(n:Aa):Ay:={qM0 with n:=n}
def qS(s:ByteArray)(i:Nat):Ay:={qM0 with nb:=s,i:=i}
theorem D4(x y z:Int):CT Try.prog 127 [] [.int .i64 x,.int .i64 y,.int .i64 z] [] (.bool (Am x y z)):=by
 unfold Am;exact wit_ct x y z
theorem rname_ct(s:ByteArray):CT Try.prog 140 [] [.str s] [] (.bool (nmB s)):=by
 have hb:Try.f140.body=some (zB Try.f140):=by kernel_rfl
 have hn:[AV.str s].length<=Try.f140.ntmps:=nL rfl
 have hle:=Pn (bAt s 0)
 unfold nmB
 cases h1:s.toList==(ByteArray.mk #[]).toList
 case true=>exact CT.pathS mix Try.func140 hb hn (rni_0 (qS s 0) h1) (by simp)
 have h0:=Pb h1
 cases h2:decide (12<iN s.size)
 case true=>exact CT.pathS mix Try.func140 hb hn (rni_1 (qS s 0) h1 h2) (by simp)
 cases h3:AF (bAt s 0)
 case false=>exact CT.pathS mix Try.func140 hb hn (rni_2 (qS s 0) h1 h2 (by simpa [iN,qS] using h0) hle (by simp only[qS];exact congrArg not h3)) (by simp)
 refine CT.path mix Try.func140 hb hn (rni_3 (qS s 0) h1 h2 (by simpa [iN,qS] using h0) hle (by simp only[qS];exact congrArg not h3) ?_)
 simp only[Tf,Bool.true_and]
 have h12:s.size<=12:=by have:=of_decide_eq_false h2;simp only[iN] at this;omega
 generalize hrr:fnd (fun i=> !(okB (bAt s i))) 0 s.size=res
 refine T.loop (fun i:Nat=>De (qS s i)) (fun i=>i<=s.size/\fnd (fun i=> !(okB (bAt s i))) i (s.size-i)=res) (fun i=>s.size+1-i) 0 ⟨Ty _,hrr⟩ ?_
 rintro i ⟨hi,hf⟩
 by_cases h:i<s.size
 .rw[Dq h] at hf
  have dk:decide (iN i<iN s.size)=true:=Ts (by simp only[iN];omega)
  have k0:(0:Int)<=iN i/\iN i<iN s.size:=by simp only[iN];omega
  have k1:(0:Int)<=iN i:=by simp[iN]
  have k2:=k0.2
  have hci:=Pn (bAt s i)
  have wi:i64.wrap (iN i+1)=((i+1:Nat):Int):=zW i (by omega)
  have next:okB (bAt s i)=true->∀st,Ren 0 st (De (qS s (i+1)))->∃j,Ren 0 st (De (qS s j))/\(j<=s.size/\fnd (fun i=> !(okB (bAt s i))) j (s.size-j)=res)/\s.size+1-j<s.size+1-i:=by
   intro hb st hst
   simp only[hb,Bool.not_true] at hf
   exact⟨i+1,hst,⟨h,hf⟩,by omega⟩
  have stop:okB (bAt s i)=false->res=some i:=by intro hb;simp only[hb,Tf] at hf;exact hf.symm
  cases t1:(!AF (bAt (qS s i).nb (iN (qS s i).i).toNat))
  case false=>
   exact T.path mix (rnl_7 (qS s i) dk (by first | assumption | (exact hci)) (by first | assumption | (exact hci)) (by first | assumption | (exact hci)) t1 (fun st hst=>by simp only[qS,wi] at hst;refine next ?_ st hst;clear hf hrr next stop hst;simp only[qS,iN,Tv] at *;unfold okB;grind))
  case true=>
   cases t2:decide (bAt (qS s i).nb (iN (qS s i).i).toNat<48)
   case false=>
    cases t3:decide (57<bAt (qS s i).nb (iN (qS s i).i).toNat)
    case false=>
     exact T.path mix (rnl_6 (qS s i) dk (by first | assumption | (exact hci)) (by first | assumption | (exact hci)) (by first | assumption | (exact hci)) t1 t2 t3 (fun st hst=>by simp only[qS,wi] at hst;refine next ?_ st hst;clear hf hrr next stop hst;simp only[qS,iN,Tv] at *;unfold okB;grind))
    case true=>
     cases t4:(bAt (qS s i).nb (iN (qS s i).i).toNat != 45)
     case false=>
      exact T.path mix (rnl_5 (qS s i) dk (by first | assumption | (exact hci)) (by first | assumption | (exact hci)) (by first | assumption | (exact hci)) t1 t2 t3 t4 (fun st hst=>by simp only[qS,wi] at hst;refine next ?_ st hst;clear hf hrr next stop hst;simp only[qS,iN,Tv] at *;unfold okB;grind))
     case true=>
      cases t5:(bAt (qS s i).nb (iN (qS s i).i).toNat != 95)
      case false=>
       exact T.path mix (rnl_4 (qS s i) dk (by first | assumption | (exact hci)) (by first | assumption | (exact hci)) (by first | assumption | (exact hci)) t1 t2 t3 t4 t5 (fun st hst=>by simp only[qS,wi] at hst;refine next ?_ st hst;clear hf hrr next stop hst;simp only[qS,iN,Tv] at *;unfold okB;grind))
      case true=>
       rw[stop (by clear hf hrr next;simp only[qS,iN,Tv] at *;unfold okB;grind)]
       exact T.out mix (rnl_3 (qS s i) dk (by first | assumption | (exact hci)) (by first | assumption | (exact hci)) (by first | assumption | (exact hci)) t1 t2 t3 t4 t5)
   case true=>
    cases t6:(bAt (qS s i).nb (iN (qS s i).i).toNat != 45)
    case false=>
     exact T.path mix (rnl_2 (qS s i) dk (by first | assumption | (exact hci)) (by first | assumption | (exact hci)) (by first | assumption | (exact hci)) t1 t2 t6 (fun st hst=>by simp only[qS,wi] at hst;refine next ?_ st hst;clear hf hrr next stop hst;simp only[qS,iN,Tv] at *;unfold okB;grind))
    case true=>
     cases t7:(bAt (qS s i).nb (iN (qS s i).i).toNat != 95)
     case false=>
      exact T.path mix (rnl_1 (qS s i) dk (by first | assumption | (exact hci)) (by first | assumption | (exact hci)) (by first | assumption | (exact hci)) t1 t2 t6 t7 (fun st hst=>by simp only[qS,wi] at hst;refine next ?_ st hst;clear hf hrr next stop hst;simp only[qS,iN,Tv] at *;unfold okB;grind))
     case true=>
      rw[stop (by clear hf hrr next;simp only[qS,iN,Tv] at *;unfold okB;grind)]
      exact T.out mix (rnl_0 (qS s i) dk (by first | assumption | (exact hci)) (by first | assumption | (exact hci)) (by first | assumption | (exact hci)) t1 t2 t6 t7)
 .rw[DW h] at hf
  subst hf
  exact T.out mix (rnl_8 (qS s i) (Tq (by simp only[qS,iN];omega)))
theorem vcfg_ct(n:Aa):CT Try.prog 128 [] [.agg [.int .i64 n.q,.int .i64 n.a,.int .i64 n.d,.int .i64 n.p]] [] (.bool (AZ n)):=by
 have hb:Try.f128.body=some (zB Try.f128):=by kernel_rfl
 have hn:[AV.agg [.int .i64 n.q,.int .i64 n.a,.int .i64 n.d,.int .i64 n.p]].length<=Try.f128.ntmps:=nL rfl
 have w1:=D4 n.q 1 8
 have w2:=D4 n.a 0 4
 have w3:=D4 n.d 0 3
 have w4:=D4 n.p 1 16
 cases t8:Am (AW n).n.q 1 8
 case false=>
  exact CT.pathS mix Try.func128 hb hn (mvc_3 (AW n) (by first | assumption | (simp[iN])) t8) (by simp only[AW] at *;unfold AZ;grind)
 case true=>
  cases t9:Am (AW n).n.a 0 4
  case false=>
   exact CT.pathS mix Try.func128 hb hn (mvc_2 (AW n) (by first | assumption | (simp[iN])) t8 (by first | assumption | (simp[iN])) t9) (by simp only[AW] at *;unfold AZ;grind)
  case true=>
   cases t10:Am (AW n).n.d 0 3
   case false=>
    exact CT.pathS mix Try.func128 hb hn (mvc_1 (AW n) (by first | assumption | (simp[iN])) t8 (by first | assumption | (simp[iN])) t9 (by first | assumption | (simp[iN])) t10) (by simp only[AW] at *;unfold AZ;grind)
   case true=>
    exact CT.pathS mix Try.func128 hb hn (mvc_0 (AW n) (by first | assumption | (simp[iN])) t8 (by first | assumption | (simp[iN])) t9 (by first | assumption | (simp[iN])) t10 (by first | assumption | (simp[iN]))) (by simp only[AW] at *;unfold AZ;grind)
theorem rcfg_ct(n:Aa):CT Try.prog 115 [] [.agg [.int .i64 n.q,.int .i64 n.a,.int .i64 n.d,.int .i64 n.p]] [] (.bool (AZ n)):=by
 have hb:Try.f115.body=some (zB Try.f115):=by kernel_rfl
 have hn:[AV.agg [.int .i64 n.q,.int .i64 n.a,.int .i64 n.d,.int .i64 n.p]].length<=Try.f115.ntmps:=nL rfl
 cases t11:decide (1<=(AW n).n.q)
 case false=>
  exact CT.pathS mix Try.func115 hb hn (cg_7 (AW n) t11) (by simp only[AW] at *;unfold AZ Am;grind)
 case true=>
  cases t12:decide ((AW n).n.q<=8)
  case false=>
   exact CT.pathS mix Try.func115 hb hn (cg_6 (AW n) t11 t12) (by simp only[AW] at *;unfold AZ Am;grind)
  case true=>
   cases t13:decide (0<=(AW n).n.a)
   case false=>
    exact CT.pathS mix Try.func115 hb hn (cg_5 (AW n) t11 t12 t13) (by simp only[AW] at *;unfold AZ Am;grind)
   case true=>
    cases t14:decide ((AW n).n.a<=4)
    case false=>
     exact CT.pathS mix Try.func115 hb hn (cg_4 (AW n) t11 t12 t13 t14) (by simp only[AW] at *;unfold AZ Am;grind)
    case true=>
     cases t15:decide (0<=(AW n).n.d)
     case false=>
      exact CT.pathS mix Try.func115 hb hn (cg_3 (AW n) t11 t12 t13 t14 t15) (by simp only[AW] at *;unfold AZ Am;grind)
     case true=>
      cases t16:decide ((AW n).n.d<=3)
      case false=>
       exact CT.pathS mix Try.func115 hb hn (cg_2 (AW n) t11 t12 t13 t14 t15 t16) (by simp only[AW] at *;unfold AZ Am;grind)
      case true=>
       cases t17:decide (1<=(AW n).n.p)
       case false=>
        exact CT.pathS mix Try.func115 hb hn (cg_1 (AW n) t11 t12 t13 t14 t15 t16 t17) (by simp only[AW] at *;unfold AZ Am;grind)
       case true=>
        exact CT.pathS mix Try.func115 hb hn (cg_0 (AW n) t11 t12 t13 t14 t15 t16 t17) (by simp only[AW] at *;unfold AZ Am;grind)
def qR(r:List Int)(x y z:Int)(i:Nat)(k:Int):Ay:={qM0 with r:=r,x:=x,y:=y,z:=z,i:=i,base:=k}
theorem vnext_ct(r:List Int)(x y:Int)(hr63:r.length<=9223372036854775807):CT Try.prog 130 [] [lI r,.int .i64 x,.int .i64 y] [] (.bool (nxB r x y)):=by
 have hb:Try.f130.body=some (zB Try.f130):=by kernel_rfl
 have hn:[lI r,.int .i64 x,.int .i64 y].length<=Try.f130.ntmps:=nL rfl
 have hl:(r.map (AV.int .i64)).length=r.length:=by simp
 unfold nxB
 refine CT.path mix Try.func130 hb hn (vni_0 (qR r x y 0 0 0) ?_)
 generalize hrr:fnd (nxE r x y) 0 r.length=res
 refine T.loop (fun i:Nat=>EW (qR r x y (BS r i) i 0)) (fun i=>i<=r.length/\fnd (nxE r x y) i (r.length-i)=res) (fun i=>r.length+1-i) 0 ⟨Ty _,hrr⟩ ?_
 rintro i ⟨hi,hf⟩
 by_cases h:i<r.length
 .rw[Dq h] at hf
  have dk:decide (iN i<iN (r.map (AV.int .i64)).length)=true:=Ts (by simp only[iN,hl];omega)
  have k1:(0:Int)<=iN i:=by simp[iN]
  have hg:=BU h
  have next:nxE r x y i=false->∀st,Ren 0 st (EW (qR r x y (BS r (i+1)) (i+1) 0))->∃j,Ren 0 st (EW (qR r x y (BS r j) j 0))/\(j<=r.length/\fnd (nxE r x y) j (r.length-j)=res)/\r.length+1-j<r.length+1-i:=by
   intro hb st hst
   simp only[hb] at hf
   exact⟨i+1,hst,⟨h,hf⟩,by omega⟩
  have stop:nxE r x y i=true->res=some i:=by intro hb;simp only[hb] at hf;exact hf.symm
  have wi:i64.wrap (iN i+1)=((i+1:Nat):Int):=zW i (by have:=hr63;omega)
  cases t18:decide ((qR r x y (BS r i) i (r.getD i 0)).base<=(qR r x y (BS r i) i (r.getD i 0)).z)
  case false=>
   cases t19:decide ((qR r x y (BS r i) i (r.getD i 0)).y<=(qR r x y (BS r i) i (r.getD i 0)).base)
   case false=>
    cases t20:((qR r x y (BS r i) i (r.getD i 0)).base==(qR r x y (BS r i) i (r.getD i 0)).x)
    case false=>
     exact T.path mix (vnl_3 (qR r x y (BS r i) i (r.getD i 0)) dk (by first | assumption | (exact hg)) (by first | assumption | (exact hg)) t18 t19 t20 (fun st hst=>by simp only[qR,wi] at hst;exact next (by simp only[qR,iN,Tv] at *;unfold nxE;grind) st (by simp only[qR,Rf];exact hst)))
    case true=>
     rw[stop (by simp only[qR,iN,Tv] at *;unfold nxE;grind)]
     exact T.out mix (vnl_2 (qR r x y (BS r i) i (r.getD i 0)) dk (by first | assumption | (exact hg)) (by first | assumption | (exact hg)) t18 t19 t20)
   case true=>
    rw[stop (by simp only[qR,iN,Tv] at *;unfold nxE;grind)]
    exact T.out mix (vnl_1 (qR r x y (BS r i) i (r.getD i 0)) dk (by first | assumption | (exact hg)) (by first | assumption | (exact hg)) t18 t19)
  case true=>
   rw[stop (by simp only[qR,iN,Tv] at *;unfold nxE;grind)]
   exact T.out mix (vnl_0 (qR r x y (BS r i) i (r.getD i 0)) dk (by first | assumption | (exact hg)) (by first | assumption | (exact hg)) t18)
 .rw[DW h] at hf
  subst hf
  rw[show (!(none:Option Nat).isSome&&decide (r.length<=4))=decide (iN (List.map iV r).length<=4) by simp[iN,hl];omega]
  exact T.out mix (vnl_4 (qR r x y (BS r i) i 0) (Tq (by simp only[qR,iN,hl];omega)))
def Bk(l:List MapEntry):List Value:=l.map (·.key)
theorem Hq(l:List MapEntry):(Bk l).length=l.length:=by simp[Bk]
theorem Iz{l:List MapEntry}{k:Value}:k∈Bk l↔∃e∈l,e.key=k:=by simp[Bk]
theorem Iq{d:TypeDesc}{mk:MK}{k:Value}{l:List MapEntry}(hk:AS d k=true)(hl:Cz d mk l):
  (B3 d k l=none/\k∉Bk l)\/∃j e,B3 d k l=some (j,e.val)/\l[j]?=some e/\e.key=k:=by
 rcases HO (F8 hk) hl.keys with ⟨_,h2,h3⟩ | ⟨j,e,_,h2,h3,h4⟩
 .exact .inl ⟨h2,fun hm=>by obtain⟨e,he,hek⟩:=Iz.1 hm;exact h3 e he hek⟩
 .exact .inr ⟨j,e,h2,h3,h4⟩
open Classical in
theorem Ov{d:TypeDesc}{mk:MK}{k v:Value}{l:List MapEntry}{c:Nat}(hk:AS d k=true)(hl:Cz d mk l):
  Bk (BJ d k v l c)=if k∈Bk l then Bk l else Bk l++[k]:=by
 unfold BJ
 rcases Iq hk hl with ⟨h1,h2⟩ | ⟨j,e,h1,h2,h3⟩
 .rw[h1,Tj h2];simp[Bk]
 .rw[h1,Ti (Iz.2 ⟨e,Tp h2,h3⟩)]
  simp only[Bk]
  apply List.ext_getElem?
  intro i
  simp only[Tw,List.getElem?_modify]
  split
  .cases l[i]?<;>rfl
  .simp
theorem OW{d:TypeDesc}{mk:MK}{k v:Value}{l:List MapEntry}{c:Nat}(hk:AS d k=true)(hv:BM mk v)(hl:Cz d mk l):Cz d mk (BJ d k v l c):=by
 unfold BJ
 rcases Iq hk hl with ⟨h1,h2⟩ | ⟨j,e,h1,h2,h3⟩
 .rw[h1]
  intro x hx
  simp only[TR,Tb] at hx
  rcases hx with hx | rfl
  .exact hl x hx
  .exact⟨hk,hv⟩
 .rw[h1]
  intro x hx
  simp only at hx
  obtain⟨i,hi⟩:=List.mem_iff_getElem?.1 hx
  rw[List.getElem?_modify] at hi
  split at hi
  .cases hli:l[i]? with
   | none=>rw[hli] at hi;cases hi
   | some y=>rw[hli] at hi;simp at hi;subst hi;exact⟨(hl y (Tp hli)).1,hv⟩
  .exact hl x (Tp (by simpa using hi))
theorem vals_upd{d:TypeDesc}{mk:MK}{k v:Value}{l:List MapEntry}{c:Nat}{p:Value->Prop}(hk:AS d k=true)(hl:Cz d mk l)(hp:∀e∈l,p e.val)(hv:p v):∀e∈BJ d k v l c,p e.val:=by
 unfold BJ
 rcases Iq hk hl with ⟨h1,h2⟩ | ⟨j,e,h1,h2,h3⟩
 .rw[h1]
  intro x hx
  simp only[TR,Tb] at hx
  rcases hx with hx | rfl
  .exact hp x hx
  .exact hv
 .rw[h1]
  intro x hx
  simp only at hx
  obtain⟨i,hi⟩:=List.mem_iff_getElem?.1 hx
  rw[List.getElem?_modify] at hi
  split at hi
  .cases hli:l[i]? with
   | none=>rw[hli] at hi;cases hi
   | some y=>rw[hli] at hi;simp at hi;subst hi;exact hv
  .exact hp x (Tp (by simpa using hi))
structure Dx(xs:List ByteArray)(l:List MapEntry):Prop where
 ok:Cz .string (.i .i64) l
 key:∀x,Value.string x∈Bk l↔x∈xs
 le:l.length<=xs.length
 iff:l.length=xs.length↔xs.Nodup
theorem Dx.nil:Dx [] []:=⟨fun x hx=>(by cases hx),fun x=>(by simp[Bk]),Tx _,(by simp)⟩
theorem Dx.step{xs:List ByteArray}{l:List MapEntry}{c:Nat}{x:ByteArray}{n:Int}(h:Dx xs l):Dx (xs++[x]) (BJ .string (.string x) (.int .i64 n) l c):=by
 have hk:AS .string (.string x)=true:=rfl
 have hku:=Ov (v:=.int .i64 n) (c:=c) hk h.ok
 have hlen:=Hq (BJ .string (.string x) (.int .i64 n) l c)
 rw[hku] at hlen
 refine⟨OW hk rfl h.ok,fun y=>?_,?_,?_⟩
 .rw[hku]
  by_cases hx:Value.string x∈Bk l
  .rw[Ti hx,h.key]
   simp only[TR,Tb]
   exact⟨.inl,fun hy=>hy.elim id fun e=>by subst e;exact(h.key y).1 hx⟩
  .rw[Tj hx]
   simp only[TR,Tb,h.key]
   constructor
   .rintro(a | a)
    .exact .inl a
    .cases a;exact .inr rfl
   .rintro(a | rfl)
    .exact .inl a
    .exact .inr rfl
 .have:=h.le
  by_cases hx:Value.string x∈Bk l
  .rw[Ti hx,Hq] at hlen;simp;omega
  .rw[Tj hx] at hlen;simp[Hq] at hlen;simp;omega
 .have hle:=h.le
  by_cases hx:Value.string x∈Bk l
  .rw[Ti hx,Hq] at hlen
   have hxx:=(h.key x).1 hx
   constructor
   .intro he;simp at he;omega
   .intro hn
    rw[List.nodup_append] at hn
    exact absurd rfl (hn.2.2 x hxx x (by simp))
  .rw[Tj hx] at hlen
   simp[Hq] at hlen
   have hxx:x∉xs:=fun hh=>hx ((h.key x).2 hh)
   have:=h.iff
   simp only[TF,T1,List.nodup_append]
   constructor
   .intro he
    refine⟨this.1 (by omega),by simp,fun a ha b hb=>?_⟩
    simp at hb;subst hb;intro e;subst e;exact hxx ha
   .intro hn;have:=this.2 hn.1;omega
structure Bh(S:Int->Prop)(l:List MapEntry):Prop where
 ok:Cz (.int .i64) .b l
 key:∀x,Value.int .i64 x∈Bk l↔S x
 nd:(Bk l).Nodup
 tru:∀e∈l,e.val = .bool true
theorem Bh.nil:Bh (fun _=>False) []:=⟨fun x hx=>(by cases hx),fun x=>(by simp[Bk]),(by simp[Bk]),fun e he=>(by cases he)⟩
theorem Bh.congr{S S':Int->Prop}{l:List MapEntry}(h:Bh S l)(hs:∀x,S x↔S' x):Bh S' l:=⟨h.ok,fun x=>(h.key x).trans (hs x),h.nd,h.tru⟩
theorem Hy(x:Int):AS (.int .i64) (.int .i64 x)=true:=rfl
theorem Bh.put{S:Int->Prop}{l:List MapEntry}{c:Nat}{x:Int}(h:Bh S l):Bh (fun y=>S y\/y=x) (BJ (.int .i64) (.int .i64 x) (.bool true) l c):=by
 have hku:=Ov (v:=.bool true) (c:=c) (Hy x) h.ok
 refine⟨OW (Hy x) trivial h.ok,fun y=>?_,?_,vals_upd (p:=fun v=>v = .bool true) (Hy x) h.ok h.tru rfl⟩
 .rw[hku]
  by_cases hx:Value.int .i64 x∈Bk l
  .rw[Ti hx,h.key]
   exact⟨.inl,fun hy=>hy.elim id fun e=>by subst e;exact(h.key y).1 hx⟩
  .rw[Tj hx]
   simp only[TR,Tb,h.key,Value.int.injEq,true_and]
 .rw[hku]
  by_cases hx:Value.int .i64 x∈Bk l
  .rw[Ti hx];exact h.nd
  .rw[Tj hx,List.nodup_append]
   refine⟨h.nd,by simp,fun a ha b hb=>?_⟩
   simp at hb;subst hb;intro e;subst e;exact hx ha
open Classical in
theorem Bh.get{S:Int->Prop}{l:List MapEntry}(h:Bh S l)(x:Int):FW (.int .i64) (.int .i64 x) l=decide (S x):=by
 unfold FW
 rcases Iq (Hy x) h.ok with ⟨h1,h2⟩ | ⟨j,e,h1,h2,h3⟩
 .rw[h1];exact(Tq fun hs=>h2 ((h.key x).2 hs)).symm
 .have hm:=Tp h2
  rw[h1,h.tru e hm]
  exact(Ts ((h.key x).1 (Iz.2 ⟨e,hm,h3⟩))).symm
theorem Bh.del{S:Int->Prop}{l:List MapEntry}{x:Int}(h:Bh S l):Bh (fun y=>S y/\y≠x) (CC (.int .i64) (.int .i64 x) l):=by
 unfold CC
 rcases Iq (Hy x) h.ok with ⟨h1,h2⟩ | ⟨j,e,h1,h2,h3⟩
 .rw[h1]
  exact h.congr fun y=>⟨fun hy=>⟨hy,fun e=>by subst e;exact h2 ((h.key y).2 hy)⟩,(·.1)⟩
 .rw[h1]
  simp only
  have hj:=(Tm.1 h2).1
  have hkj:(Bk l)[j]'(by rw[Hq];exact hj) = .int .i64 x:=by
   have:=(Tm.1 h2).2
   simp[Bk,this,h3]
  have hke:Bk (l.eraseIdx j)=(Bk l).eraseIdx j:=by simp only[Bk,List.eraseIdx_eq_take_drop_succ,Tz,List.map_take,List.map_drop]
  have hsub:List.Sublist (l.eraseIdx j) l:=List.eraseIdx_sublist l j
  refine⟨fun y hy=>h.ok y (hsub.subset hy),fun y=>?_,?_,fun y hy=>h.tru y (hsub.subset hy)⟩
  .rw[hke,<-h.key]
   rw[List.mem_eraseIdx_iff_getElem]
   constructor
   .rintro⟨i,hi,hij,hiy⟩
    refine⟨hiy ▸ TU _,fun e=>?_⟩
    subst e
    apply hij
    exact(List.getElem_inj h.nd).1 (hiy.trans hkj.symm)
   .rintro⟨hy,hne⟩
    obtain⟨i,hi,hiy⟩:=TZ.1 hy
    refine⟨i,hi,fun e=>?_,hiy⟩
    subst e
    rw[hiy] at hkj
    simp at hkj
    exact hne hkj
  .rw[hke];exact h.nd.sublist (List.eraseIdx_sublist _ _)
theorem Bh.pos{S:Int->Prop}{l:List MapEntry}(h:Bh S l):0<l.length↔∃x,S x:=by
 constructor
 .intro hp
  have hm:=TU (l:=l) (n:=0) hp
  have hk:=(h.ok _ hm).1
  cases hkv:l[0].key with
  | int k n=>
   rw[hkv] at hk
   simp[AS] at hk
   subst hk
   exact⟨n,(h.key n).1 (Iz.2 ⟨_,hm,hkv⟩)⟩
  | _=>rw[hkv] at hk;simp[AS] at hk
 .rintro⟨x,hx⟩
  obtain⟨e,he,_⟩:=Iz.1 ((h.key x).2 hx)
  exact Uf he
structure G8(n:Aa)(i:Nat)(b:AQ):Prop where
 nm:nmB b.nm=true
 x:Am b.x (-9999) 9999=true
 y:Am b.y (-9999) 9999=true
 nx:nxB (n.nx.getD i []) i n.bs.length=true
def Aw(n:Aa)(i:Nat):Int:=n.bs.length+((n.ss.take i).map (·.k)).sum
structure DC(n:Aa)(i:Nat)(s:Az):Prop where
 nm:nmB s.nm=true
 hi:Am s.i 0 ((n.bs.length:Int)-1)=true
 ho:Am s.o 0 ((n.bs.length:Int)-1)=true
 hk:Am s.k 1 4=true
 hb:s.b=Aw n i
def AM(n:Aa)(i:Nat)(x:Int):Prop:=∃s∈n.ss.take i,s.dep=true/\s.b<=x/\x<s.b+s.k
structure Ax(n:Aa):Prop where
 nb:Am n.bs.length 1 24=true
 nx:n.nx.length=n.bs.length
 ns:n.ss.length<=6
 nr:n.rs.length<=8
 cfg:AZ n=true
 blk:∀i b,n.bs[i]?=some b->G8 n i b
 spu:∀i s,n.ss[i]?=some s->DC n i s
 nod:(BZ n).Nodup
 dep:∃x,AM n n.ss.length x
 rob:∀i c,n.rs[i]?=some c->AM n n.ss.length c/\c∉n.rs.take i
open Classical in
def AY(n:Aa):Bool:=decide (Ax n)
theorem Cu{n:Aa}(h:¬Ax n):AY n=false:=by unfold AY;exact @Tq _ (Classical.propDecidable _) h
theorem CS{n:Aa}:AY n=true↔Ax n:=by unfold AY;exact @decide_eq_true_iff _ (Classical.propDecidable _)
theorem Er{n:Aa}{i:Nat}{s:Az}(h:n.ss[i]?=some s):Aw n (i+1)=Aw n i+s.k:=by
 unfold Aw
 simp[List.take_add_one,h,List.sum_append];omega
theorem Pw{n:Aa}{i:Nat}{s:Az}(h:n.ss[i]?=some s)(x:Int):AM n (i+1) x↔AM n i x\/(s.dep=true/\s.b<=x/\x<s.b+s.k):=by
 unfold AM
 simp only[List.take_add_one,h,Option.toList_some,TR,Tb]
 constructor
 .rintro⟨t,ht | rfl,h1⟩
  .exact .inl ⟨t,ht,h1⟩
  .exact .inr h1
 .rintro(⟨t,ht,h1⟩ | h1)
  .exact⟨t,.inl ht,h1⟩
  .exact⟨s,.inr rfl,h1⟩
theorem Kg{l:List AQ}{i:Nat}{b:AQ}(h:l[i]?=some b):(l.map bA)[i]?=some (.agg [.str b.nm,.int .i64 b.x,.int .i64 b.y]):=by rw[Tw,h];rfl
theorem CY{l:List Az}{i:Nat}{s:Az}(h:l[i]?=some s):(l.map sA)[i]?=some (.agg [.str s.nm,.bool s.dep,.int .i64 s.i,.int .i64 s.o,.int .i64 s.k,.int .i64 s.b]):=by rw[Tw,h];rfl
def qV(n:Aa)(l:List MapEntry)(c:Nat)(l2:List MapEntry)(c2:Nat)(b:AQ)(s:Az)(r:List Int)(i:Nat)(base:Int)(k:Nat)(ok:Bool)(x:Int):Ay:=
 ⟨n,l,c,l2,c2,b,s,r,i,base,k,ok,x,0,0,false,⟨#[]⟩⟩
def b0:AQ:=⟨⟨#[]⟩,0,0⟩
def s0:Az:=⟨⟨#[]⟩,false,0,0,0,0⟩
structure MP where
 i:Nat
 l:List MapEntry
 c:Nat
 l2:List MapEntry
 c2:Nat
 k:Nat
 ok:Bool
open Classical in
theorem P4{n:Aa}(hnr:n.rs.length<=8){l2:List MapEntry}{c2:Nat}(hset:Bh (AM n n.ss.length) l2)(ok:Bool):
  T Try.prog 0 (.loop (zC (zB Try.f93) 2)) (Fy (qV n [] 0 l2 c2 b0 s0 [] 0 0 0 ok 0)) (TK Try.prog 0 (Fin Try.prog Try.f93 0 [] (.bool (ok&&decide (∀i c,n.rs[i]?=some c->AM n n.ss.length c/\c∉n.rs.take i)))) (zK (zB Try.f93) 2)):=by
 have hl:(n.rs.map (AV.int .i64)).length=n.rs.length:=by simp
 refine T.loop (fun p:MP=>Fy (qV n [] 0 p.l2 p.c2 b0 s0 [] p.i 0 0 p.ok 0)) (fun p=>p.i<=n.rs.length/\Bh (fun x=>AM n n.ss.length x/\x∉n.rs.take p.i) p.l2/\p.ok=(ok&&decide (∀i c,i<p.i->n.rs[i]?=some c->AM n n.ss.length c/\c∉n.rs.take i)))
  (fun p=>n.rs.length+1-p.i) ⟨0,[],0,l2,c2,0,ok⟩ ⟨Ty _,hset.congr fun x=>by simp,by simp⟩ ?_
 rintro⟨i,l,c,l2,c2,k,ok'⟩ ⟨hi,hs,hok⟩
 simp only at hi hs hok
 by_cases h:i<n.rs.length
 .obtain⟨x,hx⟩:∃x,n.rs[i]?=some x:=⟨_,Tk h⟩
  have hg:(n.rs.map (AV.int .i64))[i]?=some (.int .i64 x):=by rw[Tw,hx];rfl
  have dk:decide (iN i<iN (n.rs.map (AV.int .i64)).length)=true:=Ts (by simp only[iN,hl];omega)
  have k1:(0:Int)<=iN i:=by simp[iN]
  have hm : ∀ (x : MapEntry), x ∈ l2 -> AS (TypeInfo.mk (TypeDesc.int i64) "int" 1 8 false 8 8 (some (Value.int i64 0)) true #[]).desc x.key = true /\ BM MK.b x.val := hs.ok
  have wi:i64.wrap (iN i+1)=((i+1:Nat):Int):=zW i (by omega)
  have hgt:=hs.get x
  have hset':Bh (fun y=>AM n n.ss.length y/\y∉n.rs.take (i+1)) (CC (.int .i64) (.int .i64 x) l2):=hs.del.congr fun y=>by
   simp only[List.take_add_one,hx,Option.toList_some,TR,Tb,not_or,and_assoc]
  have hstep:∀b:Bool,b=(ok&&decide (∀i_1 c,i_1<i->n.rs[i_1]?=some c->AM n n.ss.length c/\c∉n.rs.take i_1))->
    (b&&decide (AM n n.ss.length x/\x∉n.rs.take i))=(ok&&decide (∀i_1 c,i_1<i+1->n.rs[i_1]?=some c->AM n n.ss.length c/\c∉n.rs.take i_1)):=by
   intro b hb
   rw[hb,Bool.and_assoc]
   congr 1
   rw[<-Bool.decide_and]
   apply decide_eq_decide.2
   constructor
   .rintro⟨h1,h2⟩ j y hj hy
    by_cases e:j=i
    .subst e;rw[hx] at hy;cases hy;exact h2
    .exact h1 j y (by omega) hy
   .intro hh
    exact⟨fun j y hj hy=>hh j y (by omega) hy,hh i x (by omega) hx⟩
  have next:∀b,b=(ok&&decide (∀i_1 c,i_1<i+1->n.rs[i_1]?=some c->AM n n.ss.length c/\c∉n.rs.take i_1))->∀st,Ren 0 st (Fy (qV n [] 0 (CC (.int .i64) (.int .i64 x) l2) c2 b0 s0 [] (i+1) 0 0 b 0))->
    ∃j,Ren 0 st ((fun p:MP=>Fy (qV n [] 0 p.l2 p.c2 b0 s0 [] p.i 0 0 p.ok 0)) j)/\((fun p:MP=>p.i<=n.rs.length/\Bh (fun x=>AM n n.ss.length x/\x∉n.rs.take p.i) p.l2/\p.ok=(ok&&decide (∀i c,i<p.i->n.rs[i]?=some c->AM n n.ss.length c/\c∉n.rs.take i))) j)/\n.rs.length+1-j.i<n.rs.length+1-i:=by
   intro b hb st hst
   exact⟨⟨i+1,[],0,_,c2,0,b⟩,hst,⟨h,hset',hb⟩,by simp only;omega⟩
  cases hb:ok'
  case true=>
   refine T.path mix (mvr_0 (qV n [] 0 l2 c2 b0 s0 [] i 0 0 true x) dk k1 hg rfl hm ?_)
   intro st hst
   simp only[qV,wi,hgt] at hst
   exact next _ (by rw[<-hstep ok' hok,hb,Bool.true_and];exact decide_eq_decide.2 Iff.rfl) st hst
  case false=>
   refine T.path mix (mvr_1 (qV n [] 0 l2 c2 b0 s0 [] i 0 0 false x) dk k1 hg rfl hm ?_)
   intro st hst
   simp only[qV,wi] at hst
   exact next false (by rw[<-hstep ok' hok,hb,Bool.false_and]) st hst
 .have hin:i=n.rs.length:=by omega
  have e:ok'=(ok&&decide (∀i c,n.rs[i]?=some c->AM n n.ss.length c/\c∉n.rs.take i)):=by
   rw[hok]
   congr 1
   apply decide_eq_decide.2
   constructor
   .intro hh j y hy;exact hh j y (by have:=(Tm.1 hy).1;omega) hy
   .intro hh j y _ hy;exact hh j y hy
  rw[<-e]
  exact T.out mix (mvr_2 (qV n [] 0 l2 c2 b0 s0 [] i 0 0 ok' 0) (Tq (by simp only[qV,iN,hl];omega)))
theorem Bb{x y z:Int}:Am x y z=true↔y<=x/\x<=z:=by unfold Am;simp
theorem baseN_bd{n:Aa}(hns:n.ss.length<=6){i:Nat}(hg:∀j s,j<i->n.ss[j]?=some s->DC n j s)(hb:n.bs.length<=24):(n.bs.length:Int)<=Aw n i/\Aw n i<=n.bs.length+4 * i:=by
 induction i with
 | zero=>simp[Aw]
 | succ i ih=>
  obtain⟨h1,h2⟩:=ih fun j s hj hs=>hg j s (by omega) hs
  cases hs:n.ss[i]? with
  | some s=>
   rw[Er hs]
   have:=Bb.1 (hg i s (by omega) hs).hk
   omega
  | none=>
   have:Aw n (i+1)=Aw n i:=by unfold Aw;simp[List.take_add_one,hs]
   rw[this];omega
theorem mvt_run{n:Aa}{i:Nat}(hi:i<=6){l:List MapEntry}{c:Nat}{s:Az}(hs:n.ss[i]?=some s)(hk:1<=s.k/\s.k<=4)(hb:0<=s.b/\s.b<=1000){l2:List MapEntry}{c2:Nat}(hset:Bh (AM n i) l2)
  {R:St->Prop} {post:Exit->St->Prop}
  (hR:∀l2' c2',Bh (AM n (i+1)) l2'->∀st,Ren 0 st (CJ (qV n l c l2' c2' b0 s0 [] (i+1) (s.b+s.k) 0 false 0))->R st):
  T Try.prog 0 (.loop (zC (zC (zB Try.f93) 1) 0)) (Eu (qV n l c l2 c2 b0 s [] i s.b 0 false 0)) (TK Try.prog 0 (andThen R post) (zK (zC (zB Try.f93) 1) 0)):=by
 have e0:s.b=s.b+((0:Nat):Int):=by omega
 suffices hh:T Try.prog 0 (.loop (zC (zC (zB Try.f93) 1) 0)) (Eu (qV n l c l2 c2 b0 s [] i (s.b+((0:Nat):Int)) 0 false 0)) (TK Try.prog 0 (andThen R post) (zK (zC (zB Try.f93) 1) 0)) by
  rw[<-e0] at hh;exact hh
 refine T.loop (fun p:MP=>Eu (qV n l c p.l2 p.c2 b0 s [] i (s.b+(p.k:Int)) p.k false 0)) (fun p=>(p.k:Int)<=s.k/\Bh (fun x=>AM n i x\/(s.dep=true/\s.b<=x/\x<s.b+(p.k:Int))) p.l2)
  (fun p=>(s.k+1-p.k).toNat) ⟨i,[],0,l2,c2,0,false⟩ ⟨by simp only;omega,hset.congr fun x=>⟨.inl,fun h=>h.elim id fun h=>by simp only at h;omega⟩⟩ ?_
 rintro⟨i',l',c',l2,c2,k,ok'⟩ ⟨hkk,hset⟩
 simp only at hkk hset
 have wb:i64.wrap (s.b+(k:Int)+1)=s.b+((k+1:Nat):Int):=by rw[AU _ (by omega) (by omega)];omega
 have wk:i64.wrap (iN k+1)=((k+1:Nat):Int):=zW k (by omega)
 by_cases h:(k:Int)<s.k
 .have dk:decide (iN k<s.k)=true:=Ts h
  have next:∀l2' c2',Bh (fun x=>AM n i x\/(s.dep=true/\s.b<=x/\x<s.b+((k+1:Nat):Int))) l2'->∀st,Ren 0 st (Eu (qV n l c l2' c2' b0 s [] i (s.b+((k+1:Nat):Int)) (k+1) false 0))->
    ∃j,Ren 0 st ((fun p:MP=>Eu (qV n l c p.l2 p.c2 b0 s [] i (s.b+(p.k:Int)) p.k false 0)) j)/\((fun p:MP=>(p.k:Int)<=s.k/\Bh (fun x=>AM n i x\/(s.dep=true/\s.b<=x/\x<s.b+(p.k:Int))) p.l2) j)/\(s.k+1-j.k).toNat<(s.k+1-k).toNat:=by
   intro l2' c2' hse st hst
   exact⟨⟨i',l',c',l2',c2',k+1,false⟩,hst,⟨by simp only;omega,hse⟩,by simp only;omega⟩
  rcases Bool.eq_false_or_eq_true s.dep with hd | hd
  .have hm : ∀ (x : MapEntry), x ∈ l2 -> AS (TypeInfo.mk (TypeDesc.int i64) "int" 1 8 false 8 8 (some (Value.int i64 0)) true #[]).desc x.key = true /\ BM MK.b x.val := hset.ok
   refine T.path mix (mvt_0 (qV n l c l2 c2 b0 s [] i (s.b+(k:Int)) k false 0) dk hd hm ?_)
   intro st hst
   simp only[qV,wb,wk] at hst
   refine next _ _ (hset.put.congr fun x=>?_) st hst
   simp only[hd,true_and]
   constructor
   .rintro((a | a) | a)
    .exact .inl a
    .exact .inr (by omega)
    .exact .inr (by omega)
   .rintro(a | a)
    .exact .inl (.inl a)
    .by_cases e:x=s.b+(k:Int)
     .exact .inr e
     .exact .inl (.inr (by omega))
  .refine T.path mix (mvt_1 (qV n l c l2 c2 b0 s [] i (s.b+(k:Int)) k false 0) dk hd ?_)
   intro st hst
   simp only[qV,wb,wk] at hst
   refine next _ _ (hset.congr fun x=>?_) st hst
   simp only[hd]
   simp
 .have ek:(k:Int)=s.k:=by omega
  refine T.out mix (mvtx_0 (qV n l c l2 c2 b0 s [] i (s.b+(k:Int)) k false 0) (Tq h) ?_)
  intro st hst
  have wi:i64.wrap (iN i+1)=((i+1:Nat):Int):=zW i (by omega)
  simp only[qV,wi,ek] at hst
  refine hR l2 c2 (hset.congr fun x=>?_) st hst
  rw[Pw hs,ek]
theorem mvs_run{n:Aa}(hnb:1<=n.bs.length/\n.bs.length<=24)(hnx:n.nx.length=n.bs.length)(hns:n.ss.length<=6)(hnr:n.rs.length<=8)(hcfg:AZ n=true)(hblk:∀i b,n.bs[i]?=some b->G8 n i b)
  {l:List MapEntry} {c:Nat} (hnm:Dx (n.bs.map (·.nm)) l):
  T Try.prog 0 (.loop (zC (zB Try.f93) 1)) (CJ (qV n l c [] 0 b0 s0 [] 0 n.bs.length 0 false 0)) (TK Try.prog 0 (Fin Try.prog Try.f93 0 [] (.bool (AY n))) (zK (zB Try.f93) 1)):=by
 have hl:(n.ss.map sA).length=n.ss.length:=by simp
 have hbl:(n.bs.map bA).length=n.bs.length:=by simp
 have wn1:i64.wrap (iN (n.bs.map bA).length-1)=(n.bs.length:Int)-1:=by rw[hbl];exact AU _ (by simp only[iN];omega) (by simp only[iN];omega)
 have e0:(n.bs.length:Int)=Aw n 0:=by simp[Aw]
 suffices hh:T Try.prog 0 (.loop (zC (zB Try.f93) 1)) (CJ (qV n l c [] 0 b0 s0 [] 0 (Aw n 0) 0 false 0)) (TK Try.prog 0 (Fin Try.prog Try.f93 0 [] (.bool (AY n))) (zK (zB Try.f93) 1)) by
  rw[<-e0] at hh;exact hh
 refine T.loop (fun p:MP=>CJ (qV n p.l p.c p.l2 p.c2 b0 s0 [] p.i (Aw n p.i) 0 false 0))
  (fun p=>p.i<=n.ss.length/\Dx (n.bs.map (·.nm)++(n.ss.take p.i).map (·.nm)) p.l/\Bh (AM n p.i) p.l2/\∀j s,j<p.i->n.ss[j]?=some s->DC n j s)
  (fun p=>n.ss.length+1-p.i) ⟨0,l,c,[],0,0,false⟩ ⟨Ty _,by simpa using hnm,Bh.nil.congr fun x=>by simp[AM],fun j s hj=>by simp at hj⟩ ?_
 rintro⟨i,l,c,l2,c2,k,ok⟩ ⟨hi,hn,hset,hgd⟩
 simp only at hi hn hset hgd
 by_cases h:i<n.ss.length
 .obtain⟨s,hs⟩:∃s,n.ss[i]?=some s:=⟨_,Tk h⟩
  have dk:decide (iN i<iN (n.ss.map sA).length)=true:=Ts (by simp only[iN,hl];omega)
  have k1:(0:Int)<=iN i:=by simp[iN]
  have hg:=CY hs
  have hm : ∀ (x : MapEntry), x ∈ l -> AS (TypeInfo.mk TypeDesc.string "string" 1 16 true 8 8 (some (Value.string (ByteArray.mk #[]))) true #[]).desc x.key = true /\ BM (MK.i i64) x.val := hn.ok
  have c1:=Oe s.nm
  have c2':=D4 s.i 0 (i64.wrap (iN (n.bs.map bA).length-1))
  have c3:=D4 s.o 0 (i64.wrap (iN (n.bs.map bA).length-1))
  have c4:=D4 s.k 1 4
  have bad:¬DC n i s->AY n=false:=fun hb=>Cu fun hv=>hb (hv.spu i s hs)
  have gi:∀g:DC n i s,Am s.i 0 (i64.wrap (iN (n.bs.map bA).length-1))=true:=fun g=>by rw[wn1];exact g.hi
  have go:∀g:DC n i s,Am s.o 0 (i64.wrap (iN (n.bs.map bA).length-1))=true:=fun g=>by rw[wn1];exact g.ho
  have inner:DC n i s->T Try.prog 0 (.loop (zC (zC (zB Try.f93) 1) 0)) (Eu (qV n (BJ .string (.string s.nm) (.int .i64 (i64.wrap (DT .string (.string s.nm) l+1))) l c) (BD .string (.string s.nm) l c) l2 c2 b0 s [] i (Aw n i) 0 false 0))
    (TK Try.prog 0 (andThen (fun st'=>∃j,Ren 0 st' ((fun p:MP=>CJ (qV n p.l p.c p.l2 p.c2 b0 s0 [] p.i (Aw n p.i) 0 false 0)) j)/\((fun p:MP=>p.i<=n.ss.length/\Dx (n.bs.map (·.nm)++(n.ss.take p.i).map (·.nm)) p.l/\Bh (AM n p.i) p.l2/\∀j s,j<p.i->n.ss[j]?=some s->DC n j s) j)/\n.ss.length+1-j.i<n.ss.length+1-i) (TK Try.prog 0 (Fin Try.prog Try.f93 0 [] (.bool (AY n))) (zK (zB Try.f93) 1))) (zK (zC (zB Try.f93) 1) 0)):=by
   intro g
   have hbd:=baseN_bd hns hgd hnb.2
   rw[<-g.hb] at hbd ⊢
   refine mvt_run (by omega) hs (Bb.1 g.hk) (by omega) hset fun l2' c2' hse st hst=>?_
   rw[g.hb,<-Er hs] at hst
   refine⟨⟨i+1,_,_,l2',c2',0,false⟩,hst,⟨h,?_,hse,fun j t hj ht=>?_⟩,by simp only;omega⟩
   .have:=hn.step (x:=s.nm) (n:=i64.wrap (DT .string (.string s.nm) l+1)) (c:=c)
    simpa [List.take_add_one,hs] using this
   .by_cases e:j=i
    .subst e;rw[hs] at ht;cases ht;exact g
    .exact hgd j t (by simp only at hj;omega) ht
  cases t1:(!nmB (qV n l c l2 c2 b0 s [] i (Aw n i) 0 false 0).s.nm)
  case false=>
   cases t2:(!Am (qV n l c l2 c2 b0 s [] i (Aw n i) 0 false 0).s.i 0 (i64.wrap (iN (List.map bA (qV n l c l2 c2 b0 s [] i (Aw n i) 0 false 0).n.bs).length-1)))
   case false=>
    cases t3:(!Am (qV n l c l2 c2 b0 s [] i (Aw n i) 0 false 0).s.o 0 (i64.wrap (iN (List.map bA (qV n l c l2 c2 b0 s [] i (Aw n i) 0 false 0).n.bs).length-1)))
    case false=>
     cases t4:(!Am (qV n l c l2 c2 b0 s [] i (Aw n i) 0 false 0).s.k 1 4)
     case false=>
      cases t5:((qV n l c l2 c2 b0 s [] i (Aw n i) 0 false 0).s.b != (qV n l c l2 c2 b0 s [] i (Aw n i) 0 false 0).base)
      case false=>
       exact T.path mix (mvs_5 (qV n l c l2 c2 b0 s [] i (Aw n i) 0 false 0) dk (by first | assumption | (exact hg)) (by first | assumption | (exact hg)) (by first | assumption | (exact hg)) (by first | assumption | (exact hg)) t1 (by first | assumption | (exact hg)) t2 (by first | assumption | (exact hg)) t3 (by first | assumption | (exact hg)) t4 t5 (inner ⟨by simp_all [qV],by simp_all [qV],by simp_all [qV],by simp_all [qV],by simp_all [qV]⟩))
      case true=>
       rw[bad (fun g=>by have g1:=g.nm;have g2:=gi g;have g3:=go g;have g4:=g.hk;have g5:=g.hb;simp_all [qV])]
       exact T.out mix (mvs_4 (qV n l c l2 c2 b0 s [] i (Aw n i) 0 false 0) dk (by first | assumption | (exact hg)) (by first | assumption | (exact hg)) (by first | assumption | (exact hg)) (by first | assumption | (exact hg)) t1 (by first | assumption | (exact hg)) t2 (by first | assumption | (exact hg)) t3 (by first | assumption | (exact hg)) t4 t5)
     case true=>
      rw[bad (fun g=>by have g1:=g.nm;have g2:=gi g;have g3:=go g;have g4:=g.hk;have g5:=g.hb;simp_all [qV])]
      exact T.out mix (mvs_3 (qV n l c l2 c2 b0 s [] i (Aw n i) 0 false 0) dk (by first | assumption | (exact hg)) (by first | assumption | (exact hg)) (by first | assumption | (exact hg)) (by first | assumption | (exact hg)) t1 (by first | assumption | (exact hg)) t2 (by first | assumption | (exact hg)) t3 (by first | assumption | (exact hg)) t4)
    case true=>
     rw[bad (fun g=>by have g1:=g.nm;have g2:=gi g;have g3:=go g;have g4:=g.hk;have g5:=g.hb;simp_all [qV])]
     exact T.out mix (mvs_2 (qV n l c l2 c2 b0 s [] i (Aw n i) 0 false 0) dk (by first | assumption | (exact hg)) (by first | assumption | (exact hg)) (by first | assumption | (exact hg)) (by first | assumption | (exact hg)) t1 (by first | assumption | (exact hg)) t2 (by first | assumption | (exact hg)) t3)
   case true=>
    rw[bad (fun g=>by have g1:=g.nm;have g2:=gi g;have g3:=go g;have g4:=g.hk;have g5:=g.hb;simp_all [qV])]
    exact T.out mix (mvs_1 (qV n l c l2 c2 b0 s [] i (Aw n i) 0 false 0) dk (by first | assumption | (exact hg)) (by first | assumption | (exact hg)) (by first | assumption | (exact hg)) (by first | assumption | (exact hg)) t1 (by first | assumption | (exact hg)) t2)
  case true=>
   rw[bad (fun g=>by have g1:=g.nm;have g2:=gi g;have g3:=go g;have g4:=g.hk;have g5:=g.hb;simp_all [qV])]
   exact T.out mix (mvs_0 (qV n l c l2 c2 b0 s [] i (Aw n i) 0 false 0) dk (by first | assumption | (exact hg)) (by first | assumption | (exact hg)) (by first | assumption | (exact hg)) (by first | assumption | (exact hg)) t1)
 .have hin:i=n.ss.length:=by omega
  subst hin
  rw[List.take_length] at hn
  have dl:decide (iN n.ss.length<iN (n.ss.map sA).length)=false:=Tq (by simp only[iN,hl];omega)
  have hsp:∀j s,n.ss[j]?=some s->DC n j s:=fun j s hj=>hgd j s (Tm.1 hj).1 hj
  have hnl:(BZ n).length=n.bs.length+n.ss.length:=by simp[BZ]
  have hif:=hn.iff
  change l.length=(BZ n).length↔(BZ n).Nodup at hif
  have hle:=hn.le
  change l.length<=(BZ n).length at hle
  rw[hnl] at hif hle
  have ww:i64.wrap (iN (List.map bA n.bs).length+iN (List.map sA n.ss).length)=((n.bs.length+n.ss.length:Nat):Int):=by rw[hbl,hl,AU _ (by simp only[iN];omega) (by simp only[iN];omega)];simp[iN]
  cases hp:decide (0<iN l2.length) with
  | true=>
   have hdep:∃x,AM n n.ss.length x:=hset.pos.1 (by have:=of_decide_eq_true hp;simp only[iN] at this;omega)
   refine T.out mix (mvsx_0 (qV n l c l2 c2 b0 s0 [] n.ss.length (Aw n n.ss.length) 0 false 0) dl hp ?_)
   have hr:=P4 (c2:=c2) hnr hset (iN l.length==i64.wrap (iN (List.map bA n.bs).length+iN (List.map sA n.ss).length))
   have ev:AY n=((iN l.length==i64.wrap (iN (List.map bA n.bs).length+iN (List.map sA n.ss).length))&&@decide (∀i c,n.rs[i]?=some c->AM n n.ss.length c/\c∉n.rs.take i) (Classical.propDecidable _)):=by
    rw[ww,Bool.eq_iff_iff,CS]
    simp only[Tu,@decide_eq_true_iff _ (Classical.propDecidable _),beq_iff_eq,iN]
    constructor
    .intro hv
     exact⟨by have:=hif.2 hv.nod;omega,hv.rob⟩
    .rintro⟨h1,h2⟩
     exact⟨Bb.2 (by omega),hnx,hns,hnr,hcfg,hblk,hsp,hif.1 (by omega),hdep,h2⟩
   rw[ev]
   exact hr
  | false=>
   have hdep:¬∃x,AM n n.ss.length x:=fun hd=>by have:=hset.pos.2 hd;have:=of_decide_eq_false hp;simp only[iN] at this;omega
   refine T.out mix (mvsx_1 (qV n l c l2 c2 b0 s0 [] n.ss.length (Aw n n.ss.length) 0 false 0) dl hp ?_)
   have hr:=P4 (c2:=c2) hnr hset false
   rw[Cu fun hv=>hdep hv.dep]
   rw[Bool.false_and] at hr;exact hr
theorem SX{n:Aa}(hrw:Rows n.nx):CT Try.prog 93 [] [Ad n] [] (.bool (AY n)):=by
 have hb:Try.f93.body=some (zB Try.f93):=by kernel_rfl
 have hn:[Ad n].length<=Try.f93.ntmps:=nL rfl
 have hbl:(n.bs.map bA).length=n.bs.length:=by simp
 have hsl:(n.ss.map sA).length=n.ss.length:=by simp
 have hrl:(n.rs.map (AV.int .i64)).length=n.rs.length:=by simp
 have hgl:=Bt n.nx
 have c1:=D4 (iN (List.map bA n.bs).length) 1 24
 have c2:=vcfg_ct n
 have h0:∀{res:Bool},AY n=res->CT Try.prog 93 [] [Ad n] [] (.bool res)->CT Try.prog 93 [] [Ad n] [] (.bool (AY n)):=fun e h=>e ▸ h
 have main:Am (iN (List.map bA n.bs).length) 1 24=true->(iN (gL n.nx).length != iN (List.map bA n.bs).length)=false->decide (6<iN (List.map sA n.ss).length)=false->decide (8<iN (List.map (AV.int .i64) n.rs).length)=false->AZ n=true->
   T Try.prog 0 (.loop (zC (zB Try.f93) 0)) (D3 (qV n [] 0 [] 0 b0 s0 [] 0 0 0 false 0)) (TK Try.prog 0 (Fin Try.prog Try.f93 0 [] (.bool (AY n))) (zK (zB Try.f93) 0)):=by
  intro g1 g2 g3 g4 g5
  rw[hbl] at g1 g2
  rw[hgl] at g2
  have hnb:=Bb.1 g1
  simp only[iN] at hnb
  have hnb':1<=n.bs.length/\n.bs.length<=24:=by omega
  have hnx:n.nx.length=n.bs.length:=by simp only[iN,bne_eq_false_iff_eq] at g2;omega
  have hns:n.ss.length<=6:=by have:=of_decide_eq_false g3;simp only[iN,hsl] at this;omega
  have hnr:n.rs.length<=8:=by have:=of_decide_eq_false g4;simp only[iN,hrl] at this;omega
  refine T.loop (fun p:MP=>D3 (qV n p.l p.c [] 0 b0 s0 [] p.i 0 0 false 0)) (fun p=>p.i<=n.bs.length/\Dx ((n.bs.take p.i).map (·.nm)) p.l/\∀j b,j<p.i->n.bs[j]?=some b->G8 n j b)
   (fun p=>n.bs.length+1-p.i) ⟨0,[],0,[],0,0,false⟩ ⟨Ty _,Dx.nil,fun j b hj=>by simp at hj⟩ ?_
  rintro⟨i,l,c,l2,c2',k,ok⟩ ⟨hi,hnm,hgd⟩
  simp only at hi hnm hgd
  by_cases h:i<n.bs.length
  .obtain⟨b,hbb⟩:∃b,n.bs[i]?=some b:=⟨_,Tk h⟩
   have dk:decide (iN i<iN (n.bs.map bA).length)=true:=Ts (by simp only[iN,hbl];omega)
   have k1:(0:Int)<=iN i:=by simp[iN]
   have hg:=Kg hbb
   have hg2:(gL n.nx)[i]?=some (lI (n.nx.getD i [])):=DX (by omega)
   have hm : ∀ (x : MapEntry), x ∈ l -> AS (TypeInfo.mk TypeDesc.string "string" 1 16 true 8 8 (some (Value.string (ByteArray.mk #[]))) true #[]).desc x.key = true /\ BM (MK.i i64) x.val := hnm.ok
   have d1:=Oe b.nm
   have d2:=D4 b.x (-9999) 9999
   have d3:=D4 b.y (-9999) 9999
   have d4:=vnext_ct (n.nx.getD i []) (iN i) (iN (n.bs.map bA).length) (hrw i (by omega))
   have wi:i64.wrap (iN i+1)=((i+1:Nat):Int):=zW i (by omega)
   have ex:nxB (n.nx.getD i []) (iN i) (iN (n.bs.map bA).length)=nxB (n.nx.getD i []) i n.bs.length:=by rw[hbl]
   have bad:¬G8 n i b->AY n=false:=fun hb=>Cu fun hv=>hb (hv.blk i b hbb)
   have next:G8 n i b->∀st,Ren 0 st (D3 (qV n (BJ .string (.string b.nm) (.int .i64 (i64.wrap (DT .string (.string b.nm) l+1))) l c) (BD .string (.string b.nm) l c) [] 0 b0 s0 [] (i+1) 0 0 false 0))->
     ∃j,Ren 0 st ((fun p:MP=>D3 (qV n p.l p.c [] 0 b0 s0 [] p.i 0 0 false 0)) j)/\((fun p:MP=>p.i<=n.bs.length/\Dx ((n.bs.take p.i).map (·.nm)) p.l/\∀j b,j<p.i->n.bs[j]?=some b->G8 n j b) j)/\n.bs.length+1-j.i<n.bs.length+1-i:=by
    intro g st hst
    refine⟨⟨i+1,_,_,[],0,0,false⟩,hst,⟨h,?_,fun j t hj ht=>?_⟩,by simp only;omega⟩
    .have:=hnm.step (x:=b.nm) (n:=i64.wrap (DT .string (.string b.nm) l+1)) (c:=c)
     simpa [List.take_add_one,hbb] using this
    .by_cases e:j=i
     .subst e;rw[hbb] at ht;cases ht;exact g
     .exact hgd j t (by simp only at hj;omega) ht
   cases t6:(!nmB (qV n l c [] 0 b s0 (n.nx.getD i []) i 0 0 false 0).b.nm)
   case false=>
    cases t7:(!Am (qV n l c [] 0 b s0 (n.nx.getD i []) i 0 0 false 0).b.x (-9999) 9999)
    case false=>
     cases t8:(!Am (qV n l c [] 0 b s0 (n.nx.getD i []) i 0 0 false 0).b.y (-9999) 9999)
     case false=>
      cases t9:(!nxB (qV n l c [] 0 b s0 (n.nx.getD i []) i 0 0 false 0).r (iN (qV n l c [] 0 b s0 (n.nx.getD i []) i 0 0 false 0).i) (iN (List.map bA (qV n l c [] 0 b s0 (n.nx.getD i []) i 0 0 false 0).n.bs).length))
      case false=>
       exact T.path mix (mvb_4 (qV n l c [] 0 b s0 (n.nx.getD i []) i 0 0 false 0) dk (by first | assumption | (exact hg)) (by first | assumption | (exact hg)) (by first | assumption | (exact hg)) (by first | assumption | (exact hg)) t6 (by first | assumption | (exact hg)) t7 (by first | assumption | (exact hg)) t8 (by first | assumption | (exact hg)) (by first | assumption | (exact hg)) t9 (fun st hst=>by simp only[qV,wi] at hst;exact next ⟨by simp_all [qV],by simp_all [qV],by simp_all [qV],by rw[<-ex];simp_all [qV]⟩ st hst))
      case true=>
       rw[bad (fun g=>by have g1:=g.nm;have g2:=g.x;have g3:=g.y;have g4:=ex.trans g.nx;simp_all [qV])]
       exact T.out mix (mvb_3 (qV n l c [] 0 b s0 (n.nx.getD i []) i 0 0 false 0) dk (by first | assumption | (exact hg)) (by first | assumption | (exact hg)) (by first | assumption | (exact hg)) (by first | assumption | (exact hg)) t6 (by first | assumption | (exact hg)) t7 (by first | assumption | (exact hg)) t8 (by first | assumption | (exact hg)) (by first | assumption | (exact hg)) t9)
     case true=>
      rw[bad (fun g=>by have g1:=g.nm;have g2:=g.x;have g3:=g.y;have g4:=ex.trans g.nx;simp_all [qV])]
      exact T.out mix (mvb_2 (qV n l c [] 0 b s0 (n.nx.getD i []) i 0 0 false 0) dk (by first | assumption | (exact hg)) (by first | assumption | (exact hg)) (by first | assumption | (exact hg)) (by first | assumption | (exact hg)) t6 (by first | assumption | (exact hg)) t7 (by first | assumption | (exact hg)) t8)
    case true=>
     rw[bad (fun g=>by have g1:=g.nm;have g2:=g.x;have g3:=g.y;have g4:=ex.trans g.nx;simp_all [qV])]
     exact T.out mix (mvb_1 (qV n l c [] 0 b s0 (n.nx.getD i []) i 0 0 false 0) dk (by first | assumption | (exact hg)) (by first | assumption | (exact hg)) (by first | assumption | (exact hg)) (by first | assumption | (exact hg)) t6 (by first | assumption | (exact hg)) t7)
   case true=>
    rw[bad (fun g=>by have g1:=g.nm;have g2:=g.x;have g3:=g.y;have g4:=ex.trans g.nx;simp_all [qV])]
    exact T.out mix (mvb_0 (qV n l c [] 0 b s0 (n.nx.getD i []) i 0 0 false 0) dk (by first | assumption | (exact hg)) (by first | assumption | (exact hg)) (by first | assumption | (exact hg)) (by first | assumption | (exact hg)) t6)
  .have hin:i=n.bs.length:=by omega
   subst hin
   rw[List.take_length] at hnm
   refine T.out mix (mvbx_0 (qV n l c [] 0 b0 s0 [] n.bs.length 0 0 false 0) (Tq (by simp only[qV,iN,hbl];omega)) ?_)
   have hsr:=mvs_run (c:=c) hnb' hnx hns hnr g5 (fun j b hj=>hgd j b (Tm.1 hj).1 hj) hnm
   have e:∀k:Nat,k=n.bs.length->T Try.prog 0 (.loop (zC (zB Try.f93) 1)) (CJ (qV n l c [] 0 b0 s0 [] 0 (iN k) 0 false 0)) (TK Try.prog 0 (Fin Try.prog Try.f93 0 [] (.bool (AY n))) (zK (zB Try.f93) 1)):=fun k hk=>by subst hk;exact hsr
   exact e _ hbl
 have f1:∀hv:Ax n,Am (iN (List.map bA n.bs).length) 1 24=true:=fun hv=>by rw[hbl];exact hv.nb
 cases t10:(!Am (iN (List.map bA (qV n [] 0 [] 0 b0 s0 [] 0 0 0 false 0).n.bs).length) 1 24)
 case false=>
  cases t11:(iN (gL (qV n [] 0 [] 0 b0 s0 [] 0 0 0 false 0).n.nx).length != iN (List.map bA (qV n [] 0 [] 0 b0 s0 [] 0 0 0 false 0).n.bs).length)
  case false=>
   cases t12:decide (6<iN (List.map sA (qV n [] 0 [] 0 b0 s0 [] 0 0 0 false 0).n.ss).length)
   case false=>
    cases t13:decide (8<iN (List.map iV (qV n [] 0 [] 0 b0 s0 [] 0 0 0 false 0).n.rs).length)
    case false=>
     cases t14:(!AZ (qV n [] 0 [] 0 b0 s0 [] 0 0 0 false 0).n)
     case false=>
      first | exact CT.path mix Try.func93 hb hn (mvi_5 (qV n [] 0 [] 0 b0 s0 [] 0 0 0 false 0) (by first | assumption | (exact c1)) t10 t11 t12 t13 (by first | assumption | (exact c1)) t14 (main (by simp_all [qV]) (by simp_all [qV]) (by simp_all [qV]) (by simp_all [qV]) (by simp_all [qV]))) | exact h0 (Cu fun hv=>by have a1:=f1 hv;have a2:=hv.nx;have a3:=hv.ns;have a4:=hv.nr;have a5:=hv.cfg;simp only[qV,iN,hbl,hgl,hsl,hrl] at *;grind) (CT.path mix Try.func93 hb hn (mvi_5 (qV n [] 0 [] 0 b0 s0 [] 0 0 0 false 0) (by first | assumption | (exact c1)) t10 t11 t12 t13 (by first | assumption | (exact c1)) t14 (main (by simp_all [qV]) (by simp_all [qV]) (by simp_all [qV]) (by simp_all [qV]) (by simp_all [qV]))))
     case true=>
      first | exact CT.path mix Try.func93 hb hn (mvi_4 (qV n [] 0 [] 0 b0 s0 [] 0 0 0 false 0) (by first | assumption | (exact c1)) t10 t11 t12 t13 (by first | assumption | (exact c1)) t14) | exact h0 (Cu fun hv=>by have a1:=f1 hv;have a2:=hv.nx;have a3:=hv.ns;have a4:=hv.nr;have a5:=hv.cfg;simp only[qV,iN,hbl,hgl,hsl,hrl] at *;grind) (CT.path mix Try.func93 hb hn (mvi_4 (qV n [] 0 [] 0 b0 s0 [] 0 0 0 false 0) (by first | assumption | (exact c1)) t10 t11 t12 t13 (by first | assumption | (exact c1)) t14))
    case true=>
     first | exact CT.path mix Try.func93 hb hn (mvi_3 (qV n [] 0 [] 0 b0 s0 [] 0 0 0 false 0) (by first | assumption | (exact c1)) t10 t11 t12 t13) | exact h0 (Cu fun hv=>by have a1:=f1 hv;have a2:=hv.nx;have a3:=hv.ns;have a4:=hv.nr;have a5:=hv.cfg;simp only[qV,iN,hbl,hgl,hsl,hrl] at *;grind) (CT.path mix Try.func93 hb hn (mvi_3 (qV n [] 0 [] 0 b0 s0 [] 0 0 0 false 0) (by first | assumption | (exact c1)) t10 t11 t12 t13))
   case true=>
    first | exact CT.path mix Try.func93 hb hn (mvi_2 (qV n [] 0 [] 0 b0 s0 [] 0 0 0 false 0) (by first | assumption | (exact c1)) t10 t11 t12) | exact h0 (Cu fun hv=>by have a1:=f1 hv;have a2:=hv.nx;have a3:=hv.ns;have a4:=hv.nr;have a5:=hv.cfg;simp only[qV,iN,hbl,hgl,hsl,hrl] at *;grind) (CT.path mix Try.func93 hb hn (mvi_2 (qV n [] 0 [] 0 b0 s0 [] 0 0 0 false 0) (by first | assumption | (exact c1)) t10 t11 t12))
  case true=>
   first | exact CT.path mix Try.func93 hb hn (mvi_1 (qV n [] 0 [] 0 b0 s0 [] 0 0 0 false 0) (by first | assumption | (exact c1)) t10 t11) | exact h0 (Cu fun hv=>by have a1:=f1 hv;have a2:=hv.nx;have a3:=hv.ns;have a4:=hv.nr;have a5:=hv.cfg;simp only[qV,iN,hbl,hgl,hsl,hrl] at *;grind) (CT.path mix Try.func93 hb hn (mvi_1 (qV n [] 0 [] 0 b0 s0 [] 0 0 0 false 0) (by first | assumption | (exact c1)) t10 t11))
 case true=>
  first | exact CT.path mix Try.func93 hb hn (mvi_0 (qV n [] 0 [] 0 b0 s0 [] 0 0 0 false 0) (by first | assumption | (exact c1)) t10) | exact h0 (Cu fun hv=>by have a1:=f1 hv;have a2:=hv.nx;have a3:=hv.ns;have a4:=hv.nr;have a5:=hv.cfg;simp only[qV,iN,hbl,hgl,hsl,hrl] at *;grind) (CT.path mix Try.func93 hb hn (mvi_0 (qV n [] 0 [] 0 b0 s0 [] 0 0 0 false 0) (by first | assumption | (exact c1)) t10))
end Go.Proofs.Ytedjkebooffjpaa

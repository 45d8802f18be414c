/- Parts of the proof:AxY,AxZ,AxZa,AxBr,AxRd,AxWk,AxNe,AxLs,AxTr,AxMc,AxSc,CutCp,NextCp,AxMl,Ga,Nv1m,NvA,Nv2m,NvB,Nv3m,NvC,Nv4m,NvD,NvE. -/
import Derived.Below
import Derived.OpenShut
import Derived.ChangeOld
import Derived.ChangeArms
import Derived.Carry
import Derived.Scope
import Derived.Test.YthjgbnbibebigaaGreatProg
import Derived.KernelRfl
import Derived.Test.YthjgbnbibebigaaGreatLedgerQuietM2
noncomputable section
set_option linter.unusedVariables false
set_option linter.unusedSimpArgs false
open Go.IntKind (i64 u64)
open List renaming map->Wn
open Go.Proofs.Tryz renaming prog->Wu
namespace Go.AX
variable {P:Program}
theorem QG{φ:Phi}{A:Nat->Prop}{w:World}{a:Act}{fr:List (Nat×AV)}{n:Nat}{hp:List (Option Blk)}(h:∀s,VR φ A w (Av fr s) (a.tmps.getD s undef))(x:Operand):
  VR φ A w (St.ev {n,fr,hp} x) (a.eval x):=by
 cases x with
 | tmp t=>exact h t
 | const v=>exact .imm _ _ (RT.absC v)
 | global g=>exact .imm _ _ (.unk _)
 | func f=>exact VR.fn (φ:=φ) (A:=A) (w:=w) f [] [] rfl (fun i c v hc=>by simp at hc)
theorem KW{φ:Phi}{A:Nat->Prop}{w:World}{a:Act}{ops:Array Oper}{o:Oper}(h:∀k want,o.guard=some (k,want)->∃g,(ops[k]?).bind (·.dst)=some g/\VR φ A w (.bool want) (a.tmps.getD g undef)):
  Region.wanted o (yielded ops a.tmps)=true:=by
 unfold Region.wanted;split
 .rfl
 .rename_i k want hg;obtain⟨g,h1,h2⟩:=h k want hg;have h3:=h2.bool_inv;unfold yielded;rw[h1];simp only[Option.bind_some];cases hq:a.tmps[g]? with
  | none=>simp[hq,undef] at h3
  | some v=>simp[hq] at h3;simp[h3]
theorem PY{φ:Phi}{A:Nat->Prop}{w:World}{a:Act}{ops:Array Oper}{o:Oper}{k g:Nat}{want:Bool}{v:AV}(hg:o.guard=some (k,want))(h1:(ops[k]?).bind (·.dst)=some g)
  (hv:v = .bool (!want)\/v = .tup []) (h2:VR φ A w v (a.tmps.getD g undef)):Region.wanted o (yielded ops a.tmps)=false:=by
 unfold Region.wanted;rw[hg];unfold yielded;simp only[h1,Option.bind_some];rcases hv with rfl | rfl
 .have h3:=h2.bool_inv;cases hq:a.tmps[g]? with
  | none=>simp
  | some u=>simp[hq] at h3;simp[h3]
 .obtain⟨vs,h3,hl,_⟩:=h2.tup_inv;have hvs:vs=[]:=List.eq_nil_of_length_eq_zero hl;subst hvs;cases hq:a.tmps[g]? with
  | none=>simp
  | some u=>simp[hq] at h3;simp[h3]
theorem Eff.skip{φ:Phi}{A:Nat->Prop}{w:World}{h:Hp}{nb:Nat}(hn:∀b,nb<=b->φ b=none):Eff φ A w h nb {v:=.tup []} undef w φ:=⟨Bt.refl _ w,fun _ _=>rfl,fun b hb=>hn b (by simpa using hb),fun b r z hb h=>(by rw[hn b hb] at h;cases h),fun b b' r z z' hb _ h _=>(by rw[hn b hb] at h;cases h),.tup [] [] rfl (fun i c v hc=>by simp at hc),fun b blk hm=>(by simp at hm),fun blk hm=>(by simp at hm),fun b blk hm=>(by simp at hm),fun b blk hm=>(by simp at hm)⟩
theorem TX{H:HT}{m:Nat}{ops:Array Oper}{Q:Exit->Act->World->Prop}{A0:Nat->Prop}{n0:Nat}:∀{l:List Oper} {st st':St} {pls:List (Option Nat×Pl)} {p:Prop},EG P H false m ops l st=some (pls,st',p)->p->
  ∀{φ:Phi} {a:Act} {w:World},m<=st.hp.length->Rel A0 n0 m φ st a w->
   (∀φ' a' w',m<=st'.hp.length->Rel A0 n0 m φ' st' a' w'->Tr m φ st.h w φ' st'.h w'->Q .normal a' w')->wpList P ops Q l a w:=by
 intro l;induction l with
 | nil=>intro st st' pls p h hp φ a w hm hr k;simp only[EG,Vc,Vm] at h;obtain⟨_,rfl,_⟩:=h;exact k φ a w hm hr (.refl _ _ _ _)
 | cons o r ih=>
  intro st st' pls p h hp φ a w hm hr k;simp only[EG] at h;split at h
  case h_2=>cases h
  rename_i pl p1 h1;split at h
  case h_2=>cases h
  rename_i pls' st1 q h2;cases h;have F:=Rw h1 hp.1;have hm':m<=(st.app o.dst pl.R).hp.length:=by simp[St.app,Er,DW];omega
  have hslots:∀s,VR φ (Ok A0 n0 φ st.h w) w (Av pl.fr s) (a.tmps.getD s undef):=fun s=>by
   rcases F.slots s with h | h
   .rw[h];exact .imm _ _ (.unk _)
   .rw[h.2];exact hr.slot s
  unfold wpList;cases hrun:pl.run with
  | true=>
   obtain⟨hop,hgd⟩:=F.run hrun;rw[Vt (KW (φ:=φ) (A:=Ok A0 n0 φ st.h w) (w:=w) fun k want hg=>by
    obtain⟨g,g1,_,g2⟩:=hgd k want hg;exact⟨g,g1,by rw[<-g2];exact hr.slot g⟩)]
   left;have hhp:=F.whole rfl hrun;rw[hhp] at hop;refine hop φ (Ok A0 n0 φ st.h w) w a _ _ (fun r hA=>⟨hA.2.1,hA.2.2⟩) (QG hslots) hr.heap hr.out fun v' w' φ' A' hA1 hA2 he=>?_
   have hfit:=F.fits;rw[hhp] at hfit;obtain⟨s1,s2⟩:=hr.stepD hm F.dead F.dst hfit hA1 hA2 he;exact ih h2 hp.2 hm' s1 fun φ2 a2 w2 g1 g2 g3=>k φ2 a2 w2 g1 g2 (s2.trans g3)
  | false=>
   obtain⟨hR,kk,want,g,hg,hk,_,hv⟩:=F.skip hrun;rw[Vu (by rw[PY hg hk hv (hr.slot g)];simp)];have he:Eff φ (Ok A0 n0 φ st.h w) w st.h st.hp.length pl.R undef w φ:=by rw[hR];exact Eff.skip hr.out
   obtain⟨s1,s2⟩:=hr.step hm F.dead F.dst (by rw[hR];exact OpR.fits_value _ _) he;exact ih h2 hp.2 hm' s1 fun φ2 a2 w2 g1 g2 g3=>k φ2 a2 w2 g1 g2 (s2.trans g3)
section cur
variable {κ ν:Type} (act:Nat->κ->Option ν) (base:κ->ν)
def cur(S:Nat->Bool):Nat->κ->ν
 | 0,x=>base x
 | n+1,x=>match S n with
  | true=>(act n x).getD (cur S n x)
  | false=>cur S n x
theorem Kl{S S':Nat->Bool}(x:κ):∀n,(∀k,k<n->act k x≠none->S k=S' k)->cur act base S n x=cur act base S' n x:=by
 intro n;induction n with
 | zero=>intro _;rfl
 | succ n ih=>
  intro h;have h1:=ih fun k hk=>h k (by omega)
  simp only[cur];cases ha:act n x with
  | none=>rw[h1];cases S n<;>cases S' n<;>rfl
  | some v=>rw[h n (by omega) (by simp[ha]),h1]
theorem Uz(x:κ)(j:Nat):∀n,j<=n->cur act base (fun k=>decide (k<j)) n x=cur act base (fun _=>true) j x:=by
 intro n;induction n with
 | zero=>intro h;have:j=0:=by omega
         subst this;rfl
 | succ n ih=>
  intro h;rcases Wm n j with h1 | h1
  .have:j=n+1:=by omega
   subst this;exact Kl act base x _ fun k hk _=>by simpa using hk
  .have:decide (n<j)=false:=by simp;omega
   simp only[cur,this];exact ih h1
theorem JK{S:Nat->Bool}{x:κ}{j n:Nat}(hj:j<=n)(h:∀k,k<n->act k x≠none->S k=decide (k<j)):cur act base S n x=cur act base (fun _=>true) j x:=(Kl act base x n h).trans (Uz act base x j n hj)
theorem R3{S:Nat->Bool}{x:κ}{j:Nat}(hSj:S j=false):∀n,j<n->(∀k,j<k->k<n->S k=true->act k x=none\/act j x=none)->
  cur act base (fun k=>if k=j then true else S k) n x=(act j x).getD (cur act base S n x):=by
 intro n;induction n with
 | zero=>intro h;omega
 | succ n ih=>
  intro hj h;rcases Wm j n with h1 | h1
  .have h2:=ih h1 fun k a b=>h k a (by omega)
   have hne:¬n=j:=by omega
   simp only[cur,Vu hne];cases hS:S n with
   | false=>exact h2
   | true=>
    rcases h n h1 (by omega) hS with h3 | h3
    .simp only[h3,Option.getD_none];exact h2
    .simp only[h3,Option.getD_none] at h2 ⊢;rw[h2]
  .have:j=n:=by omega
   subst this;simp only[cur,Vt,hSj];rw[Kl act base x j (S':=S) fun k hk _=>Vu (by omega)]
end cur
def CQ(o:Oper):List Nat:=(o.after.toList.filter (Region.binds .any)).map (·.on)
inductive Pre (ops:Array Oper):Nat->Nat->Prop | direct {j k:Nat} {o:Oper} (h:ops[j]?=some o) (hk:k∈CQ o):Pre ops j k | trans {j k i:Nat} (h:Pre ops j k) (g:Pre ops k i):Pre ops j i
structure Ap(x y:Option Nat×Pl):Prop where
 ww:∀d,x.1=some d->y.1≠some d
 wr:∀d,x.1=some d->d∉y.2.reads
 rw_:∀d,y.1=some d->d∉x.2.reads
 hx:∀b blk,nth y.2.hp b=some blk->Bs x.2.hp.length x.2.R b=none
 hy:∀b blk,nth x.2.hp b=some blk->Bs y.2.hp.length y.2.R b=none
def Cy(pls:List (Option Nat×Pl))(k s:Nat):Option AV:=match pls[k]? with
 | some x=>if x.1=some s then some x.2.R.v else none
 | none=>none
def A2(pls:List (Option Nat×Pl))(k b:Nat):Option (Option Blk):=match pls[k]? with
 | some x=>Bs x.2.hp.length x.2.R b
 | none=>none
def seen(listed:Array Bool):Nat->Bool:=fun k=>listed.getD k false
theorem RP{hp:List (Option Blk)}{R:OpR}{b:Nat}(hf:R.fits (nth hp))(h:Bs hp.length R b≠none):(∃blk,nth hp b=some blk)\/(hp.length<=b/\b<hp.length+R.new.length):=by
 unfold Bs at h;split at h
 .left;split at h
  .rename_i blk hc;obtain⟨b0,h0,_⟩:=hf.1 b blk (FA hc);exact⟨b0,h0⟩
  .split at h
   .rename_i hd;obtain⟨⟨b0,h0,_⟩,_⟩:=hf.2 b (CM.1 hd);exact⟨b0,h0⟩
   .exact absurd rfl h
 .split at h
  .exact .inr ⟨by omega,by assumption⟩
  .exact absurd rfl h
theorem T9(st:St)(dst:Option Nat)(R:OpR)(b:Nat):(st.app dst R).h b=B1 st.hp.length R st.h b:=by
 rw[Mc];unfold B1 Bs;split
 .cases hc:BJ R.chg b with
  | some blk=>rfl
  | none=>cases hd:Bf R.dead b<;>rfl
 .rename_i hb;split
  .rfl
  .rename_i h2;simp only[Option.getD_none];rw[VT (by omega)];unfold St.h;rw[Cr,VT (by omega)];rfl
theorem UT{p q:Nat->Bool}{j:Nat}:∀{l:List Nat},j∈l->p j=true->q j=false->(∀x,q x=true->p x=true)->l.countP q<l.countP p:=by
 intro l;induction l with
 | nil=>intro h;simp at h
 | cons x r ih=>
  intro hj hp hq hqp;have hle:r.countP q<=r.countP p:=List.countP_mono_left fun y _=>hqp y
  rcases VY.1 hj with rfl | hj
  .simp[hp,hq];omega
  .have:=ih hj hp hq hqp;simp only[List.countP_cons];cases hqx:q x with
   | true=>simp[hqp x hqx];omega
   | false=>simp;omega
structure DR(P:Program)(m:Nat)(ops:Array Oper)(st0:St)(pls:List (Option Nat×Pl)):Prop where
 len:pls.length=ops.size
 pl:∀(j:Nat) o,ops[j]?=some o->∃pl,pls[j]?=some (o.dst,pl)/\PlF P true m ops o (AM st0 pls j) pl
 dir:∀(j:Nat) o,ops[j]?=some o->∀k,k∈CQ o->k<j
 ap:∀(i j:Nat) x y,i<j->pls[i]?=some x->pls[j]?=some y->Pre ops j i\/Ap x y
 base:m<=st0.hp.length
namespace DR
variable {m:Nat} {ops:Array Oper} {st0:St} {pls:List (Option Nat×Pl)}
theorem of_pl(D:DR P m ops st0 pls){j:Nat}{x:Option Nat×Pl}(h:pls[j]?=some x):∃o,ops[j]?=some o/\x.1=o.dst/\PlF P true m ops o (AM st0 pls j) x.2:=by
 have hj:j<ops.size:=by rw[<-D.len];exact(Vx.1 h).1
 obtain⟨pl,h1,h2⟩:=D.pl j _ (Array.getElem?_eq_getElem hj);rw[h] at h1;cases h1;exact⟨_,Array.getElem?_eq_getElem hj,rfl,h2⟩
theorem text(D:DR P m ops st0 pls):∀j,j<=ops.size->(∀s,Av (AM st0 pls j).fr s=cur (Cy pls) (Av st0.fr) (fun _=>true) j s)/\(∀b,(AM st0 pls j).h b=cur (A2 pls) st0.h (fun _=>true) j b)/\(AM st0 pls j).n=st0.n:=by
 intro j;induction j with
 | zero=>intro _;exact⟨fun _=>rfl,fun _=>rfl,rfl⟩
 | succ j ih=>
  intro hj;obtain⟨h1,h2,h3⟩:=ih (by omega);have hjl:j<pls.length:=by rw[D.len];omega
  have hp:=Vv hjl;obtain⟨o,ho,hd,F⟩:=D.of_pl hp;have e:AM st0 pls (j+1)=(AM st0 pls j).app pls[j].1 pls[j].2.R:=by show(match pls[j]? with | some x=>_ | none=>_)=_;rw[hp]
  rw[e];refine⟨fun s=>?_,fun b=>?_,h3⟩
  .show Av (put _ _ _) s=_;rw[RC];simp only[cur,Cy,hp];split
   .rfl
   .exact h1 s
  .rw[T9];simp only[cur,A2,hp];unfold B1;rw[F.len,h2 b]
theorem nums(D:DR P m ops st0 pls){i:Nat}{x:Option Nat×Pl}(hi:pls[i]?=some x):∀j,i<j->j<=ops.size->x.2.hp.length+x.2.R.new.length<=(AM st0 pls j).hp.length:=by
 intro j;induction j with
 | zero=>intro h;omega
 | succ j ih=>
  intro hij hj;have hjl:j<pls.length:=by rw[D.len];omega
  have hp:=Vv hjl;have e:AM st0 pls (j+1)=(AM st0 pls j).app pls[j].1 pls[j].2.R:=by show(match pls[j]? with | some x=>_ | none=>_)=_;rw[hp]
  rw[e];have e2:((AM st0 pls j).app pls[j].1 pls[j].2.R).hp.length=(AM st0 pls j).hp.length+pls[j].2.R.new.length:=by simp[St.app,Er,DW]
  rw[e2];rcases Wm i j with h | h
  .have:=ih h (by omega);omega
  .have:i=j:=by omega
   subst this;rw[hp] at hi;cases hi;obtain⟨o,ho,hd,F⟩:=D.of_pl hp;rw[F.len];omega
theorem mono(_:DR P m ops st0 pls):∀j,st0.hp.length<=(AM st0 pls j).hp.length:=by
 intro j;induction j with
 | zero=>exact VH _
 | succ j ih=>
  show _<=(match pls[j]? with | some x=>(AM st0 pls j).app x.1 x.2.R | none=>AM st0 pls j).hp.length;split
  .simp[St.app,Er,DW];omega
  .exact ih
end DR
structure Inv(A0:Nat->Prop)(n0 m:Nat)(ops:Array Oper)(st0:St)(pls:List (Option Nat×Pl))(φ0:Phi)(w0:World)(listed:Array Bool)(φ:Phi)(a:Act)(w:World):Prop where
 size:listed.size=ops.size
 closed:∀(j:Nat) o,ops[j]?=some o->seen listed j=true->∀k,k∈CQ o->seen listed k=true
 rel:Lq A0 n0 m st0.n φ (cur (Cy pls) (Av st0.fr) (seen listed) ops.size) (cur (A2 pls) st0.h (seen listed) ops.size) a w
 tr:Tr m φ0 st0.h w0 φ (cur (A2 pls) st0.h (seen listed) ops.size) w
 dom:∀b,φ b≠none->b<st0.hp.length\/∃k x,seen listed k=true/\pls[k]?=some x/\x.2.hp.length<=b/\b<x.2.hp.length+x.2.R.new.length
theorem Pre.seen{ops:Array Oper}{S:Nat->Bool}(hc:∀(j:Nat) o,ops[j]?=some o->S j=true->∀k,k∈CQ o->S k=true){j k:Nat}(h:Pre ops j k):S j=true->S k=true:=by
 induction h with
 | direct h hk=>exact fun hj=>hc _ _ h hj _ hk
 | trans _ _ ih1 ih2=>exact fun hj=>ih2 (ih1 hj)
theorem Pre.ready{ops:Array Oper}{S:Nat->Bool}(hc:∀(j:Nat) o,ops[j]?=some o->S j=true->∀k,k∈CQ o->S k=true){j k:Nat}(h:Pre ops j k):
  (∀o,ops[j]?=some o->∀k,k∈CQ o->S k=true)->S k=true:=by
 induction h with
 | direct h hk=>exact fun hr=>hr _ h _ hk
 | trans h1 h2 ih1 _=>exact fun hr=>Pre.seen hc h2 (ih1 hr)
theorem Gg{listed:Array Bool}{j:Nat}(hj:j<listed.size):seen (listed.setIfInBounds j true)=fun k=>if k=j then true else seen listed k:=by
 funext k;unfold seen;by_cases h:k=j
 .subst h;simp[hj]
 .rw[Vu h];simp[Vp (Ne.symm h)]
theorem UB{m:Nat}{ops:Array Oper}{st0:St}{pls:List (Option Nat×Pl)}(D:DR P m ops st0 pls){A0:Nat->Prop}{n0:Nat}{φ0:Phi}{w0:World}{post:Exit->St->Prop}(hpost:post .normal (AM st0 pls ops.size)):
  ∀(fuel:Nat) (listed:Array Bool) (φ:Phi) (a:Act) (w:World),Inv A0 n0 m ops st0 pls φ0 w0 listed φ a w->(List.range ops.size).countP (fun k=> !seen listed k)<=fuel->
   wpAny P .any ops (RQ A0 n0 m φ0 st0.h w0 post) fuel listed a w:=by
 have fin:∀(listed:Array Bool) (φ:Phi) (a:Act) (w:World),Inv A0 n0 m ops st0 pls φ0 w0 listed φ a w->(∀k,k<ops.size->seen listed k=true)->RQ A0 n0 m φ0 st0.h w0 post .normal a w:=by
  intro listed φ a w I hall
  obtain⟨t1,t2,t3⟩:=D.text ops.size (VH _)
  have e1:cur (Cy pls) (Av st0.fr) (seen listed) ops.size=Av (AM st0 pls ops.size).fr:=by
   funext s;rw[t1 s];exact Kl _ _ _ _ fun k hk _=>hall k hk
  have e2:cur (A2 pls) st0.h (seen listed) ops.size=(AM st0 pls ops.size).h:=by
   funext s;rw[t2 s];exact Kl _ _ _ _ fun k hk _=>hall k hk
  have hr:=I.rel
  have ht:=I.tr
  rw[e1,e2] at hr
  rw[e2] at ht
  refine⟨φ,_,hpost,⟨hr.defs,by rw[t3];exact hr.size,hr.slot,hr.heap,fun b hb=>?_,hr.base,hr.own⟩,Wd D.base (D.mono _),ht⟩
  cases hq:φ b with
  | none=>rfl
  | some v=>
   rcases I.dom b (by simp[hq]) with h | ⟨k,x,_,h2,h3,h4⟩
   .have:=D.mono ops.size;omega
   .have hk:k<ops.size:=by rw[<-D.len];exact(Vx.1 h2).1
    have:=D.nums h2 ops.size hk (VH _);omega
 have done:∀(listed:Array Bool) (φ:Phi) (a:Act) (w:World),Inv A0 n0 m ops st0 pls φ0 w0 listed φ a w->Region.ready .any ops listed=[]->RQ A0 n0 m φ0 st0.h w0 post .normal a w:=by
  intro listed φ a w I hr
  refine fin listed φ a w I fun k=>?_
  induction k using Nat.strongRecOn with
  | _ k ih=>
   intro hk
   cases hs:seen listed k with
   | true=>rfl
   | false=>
    exfalso
    have hmem:k∈Region.ready .any ops listed:=by
     rw[mem_ready]
     refine⟨?_,_,Array.getElem?_eq_getElem hk,fun e he hb=>?_⟩
     .unfold seen at hs
      have:k<listed.size:=by rw[I.size];exact hk
      simpa [this] using hs
     .have hmp:e.on∈CQ ops[k]:=V0.2 ⟨e,List.mem_filter.2 ⟨by simpa using he,hb⟩,rfl⟩
      have hlt:=D.dir k _ (Array.getElem?_eq_getElem hk) _ hmp
      exact ih e.on hlt (by omega)
    rw[hr] at hmem;cases hmem
 intro fuel
 induction fuel with
 | zero=>
  intro listed φ a w I hf
  have hall:∀k,k<ops.size->seen listed k=true:=by
   intro k hk
   have h0:(List.range ops.size).countP (fun k=> !seen listed k)=0:=by omega
   have:=List.countP_eq_zero.1 h0 k (by simpa using hk)
   simpa using this
  refine⟨?_,fin listed φ a w I hall⟩
  cases hr:Region.ready .any ops listed with
  | nil=>rfl
  | cons j r=>
   exfalso
   have hj:j∈Region.ready .any ops listed:=by rw[hr];simp
   obtain⟨h0,o,ho,_⟩:=mem_ready.1 hj
   have hlt:j<ops.size:=(Wf.1 ho).1
   have h1:=hall j hlt
   unfold seen at h1
   have:j<listed.size:=by rw[I.size];exact hlt
   simp[this] at h0 h1
   rw[h0] at h1;cases h1
 | succ fuel ih=>
  intro listed φ a w I hf
  refine⟨done listed φ a w I,fun j hj=>?_⟩
  obtain⟨h0,o,ho,hall⟩:=mem_ready.1 hj
  have hlt:j<ops.size:=(Wf.1 ho).1
  have hltl:j<listed.size:=by rw[I.size];exact hlt
  have hSj:seen listed j=false:=by unfold seen;simpa [hltl] using h0
  have hpre:∀k,k∈CQ o->seen listed k=true:=by
   intro k hk
   obtain⟨e,he,rfl⟩:=V0.1 hk
   obtain⟨he1,he2⟩:=List.mem_filter.1 he
   exact hall e (by simpa using he1) he2
  have hpre2:∀k,Pre ops j k->seen listed k=true:=fun k h=>Pre.ready I.closed h fun o' ho'=>by rw[ho] at ho';cases ho';exact hpre
  have hpost2:∀k,seen listed k=true->¬Pre ops k j:=fun k hk h=>by
   have:=Pre.seen I.closed h hk;rw[hSj] at this;cases this
  obtain⟨pl,hpl,F⟩:=D.pl j o ho
  obtain⟨t1,t2,t3⟩:=D.text j (by omega)
  -- what it reads is as in the text
  have readS:∀s,s∈pl.reads->cur (Cy pls) (Av st0.fr) (seen listed) ops.size s=Av (AM st0 pls j).fr s:=by
   intro s hs
   rw[t1 s]
   refine JK _ _ (by omega) fun k hk hne=>?_
   have hkl:k<pls.length:=by rw[D.len];exact hk
   have hx:=Vv hkl
   have hd:pls[k].1=some s:=by
    unfold Cy at hne
    rw[hx] at hne
    simp only at hne
    split at hne
    .assumption
    .exact absurd rfl hne
   rcases Nat.lt_trichotomy k j with h | h | h
   .rw[VB h]
    rcases D.ap k j _ _ h hx hpl with hp | hp
    .exact hpre2 k hp
    .exact absurd hs (hp.wr s hd)
   .subst h;rw[hSj];simp
   .rw[VA (by omega)]
    cases hsk:seen listed k with
    | false=>rfl
    | true=>
     rcases D.ap j k _ _ h hpl hx with hp | hp
     .exact absurd hp (hpost2 k hsk)
     .exact absurd hs (hp.rw_ s hd)
  have readH:∀b blk,nth pl.hp b=some blk->cur (A2 pls) st0.h (seen listed) ops.size b=(AM st0 pls j).h b:=by
   intro b blk hb
   rw[t2 b]
   refine JK _ _ (by omega) fun k hk hne=>?_
   have hkl:k<pls.length:=by rw[D.len];exact hk
   have hx:=Vv hkl
   have hd:Bs pls[k].2.hp.length pls[k].2.R b≠none:=by unfold A2 at hne;rw[hx] at hne;exact hne
   rcases Nat.lt_trichotomy k j with h | h | h
   .rw[VB h]
    rcases D.ap k j _ _ h hx hpl with hp | hp
    .exact hpre2 k hp
    .exact absurd (hp.hx b blk hb) hd
   .subst h;rw[hSj];simp
   .rw[VA (by omega)]
    cases hsk:seen listed k with
    | false=>rfl
    | true=>
     rcases D.ap j k _ _ h hpl hx with hp | hp
     .exact absurd hp (hpost2 k hsk)
     .exact absurd (hp.hy b blk hb) hd
  -- what it writes stands
  have writeS:∀s,cur (Cy pls) (Av st0.fr) (seen (listed.setIfInBounds j true)) ops.size s=HK o.dst pl.R.v (cur (Cy pls) (Av st0.fr) (seen listed) ops.size) s:=by
   intro s
   rw[Gg hltl,R3 _ _ hSj _ hlt]
   .unfold Cy HK
    rw[hpl]
    simp only
    split<;>rfl
   .intro k hjk hk hsk
    have hkl:k<pls.length:=by rw[D.len];exact hk
    have hx:=Vv hkl
    rcases D.ap j k _ _ hjk hpl hx with hp | hp
    .exact absurd hp (hpost2 k hsk)
    .unfold Cy
     rw[hpl,hx]
     simp only
     by_cases hd:o.dst=some s
     .left;rw[Vu (hp.ww s hd)]
     .right;rw[Vu hd]
  have writeH:∀b,cur (A2 pls) st0.h (seen (listed.setIfInBounds j true)) ops.size b=B1 (AM st0 pls j).hp.length pl.R (cur (A2 pls) st0.h (seen listed) ops.size) b:=by
   intro b
   rw[Gg hltl,R3 _ _ hSj _ hlt]
   .unfold B1
    have:A2 pls j b=Bs (AM st0 pls j).hp.length pl.R b:=by unfold A2;rw[hpl];simp only;rw[F.len]
    rw[this]
   .intro k hjk hk hsk
    have hkl:k<pls.length:=by rw[D.len];exact hk
    have hx:=Vv hkl
    rcases D.ap j k _ _ hjk hpl hx with hp | hp
    .exact absurd hp (hpost2 k hsk)
    .have e1:A2 pls j b=Bs pl.hp.length pl.R b:=by unfold A2;rw[hpl]
     have e2:A2 pls k b=Bs pls[k].2.hp.length pls[k].2.R b:=by unfold A2;rw[hx]
     rw[e1,e2]
     by_cases ha:Bs pl.hp.length pl.R b=none
     .exact .inr ha
     .left
      rcases RP F.fits ha with ⟨blk,hb⟩ | hb
      .exact hp.hy b blk hb
      .cases hk2:Bs pls[k].2.hp.length pls[k].2.R b with
       | none=>rfl
       | some v=>
        exfalso
        obtain⟨ok,hok,_,Fk⟩:=D.of_pl hx
        rcases RP (b:=b) Fk.fits (by simp[hk2]) with ⟨blk,hb2⟩ | hb2
        .exact ha (hp.hx b blk hb2)
        .have:=D.nums hpl k hjk (by omega)
         have e3:=Fk.len
         simp only at this
         omega
  have hsub:∀b blk,nth pl.hp b=some blk->b<(AM st0 pls j).hp.length/\cur (A2 pls) st0.h (seen listed) ops.size b=some blk:=by
   intro b blk hb
   refine⟨?_,by rw[readH b blk hb];exact F.hsub b blk hb⟩
   rcases Wm b (AM st0 pls j).hp.length with h | h
   .exact h
   .have:=F.hsub b blk hb
    rw[Cr,VT h] at this;cases this
  have hnew:∀b,(AM st0 pls j).hp.length<=b->b<(AM st0 pls j).hp.length+pl.R.new.length->φ b=none:=by
   intro b h1 h2
   cases hq:φ b with
   | none=>rfl
   | some v=>
    exfalso
    rcases I.dom b (by simp[hq]) with h | ⟨k,x,g1,g2,g3,g4⟩
    .have:=D.mono j;omega
    .have hk:k<ops.size:=by rw[<-D.len];exact(Vx.1 g2).1
     obtain⟨ok,hok,_,Fk⟩:=D.of_pl g2
     rcases Nat.lt_trichotomy k j with h | h | h
     .have:=D.nums g2 j h (by omega);omega
     .subst h;rw[hSj] at g1;cases g1
     .have:=D.nums hpl k h (by omega)
      have e3:=Fk.len
      have e4:=F.len
      simp only at this
      omega
  have hslots:∀s,VR (BS (AM st0 pls j).hp.length φ) (Ok A0 n0 φ (cur (A2 pls) st0.h (seen listed) ops.size) w) w (Av pl.fr s) (a.tmps.getD s undef):=by
   intro s
   refine VR.cut 4 _ _ ?_ (F.belowS rfl s)
   rcases F.slots s with h | ⟨h1,h2⟩
   .rw[h];exact .imm _ _ (.unk _)
   .rw[h2,<-readS s h1];exact I.rel.slot s
  have hheap:HR (BS (AM st0 pls j).hp.length φ) (Ok A0 n0 φ (cur (A2 pls) st0.h (seen listed) ops.size) w) w (nth pl.hp):=by
   refine⟨fun b blk hb=>?_,fun b blk hb=>I.rel.heap.flat b blk (hsub b blk hb).2,fun b b' r z z' hb hb' h1 h2=>?_⟩
   .obtain⟨k1,k2⟩:=hsub b blk hb
    have hcut:BS (AM st0 pls j).hp.length φ b=φ b:=Vt k1
    rcases I.rel.heap.blk b blk k2 with ⟨g1,g2,g3⟩ | ⟨r,cs,T,g1,g2,g3,g4⟩ | ⟨m,r,g1,g2,g3,g4⟩
    .exact .inl ⟨g1,by rw[hcut];exact g2,g3⟩
    case inr.inr=>exact .inr (.inr ⟨m,r,g1,by rw[hcut];exact g2,g3,g4⟩)
    .refine .inr (.inl ⟨r,cs,T,by rw[hcut];exact g1,g2,g3,fun i e hi=>⟨(g4 i e hi).1,fun q c hq=>?_⟩⟩)
     obtain⟨f1,u,f2,f3⟩:=(g4 i e hi).2 q c hq
     refine⟨f1,u,f2,?_⟩
     have hbl:=F.below rfl b blk hb
     unfold Lz at hbl
     split at hbl
     .rename_i hfl
      exact .imm _ _ (f3.noref_rt (I.rel.heap.flat b blk k2 hfl e (Vz hi) c (Vz hq)))
     .exact VR.cut 3 _ _ f3 (VK.1 (VK.1 hbl e (Vz hi)) c (Vz hq))
   .obtain⟨c1,e1⟩:=Option.isSome_iff_exists.1 hb
    obtain⟨c2,e2⟩:=Option.isSome_iff_exists.1 hb'
    exact I.rel.heap.inj b b' r z z' (by simp[(hsub _ _ e1).2]) (by simp[(hsub _ _ e2).2]) (Dz h1).2 (Dz h2).2
  -- behind the step
  have behind:∀(v':Value) (w':World) (φ1:Phi) (A':Nat->Prop),(∀r,Ok A0 n0 φ (cur (A2 pls) st0.h (seen listed) ops.size) w r->A' r)->(∀r,A' r->Ok A0 n0 φ (cur (A2 pls) st0.h (seen listed) ops.size) w r\/Ko (BS (AM st0 pls j).hp.length φ) (nth pl.hp) pl.R φ1 (AM st0 pls j).hp.length r)->Eff (BS (AM st0 pls j).hp.length φ) A' w (nth pl.hp) (AM st0 pls j).hp.length pl.R v' w' φ1->
    wpAny P .any ops (RQ A0 n0 m φ0 st0.h w0 post) fuel (listed.setIfInBounds j true) (a.put o.dst v') w':=by
   intro v' w' φ1 A' hA1 hA2 he
   obtain⟨φ',s1,s2,s3⟩:=I.rel.step (Wd D.base (D.mono j)) F.dead (fun d hd=>by have:=F.dst d hd;rw[t3] at this;exact this) F.fits hsub hnew hA1 hA2 he
   have eS:cur (Cy pls) (Av st0.fr) (seen (listed.setIfInBounds j true)) ops.size=HK o.dst pl.R.v (cur (Cy pls) (Av st0.fr) (seen listed) ops.size):=funext writeS
   have eH:cur (A2 pls) st0.h (seen (listed.setIfInBounds j true)) ops.size=B1 (AM st0 pls j).hp.length pl.R (cur (A2 pls) st0.h (seen listed) ops.size):=funext writeH
   refine ih _ φ' _ w' ⟨by simpa using I.size,fun i oi hoi hsi k hk=>?_,by rw[eS,eH];exact s1,by rw[eH];exact I.tr.trans s2,fun b hb=>?_⟩ ?_
   .rw[Gg hltl] at hsi ⊢
    simp only at hsi ⊢
    split
    .rfl
    .split at hsi
     .rename_i _ he;subst he;rw[ho] at hoi;cases hoi;exact hpre k hk
     .exact I.closed i oi hoi hsi k hk
   .rcases s3 b hb with h | ⟨h1,h2⟩
    .rcases I.dom b h with h | ⟨k,x,g1,g2,g3,g4⟩
     .exact .inl h
     .refine .inr ⟨k,x,?_,g2,g3,g4⟩
      rw[Gg hltl];simp[g1]
    .refine .inr ⟨j,(o.dst,pl),?_,hpl,by rw[F.len];exact h1,by rw[F.len];exact h2⟩
     rw[Gg hltl];simp
   .have:=UT (p:=fun k=> !seen listed k) (q:=fun k=> !seen (listed.setIfInBounds j true) k) (j:=j) (l:=List.range ops.size) (by simpa using hlt) (by simp[hSj]) (by rw[Gg hltl];simp) fun x hx=>by
     rw[Gg hltl] at hx
     simp only at hx ⊢
     split at hx
     .simp at hx
     .exact hx
    omega
  unfold wpOp
  rw[ho]
  simp only
  have hcutn:∀b,(AM st0 pls j).hp.length<=b->BS (AM st0 pls j).hp.length φ b=none:=fun b hb=>Vu (by omega)
  cases hrun:pl.run with
  | true=>
   obtain⟨hop,hgd⟩:=F.run hrun
   rw[Vt (KW (φ:=φ) (A:=Ok A0 n0 φ (cur (A2 pls) st0.h (seen listed) ops.size) w) (w:=w) fun k want hg=>by
    obtain⟨g,g1,g2,g3⟩:=hgd k want hg
    exact⟨g,g1,by rw[<-g3,<-readS g g2];exact I.rel.slot g⟩)]
   left
   refine hop (BS (AM st0 pls j).hp.length φ) (Ok A0 n0 φ (cur (A2 pls) st0.h (seen listed) ops.size) w) w a _ _ (fun r hA=>⟨hA.2.1,fun hm=>hA.2.2 ?_⟩) (QG hslots) hheap hcutn behind
   obtain⟨b,blk,z,k1,k2,k3⟩:=hm
   exact⟨b,blk,z,(hsub b blk k1).2,k2,(Dz k3).2⟩
  | false=>
   obtain⟨hR,kk,want,g,hg,hk,hgr,hv⟩:=F.skip hrun
   rw[Vu (by
    have:=I.rel.slot g
    rw[readS g hgr] at this
    rw[PY hg hk hv this];simp)]
   refine behind undef w (BS (AM st0 pls j).hp.length φ) _ (fun _ h=>h) (fun _ h=>.inl h) ?_
   rw[hR]
   exact Eff.skip hcutn
variable {P:Program}
def GQ(l:List Nat)(k:Nat):List Nat:=match Bf l k with | true=>l | false=>k::l
def uniN(l r:List Nat):List Nat:=r.foldl GQ l
def F5(acc:List (List Nat))(o:Oper):List Nat:=(CQ o).foldl (fun l k=>uniN (GQ l k) (acc.getD k [])) []
def N0:List Oper->List (List Nat)->List (List Nat) | [],acc=>acc | o::r,acc=>N0 r (acc++[F5 acc o])
theorem R1{l:List Nat}{k x:Nat}(h:x∈GQ l k):x=k\/x∈l:=by
 unfold GQ at h;split at h
 .exact .inr h
 .exact VY.1 h
theorem mem_uniN{r:List Nat}:∀{l:List Nat} {x:Nat},x∈uniN l r->x∈l\/x∈r:=by
 induction r with
 | nil=>intro l x h;exact .inl h
 | cons y r ih=>
  intro l x h;rcases ih (l:=GQ l y) h with h | h
  .rcases R1 h with rfl | h
   .exact .inr (by simp)
   .exact .inl h
  .exact .inr (VN _ h)
theorem TV{acc:List (List Nat)}{o:Oper}{x:Nat}(h:x∈F5 acc o):∃k∈CQ o,x=k\/x∈acc.getD k []:=by
 have key:∀(r l:List Nat) (x:Nat),x∈r.foldl (fun l k=>uniN (GQ l k) (acc.getD k [])) l->x∈l\/∃k∈r,x=k\/x∈acc.getD k []:=by
  intro r;induction r with
  | nil=>intro l x h;exact .inl h
  | cons y r ih=>
   intro l x h;rcases ih _ x h with h | ⟨k,h1,h2⟩
   .rcases mem_uniN h with h | h
    .rcases R1 h with rfl | h
     .exact .inr ⟨_,by simp,.inl rfl⟩
     .exact .inl h
    .exact .inr ⟨y,by simp,.inr h⟩
   .exact .inr ⟨k,VN _ h1,h2⟩
 rcases key _ _ _ h with h | h
 .simp at h
 .exact h
theorem U2{ops:Array Oper}:∀{l:List Oper} {acc:List (List Nat)},(∀(j:Nat) o,l[j]?=some o->ops[acc.length+j]?=some o)->(∀j k,k∈acc.getD j []->Pre ops j k)->
  ∀j k,k∈(N0 l acc).getD j []->Pre ops j k:=by
 intro l;induction l with
 | nil=>intro acc _ h;exact h
 | cons o r ih=>
  intro acc hl h;refine ih (acc:=acc++[F5 acc o]) (fun j o' hj=>?_) fun j k hk=>?_
  .have:=hl (j+1) o' (by simpa using hj);simpa [Nat.add_assoc,Nat.add_comm 1 j] using this
  .rcases Nat.lt_trichotomy j acc.length with hlt | he | hlt
   .have:(acc++[F5 acc o]).getD j []=acc.getD j []:=by simp[List.getD,V5,hlt]
    rw[this] at hk;exact h j k hk
   .subst he;have:(acc++[F5 acc o]).getD acc.length []=F5 acc o:=by simp[List.getD]
    rw[this] at hk;obtain⟨q,h1,h2⟩:=TV hk;have ho:=hl 0 o rfl;simp only[Vk] at ho;rcases h2 with rfl | h2
    .exact .direct ho h1
    .exact .trans (.direct ho h1) (h q k h2)
   .have:(acc++[F5 acc o]).getD j []=[]:=by simp only[List.getD];rw[VT (by simp;omega)];rfl
    rw[this] at hk;simp at hk
def K8(nb:Nat)(R:OpR):Nat->List (Option Blk)->Bool
 | _,[]=>true
 | i,x::r=>(match x with | none=>true | some _=>(Bs nb R i).isNone)&&K8 nb R (i+1) r
def Lx(hp:List (Option Blk))(pl:Pl):Bool:=
 match pl.R.dead,pl.R.chg,pl.R.new with
 | [],[],[]=>true
 | _,_,_=>K8 pl.hp.length pl.R 0 hp
theorem UG{nb:Nat}{R:OpR}:∀{l:List (Option Blk)} {i:Nat},K8 nb R i l=true->∀b blk,nth l b=some blk->Bs nb R (i+b)=none:=by
 intro l;induction l with
 | nil=>intro i _ b blk h;simp[nth] at h
 | cons x r ih=>
  intro i h b blk hb;simp only[K8,VD] at h;cases b with
  | zero=>simp only[nth] at hb;subst hb;simpa using h.1
  | succ b=>have:=ih h.2 b blk hb;rwa [show i+(b+1)=i+1+b by omega]
theorem SV{hp:List (Option Blk)}{pl:Pl}(h:Lx hp pl=true)(b:Nat)(blk:Blk)(hb:nth hp b=some blk):Bs pl.hp.length pl.R b=none:=by
 unfold Lx at h;split at h
 .rename_i h1 h2 h3;unfold Bs;rw[h1,h2,h3];split
  .rfl
  .rw[Vu (by simp;omega)]
 .have:=UG h b blk hb
  rwa [VL] at this
def optIs:Option Nat->Nat->Bool | some x,d=>Nat.beq x d | none,_=>false
def Ls(x y:Option Nat×Pl):Bool:=
 (match x.1 with | none=>true | some d=> !optIs y.1 d&&!Bf y.2.reads d)&&(match y.1 with | none=>true | some d=> !Bf x.2.reads d)&&Lx y.2.hp x.2&&Lx x.2.hp y.2
theorem UH{x y:Option Nat×Pl}(h:Ls x y=true):Ap x y:=by
 simp only[Ls,VD] at h;obtain⟨⟨⟨h1,h2⟩,h3⟩,h4⟩:=h;have nm:∀{l:List Nat} {d:Nat},(!Bf l d)=true->d∉l:=fun h hm=>by rw[CM.2 hm] at h;cases h
 refine⟨fun d hd he=>?_,fun d hd=>?_,fun d hd=>?_,SV h3,SV h4⟩
 .rw[hd] at h1;simp only[VD] at h1;rw[he] at h1;simp[optIs] at h1
 .rw[hd] at h1;simp only[VD] at h1;exact nm h1.2
 .rw[hd] at h2;exact nm h2
def Lp(pres:List (List Nat)):Nat->List (Option Nat×Pl)->List (Nat×(Option Nat×Pl))->Bool | _,[],_=>true | j,y::r,es=>es.all (fun x=>Bf (pres.getD j []) x.1||Ls x.2 y)&&Lp pres (j+1) r ((j,y)::es)
theorem TM{pres:List (List Nat)}{pls:List (Option Nat×Pl)}:∀{l:List (Option Nat×Pl)} {j:Nat} {es:List (Nat×(Option Nat×Pl))},Lp pres j l es=true->
  (∀k,l[k]?=pls[j+k]?)->(∀i x,i<j->pls[i]?=some x->(i,x)∈es)->∀i k x y,j<=k->i<k->pls[i]?=some x->pls[k]?=some y->Bf (pres.getD k []) i=true\/Ls x y=true:=by
 intro l;induction l with
 | nil=>intro j es _ hl _ i k x y hjk _ _ hy;have:=hl (k-j);rw[show j+(k-j)=k by omega,hy] at this;simp at this
 | cons z r ih=>
  intro j es h hl hes i k x y hjk hik hx hy;simp only[Lp,VD] at h;have hz:pls[j]?=some z:=by have:=hl 0;simpa using this.symm
  rcases Wm j k with hlt | hge
  .refine ih h.2 (fun q=>?_) (fun i' x' hi' hx'=>?_) i k x y (by omega) hik hx hy
   .have:=hl (q+1);simpa [Nat.add_assoc,Nat.add_comm 1 q] using this
   .rcases Wm i' j with h1 | h1
    .exact VN _ (hes i' x' h1 hx')
    .have:i'=j:=by omega
     subst this;rw[hz] at hx';cases hx';simp
  .have:k=j:=by omega
   subst this;rw[hz] at hy;cases hy;have:=VK.1 h.1 _ (hes i x hik hx);simpa using this
def Lb:Nat->List Oper->Bool | _,[]=>true | j,o::r=>(CQ o).all (fun k=>Nat.blt k j)&&Lb (j+1) r
theorem TW:∀{l:List Oper} {j:Nat},Lb j l=true->∀(k:Nat) o,l[k]?=some o->∀q,q∈CQ o->q<j+k:=by
 intro l;induction l with
 | nil=>intro j _ k o h;simp at h
 | cons x r ih=>
  intro j h k o hk q hq;simp only[Lb,VD] at h;cases k with
  | zero=>simp at hk;subst hk;exact VU (show Nat.ble (q+1) j=true from VK.1 h.1 q hq)
  | succ k=>have:=ih h.2 k o (by simpa using hk) q hq;omega
def JH(P:Program)(H:HT)(m:Nat)(ops:Array Oper)(dr:Bool)(st:St):Option (St×Prop):=
 match EG P H dr m ops ops.toList st with
 | some (pls,st',p)=>match dr with
  | false=>some (st',p)
  | true=>match Lb 0 ops.toList&&Lp (N0 ops.toList []) 0 pls [] with
   | true=>some (st',p)
   | false=>none
 | none=>none
theorem VR.drawn{φ:Phi}{A:Nat->Prop}{w:World}{n:Nat}{c:AV}{v:Value}(h:VR φ A w c v):VR φ A {w with drawn:=n} c v:=h.mono (fun _ _ h=>h) (fun _ h=>h) (fun _ _=>rfl) (fun _=>VH _)
theorem T.region{H:HT}{m id:Nat}{ops:Array Oper}{dr:Bool}{st st':St}{p:Prop}{post:Exit->St->Prop}(hmix:P.follows .mixedOrders=true)(h:JH P H m ops dr st=some (st',p))(hp:p)
  (hpost:post .normal st'):T P m (.region id ops dr) st post:=by
 intro A0 n0 φ a w hm hr;unfold JH at h;split at h
 case h_2=>cases h
 rename_i pls st1 q hev;split at h
 .cases h;exact wp_region_list (TX hev hp hm hr fun φ' a' w' g1 g2 g3=>⟨φ',_,hpost,g2,g1,g3⟩)
 .split at h
  case h_2=>cases h
  rename_i hc;cases h;simp only[VD] at hc;obtain⟨g1,g2,g3⟩:=Uf hev hp;have hlen:ops.toList.length=ops.size:=by simp
  rw[hlen] at g2 g1;have D:DR P m ops st pls:=by
   refine⟨g1,fun j o ho=>g3 j o (by simpa using ho),fun j o ho k hk=>?_,fun i j x y hij hx hy=>?_,hm⟩
   .have:=TW hc.1 j o (by simpa using ho) k hk;omega
   .rcases TM hc.2 (pls:=pls) (fun k=>by rw[VL]) (fun i x hi=>by omega) i j x y (VI _) hij hx hy with h | h
    .left;refine U2 (ops:=ops) (l:=ops.toList) (acc:=[]) (fun j o hj=>by simpa using hj) (fun j k hk=>by simp at hk) j i (CM.1 h)
    .exact .inr (UH h)
  refine wp_region_any hmix (UB D (by rw[<-g2];exact hpost) ops.size _ φ a _ ⟨by simp,fun j o ho hs=>?_,?_,?_,fun b hb=>?_⟩ ?_)
  .have:seen (Array.replicate ops.size false) j=false:=by unfold seen;simp only[Array.getD_eq_getD_getElem?,Array.getElem?_replicate];split<;>rfl
   rw[this] at hs;cases hs
  .have hseen:∀k,seen (Array.replicate ops.size false) k=false:=by intro k;unfold seen;simp only[Array.getD_eq_getD_getElem?,Array.getElem?_replicate];split<;>rfl
   have e1:cur (Cy pls) (Av st.fr) (seen (Array.replicate ops.size false)) ops.size=Av st.fr:=by funext s;exact JK (Cy pls) (Av st.fr) (j:=0) (VI _) fun k _ _=>by rw[hseen];simp
   have e2:cur (A2 pls) st.h (seen (Array.replicate ops.size false)) ops.size=st.h:=by funext s;exact JK (A2 pls) st.h (j:=0) (VI _) fun k _ _=>by rw[hseen];simp
   rw[e1,e2];refine⟨hr.defs,hr.size,fun s=>(hr.slot s).drawn,⟨fun b blk hb=>?_,hr.heap.flat,hr.heap.inj⟩,hr.base,hr.own⟩;rcases hr.heap.blk b blk hb with h | ⟨r,cs,T,k1,k2,k3,k4⟩ | h
   .exact .inl h
   .exact .inr (.inl ⟨r,cs,T,k1,k2,k3,fun i e hi=>⟨(k4 i e hi).1,fun j c hj=>by
     obtain⟨f1,u,f2,f3⟩:=(k4 i e hi).2 j c hj;exact⟨f1,u,f2,f3.drawn⟩⟩⟩)
   .exact .inr (.inr h)
  .have hseen:∀k,seen (Array.replicate ops.size false) k=false:=by intro k;unfold seen;simp only[Array.getD_eq_getD_getElem?,Array.getElem?_replicate];split<;>rfl
   have e2:cur (A2 pls) st.h (seen (Array.replicate ops.size false)) ops.size=st.h:=by funext s;exact JK (A2 pls) st.h (j:=0) (VI _) fun k _ _=>by rw[hseen];simp
   rw[e2];exact⟨fun _ _=>rfl,⟨rfl,rfl,rfl,VH _,fun _ _ _=>rfl,fun _=>VH _⟩,fun _ h=>.inl h⟩
  .rcases Wm b st.hp.length with h | h
   .exact .inl h
   .exact absurd (hr.out b h) hb
  .exact Wd List.countP_le_length (by simp)
inductive Kt where | code (c:Code) | blk (id:Nat) | rnd (c:Code)
def TL(P:Program)(m:Nat)(c:Code)(st:St)(post:Exit->St->Prop):Prop:=∀A0 n0 φ a w,m<=st.hp.length->Rel A0 n0 m φ st a w->∀b k cs,∃e a' w',RQ A0 n0 m φ st.h w post e a' w'/\Arrives P (lone (b.at a (.code c:: .inLoop c::k)) cs w) b k cs e a' w'
theorem T.of_TL{m:Nat}{c:Code}{st:St}{post:Exit->St->Prop}(h:TL P m c st post):T P m (.loop c) st post:=by intro A0 n0 φ a w hm hr b k cs;obtain⟨e,a',w',hq,harr⟩:=h A0 n0 φ a w hm hr b k cs;exact⟨e,a',w',hq,.of_steps (.one step_loop) harr⟩
theorem TL.round{m:Nat}{c:Code}{st:St}{post:Exit->St->Prop}(h:T P m c st (andThen (fun s=>TL P m c s post) post)):TL P m c st post:=by
 intro A0 n0 φ a w hm hr b k cs;obtain⟨e,a1,w1,hq,harr⟩:=h A0 n0 φ a w hm hr b (.inLoop c::k) cs;obtain⟨φ1,st1,h1,h2,h3,h4⟩:=hq;cases e with
 | normal=>obtain⟨e2,a2,w2,hq2,harr2⟩:=h1 A0 n0 φ1 a1 w1 h3 h2 b k cs;exact⟨e2,a2,w2,hq2.trans h4,.of_steps (Steps.trans harr (.one step_inLoop)) harr2⟩
 | exit id=>exact⟨_,a1,w1,⟨φ1,st1,h1,h2,h3,h4⟩,.pass (x:=.inLoop c) rfl (fun _ _=>.inl (by simp)) harr⟩
 | goto l=>exact⟨_,a1,w1,⟨φ1,st1,h1,h2,h3,h4⟩,.pass (x:=.inLoop c) rfl (fun _ _=>.inl (by simp)) harr⟩
 | ret=>exact⟨_,a1,w1,⟨φ1,st1,h1,h2,h3,h4⟩,.pass (x:=.inLoop c) rfl (fun _ _=>.inl (by simp)) harr⟩
 | panic ch=>exact⟨_,a1,w1,⟨φ1,st1,h1,h2,h3,h4⟩,.pass (x:=.inLoop c) rfl (fun _ _=>.inl (by simp)) harr⟩
 | outgrown=>exact⟨_,a1,w1,⟨φ1,st1,h1,h2,h3,h4⟩,.pass (x:=.inLoop c) rfl (fun _ _=>.inl (by simp)) harr⟩
inductive Out where | done (e:Exit) | loop (c:Code) (k:List Kt)
def TK(P:Program)(m:Nat)(post:Exit->St->Prop):List Kt->Exit->St->Prop
 | [],e,st=>post e st
 | .code c::k,e,st=>match e with
  | .normal=>T P m c st (TK P m post k)
  | e=>TK P m post k e st
 | .blk id::k,e,st=>Cz id (TK P m post k) e st
 | .rnd c::k,e,st=>match e with
  | .normal=>TL P m c st (TK P m post k)
  | e=>TK P m post k e st
def IX(id:Nat):Exit->Exit
 | .exit id'=>match Nat.beq id' id with | true=>.normal | false=>.exit id'
 | e=>e
def CJ:Operand->Nat | .tmp g=>g | _=>1000000
def Ex(p:Prop):Option (Out×St×Prop)->Option (Out×St×Prop) | some (o,s,q)=>some (o,s,p/\q) | none=>none
def go(P:Program)(H:HT)(m:Nat):Nat->Code⊕Exit->List Kt->St->Option (Out×St×Prop)
 | 0,_,_,_=>none
 | n+1,.inl c,k,st=>match c with
  | .seq a b=>go P H m n (.inl a) (.code b::k) st
  | .block id c=>go P H m n (.inl c) (.blk id::k) st
  | .region _ ops dr=>match JH P H m ops dr st with
   | some (st',p)=>Ex p (go P H m n (.inr .normal) k st')
   | none=>none
  | .cond x c d=>match st.ev x with
   | .bool b=>match (gd H (CJ x) b).1 with
    | true=>Ex (gd H (CJ x) b).2 (go P H m n (.inl c) k st)
    | false=>Ex (gd H (CJ x) b).2 (go P H m n (.inl d) k st)
   | _=>none
  | .skip=>go P H m n (.inr .normal) k st
  | .ret=>go P H m n (.inr .ret) k st
  | .exit id=>go P H m n (.inr (.exit id)) k st
  | .loop c=>match H.unroll with
   | true=>go P H m n (.inl c) (.rnd c::k) st
   | false=>some (.loop c k,st,True)
  | _=>none
 | n+1,.inr e,k,st=>match k with
  | []=>some (.done e,st,True)
  | .code c::k=>match e with
   | .normal=>go P H m n (.inl c) k st
   | e=>go P H m n (.inr e) k st
  | .blk id::k=>go P H m n (.inr (IX id e)) k st
  | .rnd c::k=>match e with
   | .normal=>go P H m n (.inl c) (.rnd c::k) st
   | e=>go P H m n (.inr e) k st
def C5(P:Program)(m:Nat)(post:Exit->St->Prop)(st:St):Out->Prop | .done e=>post e st | .loop c k=>T P m (.loop c) st (TK P m post k)
theorem Q0{H:HT}{m:Nat}{post:Exit->St->Prop}(hmix:P.follows .mixedOrders=true):∀(n:Nat) (c:Code⊕Exit) (k:List Kt) (st:St) (o:Out) (st':St) (p:Prop),
  go P H m n c k st=some (o,st',p)->p->C5 P m post st' o->match c with
   | .inl c=>T P m c st (TK P m post k)
   | .inr e=>TK P m post k e st:=by
 have hcj:∀{p:Prop} {x:Option (Out×St×Prop)} {o:Out} {st':St} {q:Prop},Ex p x=some (o,st',q)->∃q',x=some (o,st',q')/\q=(p/\q'):=by
  intro p x o st' q h;unfold Ex at h;split at h
  .cases h;exact⟨_,rfl,rfl⟩
  .cases h
 intro n;induction n with
 | zero=>intro c k st o st' p h;simp[go] at h
 | succ n ih=>
  intro c k st o st' p h hp hrest;cases c with
  | inl c=>
   cases c<;>simp only[go] at h
   case seq a b=>refine T.seq ((ih _ _ _ _ _ _ h hp hrest).mono fun e s hs=>?_);cases e<;>exact hs
   case block id c=>refine T.block ((ih _ _ _ _ _ _ h hp hrest).mono fun e s hs=>?_);exact hs
   case region id ops dr=>
    split at h
    .rename_i st1 p1 h1;obtain⟨q,h2,rfl⟩:=hcj h;exact T.region hmix h1 hp.1 (ih _ _ _ _ _ _ h2 hp.2 hrest)
    .cases h
   case cond x c d=>
    split at h
    .rename_i b hb;split at h
     .rename_i hg;obtain⟨q,h2,rfl⟩:=hcj h;exact T.cond_true (by rw[hb,En hp.1,hg]) (ih _ _ _ _ _ _ h2 hp.2 hrest)
     .rename_i hg;obtain⟨q,h2,rfl⟩:=hcj h;exact T.cond_false (by rw[hb,En hp.1,hg]) (ih _ _ _ _ _ _ h2 hp.2 hrest)
    .cases h
   case skip=>exact T.skip (ih _ _ _ _ _ _ h hp hrest)
   case ret=>exact T.ret (ih _ _ _ _ _ _ h hp hrest)
   case exit id=>exact T.exit (ih _ _ _ _ _ _ h hp hrest)
   case loop c=>
    split at h
    .refine T.of_TL (TL.round ((ih _ _ _ _ _ _ h hp hrest).mono fun e s hs=>?_));cases e<;>exact hs
    .cases h;exact hrest
   all_goals cases h
  | inr e=>
   cases k with
   | nil=>simp only[go] at h;cases h;exact hrest
   | cons x k=>
    cases x with
    | code c=>
     cases e<;>simp only[go] at h
     case normal=>exact ih _ _ _ _ _ _ h hp hrest
     all_goals exact ih _ _ _ _ _ _ h hp hrest
    | rnd c=>
     cases e<;>simp only[go] at h
     case normal=>refine TL.round ((ih _ _ _ _ _ _ h hp hrest).mono fun e s hs=>?_);cases e<;>exact hs
     all_goals exact ih _ _ _ _ _ _ h hp hrest
    | blk id=>
     simp only[go] at h;have:=ih _ _ _ _ _ _ h hp hrest;cases e<;>simp only[IX] at this
     case exit id'=>
      show Cz id _ _ _;simp only[Cz];split at this
      .rename_i hb;rw[Vt (VC hb)];exact this
      .rename_i hb;rw[Vu (fun e=>by rw[e,Nat.beq_refl] at hb;cases hb)];exact this
     all_goals exact this
theorem T.run{H:HT}{m n:Nat}{c:Code}{st:St}{post:Exit->St->Prop}{o:Out}{st':St}{p:Prop}(hmix:P.follows .mixedOrders=true)(h:go P H m n (.inl c) [] st=some (o,st',p))(hp:p)(hr:C5 P m post st' o): T P m c st post:=Q0 hmix n (.inl c) [] st o st' p h hp hr
def Kq(m:Nat)(σ fz:List Nat):Bool:=C0 σ&&Hd m 0 σ&&fz.all (fun b=>Nat.ble m b&&!Bf σ b)
theorem JL{m:Nat}{σ fz vars:List Nat}{st st':St}{p:Prop}(h:Kq m σ fz=true)(hr:st.ren σ fz vars=some (st',p))(hp:p):Ren m st st':=by simp only[Kq,VD] at h;exact Ren.of σ fz vars hr hp h.1.1 h.1.2 h.2
def J4:Exit->Bool | .normal=>true | .ret=>true | _=>false
def endF(P:Program)(fn:Func)(m:Nat)(σ fz:List Nat):Option (Out×St×Prop)->Option (List (Option Blk)×AV×Prop)
 | some (.done e,st,p)=>match J4 e&&Nat.blt 0 st.n,Jw P fn st with
  | true,some v=>match Kq m σ fz,St.ren {st with fr:=[(0,v)]} σ fz [0] with
   | true,some (s,q)=>some (s.hp,Av s.fr 0,p/\q)
   | _,_=>none
  | _,_=>none
 | _=>none
theorem zF{fn:Func}{m:Nat}{σ fz:List Nat}{x:Option (Out×St×Prop)}{hout:List (Option Blk)}{res:AV}{p:Prop}(h:endF P fn m σ fz x=some (hout,res,p))(hp:p):
  ∃o st q,x=some (o,st,q)/\q/\C5 P m (Fin P fn m hout res) st o:=by
 unfold endF at h;split at h
 case h_2=>cases h
 rename_i e st q;split at h
 case h_2=>cases h
 rename_i v h1 h2;split at h
 case h_2=>cases h
 rename_i s q' h3 h4;cases h;simp only[VD] at h1;refine⟨_,_,_,rfl,hp.1,?_,v,s,h2,JL h3 h4 hp.2,rfl,rfl,VU h1.2⟩;cases e<;>simp[J4] at h1<;>simp
def go2(P:Program)(H:HT)(m n:Nat)(c:Code)(k:List Kt)(st:St):Option (Out×St×Prop):=
 match go P H m n (.inl c) [] st with
 | some (.done e,st',p)=>match e with
  | .normal=>none
  | e=>Ex p (go P H m n (.inr e) k st')
 | _=>none
theorem T.path{H:HT}{m n:Nat}{c:Code}{st:St}{post:Exit->St->Prop}(hmix:P.follows .mixedOrders=true)(h:∃o st' q,go P H m n (.inl c) [] st=some (o,st',q)/\q/\C5 P m post st' o):T P m c st post:=by obtain⟨o,st',q,h1,h2,h3⟩:=h;exact T.run hmix h1 h2 h3
theorem T.out{H:HT}{m n:Nat}{c:Code}{k:List Kt}{st:St}{post:Exit->St->Prop}{R:St->Prop}(hmix:P.follows .mixedOrders=true)(h:∃o st' q,go2 P H m n c k st=some (o,st',q)/\q/\C5 P m post st' o):
  T P m c st (andThen R (TK P m post k)):=by
 obtain⟨o,st',q,h1,h2,h3⟩:=h;unfold go2 at h1;split at h1
 case h_2=>cases h1
 rename_i e st1 p hg;have key:∀{o:Out} {st':St} {q:Prop},Ex p (go P H m n (.inr e) k st1)=some (o,st',q)->q->C5 P m post st' o->e≠.normal->T P m c st (andThen R (TK P m post k)):=by
  intro o st' q hc hq hr hne;unfold Ex at hc;split at hc
  .rename_i o' s' q' hg2;cases hc;have h4:=Q0 hmix n (.inr e) k st1 _ _ _ hg2 hq.2 hr;refine T.run hmix hg hq.1 ?_;show andThen R (TK P m post k) e st1;cases e<;>first | exact absurd rfl hne | exact h4
  .cases hc
 cases e<;>simp only at h1
 case normal=>cases h1
 all_goals exact key h1 h2 h3 (by simp)
theorem CT.path{f:FuncId}{fn:Func}{c:Code}{hin hout:List (Option Blk)}{args:List AV}{res:AV}{H:HT}{n:Nat}(hmix:P.follows .mixedOrders=true)(hf:P.funcs[f]?=some fn)(hb:fn.body=some c)(hn:args.length<=fn.ntmps) (h:∃o st' q,go P H hin.length n (.inl c) [] {n:=fn.ntmps,fr:=Ct 0 args,hp:=hin}=some (o,st',q)/\q/\C5 P hin.length (Fin P fn hin.length hout res) st' o):CT P f hin args hout res:=CT.of hf hb hn (T.path hmix h)
abbrev iN(n:Nat):Int:=n
def zB(f:Func):Code:=f.body.getD .skip
theorem aj{a b:Prop}(x:a)(y:b):a/\b:=⟨x,y⟩
theorem ak{b:Prop}(y:b):True/\b:=⟨trivial,y⟩
theorem al{a:Prop}(x:a):a/\True:=⟨x,trivial⟩
theorem t2:True/\True:=⟨trivial,trivial⟩
theorem s2:(True/\True)/\True:=⟨t2,trivial⟩
theorem t3:True/\True/\True:=⟨trivial,t2⟩
theorem t4:True/\True/\True/\True:=⟨trivial,t3⟩
theorem t5:True/\True/\True/\True/\True:=⟨trivial,t4⟩
theorem t6:True/\True/\True/\True/\True/\True:=⟨trivial,t5⟩
theorem t7:True/\True/\True/\True/\True/\True/\True:=⟨trivial,t6⟩
theorem t8:True/\True/\True/\True/\True/\True/\True/\True:=⟨trivial,t7⟩
theorem t9:True/\True/\True/\True/\True/\True/\True/\True/\True:=⟨trivial,t8⟩
theorem n11:Nat.le (nat_lit 1) (nat_lit 1):=VU rfl
theorem ag{a b:Prop}(x:a)(y:b):(a/\True/\True)/\b:=⟨⟨x,t2⟩,y⟩
theorem u2{b:Prop}(y:b):(True/\True)/\b:=⟨t2,y⟩
theorem k2{b:Prop}(y:b):True/\True/\b:=⟨trivial,trivial,y⟩
theorem k3{b:Prop}(y:b):True/\True/\True/\b:=⟨trivial,trivial,trivial,y⟩
theorem k5{b:Prop}(y:b):True/\True/\True/\True/\True/\b:=⟨trivial,trivial,trivial,trivial,trivial,y⟩
theorem aa{a:Prop}(x:a):(True/\True)/\(True/\True)/\a:=u2 (u2 x)
theorem ab{a b c:Prop}(x:a)(y:b)(z:c):a/\b/\c:=aj x (aj y z)
theorem ae{a b c:Prop}(x:a)(y:b)(z:c):(a/\True/\True)/\(b/\True/\True)/\c:=ag x (ag y z)
theorem af{a b:Prop}(x:a)(y:b):a/\b/\True:=aj x (al y)
theorem ah{a:Prop}(x:a):(True/\True)/\(True/\True)/\(True/\True)/\(True/\True)/\a:=aa (aa x)
theorem ai{a b:Prop}(x:a)(y:b):(a/\True/\True)/\(a/\True/\True)/\b:=ae x x y
theorem am{a:Prop}(x:a):(True/\True)/\(True/\True)/\(True/\True)/\a:=u2 (aa x)
theorem an{a b:Prop}(x:a)(y:b):True/\True/\a/\b:=k2 (aj x y)
theorem ar{a b c:Prop}(x:a)(y:b)(z:c):(a/\b)/\c:=aj (aj x y) z
theorem au:True/\True/\Nat.le (nat_lit 1) (nat_lit 1):=k2 n11
theorem aw:(True/\True)/\(True/\True)/\True:=u2 s2
theorem ax{a b c:Prop}(x:a)(y:b)(z:c):a/\b/\c/\True:=ab x y (al z)
theorem ay{a:Prop}(x:a):True/\a/\True:=ak (al x)
theorem az{a:Prop}(x:a):a/\True/\True:=aj x t2
theorem aA{a b c:Prop}(x:a)(y:b)(z:c):(a/\True/\True)/\(a/\True/\True)/\(b/\True/\True)/\(b/\True/\True)/\c:=ai x (ai y z)
theorem aB{a b c:Prop}(x:a)(y:b)(z:c):(True/\True/\a/\b)/\c:=aj (an x y) z
theorem aC{a b:Prop}(x:a)(y:b):a/\a/\b:=ab x x y
theorem aD:(True/\True/\True)/\True:=al t3
theorem aE:(True/\True)/\(True/\True)/\(True/\True)/\True:=aa s2
theorem aF{a b c:Prop}(x:a)(y:b)(z:c):(a/\b/\True)/\c:=aj (af x y) z
theorem aG{a b:Prop}(x:a)(y:b):(True/\True)/\a/\b:=u2 (aj x y)
theorem aH{a b c:Prop}(x:a)(y:b)(z:c):a/\a/\b/\b/\c:=aC x (aC y z)
theorem aI{a b:Prop}(x:a)(y:b):(a/\True/\True)/\(a/\True/\True)/\(a/\True/\True)/\(a/\True/\True)/\b:=aA x x y
theorem aJ{a b c:Prop}(x:a)(y:b)(z:c):(a/\b/\True)/\c/\True:=af (af x y) z
theorem aK{a b c d:Prop}(x:a)(y:b)(z:c)(w:d):(a/\b)/\(c/\True/\True)/\d:=ar x y (ag z w)
theorem aL{a:Prop}(x:a):((True/\True)/\(True/\True)/\(True/\True)/\a)/\True:=al (am x)
theorem aM{a:Prop}(x:a):True/\True/\a/\True:=k2 (al x)
theorem aN{a:Prop}(x:a):True/\True/\True/\True/\a:=ak (k3 x)
theorem aO{a b:Prop}(x:a)(y:b):a/\(True/\True)/\b:=aj x (u2 y)
theorem aP:True/\True/\True/\True/\True/\True/\True/\True/\True/\True/\True/\True/\True/\True:=k5 t9
theorem aQ{a b c:Prop}(x:a)(y:b)(z:c):(a/\True/\True)/\(b/\True/\True)/\(b/\True/\True)/\c:=ag x (ai y z)
theorem aR{a:Prop}(x:a):((True/\True)/\(True/\True)/\a)/\True:=al (aa x)
theorem aS:True/\(True/\True/\Nat.le (nat_lit 1) (nat_lit 1))/\True:=ay au
theorem aT:(True/\True/\True/\True/\True/\True/\True/\True/\True/\True/\True/\True/\True/\True)/\True:=al aP
theorem aU{a b:Prop}(x:a)(y:b):True/\a/\b:=ak (aj x y)
theorem aV{a b c:Prop}(x:a)(y:b)(z:c):a/\b/\(c/\True/\True)/\True:=ax x y (az z)
theorem aW{a b c:Prop}(x:a)(y:b)(z:c):(a/\b)/\(a/\True/\True)/\c:=aK x y x z
theorem aX{a b:Prop}(x:a)(y:b):(a/\True/\True)/\(a/\True/\True)/\(a/\True/\True)/\(a/\True/\True)/\(True/\True)/\b:=aI x (u2 y)
theorem aY:(True/\True/\Nat.le (nat_lit 1) (nat_lit 1))/\True/\True:=az au
theorem aZ{a b:Prop}(x:a)(y:b):a/\a/\a/\a/\b:=aH x x y
theorem ba:(True/\True)/\(True/\True)/\(True/\True)/\(True/\True)/\(True/\True)/\True:=ah s2
theorem bb{a b:Prop}(x:a)(y:b):(True/\True)/\(True/\True)/\(True/\True)/\a/\b:=am (aj x y)
theorem bc{a b:Prop}(x:a)(y:b):True/\a/\b/\True:=ak (af x y)
theorem be{a b:Prop}(x:a)(y:b):a/\(b/\True/\True)/\True:=af x (az y)
theorem bf{a b:Prop}(x:a)(y:b):(True/\True/\True)/\a/\b:=ab t3 x y
theorem bg{a b:Prop}(x:a)(y:b):(True/\True)/\(True/\True)/\a/\b:=aa (aj x y)
theorem bh{a b:Prop}(x:a)(y:b):(a/\b)/\True/\True:=ar x y t2
theorem bj{a b:Prop}(x:a)(y:b):(a/\True/\True)/\(True/\True)/\b:=ag x (u2 y)
theorem bm{a b c d:Prop}(x:a)(y:b)(z:c)(w:d):(a/\b/\c/\True)/\d:=aj (ax x y z) w
theorem bn:True/\(True/\True)/\True:=ak s2
theorem bo{a:Prop}(x:a):(True/\True)/\a/\True:=u2 (al x)
theorem bp{a b:Prop}(x:a)(y:b):True/\True/\True/\True/\True/\a/\b:=k5 (aj x y)
theorem bq{a b:Prop}(x:a)(y:b):a/\b/\True/\True:=ab x y t2
theorem bt{a b:Prop}(x:a)(y:b):(a/\True/\True)/\(a/\True/\True)/\(a/\True/\True)/\b:=aQ x x y
theorem bu{a:Prop}(x:a):True/\True/\True/\True/\a/\True:=aN (al x)
theorem bv{a b c d:Prop}(x:a)(y:b)(z:c)(w:d):(a/\b)/\c/\d:=ab (aj x y) z w
theorem bx{a:Prop}(x:a):a/\((True/\True)/\(True/\True)/\True)/\True:=af x aw
theorem bz{a:Prop}(x:a):((True/\True)/\a)/\True:=al (u2 x)
theorem bB{a b:Prop}(x:a)(y:b):True/\True/\True/\a/\b:=k3 (aj x y)
theorem bC{a:Prop}(x:a):((True/\True)/\(True/\True)/\(True/\True)/\(True/\True)/\a)/\True:=al (ah x)
theorem bD{a:Prop}(x:a):(True/\True/\True)/\(True/\True)/\a:=aO t3 x
theorem bE{a:Prop}(x:a):(a/\True/\True)/\True:=al (az x)
theorem bF{a b c:Prop}(x:a)(y:b)(z:c):(a/\b/\True)/\(c/\True/\True)/\True:=aJ x y (az z)
theorem bG:((True/\True/\True)/\True)/\True:=al aD
theorem bH{a b c:Prop}(x:a)(y:b)(z:c):(True/\True/\a/\b)/\(True/\True)/\c:=aB x y (u2 z)
theorem bI{a b c:Prop}(x:a)(y:b)(z:c):(a/\True/\b/\True)/\c:=ar x (ay y) z
theorem bJ:(True/\True/\True/\True/\True/\True)/\True:=al t6
theorem bL{a:Prop}(x:a):True/\True/\True/\True/\True/\True/\a:=ak (k5 x)
theorem bM:True/\(True/\True/\Nat.le (nat_lit 1) (nat_lit 1))/\True/\True:=ak aY
theorem bN{a b c:Prop}(x:a)(y:b)(z:c):(True/\True)/\(True/\True)/\(True/\True/\a/\b)/\c:=aa (aB x y z)
theorem bO{a:Prop}(x:a):(a/\(True/\True)/\True)/\True/\True:=bh x s2
theorem bP{a b:Prop}(x:a)(y:b):(True/\True)/\(True/\True)/\(True/\True)/\(True/\True)/\a/\b:=ah (aj x y)
theorem bQ{a b:Prop}(x:a)(y:b):(True/\a/\True)/\b/\True:=af (ay x) y
theorem bR:((True/\True)/\True/\True)/\True:=bz t2
theorem bS{a b c d:Prop}(x:a)(y:b)(z:c)(w:d):(a/\True/\True)/\(a/\True/\True)/\(a/\True/\True)/\(a/\True/\True)/\(b/\c)/\(b/\True/\True)/\d:=aI x (aW y z w)
theorem bT{a b c:Prop}(x:a)(y:b)(z:c):(a/\b)/\(c/\True/\True)/\True:=be (aj x y) z
theorem bU{a b:Prop}(x:a)(y:b):a/\a/\(b/\True/\True)/\True:=aV x x y
theorem bW{a:Prop}(x:a):a/\a/\(a/\True/\True)/\True:=bU x x
theorem bX{a b:Prop}(x:a)(y:b):a/\((True/\True)/\(True/\True)/\(True/\True)/\b)/\True:=af x (am y)
theorem bY:(True/\True)/\(True/\True)/\True/\True:=aa t2
theorem bZ{a b c d:Prop}(x:a)(y:b)(z:c)(w:d):(a/\b/\True)/\(True/\True/\True)/\c/\d:=aF x y (bf z w)
theorem b4{a b:Prop}(x:a)(y:b):(a/\((True/\True)/\(True/\True)/\(True/\True)/\True)/\True)/\b:=aF x aE y
theorem b6{a b c:Prop}(x:a)(y:b)(z:c):(a/\True/\True)/\(a/\True/\True)/\(a/\True/\True)/\(a/\True/\True)/\(a/\b)/\(a/\True/\True)/\c:=bS x x y z
theorem b7{a b c:Prop}(x:a)(y:b)(z:c):a/\(True/\b)/\c:=ab x (ak y) z
theorem b8{a b c:Prop}(x:a)(y:b)(z:c):a/\a/\(b/\True/\True)/\(True/\True)/\c:=aC x (bj y z)
theorem b9{a b c d:Prop}(x:a)(y:b)(z:c)(w:d):a/\b/\True/\c/\d:=ab x y (aU z w)
theorem ca:(True/\True)/\(True/\True/\Nat.le (nat_lit 1) (nat_lit 1))/\True/\True:=u2 aY
theorem cb{a:Prop}(x:a):(True/\True)/\(True/\True)/\(True/\True)/\(True/\True)/\(True/\True)/\a:=u2 (ah x)
theorem cc{a:Prop}(x:a):(a/\True/\True)/\(True/\True)/\True:=ag x s2
theorem ce{a b c:Prop}(x:a)(y:b)(z:c):a/\a/\b/\b/\b/\b/\c:=aC x (aZ y z)
theorem cf{a b c:Prop}(x:a)(y:b)(z:c):a/\b/\True/\c/\True:=ab x y (ay z)
theorem cg{a b c d:Prop}(x:a)(y:b)(z:c)(w:d):(a/\b)/\(c/\True/\True)/\(c/\True/\True)/\d:=ar x y (ai z w)
theorem ci{a:Prop}(x:a):True/\True/\True/\(True/\True/\True)/\(True/\True)/\a:=k3 (bD x)
theorem cj{a b:Prop}(x:a)(y:b):(a/\((True/\True)/\(True/\True)/\True)/\True)/\b:=aF x aw y
theorem ck{a b c d e:Prop}(x:a)(y:b)(z:c)(w:d)(u:e):a/\b/\c/\d/\e/\True:=ab x y (ax z w u)
theorem cm{a:Prop}(x:a):True/\True/\True/\True/\True/\a/\True:=k5 (al x)
theorem cn{a b c d:Prop}(x:a)(y:b)(z:c)(w:d):(a/\True/\True/\b/\c)/\(a/\True/\True)/\d:=aW x (an y z) w
theorem co:(True/\True/\True/\True/\True/\True/\True/\True/\True)/\True:=al t9
theorem cq:True/\True/\True/\True/\True/\(True/\True/\True)/\True:=k5 aD
theorem cu:(True/\True)/\(True/\True/\Nat.le (nat_lit 1) (nat_lit 1))/\True:=bo au
theorem cw{a:Prop}(x:a):a/\(True/\True/\True)/\True:=af x t3
theorem cx{a b:Prop}(x:a)(y:b):a/\a/\(a/\True/\True)/\(True/\True)/\b:=b8 x x y
theorem cy{a:Prop}(x:a):(True/\a/\True)/\(True/\True/\Nat.le (nat_lit 1) (nat_lit 1))/\True:=bQ x au
theorem cz{a b:Prop}(x:a)(y:b):a/\b/\b:=ab x y y
theorem cA{a b:Prop}(x:a)(y:b):a/\a/\a/\a/\a/\a/\b:=ce x x y
theorem cB{a:Prop}(x:a):(a/\True/\(True/\True)/\True)/\True/\True:=bh x bn
theorem cC{a b:Prop}(x:a)(y:b):(True/\True)/\(True/\True/\a/\True)/\b:=aG (aM x) y
theorem cD{a b:Prop}(x:a)(y:b):(True/\True)/\(True/\True)/\a/\b/\True:=aa (af x y)
theorem cE{a b:Prop}(x:a)(y:b):a/\True/\b/\True:=aj x (ay y)
theorem cF:((True/\True)/\(True/\True)/\(True/\True)/\(True/\True/\True)/\True)/\True:=aL aD
theorem cG:True/\(True/\(True/\True/\Nat.le (nat_lit 1) (nat_lit 1))/\True/\True)/\True:=ay bM
theorem cH{a b c:Prop}(x:a)(y:b)(z:c):(True/\True)/\(True/\True)/\(True/\True)/\(True/\True/\a/\b)/\c:=am (aB x y z)
theorem cI:((True/\True)/\(True/\True)/\True/\True)/\True:=aR t2
theorem cJ{a b c:Prop}(x:a)(y:b)(z:c):(a/\b)/\(a/\True/\True)/\(a/\True/\True)/\c:=cg x y x z
theorem cK{a:Prop}(x:a):(True/\True/\True)/\(True/\True/\True)/\a:=bf t3 x
theorem cL{a b c:Prop}(x:a)(y:b)(z:c):True/\a/\b/\c:=ak (ab x y z)
theorem cM:(True/\True)/\(True/\True)/\(True/\True/\True)/\True:=aa aD
theorem cN{a b c:Prop}(x:a)(y:b)(z:c):True/\True/\a/\b/\c/\True:=k2 (ax x y z)
theorem cO{a b:Prop}(x:a)(y:b):(a/\(True/\True)/\True)/\b:=ar x s2 y
theorem cP{a b:Prop}(x:a)(y:b):(True/\True)/\(a/\True/\True)/\(a/\True/\True)/\b:=u2 (ai x y)
theorem cQ{a b c:Prop}(x:a)(y:b)(z:c):(True/\True)/\(True/\a/\b/\True)/\c:=aG (bc x y) z
theorem cR:((True/\True)/\(True/\True)/\(True/\True)/\(True/\True)/\(True/\True/\True)/\True)/\True:=bC aD
abbrev iv(n:Int):AV:=.int .i64 n
def ds(l:List Nat):List (Nat×Bool):=l.map fun k=>(k / 2,k % 2==1)
def hc(r:AV):AF:=.call [] [] [] r
theorem CT.calls{f:FuncId}{args:List AV}(h:CT P f [] args [] (.bool true))(w:World)(vs:List Value)(hl:vs.length=args.length)
  (hv:∀(i:Nat) c v,args[i]?=some c->vs[i]?=some v->RT (fun r=>r<w.heap.size) w c v):
  Calls P f vs.toArray w fun e w'=>e = .returned (.bool true)/\Go.RowKit.Below w.heap.size w w':=by
 have hno:∀r,¬Mut (fun _=>none) (nth ([]:List (Option Blk))) r:=by
  rintro r ⟨b,blk,z,hb,_⟩
  simp[nth] at hb
 refine(h (fun _=>none) (fun r=>r<w.heap.size) w vs (fun r hr=>⟨hr,hno r⟩) ⟨fun b blk hb=>(by simp[nth] at hb),fun b blk hb=>(by simp[nth] at hb),fun b b' r z z' hb=>(by simp[nth] at hb)⟩ (fun _ _=>rfl) hl
  fun i c v hc hvv=>.imm _ _ (hv i c v hc hvv)).mono fun e w' ⟨v,φ',he,cp⟩=>?_
 have hb:=cp.val.bool_inv;subst hb;exact⟨he,cp.keep.os,cp.keep.tape,cp.keep.output,cp.keep.size,fun k hk=>cp.keep.block k hk (hno k)⟩
def CI(P:Program)(t:TypeId):Bool:=match P.underlying t with
 | some (.struct _)=>true
 | some (.array _ _)=>true
 | _=>false
def DC(ag:Bool)(ys:List AV):AV:=match ag with
 | true=>.agg ys
 | false=>match ys with
  | [y]=>y
  | _=>.unk
def ShL(R:TypeId->List AV->Prop):List TypeId->List (List AV)->Prop | [],[]=>True | t::ts,p::ps=>R t p/\ShL R ts ps | _,_=>False
def Sh(P:Program):Nat->TypeId->List AV->Prop
 | 0,_,_=>False
 | n+1,t,cs=>match P.underlying t with
  | some .bool=>∃b,cs=[.bool b]
  | some (.int k)=>∃i,(Lit.int k i).wf=true/\cs=[.int k i]
  | some .string=>∃s:ByteArray,s.size<=maxLen/\cs=[.str s]
  | some (.slice e)=>∃es:List AV,es.length<=maxLen/\(∀x∈es,∃ys,Sh P n e ys/\x=DC (CI P e) ys)/\cs=[.lst es]
  | some (.struct fs)=>∃ps,ShL (Sh P n) (fs.toList.map (·.type)) ps/\cs=ps.flatten
  | some (.array k e)=>∃ps,ShL (Sh P n) (List.replicate k e) ps/\cs=ps.flatten
  | _=>False
def EU(P:Program):Nat->List (Nat×TypeId)->Option Nat
 | o,[]=>some o
 | o,(a,t)::r=>match Nat.beq a o with
  | true=>EU P (o+P.cellsOf t) r
  | false=>none
def okT(P:Program):Nat->TypeId->Bool
 | 0,_=>false
 | n+1,t=>match P.underlying t with
  | some .bool=>true
  | some (.int _)=>true
  | some .string=>true
  | some (.slice e)=>okT P n e&&Nat.ble 1 (P.cellsOf e)
  | some (.struct fs)=>(match EU P 0 (fs.toList.map fun f=>(f.offset,f.type)) with | some l=>Nat.beq l (P.cellsOf t) | none=>false)&&(fs.toList.all fun f=>okT P n f.type)
  | some (.array k e)=>okT P n e&&Nat.beq (P.cellsOf t) (k * P.cellsOf e)
  | _=>false
theorem ShL.one{R:TypeId->List AV->Prop}(h:∀t p,R t p->∀c∈p,c.one=true):∀{ts:List TypeId} {ps:List (List AV)},ShL R ts ps->∀c∈ps.flatten,c.one=true:=by
 intro ts;induction ts with
 | nil=>intro ps hs c hc;cases ps<;>simp_all [ShL]
 | cons t ts ih=>
  intro ps hs c hc;cases ps with
  | nil=>simp at hc
  | cons p ps=>simp only[List.flatten_cons,VZ] at hc;exact hc.elim (h t p hs.1 c) (ih hs.2 c)
theorem Sh.one:∀{n:Nat} {t:TypeId} {cs:List AV},Sh P n t cs->∀c∈cs,c.one=true:=by
 intro n;induction n with
 | zero=>intro t cs h;exact h.elim
 | succ n ih=>
  intro t cs h c hc;unfold Sh at h;split at h
  .obtain⟨b,rfl⟩:=h;simp at hc;subst hc;rfl
  .obtain⟨i,_,rfl⟩:=h;simp at hc;subst hc;rfl
  .obtain⟨s,_,rfl⟩:=h;simp at hc;subst hc;rfl
  .obtain⟨es,_,_,rfl⟩:=h;simp at hc;subst hc;rfl
  .obtain⟨ps,hp,rfl⟩:=h;exact ShL.one (fun _ _=>ih) hp c hc
  .obtain⟨ps,hp,rfl⟩:=h;exact ShL.one (fun _ _=>ih) hp c hc
  .exact h.elim
theorem Sh.el{n:Nat}{t:TypeId}{ys:List AV}(h:Sh P n t ys):(DC (CI P t) ys).cells=ys:=by
 cases n with
 | zero=>exact h.elim
 | succ n=>
  unfold Sh at h;unfold CI;cases hu:P.underlying t with
  | none=>rw[hu] at h;exact h.elim
  | some u=>
   rw[hu] at h;cases u
   case bool=>obtain⟨b,rfl⟩:=h;rfl
   case int=>obtain⟨b,_,rfl⟩:=h;rfl
   case string=>obtain⟨b,_,rfl⟩:=h;rfl
   case slice=>obtain⟨es,_,_,rfl⟩:=h;rfl
   case struct=>rfl
   case array=>rfl
   all_goals exact h.elim
def JD(A:Nat->Prop)(w:World)(avs:List AV)(cs:List Value):Prop:=avs.length=cs.length/\∀(i:Nat) c v,avs[i]?=some c->cs[i]?=some v->RT A w c v
theorem Sd{A:Nat->Prop}{w:World}{R:TypeId->List AV->Prop}{cs:List Value}:∀{segs:List (Nat×TypeId)} {o l:Nat},EU P o segs=some l->l<=cs.length->
  (∀s∈segs,∃avs,R s.2 avs/\JD A w avs ((cs.drop s.1).take (P.cellsOf s.2)))->∃ps,ShL R (segs.map (·.2)) ps/\JD A w ps.flatten ((cs.drop o).take (l-o))/\o<=l:=by
 intro segs;induction segs with
 | nil=>intro o l h hl _;simp only[EU,Vc] at h;subst h;exact⟨[],trivial,⟨by simp,fun i c v hc=>by simp at hc⟩,VH _⟩
 | cons s r ih=>
  intro o l h hl hs;obtain⟨a,t⟩:=s;simp only[EU] at h;split at h
  case h_2=>cases h
  rename_i ha;have ha:=VC ha;subst ha;obtain⟨ps,h1,h2,h3⟩:=ih h hl fun s hm=>hs s (VN _ hm)
  obtain⟨avs,g1,g2,g3⟩:=hs (a,t) (by simp);simp only at g1 g2 g3;have hlen:avs.length=P.cellsOf t:=by rw[g2];simp;omega
  refine⟨avs::ps,⟨g1,h1⟩,⟨?_,fun i c v hc hv=>?_⟩,by omega⟩
  .have:=h2.1;simp only[List.flatten_cons,VP,this,hlen,VX,Vl];omega
  .simp only[List.flatten_cons] at hc;rw[V5] at hc;split at hc
   .rename_i hi;refine g3 i c v hc ?_;rw[VO] at hv ⊢
    rw[Vt (by omega)];split at hv
    .exact hv
    .cases hv
   .rename_i hi;refine h2.2 (i-avs.length) c v hc ?_;rw[VO] at hv ⊢
    split at hv
    .rw[Vt (by omega)];rw[Vi] at hv ⊢
     rw[show a+P.cellsOf t+(i-avs.length)=a+i by omega];exact hv
    .cases hv
theorem H3{A:Nat->Prop}{w:World}{c:AV}{v:Value}(hr:RT A w c v):JD A w [c] [v]:=by
 refine⟨rfl,fun i c' v' hc hv=>?_⟩;cases i with
 | zero=>simp at hc hv;subst hc hv;exact hr
 | succ i=>simp at hc
theorem plus(b off i:Nat):(⟨b,off,none⟩:Addr).add i=⟨b,off+i,none⟩:=by unfold Addr.add;split<;>simp_all
theorem TZ{H:Type}{enc:TypeId×Value->H}{w:World}{base:Nat}{spare:Nat->Bool}{held:Bool}{n k:Nat}{t e:TypeId}{cs:List Value}{x:DataW H×List MemPlace}(hu:P.underlying t=some (.array k e))
  (h:DataW.trod enc P w base spare held (n+1) t cs=some x):cs.length=P.cellsOf t/\∀i,i<k->∃y,DataW.trod enc P w base spare held n e ((cs.drop (i * P.cellsOf e)).take (P.cellsOf e))=some y:=by
 unfold DataW.trod at h;rw[hu] at h;split at h<;>simp_all;obtain⟨hl,xs,hp,hd⟩:=h;intro i hi;have hlen:=Go.mapM_some_length hp;have g:=mapM_some_get hp i i (by simp[hi]);rw[Vv (by simpa [hlen] using hi)] at g;exact⟨_,_,g⟩
theorem U0(e:TypeId):∀(k a:Nat),EU P (a * P.cellsOf e) ((List.range' a k).map fun i=>(i * P.cellsOf e,e))=some ((a+k) * P.cellsOf e):=by
 intro k;induction k with
 | zero=>intro a;simp[EU]
 | succ k ih=>intro a;simp only[List.range'_succ,Vr,EU,Nat.beq_refl];have:=ih (a+1);rw[Ve,Nat.one_mul] at this;rw[this];congr 2;omega
theorem Tq{H:Type}{enc:TypeId×Value->H}{w:World}{base:Nat}{held:Bool}:∀{n:Nat} {t:TypeId} {cs:List Value} {x:DataW H×List MemPlace},
  DataW.trod enc P w base (fun _=>true) held n t cs=some x->okT P n t=true->∃avs,Sh P n t avs/\JD (fun r=>r<w.heap.size) w avs cs:=by
 intro n;induction n with
 | zero=>intro t cs x h;simp[DataW.trod] at h
 | succ n ih=>
  intro t cs x h hok;unfold okT at hok;unfold Sh;cases hu:P.underlying t with
  | none=>rw[hu] at hok;cases hok
  | some u=>
   rw[hu] at hok;cases u
   case bool=>obtain⟨b,rfl,_⟩:=DataW.trod_bool hu h;exact⟨_,⟨b,rfl⟩,H3 (.bool b)⟩
   case int k=>obtain⟨i,rfl,_,hw⟩:=DataW.trod_int hu h;exact⟨_,⟨i,hw,rfl⟩,H3 (.int k i)⟩
   case string=>obtain⟨s,rfl,_,hw⟩:=DataW.trod_string hu h;exact⟨_,⟨s,hw,rfl⟩,H3 (.str s)⟩
   case slice e=>
    simp only[VD] at hok;have hpos:1<=P.cellsOf e:=VU hok.2;rcases DataW.trod_slice hu h with ⟨rfl,_⟩ | ⟨a,len,cap,elems,rest,m,hm,rfl,_,_,hl,hmx,hel,hget,hsp,_⟩
    .exact⟨_,⟨[],by simp,by simp,rfl⟩,H3 (.lnil none)⟩
    .obtain rfl:n=m:=by omega
     rcases Nat.eq_zero_or_pos cap with hc | hc
     .subst hc;obtain rfl:len=0:=by omega
      exact⟨_,⟨[],by simp,by simp,rfl⟩,H3 (.lnil (some a))⟩
     .obtain⟨hrl,hrest⟩:=hsp rfl;have all:∀i,i<cap->∃cs y,w.cells? base (a.add (i * P.cellsOf e)) (P.cellsOf e)=some cs/\DataW.trod enc P w base (fun _=>true) held n e cs=some y:=by
       intro i hi;rcases Wm i len with hlt | hge
       .have g:=hget i hlt;rw[Vv (by omega)] at g;obtain⟨cs,h1,h2⟩:=Option.bind_eq_some_iff.1 g;exact⟨cs,_,h1,h2⟩
       .have g:=hrest (i-len) (by omega);rw[Vv (by omega),show len+(i-len)=i by omega] at g;obtain⟨cs,h1,h2⟩:=Option.bind_eq_some_iff.1 g;exact⟨cs,_,h1,h2⟩
      have hspot:a.spot=none:=by obtain⟨cs,_,h1,_⟩:=all 0 hc;obtain⟨_,hlen,hcell⟩:=World.cells?_some h1;have g0:=hcell 0 hpos;rw[Vv (by omega)] at g0;simpa [Addr.add] using World.cell?_spot g0
      obtain⟨b,off,spot⟩:=a;simp only at hspot;subst hspot;have ex:∀i,∃ys:List AV,i<cap->Sh P n e ys/\ys.length=P.cellsOf e/\∀j c,ys[j]?=some c->∃v,w.cell? ⟨b,off+i * P.cellsOf e+j,none⟩=some v/\RT (fun r=>r<w.heap.size) w c v:=by
       intro i;rcases Wm i cap with hi | hi
       .obtain⟨cs,y,h1,h2⟩:=all i hi;obtain⟨ys,g1,g2,g3⟩:=ih h2 hok.1;obtain⟨_,hlen,hcell⟩:=World.cells?_some h1;refine⟨ys,fun _=>⟨g1,by omega,fun j c hj=>?_⟩⟩;have hj':j<ys.length:=(Vx.1 hj).1;have g:=hcell j (by omega);rw[Vv (by omega)] at g;refine⟨cs[j]'(by omega),?_,g3 j c _ hj (Vv (by omega))⟩;rw[plus,plus] at g;exact g
       .exact⟨[],fun h=>absurd h (by omega)⟩
      let ys:Nat->List AV:=fun i=>Classical.choose (ex i)
      have hys:∀i,i<cap->Sh P n e (ys i)/\(ys i).length=P.cellsOf e/\∀j c,(ys i)[j]?=some c->∃v,w.cell? ⟨b,off+i * P.cellsOf e+j,none⟩=some v/\RT (fun r=>r<w.heap.size) w c v:=fun i=>V8 (ex i)
      have hb:b<w.heap.size:=by
       obtain⟨g1,g2,g3⟩:=hys 0 hc;obtain⟨v,hv,_⟩:=g3 0 _ (Vv (by omega));rcases Wm b w.heap.size with hlt | hge
       .exact hlt
       .simp[World.cell?,Array.getElem?_eq_none hge] at hv
      let es:List AV:=(List.range len).map fun i=>DC (CI P e) (ys i)
      have hesl:es.length=len:=by simp[es]
      have mem:∀x∈es,∃i,i<len/\x=DC (CI P e) (ys i):=by intro x hx;obtain⟨i,hi,rfl⟩:=V0.1 hx;exact⟨i,by simpa using hi,rfl⟩
      refine⟨_,⟨es,by omega,fun x hx=>?_,rfl⟩,H3 ?_⟩
      .obtain⟨i,hi,rfl⟩:=mem x hx;exact⟨ys i,(hys i (by omega)).1,rfl⟩
      .have key:=RT.lst (A:=fun r=>r<w.heap.size) (w:=w) es b off cap (P.cellsOf e) (fun i j=>(w.cell? ⟨b,off+i * P.cellsOf e+j,none⟩).getD default) (by omega) (fun _=>hb) (fun x hx=>?_) (fun x hx c hcm=>?_) (fun i j hi hj=>?_) fun i j x c hx hj=>?_
       .rw[hesl] at key;exact key
       .obtain⟨i,hi,rfl⟩:=mem x hx;rw[(hys i (by omega)).1.el];exact(hys i (by omega)).2.1
       .obtain⟨i,hi,rfl⟩:=mem x hx;rw[(hys i (by omega)).1.el] at hcm;exact(hys i (by omega)).1.one c hcm
       .obtain⟨g1,g2,g3⟩:=hys i (by omega);obtain⟨v,hv,_⟩:=g3 j _ (Vv (by omega));simp[hv]
       .have hi:i<len:=by rw[<-hesl];exact(Vx.1 hx).1
        have hx':x=DC (CI P e) (ys i):=by simp only[es,VF,VS hi,Option.map_some,Vc] at hx;exact hx.symm
        subst hx';obtain⟨g1,g2,g3⟩:=hys i (by omega);rw[g1.el] at hj;obtain⟨v,hv,hr⟩:=g3 j c hj;simpa [hv] using hr
   case struct fs=>
    simp only[VD] at hok;obtain⟨xs,m,hm,_,hlen,hxl,hget⟩:=DataW.trod_struct hu h;obtain rfl:n=m:=by omega
    obtain⟨hc,ha⟩:=hok;split at hc
    case h_2=>cases hc
    rename_i l hcon;have hl:=VC hc;obtain⟨ps,h1,h2,_⟩:=Sd (A:=fun r=>r<w.heap.size) (w:=w) (R:=Sh P n) (cs:=cs) hcon (by omega) fun s hs=>by obtain⟨f,hf,rfl⟩:=V0.1 hs;obtain⟨i,hi,rfl⟩:=V7.1 hf;simp only[Array.length_toList] at hi;have g:=hget i (fs[i]) (by simp[hi]);rw[Vv (by omega)] at g;exact ih g (VK.1 ha _ hf)
    refine⟨_,⟨ps,?_,rfl⟩,?_⟩
    .simpa [List.map_map,Function.comp_def] using h1
    .simpa [hl,<-hlen] using h2
   case array k e=>
    simp only[VD] at hok;have hk:=VC hok.2;obtain⟨hlen,hel⟩:=TZ hu h;have hcon:=U0 (P:=P) e k 0;rw[Nat.zero_mul,VL] at hcon;obtain⟨ps,h1,h2,_⟩:=Sd (A:=fun r=>r<w.heap.size) (w:=w) (R:=Sh P n) (cs:=cs) hcon (by omega) fun s hs=>by obtain⟨i,hi,rfl⟩:=V0.1 hs;obtain⟨y,g⟩:=hel i (by simpa using hi);exact ih g hok.1
    refine⟨_,⟨ps,?_,rfl⟩,?_⟩
    .simpa [List.map_map,Function.comp_def,List.map_const'] using h1
    .simpa [<-hk,<-hlen] using h2
   all_goals cases hok
theorem okT_succ:∀{n:Nat} {t:TypeId},okT P n t=true->okT P (n+1) t=true:=by
 intro n;induction n with
 | zero=>intro t h;cases h
 | succ n ih=>
  intro t h;unfold okT at h ⊢
  cases hu:P.underlying t with
  | none=>rw[hu] at h;cases h
  | some u=>
   rw[hu] at h;cases u
   case bool=>rfl
   case int=>rfl
   case string=>rfl
   case slice e=>
    simp only[VD] at h ⊢
    exact⟨ih h.1,h.2⟩
   case struct fs=>
    simp only[VD] at h ⊢
    exact⟨h.1,VK.2 fun f hf=>ih (VK.1 h.2 f hf)⟩
   case array k e=>
    simp only[VD] at h ⊢
    exact⟨ih h.1,h.2⟩
   all_goals cases h
theorem Rs{n m:Nat}{t:TypeId}(hnm:n<=m)(h:okT P n t=true):okT P m t=true:=by
 induction hnm with
 | refl=>exact h
 | step _ ih=>exact okT_succ ih
theorem ShL.imp{R R':TypeId->List AV->Prop}:∀{ts:List TypeId} {ps:List (List AV)},(∀t∈ts,∀p,R t p->R' t p)->ShL R ts ps->ShL R' ts ps:=by
 intro ts;induction ts with
 | nil=>intro ps h hs;cases ps<;>simp_all [ShL]
 | cons t ts ih=>
  intro ps h hs;cases ps with
  | nil=>exact hs.elim
  | cons p ps=>exact⟨h t (by simp) p hs.1,ih (fun t' ht=>h t' (VN _ ht)) hs.2⟩
theorem Sh.down:∀{n:Nat} {t:TypeId} {ys:List AV},okT P n t=true->Sh P (n+1) t ys->Sh P n t ys:=by
 intro n;induction n with
 | zero=>intro t ys h;cases h
 | succ n ih=>
  intro t ys h hs;unfold okT at h;unfold Sh at hs ⊢
  cases hu:P.underlying t with
  | none=>rw[hu] at h;cases h
  | some u=>
   rw[hu] at h hs;cases u
   case bool=>exact hs
   case int=>exact hs
   case string=>exact hs
   case slice e=>simp only[VD] at h;obtain⟨es,h1,h2,h3⟩:=hs;refine⟨es,h1,fun x hx=>?_,h3⟩;obtain⟨ys,g,g'⟩:=h2 x hx;exact⟨ys,ih h.1 g,g'⟩
   case struct fs=>simp only[VD] at h;obtain⟨ps,h1,h2⟩:=hs;refine⟨ps,h1.imp (fun t ht p hp=>?_),h2⟩;obtain⟨f,hf,rfl⟩:=V0.1 ht;exact ih (VK.1 h.2 f hf) hp
   case array k e=>simp only[VD] at h;obtain⟨ps,h1,h2⟩:=hs;refine⟨ps,h1.imp (fun t ht p hp=>?_),h2⟩;obtain rfl:t=e:=(List.mem_replicate.1 ht).2;exact ih h.1 hp
   all_goals cases h
theorem Sh.downs{n m:Nat}{t:TypeId}{ys:List AV}(hnm:n<=m)(h:okT P n t=true)(hs:Sh P m t ys):Sh P n t ys:=by
 induction hnm with
 | refl=>exact hs
 | step hk ih=>exact ih (hs.down (Rs hk h))
def ShV(P:Program)(n:Nat)(t:TypeId)(a:AV):Prop:=∃ys,Sh P n t ys/\a=DC (CI P t) ys
def Ew(P:Program)(n:Nat):List TypeId->List AV->Prop | [],[]=>True | t::ts,a::bs=>ShV P n t a/\Ew P n ts bs | _,_=>False
theorem TA{w:World}{r:Reach}{base n:Nat}{t:TypeId}{v:Value}(h:Value.okWide P w r base t v)(hk:okT P n t=true):
  (CI P t=true/\∃cs,v = .agg cs)\/(CI P t=false/\v.cells = #[v]):=by
 cases n with
 | zero=>cases hk
 | succ n=>
  unfold CI;unfold okT at hk;unfold Value.okWide at h;cases hu:P.underlying t with
  | none=>rw[hu] at hk;cases hk
  | some u=>
   rw[hu] at h hk;cases u
   case struct=>obtain⟨cs,h,_⟩:=h;exact .inl ⟨rfl,cs,h⟩
   case array=>obtain⟨cs,h,_⟩:=h;exact .inl ⟨rfl,cs,h⟩
   case bool=>refine .inr ⟨rfl,?_⟩;cases v<;>first | rfl | (exfalso;simp[Cell.okWide,Cell.ok,hu] at h;done)
   case int=>refine .inr ⟨rfl,?_⟩;cases v<;>first | rfl | (exfalso;simp[Cell.okWide,Cell.ok,hu] at h;done)
   case string=>refine .inr ⟨rfl,?_⟩;cases v<;>first | rfl | (exfalso;simp[Cell.okWide,Cell.ok,hu] at h;done)
   case slice=>refine .inr ⟨rfl,?_⟩;cases v<;>first | rfl | (exfalso;simp[Cell.okWide,Cell.ok,hu] at h;done)
   all_goals cases hk
theorem TN{A:Nat->Prop}{w:World}{cs:List Value}{ys:List AV}(h:JD A w ys cs):RT A w (.agg ys) (.agg cs.toArray):=.agg ys cs h.1.symm h.2
theorem args_rt{H:Type}{enc:TypeId×Value->H}{w:World}{base base':Nat}{held:Bool}{r:Reach}(n:Nat):∀{ts:List TypeId} {vs:List Value} {ds:List (DataW H)} {ps:List MemPlace},DataW.TrodAll enc P w base (fun _=>true) held ts vs ds ps->
  (∀(j:Nat) t v,ts[j]?=some t->vs[j]?=some v->Value.okWide P w r base' t v)->(ts.all (okT P n))=true->
  ∃bs,Ew P n ts bs/\vs.length=bs.length/\∀(i:Nat) c v,bs[i]?=some c->vs[i]?=some v->RT (fun r=>r<w.heap.size) w c v:=by
 intro ts;induction ts with
 | nil=>intro vs ds ps h _ _;obtain⟨rfl,_⟩:=ChangeShapes.trodAll_nil h;exact⟨[],trivial,rfl,fun i c v hc=>by simp at hc⟩
 | cons t ts ih=>
  intro vs ds ps h hw ho;simp only[List.all_cons,VD] at ho;obtain⟨v,vs,d,ds,p,q,rfl,rfl,rfl,⟨f,hd⟩,hr⟩:=ChangeShapes.trodAll_cons h;obtain⟨bs,h1,h2,h3⟩:=ih hr (fun j t' v' ht hv=>hw (j+1) t' v' (by simpa using ht) (by simpa using hv)) ho.2;obtain⟨ys,g1,g2⟩:=Tq (DataW.trod_le (Nat.le_max_left f n) hd) (Rs (Nat.le_max_right f n) ho.1);have hwv:=hw 0 t v rfl rfl;have hsh:Sh P n t ys:=g1.downs (Nat.le_max_right f n) ho.1;refine⟨DC (CI P t) ys::bs,⟨⟨ys,hsh,rfl⟩,h1⟩,by simp[h2],fun i c v' hc hv=>?_⟩;cases i with
  | succ i=>exact h3 i c v' (by simpa using hc) (by simpa using hv)
  | zero=>
   simp at hc hv;subst hc hv;rcases TA hwv ho.1 with ⟨ha,cs,rfl⟩ | ⟨ha,hcs⟩
   .rw[ha];have:=TN g2;simpa [DC,Value.cells] using this
   .rw[hcs] at g2;have hl:=g2.1;have hel:=hsh.el;rw[ha] at hel ⊢
    match ys,hl with
    | [y],_=>exact g2.2 0 y v rfl rfl
theorem trodAll_below{H:Type}{enc:TypeId×Value->H}(hl:laidOutB P=true){W W':World}(hb:Go.RowKit.Below W.heap.size W W'):∀{ts:List TypeId} {vs:List Value} {ds:List (DataW H)} {ps:List MemPlace},
  (ts.all fun t=>P.readableRec t&&Nat.blt t P.types.size)=true->DataW.TrodAll enc P W 0 (fun _=>true) true ts vs ds ps->DataW.TrodAll enc P W' 0 (fun b=>decide (b<W.heap.size)) true ts vs ds ps:=by
 intro ts;induction ts with
 | nil=>intro vs ds ps _ h;cases vs<;>cases ds<;>simp_all [DataW.TrodAll]
 | cons t ts ih=>
  intro vs ds ps ho h;simp only[List.all_cons,VD] at ho;cases vs with
  | nil=>cases ds<;>simp_all [DataW.TrodAll]
  | cons v vs=>
   cases ds with
   | nil=>simp_all [DataW.TrodAll]
   | cons d ds=>
    obtain⟨p,q,hd,hr,he⟩:=h;have lt:∀x∈p,x.block<W.heap.size:=by obtain⟨m,hm⟩:=hd;exact DataW.trod_lt m _ _ _ hm
    exact⟨p,q,Go.RowKit.Below.trod hl ho.1.1 (by simpa [Nat.blt_eq] using ho.1.2) hd hb lt,ih ho.2 hr,he⟩
theorem ShL.consD{R:TypeId->List AV->Prop}{t:TypeId}{ts:List TypeId}{ps:List (List AV)}(h:ShL R (t::ts) ps):∃p ps',ps=p::ps'/\R t p/\ShL R ts ps':=by
 cases ps with
 | nil=>exact h.elim
 | cons p ps=>exact⟨p,ps,rfl,h.1,h.2⟩
theorem ShL.nilD{R:TypeId->List AV->Prop}{ps:List (List AV)}(h:ShL R [] ps):ps=[]:=by
 cases ps with
 | nil=>rfl
 | cons p ps=>exact h.elim
theorem Sh.intD{n:Nat}{t:TypeId}{k:IntKind}{ys:List AV}(hu:P.underlying t=some (.int k))(h:Sh P n t ys):∃i,(Lit.int k i).wf=true/\ys=[.int k i]:=by
 cases n with
 | zero=>exact h.elim
 | succ n=>unfold Sh at h;rw[hu] at h;exact h
theorem Sh.sliceD{n:Nat}{t e:TypeId}{ys:List AV}(hu:P.underlying t=some (.slice e))(h:Sh P (n+1) t ys):∃es:List AV,es.length<=maxLen/\(∀x∈es,ShV P n e x)/\ys=[.lst es]:=by unfold Sh at h;rw[hu] at h;exact h
theorem ShV.intD{n:Nat}{t:TypeId}{k:IntKind}{a:AV}(h:ShV P n t a)(hu:P.underlying t=some (.int k)):∃i,(Lit.int k i).wf=true/\a = .int k i:=by obtain⟨ys,hs,rfl⟩:=h;obtain⟨i,hw,rfl⟩:=hs.intD hu;exact⟨i,hw,by simp[CI,hu,DC]⟩
theorem ShV.sliceD{n:Nat}{t e:TypeId}{a:AV}(h:ShV P (n+1) t a)(hu:P.underlying t=some (.slice e)):∃es:List AV,es.length<=maxLen/\(∀x∈es,ShV P n e x)/\a = .lst es:=by obtain⟨ys,hs,rfl⟩:=h;obtain⟨es,h1,h2,rfl⟩:=hs.sliceD hu;exact⟨es,h1,h2,by simp[CI,hu,DC]⟩
theorem Ew.consD{n:Nat}{t:TypeId}{ts:List TypeId}{bs:List AV}(h:Ew P n (t::ts) bs):∃a bs',bs=a::bs'/\ShV P n t a/\Ew P n ts bs':=by
 cases bs with
 | nil=>exact h.elim
 | cons p ps=>exact⟨p,ps,rfl,h.1,h.2⟩
theorem Ew.nilD{n:Nat}{bs:List AV}(h:Ew P n [] bs):bs=[]:=by
 cases bs with
 | nil=>rfl
 | cons p ps=>exact h.elim
theorem trodAll_len{H:Type}{enc:TypeId×Value->H}{w:World}{base:Nat}{spare:Nat->Bool}{held:Bool}:∀{ts:List TypeId} {vs:List Value} {ds:List (DataW H)} {ps:List MemPlace},
  DataW.TrodAll enc P w base spare held ts vs ds ps->ds.length=ts.length:=by
 intro ts;induction ts with
 | nil=>intro vs ds ps h;cases vs<;>cases ds<;>simp_all [DataW.TrodAll]
 | cons t ts ih=>
  intro vs ds ps h;cases vs with
  | nil=>exact h.elim
  | cons v vs=>
   cases ds with
   | nil=>exact h.elim
   | cons d ds=>obtain⟨p,q,_,hr,_⟩:=h;simp[ih hr]
theorem list1{α:Type}{l:List α}(h:l.length=1):∃x0,l=[x0]:=
 match l,h with | [x0],_=>⟨_,rfl⟩
def wk1:AV->AV | .nils=>.lst [] | .lstc es=>.lst es | v=>v
def wkV:AV->AV | .nils=>.lst [] | .lstc es=>.lst es | .tup cs=>.tup (cs.map wk1) | v=>v
theorem VR.wk1{φ:Phi}{A:Nat->Prop}{w:World}{a:AV}{v:Value}(h:VR φ A w a v):VR φ A w (wk1 a) v:=by
 cases a<;>first | exact h | skip
 .cases h with
  | imm _ _ h=>cases h;exact .imm _ _ (.lnil none)
 .exact h.lstc_inv.choose_spec.2
theorem VR.wk{φ:Phi}{A:Nat->Prop}{w:World}{a:AV}{v:Value}(h:VR φ A w a v):VR φ A w (wkV a) v:=by
 cases a<;>first | exact h | skip
 .exact h.wk1
 .cases h with
  | imm _ _ h=>cases h
  | tup cs vs hl h=>
   refine .tup _ vs (by simpa using hl) fun i c v hc hv=>?_
   rw[VF] at hc;obtain⟨c',hc',rfl⟩:=Option.map_eq_some_iff.1 hc;exact(h i c' v hc' hv).wk1
 .exact h.wk1
theorem CT.wk{f:FuncId}{hin hout:List (Option Blk)}{args:List AV}{res:AV}(h:CT P f hin args hout res):CT P f hin args hout (wkV res):=by intro φ A w vs h1 h2 h3 h4 h5;refine(h φ A w vs h1 h2 h3 h4 h5).mono fun e w' ⟨v,φ',he,cp⟩=>⟨v,φ',he,{cp with val:=cp.val.wk}⟩
theorem CT.less{f:FuncId}{hin hout:List (Option Blk)}{args:List AV}{res res':AV}(h:CT P f hin args hout res)(hr:∀(φ:Phi) (A:Nat->Prop) (w:World) (v:Value),VR φ A w res v->VR φ A w res' v):CT P f hin args hout res':=by intro φ A w vs h1 h2 h3 h4 h5;refine(h φ A w vs h1 h2 h3 h4 h5).mono fun e w' ⟨v,φ',he,cp⟩=>⟨v,φ',he,{cp with val:=hr _ _ _ _ cp.val}⟩
theorem CT.to{f:FuncId}{hin hout:List (Option Blk)}{args args':List AV}{res res':AV}(h:CT P f hin args hout res)(ha:args=args')(hr:wkV res=res'):CT P f hin args' hout res':=by subst ha hr;exact h.wk
def IY:List (Nat×AV)->List (Nat×AV) | []=>[] | (s,v)::r=>(s,wk1 v)::IY r
theorem SK:∀(fr:List (Nat×AV)) (s:Nat),Av (IY fr) s=wk1 (Av fr s):=by
 intro fr;induction fr with
 | nil=>intro s;rfl
 | cons x r ih=>
  intro s;obtain⟨t,v⟩:=x;simp only[IY,Av];split
  .rfl
  .exact ih s
abbrev iV (x : Int) : AV := .int .i64 x
abbrev uV (x : Int) : AV := .int .u64 x
abbrev bV (x : Bool) : AV := .bool x
abbrev bK (l : List AV) (z : Nat) : Blk := Blk.mk l z true true none
theorem nL {m n : Nat} (h : Nat.ble m n = true) : m <= n := VU h
def wkSt(st:St):St:={st with fr:=IY st.fr}
theorem T.nil{m:Nat}{c:Code}{st:St}{post:Exit->St->Prop}(h:T P m c (wkSt st) post):T P m c st post:=by refine T.ren (st':=wkSt st) (fun A0 n0 φ a w hm hr=>⟨φ,⟨hr.defs,hr.size,fun s=>?_,hr.heap,hr.out,hr.base,hr.own⟩,hm,.refl m φ _ w⟩) h;show VR φ _ w (Av (IY st.fr) s) _;rw[SK];exact(hr.slot s).wk1
def Kd(post fin:Exit->St->Prop):Prop:=∀st,fin .ret st->post .ret st
theorem Kd.refl(post:Exit->St->Prop):Kd post post:=fun _ h=>h
theorem TK.ret{m:Nat}{post:Exit->St->Prop}{st:St}(h:post .ret st):∀k:List Kt,TK P m post k .ret st:=by
 intro k;induction k with
 | nil=>exact h
 | cons x k ih=>
  cases x with
  | code c=>exact ih
  | blk id=>exact ih
  | rnd c=>exact ih
theorem Kd.up{m:Nat}{post fin:Exit->St->Prop}(h:Kd post fin)(R:St->Prop)(k:List Kt):Kd (andThen R (TK P m post k)) fin:=fun st hf=>TK.ret (h st hf) k
def wkE:AV->AV | .agg cs=>.agg (cs.map wk1) | v=>wk1 v
theorem Qf(e:AV):(wkE e).cells=e.cells.map wk1:=by cases e<;>rfl
def wkB(blk:Blk):Blk:={blk with es:=blk.es.map wkE}
def wkH:List (Option Blk)->List (Option Blk) | []=>[] | some b::r=>some (wkB b)::wkH r | none::r=>none::wkH r
theorem Lu:∀(hp:List (Option Blk)) (b:Nat),nth (wkH hp) b=(nth hp b).map wkB:=by
 intro hp;induction hp with
 | nil=>intro b;cases b<;>rfl
 | cons x r ih=>intro b;cases x<;>cases b<;>first | rfl | exact ih _
theorem wk1_one{c:AV}(h:c.one=true):(wk1 c).one=true:=by cases c<;>first | exact h | rfl
theorem UW{c:AV}(h:c.noref=true):(wk1 c).noref=true:=by cases c<;>first | exact h | rfl
theorem HR.wk{φ:Phi}{A:Nat->Prop}{w:World}{hp:List (Option Blk)}(h:HR φ A w (nth hp)):HR φ A w (nth (wkH hp)):=by
 refine⟨fun b blk hb=>?_,fun b blk hb hf=>?_,fun b b' r z z' hb hb'=>h.inj b b' r z z' ?_ ?_⟩
 .rw[Lu] at hb;obtain⟨blk',h4,rfl⟩:=Option.map_eq_some_iff.1 hb;rcases h.blk b blk' h4 with ⟨h1,h2,h3⟩ | ⟨r,cs,T,h1,h2,h3,h5⟩ | ⟨m,r,h1,h2,h3,h5⟩
  .exact .inl ⟨by simp[wkB,h1],h2,h3⟩
  case inr.inr=>exact .inr (.inr ⟨m,r,h1,h2,⟨by simp[wkB,h3.1],h3.2⟩,h5⟩)
  .refine .inr (.inl ⟨r,cs,T,h1,h2,by simpa [wkB] using h3,fun i e he=>?_⟩);simp only[wkB,VF] at he;obtain⟨e',he',rfl⟩:=Option.map_eq_some_iff.1 he;obtain⟨g1,g2⟩:=h5 i e' he';refine⟨by rw[Qf];simpa [wkB] using g1,fun j c hc=>?_⟩;rw[Qf,VF] at hc;obtain⟨c',hc',rfl⟩:=Option.map_eq_some_iff.1 hc;obtain⟨g3,v,g4,g5⟩:=g2 j c' hc';exact⟨wk1_one g3,v,g4,g5.wk1⟩
 .rw[Lu] at hb;obtain⟨blk',h4,rfl⟩:=Option.map_eq_some_iff.1 hb;intro e he c hc;obtain⟨e',he',rfl⟩:=V0.1 he;rw[Qf] at hc;obtain⟨c',hc',rfl⟩:=V0.1 hc;exact UW (h.flat b blk' h4 hf e' he' c' hc')
 .rw[Lu] at hb;simpa using hb
 .rw[Lu] at hb';simpa using hb'
def sL:Code->Code | .seq a _=>a | c=>c
def sR:Nat->Code->Code | 0,c=>c | k+1,.seq _ b=>sR k b | _,c=>c
def isSeq:Code->Bool | .seq _ _=>true | _=>false
theorem T.cut{m:Nat}{c:Code}{st:St}{post:Exit->St->Prop}(hs:isSeq c=true)(h:T P m (sL c) st (andThen (fun st'=>T P m (sR 1 c) st' post) post)):T P m c st post:=by cases c<;>simp[isSeq] at hs;exact T.seq h
def B5(c c':AV):Prop:=(c.one=true->c'.one=true)/\∀(φ:Phi) (A:Nat->Prop) (w:World) (v:Value),VR φ A w c v->VR φ A w c' v
theorem B5.refl(c:AV):B5 c c:=⟨id,fun _ _ _ _ h=>h⟩
theorem B5.nilL:B5 .nils (.lst []):=⟨fun _=>rfl,fun _ _ _ v h=>by rw[h.nils_inv];exact .imm _ _ (.lnil none)⟩
theorem B5.nilS(b i:Nat):B5 .nils (.sl b i 0):=⟨fun _=>rfl,fun _ _ _ v h=>by rw[h.nils_inv];exact .slnil b i none⟩
theorem B5.any{c:AV}(h:c.one=true):B5 c .any:=⟨fun _=>rfl,fun _ _ _ v hv=>.imm _ _ (.any v (hv.one h))⟩
theorem B5.agg{cs cs':List AV}(hl:cs'.length=cs.length)(h:∀(i:Nat) (c':AV),cs'[i]?=some c'->∃c,cs[i]?=some c/\B5 c c'):B5 (.agg cs) (.agg cs'):=by
 refine⟨fun h0=>by simp[AV.one] at h0,fun φ A w v hv=>?_⟩;obtain⟨vs,rfl,hl2,hh⟩:=hv.agg_inv;refine .agg cs' vs (by omega) fun i c u hc hu=>?_
 obtain⟨c0,h1,h2⟩:=h i c hc;exact h2.2 φ A w u (hh i c0 u h1 hu)
structure Cq(blk blk':Blk):Prop where
 z:blk'.z=blk.z
 wr:blk'.wr=true->blk.wr=true
 mp:blk'.mp=blk.mp
 len:blk'.es.length<=blk.es.length
 el:∀(i:Nat) (e':AV),blk'.es[i]?=some e'->∃e:AV,blk.es[i]?=some e/\e'.cells.length=e.cells.length/\∀(j:Nat) (c':AV),e'.cells[j]?=some c'->∃c,e.cells[j]?=some c/\B5 c c'
 flat:blk'.flat=true->Bw blk'.es
 wr0:blk.es=[]->blk'.wr=blk.wr
theorem Cq.refl{blk:Blk}(hf:blk.flat=true->Bw blk.es):Cq blk blk:=⟨rfl,id,rfl,VH _,fun i e h=>⟨e,h,rfl,fun j c hc=>⟨c,hc,.refl c⟩⟩,hf,fun _=>rfl⟩
theorem Ren.less{m:Nat}{st st':St}(hn:st'.n=st.n)(hl:st.hp.length<=st'.hp.length)(hfr:∀s,B5 (Av st.fr s) (Av st'.fr s))
  (hhp:∀(b:Nat) (blk':Blk),nth st'.hp b=some blk'->(b<st.hp.length/\∃blk,nth st.hp b=some blk/\((blk'=blk)\/Cq blk blk'))\/(st.hp.length<=b/\blk'.es=[]/\blk'.wr=true/\blk'.mp=none/\blk'.flat=true)):Ren m st st':=by
 intro A0 n0 φ a w hm hr;have hmut:∀r,Mut φ st'.h r->Mut φ st.h r:=by
  rintro r ⟨b,blk',z,h1,h2,h3⟩
  rcases hhp b blk' h1 with ⟨_,blk,h4,h5⟩ | ⟨hb,_⟩
  .rcases h5 with rfl | h5
   .exact⟨b,_,z,h4,h2,h3⟩
   .exact⟨b,blk,z,h4,h5.wr h2,h3⟩
  .rw[hr.out b hb] at h3;cases h3
 have hok:∀r,Ok A0 n0 φ st.h w r->Ok A0 n0 φ st'.h w r:=fun r ⟨h1,h2,h3⟩=>⟨h1,h2,fun h=>h3 (hmut r h)⟩
 have mono:∀{c:AV} {v:Value},VR φ (Ok A0 n0 φ st.h w) w c v->VR φ (Ok A0 n0 φ st'.h w) w c v:=fun h=>h.mono (fun _ _ h=>h) hok (fun _ _=>rfl) (fun _=>VH _)
 refine⟨φ,⟨hr.defs,by rw[hn];exact hr.size,fun s=>mono ((hfr s).2 _ _ _ _ (hr.slot s)),⟨fun b blk' hb=>?_,fun b blk' hb hf=>?_,fun b b' r z z' hb hb' h1 h2=>?_⟩,fun b hb=>hr.out b (by omega),hr.base,hr.own⟩,by omega,fun _ _=>rfl,Bt.refl _ w,fun r h=>.inl (hmut r h)⟩
 .rcases hhp b blk' hb with ⟨_,blk,h4,h5⟩ | ⟨hb0,h6,h7,h8,_⟩
  .have hbr:=hr.heap.blk b blk h4;have hb2:Cq blk blk'\/blk'=blk:=h5.elim .inr .inl;rcases hbr with ⟨h1,h2,h3,h3'⟩ | ⟨r,cs,T,h1,h2,h3,h5'⟩ | ⟨mm,r,h1,h2,h3,h5'⟩
   .rcases hb2 with g | rfl
    .exact .inl ⟨List.length_eq_zero_iff.1 (by have:=g.len;rw[h1] at this;simpa using this),h2,rfl,by rw[g.mp];exact h3'⟩
    .exact .inl ⟨h1,h2,h3,h3'⟩
   .rcases hb2 with g | rfl
    .refine .inr (.inl ⟨r,cs,T,by rw[g.z];exact h1,h2,⟨by rw[g.z];exact Wd (VM _ g.len) h3.1,by rw[g.mp];exact h3.2⟩,fun i e' he'=>?_⟩);obtain⟨e,k1,k2,k3⟩:=g.el i e' he';obtain⟨k4,k5⟩:=h5' i e k1;refine⟨by rw[k2,g.z];exact k4,fun j c' hc'=>?_⟩;obtain⟨c,k6,k7⟩:=k3 j c' hc';obtain⟨k8,v,k9,k10⟩:=k5 j c k6;exact⟨k7.1 k8,v,by rw[g.z];exact k9,mono (k7.2 _ _ _ _ k10)⟩
    .refine .inr (.inl ⟨r,cs,T,h1,h2,h3,fun i e he=>⟨(h5' i e he).1,fun j c hc=>?_⟩⟩);obtain⟨g3,v,g4,g5⟩:=(h5' i e he).2 j c hc;exact⟨g3,v,g4,mono g5⟩
   .rcases hb2 with g | rfl
    .exact .inr (.inr ⟨mm,r,by rw[g.mp];exact h1,by rw[g.z];exact h2,⟨List.length_eq_zero_iff.1 (by have:=g.len;rw[h3.1] at this;simpa using this),by rw[g.z];exact h3.2⟩,h5'⟩)
    .exact .inr (.inr ⟨mm,r,h1,h2,h3,h5'⟩)
  .exact .inl ⟨h6,hr.out b hb0,rfl,h8⟩
 .rcases hhp b blk' hb with ⟨_,blk,h4,h5⟩ | ⟨_,h6,_⟩
  .rcases h5 with rfl | h5
   .exact hr.heap.flat b _ h4 hf
   .exact h5.flat hf
  .rw[h6];intro e he;cases he
 .have lt:∀b r z,(st'.h b).isSome=true->φ b=some (r,z)->(st.h b).isSome=true:=by
   intro b r z hs hp;obtain⟨blk',hb'⟩:=Option.isSome_iff_exists.1 hs;rcases hhp b blk' hb' with ⟨_,blk,h4,_⟩ | ⟨hb0,_⟩
   .exact Option.isSome_iff_exists.2 ⟨blk,h4⟩
   .rw[hr.out b hb0] at hp;cases hp
  exact hr.heap.inj b b' r z z' (lt b r z hb h1) (lt b' r z' hb' h2) h1 h2
theorem T.less{m:Nat}{c:Code}{st st':St}{post:Exit->St->Prop}(hr:Ren m st st')(h:T P m c st' post):T P m c st post:=T.ren hr h
theorem Cq.br{φ:Phi}{A:Nat->Prop}{w:World}{b:Nat}{blk blk':Blk}(g:Cq blk blk')(h:BR φ A w b blk):BR φ A w b blk':=by
 rcases h with ⟨h1,h2,h3,h3'⟩ | ⟨r,cs,T,h1,h2,h3,h5'⟩ | ⟨mm,r,h1,h2,h3,h5'⟩
 .exact .inl ⟨List.length_eq_zero_iff.1 (by have:=g.len;rw[h1] at this;simpa using this),h2,rfl,by rw[g.mp];exact h3'⟩
 .refine .inr (.inl ⟨r,cs,T,by rw[g.z];exact h1,h2,⟨by rw[g.z];exact Wd (VM _ g.len) h3.1,by rw[g.mp];exact h3.2⟩,fun i e' he'=>?_⟩);obtain⟨e,k1,k2,k3⟩:=g.el i e' he';obtain⟨k4,k5⟩:=h5' i e k1;refine⟨by rw[k2,g.z];exact k4,fun j c' hc'=>?_⟩;obtain⟨c,k6,k7⟩:=k3 j c' hc';obtain⟨k8,v,k9,k10⟩:=k5 j c k6;exact⟨k7.1 k8,v,by rw[g.z];exact k9,k7.2 _ _ _ _ k10⟩
 .exact .inr (.inr ⟨mm,r,by rw[g.mp];exact h1,by rw[g.z];exact h2,⟨List.length_eq_zero_iff.1 (by have:=g.len;rw[h3.1] at this;simpa using this),by rw[g.z];exact h3.2⟩,h5'⟩)
theorem CT.lessOut{f:FuncId}{hin hout hout':List (Option Blk)}{args:List AV}{res:AV}(h:CT P f hin args hout res)(hl:hout'.length=hout.length)
  (hb:∀(b:Nat) (blk':Blk),nth hout' b=some blk'->∃blk,nth hout b=some blk/\Cq blk blk'/\blk'.wr=blk.wr):CT P f hin args hout' res:=by
 intro φ A w vs h1 h2 h3 h4 h5;refine(h φ A w vs h1 h2 h3 h4 h5).mono fun e w' ⟨v,φ',he,C⟩=>⟨v,φ',he,?_⟩
 have hmut:∀r,Mut φ' (nth hout') r->Mut φ' (nth hout) r:=by
  rintro r ⟨b,blk',z,g1,g2,g3⟩
  obtain⟨blk,g4,g5,_⟩:=hb b blk' g1;exact⟨b,blk,z,g4,g5.wr g2,g3⟩
 have hok:∀r,Ok A w.heap.size φ' (nth hout) w' r->Ok A w.heap.size φ' (nth hout') w' r:=fun r ⟨g1,g2,g3⟩=>⟨g1,g2,fun h=>g3 (hmut r h)⟩
 have mono:∀{c:AV} {u:Value},VR φ' (Ok A w.heap.size φ' (nth hout) w') w' c u->VR φ' (Ok A w.heap.size φ' (nth hout') w') w' c u:=fun h=>h.mono (fun _ _ h=>h) hok (fun _ _=>rfl) (fun _=>VH _)
 have brm:∀{b:Nat} {blk:Blk},BR φ' (Ok A w.heap.size φ' (nth hout) w') w' b blk->BR φ' (Ok A w.heap.size φ' (nth hout') w') w' b blk:=by
  rintro b blk (h1 | ⟨r,cs,T,h1,h2,h3,h5⟩ | h1)
  .exact .inl h1
  .refine .inr (.inl ⟨r,cs,T,h1,h2,h3,fun i e he=>⟨(h5 i e he).1,fun j c hc=>?_⟩⟩);obtain⟨g3,v,g4,g5⟩:=(h5 i e he).2 j c hc;exact⟨g3,v,g4,mono g5⟩
  .exact .inr (.inr h1)
 have hsome:∀b,(nth hout' b).isSome=true->(nth hout b).isSome=true:=by intro b hs;obtain⟨blk',hb'⟩:=Option.isSome_iff_exists.1 hs;obtain⟨blk,g,_⟩:=hb b blk' hb';exact Option.isSome_iff_exists.2 ⟨blk,g⟩
 refine⟨C.par,C.keep,fun r hr=>C.mutd r (hmut r hr),⟨fun b blk' hb'=>?_,fun b blk' hb' hf=>?_,fun b b' r z z' hs hs'=>C.heap.inj b b' r z z' (hsome b hs) (hsome b' hs')⟩,mono C.val,fun b hb'=>C.out b (by omega),by rw[hl];exact C.len,C.own⟩
 .obtain⟨blk,g1,g2,_⟩:=hb b blk' hb';exact brm (g2.br (C.heap.blk b blk g1))
 .obtain⟨blk,g1,g2,_⟩:=hb b blk' hb';exact g2.flat hf
theorem CT.lessArgs{f:FuncId}{hin hout:List (Option Blk)}{args args':List AV}{res:AV}(h:CT P f hin args' hout res)(hl:args'.length=args.length)(ha:∀(i:Nat) (a':AV),args'[i]?=some a'->∃a,args[i]?=some a/\B5 a a'):CT P f hin args hout res:=by
 intro φ A w vs h1 h2 h3 h4 h5;refine h φ A w vs h1 h2 h3 (by omega) fun i c v hc hv=>?_
 obtain⟨a,g1,g2⟩:=ha i c hc;exact g2.2 φ A w v (h5 i a v g1 hv)
def onH(f:Blk->Blk):Nat->List (Option Blk)->List (Option Blk) | _,[]=>[] | 0,some blk::r=>some (f blk)::r | 0,none::r=>none::r | b+1,x::r=>x::onH f b r
theorem IJ(f:Blk->Blk):∀(hp:List (Option Blk)) (b b':Nat),nth (onH f b hp) b'=if b'=b then (nth hp b').map f else nth hp b':=by
 intro hp;induction hp with
 | nil=>intro b b';simp[onH,nth]
 | cons x r ih=>
  intro b b';cases b with
  | zero=>cases b'<;>cases x<;>simp[onH,nth]
  | succ b=>
   cases b' with
   | zero=>simp[onH,nth]
   | succ b'=>simp[onH,nth,ih b b']
theorem QW(f:Blk->Blk):∀(hp:List (Option Blk)) (b:Nat),(onH f b hp).length=hp.length:=by
 intro hp;induction hp with
 | nil=>intro b;cases b<;>rfl
 | cons x r ih=>intro b;cases b<;>cases x<;>simp[onH,ih]
theorem Mut_onH{f:Blk->Blk}(hf:∀blk,(f blk).wr=blk.wr){φ:Phi}{hp:List (Option Blk)}{b r:Nat}:Mut φ (nth (onH f b hp)) r↔Mut φ (nth hp) r:=by
 constructor
 .rintro⟨b',blk,z,h1,h2,h3⟩
  rw[IJ] at h1;split at h1
  .obtain⟨blk',h4,rfl⟩:=Option.map_eq_some_iff.1 h1;exact⟨b',blk',z,h4,by rw[<-hf];exact h2,h3⟩
  .exact⟨b',blk,z,h1,h2,h3⟩
 .rintro⟨b',blk,z,h1,h2,h3⟩
  by_cases hb:b'=b
  .exact⟨b',f blk,z,by rw[IJ,Vt hb,h1];rfl,by rw[hf];exact h2,h3⟩
  .exact⟨b',blk,z,by rw[IJ,Vu hb];exact h1,h2,h3⟩
theorem Ren.wk(m:Nat)(st:St):Ren m st (wkSt st):=by intro A0 n0 φ a w hm hr;refine⟨φ,⟨hr.defs,hr.size,fun s=>?_,hr.heap,hr.out,hr.base,hr.own⟩,hm,.refl m φ _ w⟩;show VR φ _ w (Av (IY st.fr) s) _;rw[SK];exact(hr.slot s).wk1
def DB(blk:Blk):Blk:=match blk.es with
 | [.agg cs]=>{blk with es:=cs,z:=1}
 | _=>blk
def EY(b:Nat)(v:AV):AV:=match v with
 | .ptr b' i j=>match Nat.beq b' b,i with
  | false,_=>v
  | true,0=>.ptr b j 0
  | true,_=>.unk
 | .sl b' _ _=>match Nat.beq b' b with
  | false=>v
  | true=>.unk
 | .agg cs=>match A8 cs with
  | true=>v
  | false=>.unk
 | .tup cs=>match A8 cs with
  | true=>v
  | false=>.unk
 | .fn _ _=>.unk
 | .ifc _ _=>.unk
 | .map b'=>match Nat.beq b' b with
  | false=>v
  | true=>.unk
 | v=>v
def JP(b:Nat):List (Nat×AV)->List (Nat×AV) | []=>[] | (s,v)::r=>(s,EY b v)::JP b r
theorem T6(b:Nat):∀(fr:List (Nat×AV)) (s:Nat),Av (JP b fr) s=EY b (Av fr s):=by
 intro fr;induction fr with
 | nil=>intro s;rfl
 | cons x r ih=>
  intro s;obtain⟨t,v⟩:=x;simp only[JP,Av];split
  .rfl
  .exact ih s
def EA(b:Nat)(st:St):St:={st with fr:=JP b st.fr,hp:=onH DB b st.hp}
def KH(hp:List (Option Blk)):Bool:=hp.all fun x=>match x with | some blk=>blk.flat | none=>true
def OT(hp:List (Option Blk))(b:Nat):Bool:=match nth hp b with
 | some blk=>match blk.es with
  | [.agg _]=>true
  | _=>false
 | none=>false
theorem SQ:∀{hp:List (Option Blk)},KH hp=true->∀b blk,nth hp b=some blk->blk.flat=true:=by
 intro hp;induction hp with
 | nil=>intro _ b blk h;cases b<;>cases h
 | cons x r ih=>
  intro h b blk hb;simp only[KH,List.all_cons,VD] at h;cases b with
  | zero=>simp[nth] at hb;subst hb;exact h.1
  | succ b=>exact ih h.2 b blk (by simpa [nth] using hb)
theorem VR.noref_any{φ φ':Phi}{A A':Nat->Prop}{w:World}{c:AV}{v:Value}(h:VR φ A w c v)(hn:c.noref=true)(hA:∀r,A r->A' r):VR φ' A' w c v:=.imm _ _ ((h.noref_rt hn).mono hA (fun _ _=>rfl))
theorem Ren.flat(m b:Nat)(st:St)(hmb:m<=b)(hf:KH st.hp=true)(ha:OT st.hp b=true):Ren m st (EA b st):=by
 intro A0 n0 φ a w hm hr;let φ':Phi:=fun x=>if x=b then (φ x).map (fun p=>(p.1,1)) else φ x
 have hwr:∀blk,(DB blk).wr=blk.wr:=by intro blk;unfold DB;split<;>rfl
 have hmut:∀r,Mut φ' (nth (onH DB b st.hp)) r↔Mut φ (nth st.hp) r:=by
  intro r;rw[Mut_onH hwr];constructor
  .rintro⟨b',blk,z,h1,h2,h3⟩
   simp only[φ'] at h3;split at h3
   .obtain⟨p,h4,h5⟩:=Option.map_eq_some_iff.1 h3;simp only[Vm] at h5;exact⟨b',blk,p.2,h1,h2,by rw[h4,<-h5.1]⟩
   .exact⟨b',blk,z,h1,h2,h3⟩
  .rintro⟨b',blk,z,h1,h2,h3⟩
   by_cases hb:b'=b
   .exact⟨b',blk,1,h1,h2,by simp only[φ'];rw[Vt hb,h3];rfl⟩
   .exact⟨b',blk,z,h1,h2,by simp only[φ'];rw[Vu hb];exact h3⟩
 have hok:∀r,Ok A0 n0 φ st.h w r->Ok A0 n0 φ' (EA b st).h w r:=fun r ⟨h1,h2,h3⟩=>⟨h1,h2,fun h=>h3 ((hmut r).1 h)⟩
 have hne:∀x,x≠b->φ' x=φ x:=fun x hx=>by simp only[φ'];rw[Vu hx]
 have vr:∀{v:AV} {u:Value},VR φ (Ok A0 n0 φ st.h w) w v u->VR φ' (Ok A0 n0 φ' (EA b st).h w) w (EY b v) u:=by
  intro v u h;cases v with
  | ptr b' i j=>
   simp only[EY];cases hbb:Nat.beq b' b with
   | false=>
    obtain⟨r,z,h1,rfl⟩:=h.ptr_inv;have:b'≠b:=fun e=>by subst e;rw[Nat.beq_refl] at hbb;cases hbb
    exact .ptr b' i j r z (by rw[hne b' this];exact h1)
   | true=>
    have:=VC hbb;subst this;obtain⟨r,z,h1,rfl⟩:=h.ptr_inv;cases i with
    | zero=>have:=VR.ptr (φ:=φ') (A:=Ok A0 n0 φ' (EA b' st).h w) (w:=w) b' j 0 r 1 (by simp only[φ'];rw[h1];rfl);simpa using this
    | succ i=>exact .imm _ _ (.unk _)
  | sl b' i n=>
   simp only[EY];cases hbb:Nat.beq b' b with
   | false=>
    have:b'≠b:=fun e=>by subst e;rw[Nat.beq_refl] at hbb;cases hbb
    rcases h.sl_inv with ⟨rfl,a,rfl⟩ | ⟨r,z,cap,h1,h2,h3,rfl⟩
    .exact .slnil b' i a
    .exact .sl b' i n r z cap (by rw[hne b' this];exact h1) h2 h3
   | true=>exact .imm _ _ (.unk _)
  | agg cs=>
   simp only[EY];cases hn:A8 cs with
   | false=>exact .imm _ _ (.unk _)
   | true=>obtain⟨us,rfl,hl,hh⟩:=h.agg_inv;exact .agg cs us hl fun i c v hc hv=>(hh i c v hc hv).noref_any (VK.1 hn c (Vz hc)) hok
  | tup cs=>
   simp only[EY];cases hn:A8 cs with
   | false=>exact .imm _ _ (.unk _)
   | true=>obtain⟨us,rfl,hl,hh⟩:=h.tup_inv;exact .tup cs us hl fun i c v hc hv=>(hh i c v hc hv).noref_any (VK.1 hn c (Vz hc)) hok
  | fn f cs=>exact .imm _ _ (.unk _)
  | ifc f cs=>exact .imm _ _ (.unk _)
  | map b'=>
   simp only[EY];cases hbb:Nat.beq b' b with
   | false=>
    have:b'≠b:=fun e=>by subst e;rw[Nat.beq_refl] at hbb;cases hbb
    obtain⟨r,z,h1,rfl⟩:=h.map_inv;exact .map b' r z (by rw[hne b' this];exact h1)
   | true=>exact .imm _ _ (.unk _)
  | _=>exact h.noref_any rfl hok
 have cellV:∀{b':Nat} {blk:Blk},nth st.hp b'=some blk->∀{e c:AV} {u:Value},e∈blk.es->c∈e.cells->VR φ (Ok A0 n0 φ st.h w) w c u->VR φ' (Ok A0 n0 φ' (EA b st).h w) w c u:=by intro b' blk hb e c u he hc h;exact h.noref_any (hr.heap.flat b' blk hb (SQ hf b' blk hb) e he c hc) hok
 refine⟨φ',⟨hr.defs,hr.size,fun s=>?_,?_,fun b' hb=>?_,hr.base,fun b' r z hb h1=>?_⟩,by simpa [EA,QW] using hm,fun b' hb=>?_,Bt.refl _ w,fun r h=>.inl ((hmut r).1 h)⟩
 .show VR φ' _ w (Av (JP b st.fr) s) _;rw[T6];exact vr (hr.slot s)
 .refine⟨fun b' blk hb=>?_,fun b' blk hb hfl=>?_,fun b1 b2 r z z' h1 h2 g1 g2=>?_⟩
  .change nth (onH DB b st.hp) b'=some blk at hb;rw[IJ] at hb;split at hb
   .rename_i hbb;subst hbb;obtain⟨blk',h4,rfl⟩:=Option.map_eq_some_iff.1 hb;have hes:∃cs,blk'.es=[.agg cs]:=by
     unfold OT at ha;rw[h4] at ha;simp only at ha;split at ha
     .rename_i cs he;exact⟨cs,he⟩
     .cases ha
    obtain⟨cs,hes⟩:=hes;have hfb:DB blk'={blk' with es:=cs,z:=1}:=by unfold DB;rw[hes]
    rw[hfb];rcases hr.heap.blk b' blk' h4 with ⟨h1,_⟩ | ⟨r,cells,T,h1,h2,⟨h3,hmp⟩,h5⟩ | ⟨_,_,_,_,⟨h1,_⟩,_⟩
    .rw[hes] at h1;cases h1
    case inr.inr=>rw[hes] at h1;cases h1
    .obtain⟨g1,g2⟩:=h5 0 (.agg cs) (by rw[hes];rfl);simp only[AV.cells] at g1 g2;refine .inr (.inl ⟨r,cells,T,by simp only[φ'];rw[h1];rfl,h2,⟨?_,hmp⟩,fun i c hc=>?_⟩)
     .simp only[Nat.mul_one];rw[hes] at h3;simp only[V9,Nat.one_mul] at h3;omega
     .obtain⟨g3,u,g4,g5⟩:=g2 i c hc;have hcc:=Mn g3;refine⟨by rw[hcc];rfl,fun j c' hj=>?_⟩;rw[hcc] at hj;match j,hj with
      | 0,hj=>simp at hj;subst hj;refine⟨g3,u,by simpa using g4,?_⟩;exact cellV h4 (e:=.agg cs) (by rw[hes];simp) (Vz hc) g5
   .rename_i hbb;rcases hr.heap.blk b' blk hb with ⟨h1,h2,h3⟩ | ⟨r,cells,T,h1,h2,h3,h5⟩ | ⟨m,r,h1,h2,h3,h5⟩
    .exact .inl ⟨h1,by rw[hne b' hbb];exact h2,h3⟩
    case inr.inr=>exact .inr (.inr ⟨m,r,h1,by rw[hne b' hbb];exact h2,h3,h5⟩)
    .refine .inr (.inl ⟨r,cells,T,by rw[hne b' hbb];exact h1,h2,h3,fun i e he=>⟨(h5 i e he).1,fun j c hc=>?_⟩⟩);obtain⟨g3,u,g4,g5⟩:=(h5 i e he).2 j c hc;exact⟨g3,u,g4,cellV hb (Vz he) (Vz hc) g5⟩
  .change nth (onH DB b st.hp) b'=some blk at hb;rw[IJ] at hb;split at hb
   .obtain⟨blk',h4,rfl⟩:=Option.map_eq_some_iff.1 hb;have hno:=hr.heap.flat b' blk' h4 (SQ hf b' blk' h4);have h5:=hr.heap.blk b' blk' h4;intro e he c hc;unfold DB at he;split at he
    .rename_i cs hes;simp only at he;rcases h5 with ⟨h1,_⟩ | ⟨r,cells,T,h1,h2,h3,h5⟩ | ⟨_,_,_,_,⟨h1,_⟩,_⟩
     .rw[hes] at h1;cases h1
     case inr.inr=>rw[hes] at h1;cases h1
     .obtain⟨i,hi⟩:=List.getElem?_of_mem he;obtain⟨g3,_⟩:=(h5 0 (.agg cs) (by rw[hes];rfl)).2 i e hi;rw[Mn g3] at hc;simp at hc;subst hc;exact hno (.agg cs) (by rw[hes];simp) c he
    .exact hno e he c hc
   .exact hr.heap.flat b' blk hb hfl
  .have up:∀x r z,φ' x=some (r,z)->∃z',φ x=some (r,z'):=by
    intro x r z h;simp only[φ'] at h;split at h
    .obtain⟨p,h4,h5⟩:=Option.map_eq_some_iff.1 h;simp only[Vm] at h5;exact⟨p.2,by rw[h4,<-h5.1]⟩
    .exact⟨z,h⟩
   have iss:∀x,(nth (onH DB b st.hp) x).isSome=true->(nth st.hp x).isSome=true:=by intro x h;rw[IJ] at h;split at h<;>simpa using h
   obtain⟨z1,k1⟩:=up b1 r z g1;obtain⟨z2,k2⟩:=up b2 r z' g2;exact hr.heap.inj b1 b2 r z1 z2 (iss b1 h1) (iss b2 h2) k1 k2
 .have h0:=hr.out b' (by simpa [EA,QW] using hb);simp only[φ'];split
  .rw[h0];rfl
  .exact h0
 .simp only[φ'] at h1;split at h1
  .obtain⟨p,h4,h5⟩:=Option.map_eq_some_iff.1 h1;simp only[Vm] at h5;exact hr.own b' r p.2 hb (by rw[h4,<-h5.1])
  .exact hr.own b' r z hb h1
 .exact hne b' (by omega)
inductive Ks where | code (c:Code) | blk (id:Nat) | rnd (c:Code) | scp (c:Code)
def TJ(P:Program)(m:Nat)(body rest:Code)(st:St)(post:Exit->St->Prop):Prop:=∀A0 n0 φ a w,m<=st.hp.length->Rel A0 n0 m φ st a w->∀b k cs,∃e a' w',RQ A0 n0 m φ st.h w post e a' w'/\Arrives P (lone (b.at a (.code rest:: .inScope body::k)) cs w) b k cs e a' w'
theorem TJ.round{m:Nat}{c rest:Code}{st:St}{post:Exit->St->Prop}(h:T P m rest st (fun e s=>match e with | .goto l=>(match findLabel c l with | some r=>TJ P m c r s post | none=>False) | e=>post e s)):TJ P m c rest st post:=by
 intro A0 n0 φ a w hm hr b k cs;obtain⟨e,a1,w1,hq,harr⟩:=h A0 n0 φ a w hm hr b (.inScope c::k) cs;obtain⟨φ1,st1,h1,h2,h3,h4⟩:=hq;cases e with
 | normal=>exact⟨.normal,a1,w1,⟨φ1,st1,h1,h2,h3,h4⟩,Steps.trans harr (.one step_inScope)⟩
 | exit id=>exact⟨.exit id,a1,w1,⟨φ1,st1,h1,h2,h3,h4⟩,fun k' hk=>harr k' (by simp[exitTo,hk])⟩
 | goto l=>
  have h1':(match findLabel c l with | some r=>TJ P m c r st1 post | none=>False):=h1;generalize hf:findLabel c l=x at h1';cases x with
  | none=>exact h1'.elim
  | some r=>obtain⟨e2,a2,w2,hq2,harr2⟩:=h1' A0 n0 φ1 a1 w1 h3 h2 b k cs;exact⟨e2,a2,w2,hq2.trans h4,.of_steps (harr _ (by simp[gotoIn,hf])) harr2⟩
 | ret=>exact⟨_,a1,w1,⟨φ1,st1,h1,h2,h3,h4⟩,harr⟩
 | panic ch=>exact⟨_,a1,w1,⟨φ1,st1,h1,h2,h3,h4⟩,harr⟩
 | outgrown=>exact⟨_,a1,w1,⟨φ1,st1,h1,h2,h3,h4⟩,harr⟩
theorem T.of_TJ{m:Nat}{c:Code}{st:St}{post:Exit->St->Prop}(h:TJ P m c c st post):T P m (.scope c) st post:=by intro A0 n0 φ a w hm hr b k cs;obtain⟨e,a',w',hq,harr⟩:=h A0 n0 φ a w hm hr b k cs;exact⟨e,a',w',hq,.of_steps (.one step_scope) harr⟩
theorem TJ.ren{m:Nat}{b c:Code}{st st':St}{post:Exit->St->Prop}(h:Ren m st st')(ht:TJ P m b c st' post):TJ P m b c st post:=fun A0 n0 φ a w hm hr b k cs=>by obtain⟨φ1,h1,h2,h3⟩:=h A0 n0 φ a w hm hr;obtain⟨e,a',w',hq,harr⟩:=ht A0 n0 φ1 a w h2 h1 b k cs;exact⟨e,a',w',hq.trans h3,harr⟩
def TS(P:Program)(m:Nat)(post:Exit->St->Prop):List Ks->Exit->St->Prop
 | [],e,st=>post e st
 | .code c::k,e,st=>match e with
  | .normal=>T P m c st (TS P m post k)
  | e=>TS P m post k e st
 | .blk id::k,e,st=>Cz id (TS P m post k) e st
 | .rnd c::k,e,st=>match e with
  | .normal=>TL P m c st (TS P m post k)
  | e=>TS P m post k e st
 | .scp c::k,e,st=>match e with
  | .goto l=>match findLabel c l with | some r=>TJ P m c r st (TS P m post k) | none=>False
  | e=>TS P m post k e st
def HD(P:Program)(m:Nat)(post:Exit->St->Prop)(c:Code)(k:List Ks)(st:St):Prop:=match k with
 | .rnd c'::k=>TL P m c' st (TS P m post k)
 | .scp b::k=>TJ P m b c st (TS P m post k)
 | k=>T P m c st (TS P m post k)
inductive Ep where | done (e:Exit) | loop (c:Code) (k:List Ks)
def JF(p:Prop):Option (Ep×St×Prop)->Option (Ep×St×Prop) | some (o,s,q)=>some (o,s,p/\q) | none=>none
theorem T.goto{m l:Nat}{st:St}{post:Exit->St->Prop}(h:post (.goto l) st):T P m (.goto l) st post:=fun _ _ φ _ w hm hr=>wp_goto ⟨φ,st,h,hr,hm,.refl m φ st.h w⟩
theorem T.label{m l:Nat}{st:St}{post:Exit->St->Prop}(h:post .normal st):T P m (.label l) st post:=fun _ _ φ _ w hm hr=>wp_label ⟨φ,st,h,hr,hm,.refl m φ st.h w⟩
theorem T.scope{m:Nat}{c:Code}{st:St}{post:Exit->St->Prop}(h:T P m c st (fun e s=>match e with | .goto _=>False | e=>post e s)):T P m (.scope c) st post:=by intro A0 n0 φ a w hm hr;refine wp_scope_straight (wp_mono (h A0 n0 φ a w hm hr) fun e a' w' hq=>?_);obtain⟨φ',st',h1,h2⟩:=hq;cases e<;>first | exact h1.elim | exact⟨φ',st',h1,h2⟩
theorem nth_lt0{α:Type}{l:List (Option α)}{b:Nat}{x:α}(h:nth l b=some x):b<l.length:=by
 induction l generalizing b with
 | nil=>simp[nth] at h
 | cons y r ih=>cases b with
  | zero=>simp
  | succ b=>have:=ih (b:=b) (by simpa [nth] using h);simp;omega
def flats(m id:Nat):List (Nat×Nat)->St->Option St
 | [],st=>some st
 | (r,b)::l,st=>match Nat.beq r id with
  | false=>flats m id l st
  | true=>match Nat.ble m b&&KH st.hp&&OT st.hp b with
   | true=>flats m id l (EA b st)
   | false=>none
theorem Ren.flats{m id:Nat}:∀{l:List (Nat×Nat)} {st st':St},flats m id l st=some st'->Ren m st st'
 | [],st,st',h=>by cases h;exact .refl _ _
 | (r,b)::l,st,st',h=>by
  simp only[Go.AX.flats] at h;split at h
  .exact Ren.flats h
  .split at h
   .rename_i hc;simp only[VD] at hc;exact(Ren.flat m b st (VU hc.1.1) hc.1.2 hc.2).trans (Ren.flats h)
   .cases h
def dropA:List (Nat×Bool)->Nat->List (Nat×Bool)
 | [],_=>[]
 | (k,v)::r,s=>match Nat.beq k s with | true=>r | false=>(k,v)::dropA r s
def Mf(H:HT)(s:Nat):HT:={H with dec:=dropA H.dec s}
def setB(x:Operand)(v:Bool)(st:St):St:=match x with
 | .tmp s=>{n:=st.n,fr:=(s,.bool v)::st.fr,hp:=st.hp}
 | _=>st
theorem Ren.setB{m:Nat}{x:Operand}{v:Bool}{st:St}(h:st.ev x = .bool v):Ren m st (setB x v st):=by
 cases x with
 | tmp s=>
  refine Ren.less rfl (VH _) (fun t=>?_) fun b blk' hb=>.inl ⟨nth_lt0 hb,blk',hb,.inl rfl⟩
  simp only[Go.AX.setB,Av];cases hq:Nat.beq s t with
  | true=>have:=VC hq;subst this;have h':Av st.fr s = .bool v:=h;rw[h'];exact .refl _
  | false=>exact .refl _
 | _=>exact .refl _ _
def gm(P:Program)(F:List (Nat×Nat))(m:Nat):Nat->HT->Code⊕Exit->List Ks->St->Option (Ep×St×Prop)
 | 0,_,_,_,_=>none
 | n+1,H,.inl c,k,st=>match c with
  | .seq a b=>gm P F m n H (.inl a) (.code b::k) st
  | .block id c=>gm P F m n H (.inl c) (.blk id::k) st
  | .region id ops dr=>match flats m id F st with
   | some st0=>match JH P H m ops dr st0 with
    | some (st',p)=>JF p (gm P F m n H (.inr .normal) k st')
    | none=>none
   | none=>none
  | .cond x c d=>match st.ev x with
   | .bool b=>match (gd H (CJ x) b).1 with
    | true=>JF (gd H (CJ x) b).2 (gm P F m n (Mf H (CJ x)) (.inl c) k (setB x true st))
    | false=>JF (gd H (CJ x) b).2 (gm P F m n (Mf H (CJ x)) (.inl d) k (setB x false st))
   | _=>none
  | .skip=>gm P F m n H (.inr .normal) k st
  | .ret=>gm P F m n H (.inr .ret) k st
  | .exit id=>gm P F m n H (.inr (.exit id)) k st
  | .loop c=>some (.loop c (.rnd c::k),st,True)
  | .scope c=>gm P F m n H (.inl c) (.scp c::k) st
  | .label _=>gm P F m n H (.inr .normal) k st
  | .goto l=>gm P F m n H (.inr (.goto l)) k st
  | _=>none
 | n+1,H,.inr e,k,st=>match k with
  | []=>some (.done e,st,True)
  | .code c::k=>match e with
   | .normal=>gm P F m n H (.inl c) k st
   | e=>gm P F m n H (.inr e) k st
  | .blk id::k=>gm P F m n H (.inr (IX id e)) k st
  | .rnd c::k=>match e with
   | .normal=>some (.loop c (.rnd c::k),st,True)
   | e=>gm P F m n H (.inr e) k st
  | .scp b::k=>match e with
   | .goto l=>match findLabel b l with | some r=>some (.loop r (.scp b::k),st,True) | none=>none
   | e=>gm P F m n H (.inr e) k st
def RestM(P:Program)(m:Nat)(post:Exit->St->Prop)(st:St):Ep->Prop | .done e=>post e st | .loop c k=>HD P m post c k st
theorem Mo{F:List (Nat×Nat)}{m:Nat}{post:Exit->St->Prop}(hmix:P.follows .mixedOrders=true):∀(n:Nat) (H:HT) (c:Code⊕Exit) (k:List Ks) (st:St) (o:Ep) (st':St) (p:Prop),
  gm P F m n H c k st=some (o,st',p)->p->RestM P m post st' o->match c with
   | .inl c=>T P m c st (TS P m post k)
   | .inr e=>TS P m post k e st:=by
 have hcj:∀{p:Prop} {x:Option (Ep×St×Prop)} {o:Ep} {st':St} {q:Prop},JF p x=some (o,st',q)->∃q',x=some (o,st',q')/\q=(p/\q'):=by
  intro p x o st' q h;unfold JF at h;split at h
  .cases h;exact⟨_,rfl,rfl⟩
  .cases h
 intro n;induction n with
 | zero=>intro H c k st o st' p h;simp[gm] at h
 | succ n ih=>
  intro H c k st o st' p h hp hrest;cases c with
  | inl c=>
   cases c<;>simp only[gm] at h
   case seq a b=>refine T.seq ((ih _ _ _ _ _ _ _ h hp hrest).mono fun e s hs=>?_);cases e<;>exact hs
   case block id c=>refine T.block ((ih _ _ _ _ _ _ _ h hp hrest).mono fun e s hs=>?_);exact hs
   case region id ops dr=>
    split at h
    .rename_i st0 h0;split at h
     .rename_i st1 p1 h1;obtain⟨q,h2,rfl⟩:=hcj h;exact T.ren (Ren.flats h0) (T.region hmix h1 hp.1 (ih _ _ _ _ _ _ _ h2 hp.2 hrest))
     .cases h
    .cases h
   case cond x c d=>
    split at h
    .rename_i b hb;split at h
     .rename_i hg;obtain⟨q,h2,rfl⟩:=hcj h;have hev:st.ev x = .bool true:=by rw[hb,En hp.1,hg]
      exact T.cond_true hev (T.ren (Ren.setB hev) (ih _ _ _ _ _ _ _ h2 hp.2 hrest))
     .rename_i hg;obtain⟨q,h2,rfl⟩:=hcj h;have hev:st.ev x = .bool false:=by rw[hb,En hp.1,hg]
      exact T.cond_false hev (T.ren (Ren.setB hev) (ih _ _ _ _ _ _ _ h2 hp.2 hrest))
    .cases h
   case skip=>exact T.skip (ih _ _ _ _ _ _ _ h hp hrest)
   case ret=>exact T.ret (ih _ _ _ _ _ _ _ h hp hrest)
   case exit id=>exact T.exit (ih _ _ _ _ _ _ _ h hp hrest)
   case loop c=>cases h;exact T.of_TL hrest
   case scope c=>refine T.of_TJ (TJ.round ((ih _ _ _ _ _ _ _ h hp hrest).mono fun e s hs=>?_));cases e<;>exact hs
   case label l=>exact T.label (ih _ _ _ _ _ _ _ h hp hrest)
   case goto l=>exact T.goto (ih _ _ _ _ _ _ _ h hp hrest)
   all_goals cases h
  | inr e=>
   cases k with
   | nil=>simp only[gm] at h;cases h;exact hrest
   | cons x k=>
    cases x with
    | code c=>
     cases e<;>simp only[gm] at h
     case normal=>exact ih _ _ _ _ _ _ _ h hp hrest
     all_goals exact ih _ _ _ _ _ _ _ h hp hrest
    | rnd c=>
     cases e<;>simp only[gm] at h
     case normal=>cases h;exact hrest
     all_goals exact ih _ _ _ _ _ _ _ h hp hrest
    | scp b=>
     cases e<;>simp only[gm] at h
     case goto l=>
      show(match findLabel b l with | some r=>TJ P m b r st (TS P m post k) | none=>False);generalize hf:findLabel b l=x at h;cases x with
      | none=>cases h
      | some r=>cases h;exact hrest
     all_goals exact ih _ _ _ _ _ _ _ h hp hrest
    | blk id=>
     simp only[gm] at h;have:=ih _ _ _ _ _ _ _ h hp hrest;cases e<;>simp only[IX] at this
     case exit id'=>
      show Cz id _ _ _;simp only[Cz];split at this
      .rename_i hb;rw[Vt (VC hb)];exact this
      .rename_i hb;rw[Vu (fun e=>by rw[e,Nat.beq_refl] at hb;cases hb)];exact this
     all_goals exact this
def labs:Code->List Nat | .seq a b=>labs a++labs b | .label l=>[l] | _=>[]
def I0(c:Code)(k:List Ks):List Nat->List (Code×List Ks)
 | []=>[]
 | l::r=>match findLabel c l with | some x=>(x,k)::I0 c k r | none=>I0 c k r
def Cp:Code->List Ks->List (Code×List Ks) | .seq a b,k=>Cp a (.code b::k)++Cp b k | .block id c,k=>Cp c (.blk id::k) | .cond _ c d,k=>Cp c k++Cp d k | .loop c,k=>(c,.rnd c::k)::Cp c (.rnd c::k) | .scope c,k=>Cp c (.scp c::k) | _,_=>[]
def Cs:Code->List Ks->List (Code×List Ks) | .seq a b,k=>Cs a (.code b::k)++Cs b k | .block id c,k=>Cs c (.blk id::k) | .cond _ c d,k=>Cs c k++Cs d k | .loop c,k=>Cs c (.rnd c::k) | .scope c,k=>I0 c (.scp c::k) (labs c)++Cs c (.scp c::k) | _,_=>[]
def Ck(fn:Func)(i:Nat):Code:=match (Cp (zB fn) []++Cs (zB fn) [])[i]? with | some x=>x.1 | none=>.skip
def Cj(fn:Func)(i:Nat):List Ks:=match (Cp (zB fn) []++Cs (zB fn) [])[i]? with | some x=>x.2 | none=>[]
theorem TL.ren{m:Nat}{c:Code}{st st':St}{post:Exit->St->Prop}(h:Ren m st st')(ht:TL P m c st' post):TL P m c st post:=fun A0 n0 φ a w hm hr b k cs=>by obtain⟨φ1,h1,h2,h3⟩:=h A0 n0 φ a w hm hr;obtain⟨e,a',w',hq,harr⟩:=ht A0 n0 φ1 a w h2 h1 b k cs;exact⟨e,a',w',hq.trans h3,harr⟩
theorem HD.ren{m:Nat}{c:Code}{k:List Ks}{st st':St}{post:Exit->St->Prop}(h:Ren m st st')(ht:HD P m post c k st'):HD P m post c k st:=by
 unfold HD at ht ⊢
 split at ht
 .exact TL.ren h ht
 .exact TJ.ren h ht
 .exact T.ren h ht
def HOk(x:Code×List Ks):Prop:=match x.2 with
 | .rnd c'::_=>c'=x.1
 | _=>True
theorem Nb{c b:Code}{k:List Ks}:∀(l:List Nat) (x:Code×List Ks),x∈I0 c (.scp b::k) l->HOk x
 | [],x,h=>by simp[I0] at h
 | l::r,x,h=>by
  simp only[I0] at h;split at h
  .rcases VY.mp h with rfl | h
   .trivial
   .exact Nb r x h
  .exact Nb r x h
theorem heads_ok(c:Code):∀(k:List Ks) (x:Code×List Ks),x∈Cp c k->HOk x:=by
 induction c with
 | seq a b iha ihb=>intro k x h;simp only[Cp,VZ] at h;rcases h with h | h;exact iha _ _ h;exact ihb _ _ h
 | block id c ih=>intro k x h;exact ih _ _ h
 | cond y a b iha ihb=>intro k x h;simp only[Cp,VZ] at h;rcases h with h | h;exact iha _ _ h;exact ihb _ _ h
 | loop c ih=>
  intro k x h;simp only[Cp,VY] at h;rcases h with rfl | h
  .rfl
  .exact ih _ _ h
 | scope c ih=>intro k x h;exact ih _ _ h
 | _=>intro k x h;simp[Cp] at h
theorem labH_ok(c:Code):∀(k:List Ks) (x:Code×List Ks),x∈Cs c k->HOk x:=by
 induction c with
 | seq a b iha ihb=>intro k x h;simp only[Cs,VZ] at h;rcases h with h | h;exact iha _ _ h;exact ihb _ _ h
 | block id c ih=>intro k x h;exact ih _ _ h
 | cond y a b iha ihb=>intro k x h;simp only[Cs,VZ] at h;rcases h with h | h;exact iha _ _ h;exact ihb _ _ h
 | loop c ih=>intro k x h;exact ih _ _ h
 | scope c ih=>intro k x h;simp only[Cs,VZ] at h;rcases h with h | h;exact Nb _ _ h;exact ih _ _ h
 | _=>intro k x h;simp[Cs] at h
theorem head_ok(fn:Func)(i:Nat):HOk (Ck fn i,Cj fn i):=by
 unfold Ck Cj;cases h:(Cp (zB fn) []++Cs (zB fn) [])[i]? with
 | none=>trivial
 | some x=>exact(VZ.1 (Vz h)).elim (heads_ok _ _ _) (labH_ok _ _ _)
theorem HD.round{m:Nat}{c:Code}{k:List Ks}{st:St}{post:Exit->St->Prop}(ho:HOk (c,k))(h:T P m c st (TS P m post k)):HD P m post c k st:=by
 unfold HD;split
 .rename_i c' k;have e:c'=c:=ho;subst e;refine TL.round (h.mono fun e s hs=>?_);cases e<;>exact hs
 .refine TJ.round (h.mono fun e s hs=>?_);cases e<;>exact hs
 .exact h
inductive Ac {σ ρ:Type} (step:σ->Option (σ⊕ρ)):Option (σ⊕ρ)->ρ->Prop | ret (r:ρ):Ac step (some (.inr r)) r | go (s:σ) (r:ρ) (h:Ac step (step s) r):Ac step (some (.inl s)) r
abbrev Ret:=List (Option Blk)×AV
def Arr{σ:Type}(P:Program)(fn:Func)(m:Nat)(S:σ->St)(hd:σ->Nat)(c:Code)(k:List Ks)(st:St):σ⊕Ret->Prop | .inl s=>∀post:Exit->St->Prop,(∀st',Ren m st' (S s)->HD P m post (Ck fn (hd s)) (Cj fn (hd s)) st')->T P m c st (TS P m post k) | .inr r=>T P m c st (TS P m (Fin P fn m r.1 r.2) k)
def MOk{σ:Type}(P:Program)(fn:Func)(m:Nat)(S:σ->St)(hd:σ->Nat)(r:Ret):Option (σ⊕Ret)->Prop | some (.inl s)=>∀st',Ren m st' (S s)->HD P m (Fin P fn m r.1 r.2) (Ck fn (hd s)) (Cj fn (hd s)) st' | some (.inr q)=>q=r | none=>False
theorem mach{σ:Type}{fn:Func}{m:Nat}{S:σ->St}{hd:σ->Nat}{step:σ->Option (σ⊕Ret)}
  (hs:∀s o,step s=some o->Arr P fn m S hd (Ck fn (hd s)) (Cj fn (hd s)) (S s) o) {x:Option (σ⊕Ret)} {r:Ret} (h:Ac step x r):
  MOk P fn m S hd r x:=by
 induction h with
 | ret r=>rfl
 | go s r h ih=>
  intro st' hren;refine HD.ren hren (HD.round (head_ok _ _) ?_);generalize ho:step s=x at ih;cases x with
  | none=>exact ih.elim
  | some o=>
   have ha:=hs s o ho;have key:T P m (Ck fn (hd s)) (S s) (TS P m (Fin P fn m r.1 r.2) (Cj fn (hd s))):=by
    cases o with
    | inl s'=>exact ha _ ih
    | inr q=>have e:q=r:=ih
             subst e;exact ha
   exact key
def emS:Empty->St:=fun x=>x.elim
def emH:Empty->Nat:=fun x=>x.elim
def emT{ρ:Type}:Empty->Option (Empty⊕ρ):=fun x=>x.elim
theorem CT.mach{σ:Type}{f:FuncId}{fn:Func}{c:Code}{hin:List (Option Blk)}{args:List AV}{S:σ->St}{hd:σ->Nat}{step:σ->Option (σ⊕Ret)}{en:Option (σ⊕Ret)}{r:Ret}
  (hf:P.funcs[f]?=some fn) (hb:fn.body=some c) (hn:args.length<=fn.ntmps)
  (hs:∀s o,step s=some o->Arr P fn hin.length S hd (Ck fn (hd s)) (Cj fn (hd s)) (S s) o)
  (he:∀o,en=some o->Arr P fn hin.length S hd c [] {n:=fn.ntmps,fr:=Ct 0 args,hp:=hin} o) (h:Ac step en r):CT P f hin args r.1 r.2:=by
 refine CT.of hf hb hn ?_;have hm:=Go.AX.mach hs h;clear h;cases en with
 | none=>exact hm.elim
 | some o=>
  cases o with
  | inl s=>exact he _ rfl _ hm
  | inr q=>have e:q=r:=hm
           subst e;exact he _ rfl
theorem CTX.mach{σ:Type}{f:FuncId}{fn:Func}{c:Code}{hin:List (Option Blk)}{args:List AV}{S:σ->St}{hd:σ->Nat}{step:σ->Option (σ⊕Ret)}{en:Option (σ⊕Ret)}{r:Ret}
  (hf:P.funcs[f]?=some fn) (hb:fn.body=some c) (hn:args.length<=fn.ntmps) (h1:1<=hin.length)
  (hs:∀s o,step s=some o->Arr P fn 1 S hd (Ck fn (hd s)) (Cj fn (hd s)) (S s) o)
  (he:∀o,en=some o->Arr P fn 1 S hd c [] {n:=fn.ntmps,fr:=Ct 0 args,hp:=hin} o) (h:Ac step en r):CTX P f hin args r.1 r.2:=by
 refine⟨CTO.of hf hb hn h1 ?_⟩;have hm:=Go.AX.mach hs h;clear h;cases en with
 | none=>exact hm.elim
 | some o=>
  cases o with
  | inl s=>exact he _ rfl _ hm
  | inr q=>have e:q=r:=hm
           subst e;exact he _ rfl
def Mb:List AV->Nat->AV | [],_=>.unk | x::_,0=>x | _::r,j+1=>Mb r j
def setA:List AV->Nat->AV->List AV | [],_,_=>[] | _::r,0,v=>v::r | x::r,j+1,v=>x::setA r j v
def CS:List (Option Blk)->Nat->Blk->List (Option Blk) | [],_,_=>[] | _::r,0,v=>some v::r | x::r,j+1,v=>x::CS r j v
def virtC(t j z:Nat)(st:St):Option St:=match Av st.fr t with
 | .ptr b _ _=>match nth st.hp b with
  | some blk=>match blk.es with
   | [.agg cs]=>match Mb cs j with
    | .nils=>match z with
     | 1000=>some {n:=st.n,fr:=st.fr,hp:=CS st.hp b {blk with es:=[.agg (setA cs j (.lst []))],flat:=false}}
     | z=>some {n:=st.n,fr:=st.fr,hp:=CS st.hp b {blk with es:=[.agg (setA cs j (.sl st.hp.length 0 0))],flat:=false}++[some {es:=[],z}]}
    | _=>none
   | _=>none
  | none=>none
 | _=>none
def virt1(s z:Nat)(st:St):Option St:=match Nat.ble 1000 s with
 | true=>virtC (s % 1000) (s / 1000-1) z st
 | false=>match Av st.fr s with
  | .nils=>match z with
   | 1000=>some {n:=st.n,fr:=(s,.lst [])::st.fr,hp:=st.hp}
   | z=>some {n:=st.n,fr:=(s,.sl st.hp.length 0 0)::st.fr,hp:=st.hp++[some {es:=[],z}]}
  | .lstc es=>some {n:=st.n,fr:=(s,.lst es)::st.fr,hp:=st.hp}
  | _=>none
def virtL:List (Nat×Nat)->St->Option St
 | [],st=>some st
 | (s,z)::r,st=>match virt1 s z st with
  | some st'=>virtL r st'
  | none=>none
theorem N7{α:Type}:∀(l:List (Option α)) (x:Option α) (b:Nat),nth (l++[x]) b=if b<l.length then nth l b else if b=l.length then x else none | [],x,0=>by simp[nth] | [],x,b+1=>by simp[nth] | y::r,x,0=>by simp[nth] | y::r,x,b+1=>by simp[nth,N7 r x b]
theorem Dy{α:Type}{l:List (Option α)}{b:Nat}{x:α}(h:nth l b=some x):b<l.length:=by
 induction l generalizing b with
 | nil=>simp[nth] at h
 | cons y r ih=>cases b with
  | zero=>simp
  | succ b=>have:=ih (b:=b) (by simpa [nth] using h);simp;omega
theorem Uu{cs:List AV}{j:Nat}{v:AV}(h:Mb cs j=v)(hv:v≠.unk):cs[j]?=some v:=by
 induction cs generalizing j with
 | nil=>exact absurd h.symm hv
 | cons x r ih=>cases j with
  | zero=>exact congrArg some h
  | succ j=>exact ih h
theorem setA_len(cs:List AV)(j:Nat)(v:AV):(setA cs j v).length=cs.length:=by
 induction cs generalizing j with
 | nil=>rfl
 | cons x r ih=>cases j with
  | zero=>rfl
  | succ j=>simp[setA,ih]
theorem setA_get{cs:List AV}{j i:Nat}{v c:AV}(h:(setA cs j v)[i]?=some c):(i=j/\c=v)\/cs[i]?=some c:=by
 induction cs generalizing j i with
 | nil=>simp[setA] at h
 | cons x r ih=>cases j with
  | zero=>cases i with
   | zero=>left;simp[setA] at h;exact⟨rfl,h.symm⟩
   | succ i=>right;simpa [setA] using h
  | succ j=>cases i with
   | zero=>right;simpa [setA] using h
   | succ i=>
    rcases ih (i:=i) (j:=j) (by simpa [setA] using h) with ⟨rfl,rfl⟩ | h
    .exact .inl ⟨rfl,rfl⟩
    .right;simpa using h
theorem O9(l:List (Option Blk))(b:Nat)(x:Blk):(CS l b x).length=l.length:=by
 induction l generalizing b with
 | nil=>rfl
 | cons y r ih=>cases b with
  | zero=>rfl
  | succ b=>simp[CS,ih]
theorem setH_get{l:List (Option Blk)}{b i:Nat}{x y:Blk}(h:nth (CS l b x) i=some y):(i=b/\y=x)\/nth l i=some y:=by
 induction l generalizing b i with
 | nil=>simp[CS,nth] at h
 | cons z r ih=>cases b with
  | zero=>cases i with
   | zero=>left;simp[CS,nth] at h;exact⟨rfl,h.symm⟩
   | succ i=>right;simpa [CS,nth] using h
  | succ b=>cases i with
   | zero=>right;simpa [CS,nth] using h
   | succ i=>
    rcases ih (i:=i) (b:=b) (by simpa [CS,nth] using h) with ⟨rfl,rfl⟩ | h
    .exact .inl ⟨rfl,rfl⟩
    .right;simpa [nth] using h
theorem Cq.setA{blk:Blk}{cs:List AV}{j:Nat}{v:AV}(he:blk.es=[.agg cs])(h:Mb cs j = .nils)(hl:B5 .nils v):Cq blk {blk with es:=[.agg (setA cs j v)],flat:=false}:=by
 refine⟨rfl,id,rfl,by rw[he];exact VH _,fun i e' h'=>?_,fun h=>(by cases h),fun h0=>(by rw[he] at h0)⟩;cases i with
 | succ i=>simp at h'
 | zero=>
  simp at h';subst h';refine⟨.agg cs,by rw[he];rfl,setA_len cs j v,fun i c' hc=>?_⟩;rcases setA_get hc with ⟨rfl,rfl⟩ | hc
  .exact⟨.nils,Uu h (by intro e;cases e),hl⟩
  .exact⟨c',hc,.refl _⟩
theorem Ren.virtC{m t j z:Nat}{st st':St}(h:virtC t j z st=some st'):Ren m st st':=by
 unfold Go.AX.virtC at h;split at h
 case h_2=>cases h
 rename_i b i0 j0 hl;split at h
 case h_2=>cases h
 rename_i blk hb;split at h
 case h_2=>cases h
 rename_i cs he;split at h
 case h_2=>cases h
 rename_i hn;have old:∀{b':Nat} {blk':Blk} {v:AV},B5 .nils v->nth (CS st.hp b {blk with es:=[.agg (setA cs j v)],flat:=false}) b'=some blk'->(b'<st.hp.length/\∃blk,nth st.hp b'=some blk/\((blk'=blk)\/Cq blk blk')):=fun hv h=>by
  rcases setH_get h with ⟨rfl,rfl⟩ | h
  .exact⟨Dy hb,blk,hb,.inr (Cq.setA he hn hv)⟩
  .exact⟨Dy h,_,h,.inl rfl⟩
 split at h
 .cases h;exact Ren.less rfl (by simp[O9]) (fun t=>.refl _) fun b' blk' hb'=>.inl (old .nilL hb')
 cases h;refine Ren.less rfl (by simp[O9]) (fun t=>.refl _) fun b' blk' hb'=>?_
 simp only[N7,O9] at hb';split at hb'
 .exact .inl (old (.nilS _ _) hb')
 .split at hb'
  .rename_i he;cases hb';exact .inr ⟨by omega,rfl,rfl,rfl,rfl⟩
  .cases hb'
theorem Ren.virt1{m s z:Nat}{st st':St}(h:virt1 s z st=some st'):Ren m st st':=by
 unfold Go.AX.virt1 at h;split at h
 .exact Ren.virtC h
 split at h
 case h_3=>cases h
 case h_2=>
  rename_i es hl;cases h;refine Ren.less rfl (by simp) (fun t=>?_) fun b blk' hb=>.inl ⟨Dy hb,blk',hb,.inl rfl⟩
  simp only[Av];cases hbq:Nat.beq s t with
  | true=>have:=VC hbq;subst this;rw[hl];exact⟨fun _=>rfl,fun _ _ _ v hv=>by obtain⟨a,rfl,h⟩:=hv.lstc_inv;exact h⟩
  | false=>exact .refl _
 rename_i hl;split at h
 .cases h;refine Ren.less rfl (by simp) (fun t=>?_) fun b blk' hb=>.inl ⟨Dy hb,blk',hb,.inl rfl⟩
  simp only[Av];cases hbq:Nat.beq s t with
  | true=>have:=VC hbq;subst this;rw[hl];exact .nilL
  | false=>exact .refl _
 cases h;refine Ren.less rfl (by simp) (fun t=>?_) fun b blk' hb=>?_
 .simp only[Av];cases hbq:Nat.beq s t with
  | true=>have:=VC hbq;subst this;rw[hl];exact .nilS _ _
  | false=>exact .refl _
 .simp only[N7] at hb;split at hb
  .rename_i hlt;exact .inl ⟨hlt,blk',hb,.inl rfl⟩
  .rename_i hge;split at hb
   .rename_i he;cases hb;exact .inr ⟨by omega,rfl,rfl,rfl,rfl⟩
   .cases hb
theorem Ren.virtL{m:Nat}:∀{l:List (Nat×Nat)} {st st':St},virtL l st=some st'->Ren m st st'
 | [],st,st',h=>by cases h;exact .refl _ _
 | (s,z)::r,st,st',h=>by
  simp only[Go.AX.virtL] at h;split at h
  .rename_i st1 h1;exact(Ren.virt1 h1).trans (Ren.virtL h)
  .cases h
def FV(P:Program)(fn:Func)(m:Nat)(σ fz:List Nat):Option (Ep×St×Prop)->Option (List (Option Blk)×AV×Prop)
 | some (.done e,st,p)=>match J4 e&&Nat.blt 0 st.n,Jw P fn st with
  | true,some v=>match Kq m σ fz,St.ren {st with fr:=[(0,v)]} σ fz [0] with
   | true,some (s,q)=>some (s.hp,Av s.fr 0,p/\q)
   | _,_=>none
  | _,_=>none
 | _=>none
def Eg(m:Nat)(vl:List (Nat×Nat))(σ fz vars:List Nat):Option (Ep×St×Prop)->Option (Code×List Ks×St×Prop)
 | some (.loop c k,st,p)=>match virtL vl st with
  | some st1=>match Kq m σ fz,st1.ren σ fz vars with
   | true,some (s,q)=>some (c,k,s,p/\q)
   | _,_=>none
  | none=>none
 | _=>none
theorem Arr.loop{σ':Type}{fn:Func}{S:σ'->St}{hd:σ'->Nat}{H:HT}{F:List (Nat×Nat)}{m n:Nat}{c:Code}{k:List Ks}{st:St}{s:σ'}{p:Prop}(vl:List (Nat×Nat))(σ fz vars:List Nat)(hmix:P.follows .mixedOrders=true)
  (h:Eg m vl σ fz vars (gm P F m n H (.inl c) k st)=some (Ck fn (hd s),Cj fn (hd s),S s,p)) (hp:p):Arr P fn m S hd c k st (.inl s):=by
 intro post hk;unfold Eg at h;split at h
 case h_2=>cases h
 rename_i c' k' st1 q hg;split at h
 case h_2=>cases h
 rename_i st2 hv;split at h
 .rename_i s' q' h1 h2;simp only[Vc,Vm] at h;obtain⟨rfl,rfl,rfl,rfl⟩:=h;exact Mo hmix n H (.inl c) k st _ _ _ hg hp.1 (hk _ ((Ren.virtL hv).trans (JL h1 h2 hp.2)))
 .cases h
theorem Arr.ret{σ':Type}{fn:Func}{S:σ'->St}{hd:σ'->Nat}{H:HT}{F:List (Nat×Nat)}{m n:Nat}{c:Code}{k:List Ks}{st:St}{hout:List (Option Blk)}{res:AV}{p:Prop}(σ fz:List Nat)(hmix:P.follows .mixedOrders=true)
  (h:FV P fn m σ fz (gm P F m n H (.inl c) k st)=some (hout,res,p)) (hp:p):Arr P fn m S hd c k st (.inr (hout,res)):=by
 show T P m c st (TS P m (Fin P fn m hout res) k);unfold FV at h;split at h
 case h_2=>cases h
 rename_i e st1 q hg;split at h
 case h_2=>cases h
 rename_i v h1 h2;split at h
 case h_2=>cases h
 rename_i s q' h3 h4;cases h;simp only[VD] at h1;refine Mo hmix n H (.inl c) k st _ _ _ hg hp.1 ⟨?_,v,s,h2,JL h3 h4 hp.2,rfl,rfl,VU h1.2⟩;cases e<;>simp[J4] at h1<;>simp
def callsL(l:List (Nat×AF)):Nat->FuncId->List AV->List (Option Blk)->AF:=fun d _ _ _=>match LM l d with | some h=>h | none=>.no
theorem CT.eqs{f:FuncId}{hin hin' hout:List (Option Blk)}{args args':List AV}{res:AV}(h:CT P f hin args hout res)(e1:hin'=hin)(e2:args'=args):CT P f hin' args' hout res:=by subst e1;subst e2;exact h
theorem CTX.eqs{f:FuncId}{hin hin' hout:List (Option Blk)}{args args':List AV}{res:AV}(h:CTX P f hin args hout res)(e1:hin'=hin)(e2:args'=args):CTX P f hin' args' hout res:=by subst e1;subst e2;exact h
def hT(dec:List (Nat×Bool))(els:List (Nat×AV))(calls:List (Nat×AF)):HT:={dec,els,calls:=callsL calls}
theorem MR{α:Type}{f:α->AV}{l:List α}{es:List AV}{i:Nat}{x:α}(h:l[i]?=some x)(e:l.map f=es):es[i]?=some (f x):=by rw[<-e,VF,h];rfl
theorem Ae{α:Type}{f:α->AV}{l:List α}{i:Nat}{x:α}(h:l[i]?=some x):(l.map f)[i]?=some (f x):=by rw[VF,h];rfl
def br{α:Type}(b:Bool)(x y:Option α):Option α:=match b with | true=>x | false=>y
theorem RM{α:Type}{b:Bool}{x y:Option α}{o:α}(h:br b x y=some o):(b=true/\x=some o)\/(b=false/\y=some o):=by
 cases b
 .exact .inr ⟨rfl,h⟩
 .exact .inl ⟨rfl,h⟩
theorem Ah{α:Type}{b:Bool}{x y:Option α}(h:b=true):br b x y=x:=by subst h;rfl
theorem Ad{α:Type}{b:Bool}{x y:Option α}(h:b=false):br b x y=y:=by subst h;rfl
open Classical in
def gu{α:Type}(p:Prop)(x:Option α):Option α:=if p then x else none
theorem Ro{α:Type}{p:Prop}{x:Option α}{o:α}(h:gu p x=some o):p/\x=some o:=by
 unfold gu at h;split at h
 .rename_i hp;exact⟨hp,h⟩
 .cases h
theorem Ab{α:Type}{p:Prop}{x:Option α}(h:p):gu p x=x:=by unfold gu;rw[Vt h]
def el{α β:Type}(l:List α)(i:Nat)(f:α->Option β):Option β:=match l[i]? with | some x=>f x | none=>none
theorem So{α β:Type}{l:List α}{i:Nat}{f:α->Option β}{o:β}(h:el l i f=some o):∃x,l[i]?=some x/\f x=some o:=by
 unfold el at h;split at h
 .rename_i x hx;exact⟨x,hx,h⟩
 .cases h
theorem Al{α β:Type}{l:List α}{i:Nat}{f:α->Option β}{x:α}(h:l[i]?=some x):el l i f=f x:=by unfold el;rw[h]
theorem Arr.rt{σ':Type}{fn:Func}{S:σ'->St}{hd:σ'->Nat}{m:Nat}{c:Code}{k:List Ks}{st:St}{hout:List (Option Blk)}{res:AV}{p:Prop}(d:List Nat)(e:List (Nat×AV))(cl:List (Nat×AF))(F:List (Nat×Nat))(σ fz:List Nat)(hmix:P.follows .mixedOrders=true) (h:FV P fn m σ fz (gm P F m 4000 (hT (ds d) e cl) (.inl c) k st)=some (hout,res,p)) (hp:p):Arr P fn m S hd c k st (.inr (hout,res)):=Arr.ret σ fz hmix h hp
theorem Arr.lp{σ':Type}{fn:Func}{S:σ'->St}{hd:σ'->Nat}{m:Nat}{c:Code}{k:List Ks}{st:St}{s:σ'}{p:Prop}(d:List Nat)(e:List (Nat×AV))(cl:List (Nat×AF))(F vl:List (Nat×Nat))(σ vars:List Nat)(hmix:P.follows .mixedOrders=true) (h:Eg m vl σ [] vars (gm P F m 4000 (hT (ds d) e cl) (.inl c) k st)=some (Ck fn (hd s),Cj fn (hd s),S s,p)) (hp:p):Arr P fn m S hd c k st (.inl s):=Arr.loop vl σ [] vars hmix h hp
def Kc(P:Program)(m:Nat)(post:Exit->St->Prop)(c:Code⊕Exit)(k:List Ks)(st:St):Prop:=match c with
 | .inl c=>T P m c st (TS P m post k)
 | .inr e=>TS P m post k e st
def J6(p:Prop):Option ((Code⊕Exit)×List Ks×St×Prop)->Option ((Code⊕Exit)×List Ks×St×Prop) | some (c,k,s,q)=>some (c,k,s,p/\q) | none=>none
def gk(P:Program)(F:List (Nat×Nat))(m:Nat):Nat->Nat->HT->Code⊕Exit->List Ks->St->Option ((Code⊕Exit)×List Ks×St×Prop)
 | 0,_,_,_,_,_=>none
 | n+1,K,H,.inl c,k,st=>match c with
  | .seq a b=>gk P F m n K H (.inl a) (.code b::k) st
  | .block id c=>gk P F m n K H (.inl c) (.blk id::k) st
  | .region id ops dr=>match flats m id F st with
   | some st0=>match JH P H m ops dr st0 with
    | some (st',p)=>match K with
     | 0=>some (.inr .normal,k,st',p/\True)
     | K+1=>J6 p (gk P F m n K H (.inr .normal) k st')
    | none=>none
   | none=>none
  | .cond x c d=>match st.ev x with
   | .bool b=>match (gd H (CJ x) b).1 with
    | true=>J6 (gd H (CJ x) b).2 (gk P F m n K (Mf H (CJ x)) (.inl c) k (setB x true st))
    | false=>J6 (gd H (CJ x) b).2 (gk P F m n K (Mf H (CJ x)) (.inl d) k (setB x false st))
   | _=>none
  | .skip=>gk P F m n K H (.inr .normal) k st
  | .ret=>gk P F m n K H (.inr .ret) k st
  | .exit id=>gk P F m n K H (.inr (.exit id)) k st
  | .scope c=>gk P F m n K H (.inl c) (.scp c::k) st
  | .label _=>gk P F m n K H (.inr .normal) k st
  | .goto l=>gk P F m n K H (.inr (.goto l)) k st
  | _=>none
 | n+1,K,H,.inr e,k,st=>match k with
  | []=>none
  | .code c::k=>match e with
   | .normal=>gk P F m n K H (.inl c) k st
   | e=>gk P F m n K H (.inr e) k st
  | .blk id::k=>gk P F m n K H (.inr (IX id e)) k st
  | .rnd c::k=>match e with
   | .normal=>none
   | e=>gk P F m n K H (.inr e) k st
  | .scp b::k=>match e with
   | .goto _=>none
   | e=>gk P F m n K H (.inr e) k st
theorem OB{p:Prop}{x:Option ((Code⊕Exit)×List Ks×St×Prop)}{c:Code⊕Exit}{k:List Ks}{st:St}{q:Prop}(h:J6 p x=some (c,k,st,q)):∃q',x=some (c,k,st,q')/\q=(p/\q'):=by
 unfold J6 at h;split at h
 .cases h;exact⟨_,rfl,rfl⟩
 .cases h
theorem K2{F:List (Nat×Nat)}{m:Nat}{post:Exit->St->Prop}(hmix:P.follows .mixedOrders=true):∀(n K:Nat) (H:HT) (c:Code⊕Exit) (k:List Ks) (st:St) (c':Code⊕Exit) (k':List Ks) (st':St) (p:Prop),
  gk P F m n K H c k st=some (c',k',st',p)->p->Kc P m post c' k' st'->Kc P m post c k st:=by
 intro n;induction n with
 | zero=>intro K H c k st c' k' st' p h;simp[gk] at h
 | succ n ih=>
  intro K H c k st c' k' st' p h hp hrest;cases c with
  | inl c=>
   cases c<;>simp only[gk] at h
   case seq a b=>refine T.seq (T.mono (ih _ _ _ _ _ _ _ _ _ h hp hrest) fun e s hs=>?_);cases e<;>exact hs
   case block id c=>refine T.block (T.mono (ih _ _ _ _ _ _ _ _ _ h hp hrest) fun e s hs=>?_);exact hs
   case region id ops dr=>
    split at h
    .rename_i st0 h0;split at h
     .rename_i st1 p1 h1;split at h
      .cases h;exact T.ren (Ren.flats h0) (T.region hmix h1 hp.1 hrest)
      .obtain⟨q,h2,rfl⟩:=OB h;exact T.ren (Ren.flats h0) (T.region hmix h1 hp.1 (ih _ _ _ _ _ _ _ _ _ h2 hp.2 hrest))
     .cases h
    .cases h
   case cond x c d=>
    split at h
    .rename_i b hb;split at h
     .rename_i hg;obtain⟨q,h2,rfl⟩:=OB h;have hev:st.ev x = .bool true:=by rw[hb,En hp.1,hg]
      exact T.cond_true hev (T.ren (Ren.setB hev) (ih _ _ _ _ _ _ _ _ _ h2 hp.2 hrest))
     .rename_i hg;obtain⟨q,h2,rfl⟩:=OB h;have hev:st.ev x = .bool false:=by rw[hb,En hp.1,hg]
      exact T.cond_false hev (T.ren (Ren.setB hev) (ih _ _ _ _ _ _ _ _ _ h2 hp.2 hrest))
    .cases h
   case skip=>(have:=ih _ _ _ _ _ _ _ _ _ h hp hrest;exact T.skip this)
   case ret=>exact T.ret (ih _ _ _ _ _ _ _ _ _ h hp hrest)
   case exit id=>exact T.exit (ih _ _ _ _ _ _ _ _ _ h hp hrest)
   case scope c=>refine T.of_TJ (TJ.round (T.mono (ih _ _ _ _ _ _ _ _ _ h hp hrest) fun e s hs=>?_));cases e<;>exact hs
   case label l=>exact T.label (ih _ _ _ _ _ _ _ _ _ h hp hrest)
   case goto l=>exact T.goto (ih _ _ _ _ _ _ _ _ _ h hp hrest)
   all_goals cases h
  | inr e=>
   cases k with
   | nil=>simp only[gk] at h;cases h
   | cons x k=>
    cases x with
    | code c=>
     cases e<;>simp only[gk] at h
     case normal=>(have:=ih _ _ _ _ _ _ _ _ _ h hp hrest;exact this)
     all_goals (have:=ih _ _ _ _ _ _ _ _ _ h hp hrest;exact this)
    | rnd c=>
     cases e<;>simp only[gk] at h
     case normal=>cases h
     all_goals (have:=ih _ _ _ _ _ _ _ _ _ h hp hrest;exact this)
    | scp b=>
     cases e<;>simp only[gk] at h
     case goto l=>cases h
     all_goals (have:=ih _ _ _ _ _ _ _ _ _ h hp hrest;exact this)
    | blk id=>
     simp only[gk] at h;have:=ih _ _ _ _ _ _ _ _ _ h hp hrest;cases e<;>simp only[IX] at this
     case exit id'=>
      show TS P m post (.blk id::k) _ st;show Cz id _ _ _;simp only[Cz];split at this
      .rename_i hb;rw[Vt (VC hb)];exact this
      .rename_i hb;rw[Vu (fun e=>by rw[e,Nat.beq_refl] at hb;cases hb)];exact this
     all_goals exact this
def C4{σ:Type}(P:Program)(fn:Func)(m:Nat)(S:σ->St)(hd:σ->Nat)(c:Code⊕Exit)(k:List Ks)(st:St):σ⊕Ret->Prop | .inl s=>∀post:Exit->St->Prop,(∀st',Ren m st' (S s)->HD P m post (Ck fn (hd s)) (Cj fn (hd s)) st')->Kc P m post c k st | .inr r=>Kc P m (Fin P fn m r.1 r.2) c k st
theorem C4.loop{σ:Type}{fn:Func}{S:σ->St}{hd:σ->Nat}{H:HT}{F:List (Nat×Nat)}{m n:Nat}{c:Code⊕Exit}{k:List Ks}{st:St}{s:σ}{p:Prop}{vl:List (Nat×Nat)}{sg fz vars:List Nat}(hmix:P.follows .mixedOrders=true)
  (h:Eg m vl sg fz vars (gm P F m n H c k st)=some (Ck fn (hd s),Cj fn (hd s),S s,p)) (hp:p):C4 P fn m S hd c k st (.inl s):=by
 intro post hk;unfold Eg at h;split at h
 case h_2=>cases h
 rename_i c' k' st1 q hg;split at h
 case h_2=>cases h
 rename_i st2 hv;split at h
 .rename_i s' q' h1 h2;simp only[Vc,Vm] at h;obtain⟨rfl,rfl,rfl,rfl⟩:=h;exact Mo hmix n H c k st _ _ _ hg hp.1 (hk _ ((Ren.virtL hv).trans (JL h1 h2 hp.2)))
 .cases h
theorem C4.ret{σ:Type}{fn:Func}{S:σ->St}{hd:σ->Nat}{H:HT}{F:List (Nat×Nat)}{m n:Nat}{c:Code⊕Exit}{k:List Ks}{st:St}{r:Ret}{p:Prop}{sg fz:List Nat}(hmix:P.follows .mixedOrders=true)
  (h:FV P fn m sg fz (gm P F m n H c k st)=some (r.1,r.2,p)) (hp:p):C4 P fn m S hd c k st (.inr r):=by
 show Kc P m (Fin P fn m r.1 r.2) c k st;unfold FV at h;split at h
 case h_2=>cases h
 rename_i e st1 q hg;split at h
 case h_2=>cases h
 rename_i v h1 h2;split at h
 case h_2=>cases h
 rename_i s q' h3 h4;simp only[Vc,Vm] at h;obtain⟨e1,e2,rfl⟩:=h;simp only[VD] at h1;refine Mo hmix n H c k st _ _ _ hg hp.1 ⟨?_,v,s,h2,JL h3 h4 hp.2,e1,e2,VU h1.2⟩;cases e<;>simp[J4] at h1<;>simp
inductive Raw:Type 1 where | br (b:Bool) (x:b=true->Raw) (y:b=false->Raw) | gu (p:Prop) (x:p->Raw) | el {β:Type} (l:List β) (i:Nat) (x:(v:β)->l[i]?=some v->Raw) | rn (p:Prop) (x:Raw) | lp (x:Option (Code×List Ks×St×Prop)) | rt (x:Option (List (Option Blk)×AV×Prop)) | no
inductive Scr {σ:Type} (S:σ->St):Option (σ⊕Ret)->Type 1 where | br {X Y:Option (σ⊕Ret)} {b:Bool} (x:b=true->Scr S X) (y:b=false->Scr S Y):Scr S (Go.AX.br b X Y) | gu {X:Option (σ⊕Ret)} {p:Prop} (x:p->Scr S X):Scr S (Go.AX.gu p X) | el {β:Type} {F:β->Option (σ⊕Ret)} {l:List β} {i:Nat} (x:(v:β)->l[i]?=some v->Scr S (F v)):Scr S (Go.AX.el l i F) | rn {X:Option (σ⊕Ret)} (K:Nat) (d:List Nat) (e:List (Nat×AV)) (cl:List (Nat×AF)) (F:List (Nat×Nat)) {p:Prop} (hp:p) (x:Scr S X):Scr S X | lp (d:List Nat) (e:List (Nat×AV)) (cl:List (Nat×AF)) (F vl:List (Nat×Nat)) (sg vars:List Nat) {s:σ} {p:Prop} (hp:p):Scr S (some (.inl s)) | lq (d:List Nat) (e:List (Nat×AV)) (cl:List (Nat×AF)) (F vl:List (Nat×Nat)) (sg vars:List Nat) {s:σ} (s':St) {p:Prop} (hp:p) (h:s'=S s):Scr S (some (.inl s)) | rt (d:List Nat) (e:List (Nat×AV)) (cl:List (Nat×AF)) (F:List (Nat×Nat)) (sg fz:List Nat) {r:Ret} {p:Prop} (hp:p):Scr S (some (.inr r)) | no:Scr S none
abbrev Cfg:=Code⊕Exit->List Ks->St->Raw
def rnR(f:Code⊕Exit->List Ks->St->Raw):Option ((Code⊕Exit)×List Ks×St×Prop)->Raw | some (c,k,st,p)=>.rn p (f c k st) | none=>.no
def Scr.go{σ:Type}{S:σ->St}(P:Program)(fn:Func)(m:Nat){X:Option (σ⊕Ret)}(t:Scr S X):Cfg:=Scr.rec (motive:=fun _ _=>Cfg) (fun {_ _ b} _ _ ix iy c k st=>Raw.br b (fun h=>ix h c k st) (fun h=>iy h c k st)) (fun {_ p} _ ix c k st=>Raw.gu p (fun h=>ix h c k st)) (fun {_ _ l i} _ ix c k st=>Raw.el l i (fun v h=>ix v h c k st)) (fun K d e cl F _ _ _ ix c k st=>rnR ix (gk P F m 4000 K (hT (ds d) e cl) c k st)) (fun d e cl F vl sg vars _ _ _ c k st=>Raw.lp (Eg m vl sg [] vars (gm P F m 4000 (hT (ds d) e cl) c k st))) (fun d e cl F vl sg vars _ _ _ _ _ c k st=>Raw.lp (Eg m vl sg [] vars (gm P F m 4000 (hT (ds d) e cl) c k st))) (fun d e cl F sg fz _ _ _ c k st=>Raw.rt (FV P fn m sg fz (gm P F m 4000 (hT (ds d) e cl) c k st))) (fun _ _ _=>Raw.no) t
def Scr.er{σ:Type}{S:σ->St}(fn:Func)(hd:σ->Nat){X:Option (σ⊕Ret)}(t:Scr S X):Raw:=Scr.rec (motive:=fun _ _=>Raw) (fun {_ _ b} _ _ ix iy=>Raw.br b ix iy) (fun {_ p} _ ix=>Raw.gu p ix) (fun {_ _ l i} _ ix=>Raw.el l i ix) (fun _ _ _ _ _ p _ _ ix=>Raw.rn p ix) (fun _ _ _ _ _ _ _ s p _=>Raw.lp (some (Ck fn (hd s),Cj fn (hd s),S s,p))) (fun _ _ _ _ _ _ _ s s' p _ _=>Raw.lp (some (Ck fn (hd s),Cj fn (hd s),s',p))) (fun _ _ _ _ _ _ r p _=>Raw.rt (some (r.1,r.2,p))) Raw.no t
theorem Scr.sound{σ:Type}{S:σ->St}{fn:Func}{m:Nat}{hd:σ->Nat}(hmix:P.follows .mixedOrders=true){X:Option (σ⊕Ret)}(t:Scr S X):
  ∀c k st,t.go P fn m c k st=t.er fn hd->∀o,X=some o->C4 P fn m S hd c k st o:=by
 induction t with
 | br x y ix iy=>
  intro c k st h o ho;have h':=h;simp only[Scr.go,Scr.er,Raw.br.injEq,heq_eq_eq,true_and] at h';rcases RM ho with ⟨hb,ho⟩ | ⟨hb,ho⟩
  .exact ix hb c k st (congrFun h'.1 hb) o ho
  .exact iy hb c k st (congrFun h'.2 hb) o ho
 | gu x ix=>intro c k st h o ho;have h':=h;simp only[Scr.go,Scr.er,Raw.gu.injEq,heq_eq_eq,true_and] at h';obtain⟨hp,ho⟩:=Ro ho;exact ix hp c k st (congrFun h' hp) o ho
 | el x ix=>intro c k st h o ho;have h':=h;simp only[Scr.go,Scr.er,Raw.el.injEq,heq_eq_eq,true_and] at h';obtain⟨v,hv,ho⟩:=So ho;exact ix v hv c k st (congrFun (congrFun h' v) hv) o ho
 | rn K d e cl F hp x ix=>
  intro c k st h o ho;have h':rnR (fun c k st=>x.go P fn m c k st) (gk P F m 4000 K (hT (ds d) e cl) c k st)=Raw.rn _ (x.er fn hd):=h;generalize hg:gk P F m 4000 K (hT (ds d) e cl) c k st=y at h';cases y with
  | none=>simp[rnR] at h'
  | some y=>
   obtain⟨c',k',st',p'⟩:=y;simp only[rnR,Raw.rn.injEq] at h';have hp':p':=h'.1 ▸ hp;have hr:=ix c' k' st' h'.2 o ho;cases o with
   | inl s=>exact fun post hk=>K2 hmix _ _ _ _ _ _ _ _ _ _ hg hp' (hr post hk)
   | inr r=>exact K2 hmix _ _ _ _ _ _ _ _ _ _ hg hp' hr
 | lp d e cl F vl sg vars hp=>intro c k st h o ho;cases ho;have h':=h;simp only[Scr.go,Scr.er,Raw.lp.injEq] at h';exact C4.loop hmix h' hp
 | lq d e cl F vl sg vars s' hp hs=>intro c k st h o ho;cases ho;have h':=h;simp only[Scr.go,Scr.er,Raw.lp.injEq] at h';subst hs;exact C4.loop hmix h' hp
 | rt d e cl F sg fz hp=>intro c k st h o ho;cases ho;have h':=h;simp only[Scr.go,Scr.er,Raw.rt.injEq] at h';exact C4.ret hmix h' hp
 | no=>intro c k st h o ho;cases ho
theorem Scr.ok{σ:Type}{S:σ->St}{fn:Func}{m:Nat}{hd:σ->Nat}{X:Option (σ⊕Ret)}{c:Code}{k:List Ks}{st:St}{o:σ⊕Ret}(ho:X=some o)(hmix:P.follows .mixedOrders=true)(t:Scr S X) (h:t.go P fn m (.inl c) k st=t.er fn hd):Arr P fn m S hd c k st o:=by have:=Scr.sound hmix t (.inl c) k st h o ho;cases o<;>exact this
def Scr.ra{σ:Type}{S:σ->St}{X:Option (σ⊕Ret)}{p:Prop}(h:p)(x:Scr S X):Scr S X:=.rn 0 [] [] [] [] h x
def Scr.rb{σ:Type}{S:σ->St}{X:Option (σ⊕Ret)}{p:Prop}(d:List Nat)(h:p)(x:Scr S X):Scr S X:=.rn 0 d [] [] [] h x
def Scr.rc{σ:Type}{S:σ->St}{X:Option (σ⊕Ret)}{p:Prop}(c:List (Nat×AF))(h:p)(x:Scr S X):Scr S X:=.rn 0 [] [] c [] h x
def Scr.rd{σ:Type}{S:σ->St}{X:Option (σ⊕Ret)}{p:Prop}(d:List Nat)(e:List (Nat×AV))(c:List (Nat×AF))(h:p)(x:Scr S X):Scr S X:=.rn 0 d e c [] h x
def Scr.rv{σ:Type}{S:σ->St}{X:Option (σ⊕Ret)}{p:Prop}(K:Nat)(d:List Nat)(e:List (Nat×AV))(c:List (Nat×AF))(h:p)(x:Scr S X):Scr S X:=.rn K d e c [] h x
def Scr.ta{σ:Type}{S:σ->St}{r:Ret}{p:Prop}(d:List Nat)(h:p):Scr S (some (.inr r)):=.rt d [] [] [] [] [] h
def Scr.tc{σ:Type}{S:σ->St}{r:Ret}{p:Prop}(d s f:List Nat)(h:p):Scr S (some (.inr r)):=.rt d [] [] [] s f h
def Scr.tb{σ:Type}{S:σ->St}{r:Ret}{p:Prop}(d:List Nat)(e:List (Nat×AV))(c:List (Nat×AF))(s f:List Nat)(h:p):Scr S (some (.inr r)):=.rt d e c [] s f h
def Scr.pa{σ:Type}{S:σ->St}{s:σ}{p:Prop}(d a v:List Nat)(h:p):Scr S (some (.inl s)):=.lp d [] [] [] [] a v h
def Scr.pb{σ:Type}{S:σ->St}{s:σ}{p:Prop}(d:List Nat)(e:List (Nat×AV))(c:List (Nat×AF))(l:List (Nat×Nat))(a v:List Nat)(h:p):Scr S (some (.inl s)):=.lp d e c [] l a v h
def hK{f:FuncId}{hin hout:List (Option Blk)}{args:List AV}{res:AV}(_:CT P f hin args hout res)(sg fz:List Nat):AF:=.call sg fz (hout.filterMap id) res
def hKO{f:FuncId}{hin hout:List (Option Blk)}{args:List AV}{res:AV}(_:CTX P f hin args hout res)(sg fz:List Nat):AF:=.callO sg fz (hout.filterMap id) res
def upV:List (Nat×AV)->Nat->AV->AV | [],_,v=>v | (t,w)::r,s,v=>if t=s then w else upV r s v
def upF(u:List (Nat×AV)):List (Nat×AV)->List (Nat×AV) | []=>[] | (s,v)::r=>(s,upV u s v)::upF u r
def upB:List (Nat×List AV)->Nat->List AV->List AV | [],_,v=>v | (t,w)::r,s,v=>if t=s then w else upB r s v
def upH(u:List (Nat×List AV)):Nat->List (Option Blk)->List (Option Blk) | _,[]=>[] | i,none::r=>none::upH u (i+1) r | i,some b::r=>some (.mk (upB u i b.es) b.z b.flat b.wr b.mp)::upH u (i+1) r
def up(u:List (Nat×AV))(w:List (Nat×List AV))(st:St):St:=.mk st.n (upF u st.fr) (upH w 0 st.hp)
end Go.AX
open Go Go.AX Go.Proofs
set_option maxRecDepth 100000
set_option maxHeartbeats 4000000
set_option linter.unusedVariables false
namespace Go.Proofs.YthjgbnbibebigaaGreat
def MM(v n:Int):St:={n:=Tryz.f13.ntmps,fr:=Ct 0 [.int .i64 v,.int .i64 n],hp:=[]}
def noC2(v n:Int):Nat->FuncId->List AV->List (Option Blk)->AF:=fun _ _ _ _=>.no
def noE2(v n:Int):List (Nat×AV):=[]
theorem cut_0(v n:Int)(h1:(decide (n<=1)=true)):∃o' st' q',go Wu ({dec:=[(6,true)],els:=noE2 v n,calls:=noC2 v n,unroll:=false}:HT) 0 4000 (.inl (zB Tryz.f13)) [] (MM v n)=some (o',st',q')/\q'/\Go.AX.C5 Wu 0 (Fin Wu Tryz.f13 0 [] (AV.int i64 0)) st' o':=zF (σ:=[]) (fz:=[]) (by kernel_rfl) (az (u2 (ab aw h1 s2)))
theorem cut_1(v n:Int)(h1:(decide (n<=1)=false))(h2:(n=0->False))(h3:(decide (v.tmod n<0)=true)):∃o' st' q',go Wu ({dec:=[(6,false),(11,true)],els:=noE2 v n,calls:=noC2 v n,unroll:=false}:HT) 0 4000 (.inl (zB Tryz.f13)) [] (MM v n)=some (o',st',q')/\q'/\Go.AX.C5 Wu 0 (Fin Wu Tryz.f13 0 [] (AV.int i64 (i64.wrap (v.tmod n+n)))) st' o':=zF (σ:=[]) (fz:=[]) (by kernel_rfl) (az (u2 (ab aw h1 (ck (bg (k2 h2) s2) aw h3 (bg t3 s2) aw))))
theorem cut_2(v n:Int)(h1:(decide (n<=1)=false))(h2:(n=0->False))(h3:(decide (v.tmod n<0)=false)):∃o' st' q',go Wu ({dec:=[(6,false),(11,false)],els:=noE2 v n,calls:=noC2 v n,unroll:=false}:HT) 0 4000 (.inl (zB Tryz.f13)) [] (MM v n)=some (o',st',q')/\q'/\Go.AX.C5 Wu 0 (Fin Wu Tryz.f13 0 [] (AV.int i64 (v.tmod n))) st' o':=zF (σ:=[]) (fz:=[]) (by kernel_rfl) (az (aG aw (ck h1 (bg (k2 h2) s2) aw h3 aw)))
def D6(v n:Int):Int:=if n<=1 then 0 else if v.tmod n<0 then i64.wrap (v.tmod n+n) else v.tmod n
theorem mix:Tryz.prog.follows .mixedOrders=true:=by kernel_rfl
theorem QV(v n:Int):CT Wu 13 [] [.int .i64 v,.int .i64 n] [] (.int .i64 (D6 v n)):=by
 have hb:Tryz.f13.body=some (zB Tryz.f13):=by kernel_rfl
 have hn:[AV.int .i64 v,.int .i64 n].length<=Tryz.f13.ntmps:=nL rfl;unfold D6;by_cases h1:n<=1
 .rw[Vt h1];exact CT.path mix Tryz.func13 hb hn (cut_0 v n (by simpa using h1))
 .rw[Vu h1];by_cases h2:v.tmod n<0
  .rw[Vt h2];exact CT.path mix Tryz.func13 hb hn (cut_1 v n (by simpa using h1) (by omega) (by simpa using h2))
  .rw[Vu h2];exact CT.path mix Tryz.func13 hb hn (cut_2 v n (by simpa using h1) (by omega) (by simpa using h2))
def lstI(l:List Int):AV:=.lst (l.map (AV.int .i64))
def AE(L:List Int)(k:Nat):Blk:={es:=[.agg [lstI L,.int .i64 (k:Int)]],z:=2,flat:=true,wr:=true}
def Sm(L:List Int)(k:Nat)(n:Int):St:={n:=42,fr:=Ct 0 [.ptr 0 0 0,.int .i64 n],hp:=[some (AE L k)]}
def cutHint(f:FuncId)(args:List AV):AF:=match f,args with
 | 13,[.int _ v,.int _ n]=>.call [] [] [] (.int .i64 (D6 v n))
 | _,_=>.no
def cNext(L:List Int)(k:Nat)(n:Int):Nat->FuncId->List AV->List (Option Blk)->AF:=fun _ f args _=>cutHint f args
def eNext(L:List Int)(k:Nat)(n:Int):List (Nat×AV):=[(30,.int .i64 (L.getD k 0))]
theorem next_0(L:List Int)(k:Nat)(n:Int)(h1:(decide (iN k<iN (Wn (AV.int i64) L).length)=true))(h2:((Wn (AV.int i64) L)[k]?=some (AV.int i64 (L.getD k 0))))(h3:(CT Wu 13 [] [AV.int i64 (L.getD k 0),AV.int i64 n] [] (AV.int i64 (D6 (L.getD k 0) n)))):∃o' st' q',go Wu ({dec:=[(21,true)],els:=eNext L k n,calls:=cNext L k n,unroll:=false}:HT) 1 4000 (.inl (zB Tryz.f17)) [] (Sm L k n)=some (o',st',q')/\q'/\Go.AX.C5 Wu 1 (Fin Wu Tryz.f17 1 [some (Blk.mk [AV.agg [AV.lst (Wn (AV.int i64) L),AV.int i64 (i64.wrap (iN k+1))]] 2 true true none)] (AV.int i64 (D6 (L.getD k 0) n))) st' o':=zF (σ:=[0]) (fz:=[]) (by kernel_rfl) (aj (aG (u2 (bP (ak (show((11:Int)=(0:Int)->False) by first | decide | exact Vb _)) s2)) (ck (cb (ah aD)) h1 (ah (ah (aB (show(0<=iN k) from(Int.natCast_nonneg _)) h2 aw))) (am (ah aD)) (bg (bu h3) s2))) t3)
theorem next_1(L:List Int)(k:Nat)(n:Int)(h1:(decide (iN k<iN (Wn (AV.int i64) L).length)=false))(h2:(CT Wu 13 [] [AV.int i64 ((i64.wrap (iN k * 7)).tmod 11),AV.int i64 n] [] (AV.int i64 (D6 ((i64.wrap (iN k * 7)).tmod 11) n)))):∃o' st' q',go Wu ({dec:=[(21,false)],els:=eNext L k n,calls:=cNext L k n,unroll:=false}:HT) 1 4000 (.inl (zB Tryz.f17)) [] (Sm L k n)=some (o',st',q')/\q'/\Go.AX.C5 Wu 1 (Fin Wu Tryz.f17 1 [some (Blk.mk [AV.agg [AV.lst (Wn (AV.int i64) L),AV.int i64 (i64.wrap (iN k+1))]] 2 true true none)] (AV.int i64 (D6 ((i64.wrap (iN k * 7)).tmod 11) n))) st' o':=zF (σ:=[0]) (fz:=[]) (by kernel_rfl) (aj (u2 (ck (u2 (bP (ak (show((11:Int)=(0:Int)->False) by first | decide | exact Vb _)) s2)) (cb (ah aD)) h1 (am (ah aD)) (bg (bu h2) s2))) t3)
def Lc(L:List Int)(k:Nat):Int:=if k<L.length then L.getD k 0 else (i64.wrap ((k:Int) * 7)).tmod 11
def Af(L:List Int)(k:Nat)(n:Int):Int:=D6 (Lc L k) n
theorem zW(k:Nat)(h:k<9223372036854775807):i64.wrap ((k:Int)+1)=((k+1:Nat):Int):=by
 have:i64.wrap ((k:Int)+1)=(k:Int)+1:=by
  have e1:(2:Int) ^ i64.bits=18446744073709551616:=by decide
  have e2:(2:Int) ^ (i64.bits-1)=9223372036854775808:=by decide
  have e3:i64.signed=true:=by decide
  simp only[IntKind.wrap,e1,e2,e3,Bool.true_and,decide_eq_true_eq];split<;>omega
 rw[this];rfl
theorem AI(L:List Int)(k:Nat)(n:Int)(hk:k<9223372036854775807):CT Wu 17 [some (AE L k)] [.ptr 0 0 0,.int .i64 n] [some (AE L (k+1))] (.int .i64 (Af L k n)):=by
 have hb:Tryz.f17.body=some (zB Tryz.f17):=by kernel_rfl
 have hn:[AV.ptr 0 0 0,.int .i64 n].length<=Tryz.f17.ntmps:=nL rfl;unfold Af Lc;by_cases h:k<L.length
 .rw[Vt h];have:=next_0 L k n (by simpa [iN] using h) (by simp[iN,h]) (QV _ _);simp only[iN,zW k hk] at this;exact CT.path mix Tryz.func17 hb hn this
 .rw[Vu h];have:=next_1 L k n (by simpa [iN] using h) (QV _ _);simp only[iN,zW k hk] at this;exact CT.path mix Tryz.func17 hb hn this
end Go.Proofs.YthjgbnbibebigaaGreat
namespace Go.AX
theorem Ac.to{σ ρ:Type}{step:σ->Option (σ⊕ρ)}{s:σ}{y:Option (σ⊕ρ)}{r:ρ}(h:step s=y)(k:Ac step y r):Ac step (some (.inl s)) r:=.go _ _ (h ▸ k)
theorem Ac.val{σ ρ:Type}{step:σ->Option (σ⊕ρ)}{x:Option (σ⊕ρ)}{r:ρ}(h:x=some (.inr r)):Ac step x r:=h ▸ .ret r
theorem Ac.res{σ ρ:Type}{step:σ->Option (σ⊕ρ)}{x:Option (σ⊕ρ)}{r r':ρ}(h:Ac step x r)(e:r=r'):Ac step x r':=e ▸ h
theorem Pm{α β σ ρ:Type}{step:σ->Option (σ⊕ρ)}{L:Nat->β->σ}{f:β->α->β}{l:List α}{r:ρ}
  (b0:β) (hg:∀i x,l[i]?=some x->Ac step (some (.inl (L (i+1) (f ((l.take i).foldl f b0) x)))) r->Ac step (some (.inl (L i ((l.take i).foldl f b0)))) r)
  (he:Ac step (some (.inl (L l.length (l.foldl f b0)))) r):Ac step (some (.inl (L 0 b0))) r:=by
 have key:∀k i,i+k=l.length->Ac step (some (.inl (L i ((l.take i).foldl f b0)))) r:=by
  intro k;induction k with
  | zero=>intro i hi;have e:i=l.length:=by omega
          subst e;rw[List.take_length];exact he
  | succ k ih=>intro i hi;have hx:l[i]?=some l[i]:=Vv (by omega);refine hg i _ hx ?_;have h:=ih (i+1) (by omega);rw[List.take_add_one,hx,Option.toList_some,List.foldl_append] at h;exact h
 have h:=key l.length 0 (by omega);simpa using h
theorem OP{α σ ρ:Type}{step:σ->Option (σ⊕ρ)}{L:Nat->σ}{l:List α}{p:α->Bool}{rF r:ρ}
  (hb:∀i x,l[i]?=some x->p x=false->Ac step (some (.inl (L i))) rF)
  (hg:∀i x r,l[i]?=some x->p x=true->Ac step (some (.inl (L (i+1)))) r->Ac step (some (.inl (L i))) r)
  (he:l.all p=true->Ac step (some (.inl (L l.length))) r):Ac step (some (.inl (L 0))) (match l.all p with | true=>r | false=>rF):=by
 have key:∀k i,i+k=l.length->(∀x∈l.take i,p x=true)->Ac step (some (.inl (L i))) (match (l.drop i).all p with | true=>r | false=>rF):=by
  intro k;induction k with
  | zero=>
   intro i hi ht;have e:i=l.length:=by omega
   subst e;rw[List.take_length] at ht;rw[List.drop_length];exact he (VK.2 ht)
  | succ k ih=>
   intro i hi ht;have hx:l[i]?=some l[i]:=Vv (by omega);have hd:l.drop i=l[i]::l.drop (i+1):=by rw[Wg (by omega)]
   rw[hd,List.all_cons];cases hp:p l[i] with
   | false=>exact hb i _ hx hp
   | true=>
    rw[Bool.true_and];refine hg i _ _ hx hp (ih (i+1) (by omega) fun x hx'=>?_);rw[List.take_add_one,hx,Option.toList_some] at hx';rcases VZ.1 hx' with h | h
    .exact ht x h
    .rw[Vn.1 h];exact hp
 have h:=key l.length 0 (by omega) (fun x hx=>by simp at hx);simpa using h
theorem AR{α β:Type}{g:α->AV}{l:List α}{i:Nat}{x:α}(hx:l[i]?=some x){f:α->Option β}{y:Option β}:br (decide ((i:Int)<iN (Wn g l).length)) (gu (0<=(i:Int)) (el l (i:Int).toNat f)) y=f x:=by have hl:=(Vx.1 hx).1;rw[Ah (VB (by simp[iN];omega)),Ab (by omega),VE,Al hx]
theorem AN{α β:Type}{g:α->AV}{l:List α}{y z:Option β}:br (decide (((l.length:Nat):Int)<iN (Wn g l).length)) z y=y:=Ad (VA (by simp[iN]))
theorem Bb{σ ρ:Type}{step:σ->Option (σ⊕ρ)}(L:Nat->σ)(N:Nat){r:ρ}(h:∀i,i<N->Ac step (some (.inl (L (i+1)))) r->Ac step (some (.inl (L i))) r)(he:Ac step (some (.inl (L N))) r):
  Ac step (some (.inl (L 0))) r:=by
 have key:∀k i,i+k=N->Ac step (some (.inl (L i))) r:=by
  intro k;induction k with
  | zero=>intro i hi;have e:i=N:=by omega
          subst e;exact he
  | succ k ih=>intro i hi;exact h i (by omega) (ih (i+1) (by omega))
 exact key N 0 (by omega)
end Go.AX
set_option linter.unusedSimpArgs false
namespace Go.Proofs.YthjgbnbibebigaaGreat
def lI(l:List Int):AV:=.lst (l.map (AV.int .i64))
def gL(g:List (List Int)):List AV:=g.map lI
def boL(s:List Bool):List AV:=s.map AV.bool
structure OkG(g:List (List Int))(s:List Bool):Prop where
 len:g.length<=24
 row:∀v,v<g.length->(g.getD v []).length<=9223372036854775807/\∀w∈g.getD v [],0<=w/\w<(g.length:Int)/\w≠(v:Int)
 sh:s.length=g.length
theorem B4(g:List (List Int)):(gL g).length=g.length:=by simp[gL]
theorem SN{g:List (List Int)}{v:Nat}(h:v<g.length):(gL g)[v]?=some (lI (g.getD v [])):=by unfold gL;rw[VF,Vw,Vv h];rfl
theorem A5(s:List Bool):(boL s).length=s.length:=by simp[boL]
theorem J0{g:List (List Int)}{s:List Bool}(hg:OkG g s){v:Nat}(hv:v<g.length){i:Nat}(hi:i<(g.getD v []).length):∃w:Nat,(g.getD v []).getD i 0=(w:Int)/\w<g.length/\w≠v:=by
 have hr:=(hg.row v hv).2;generalize g.getD v []=r at hi hr ⊢
 have hm:r.getD i 0∈r:=by rw[Vw,Vv hi];exact V2 hi
 obtain⟨h1,h2,h3⟩:=hr _ hm;exact⟨(r.getD i 0).toNat,by omega,by omega,by omega⟩
theorem Qk(i:Nat)(h0:0<i)(h:i<9223372036854775808):i64.wrap ((i:Int)-1)=((i-1:Nat):Int):=by
 have e1:(2:Int) ^ i64.bits=18446744073709551616:=by decide
 have e2:(2:Int) ^ (i64.bits-1)=9223372036854775808:=by decide
 have e3:i64.signed=true:=by decide
 simp only[IntKind.wrap,e1,e2,e3,Bool.true_and,decide_eq_true_eq];split<;>omega
def fnd(p:Nat->Bool):Nat->Nat->Option Nat
 | _,0=>none
 | s,n+1=>match p s with
  | true=>some s
  | false=>fnd p (s+1) n
theorem R4{p:Nat->Bool}{s k:Nat}(h:s<k):fnd p s (k-s)=(match p s with | true=>some s | false=>fnd p (s+1) (k-(s+1))):=by rw[show k-s=(k-(s+1))+1 by omega,fnd]
theorem Q8{p:Nat->Bool}{s k:Nat}(h:¬s<k):fnd p s (k-s)=none:=by rw[show k-s=0 by omega,fnd]
theorem A3(z:Int)(h0 : -1000000<=z)(h1:z<=1000000):i64.wrap z=z:=by
 have e1:(2:Int) ^ i64.bits=18446744073709551616:=by decide
 have e2:(2:Int) ^ (i64.bits-1)=9223372036854775808:=by decide
 have e3:i64.signed=true:=by decide
 simp only[IntKind.wrap,e1,e2,e3,Bool.true_and,decide_eq_true_eq];split<;>omega
def Rows(g:List (List Int)):Prop:=∀v,v<g.length->(g.getD v []).length<=9223372036854775807
theorem Ay{α:Type}{l:List α}{i:Nat}(d:α)(h:i<l.length):l[i]?=some (l.getD i d):=by rw[Vw,Vv h];rfl
theorem CU{α β:Type}{g:α->AV}{l:List α}{i:Nat}(d:α)(h:i<l.length){f:α->Option β}{y:Option β}:br (decide ((i:Int)<iN (Wn g l).length)) (gu (0<=(i:Int)) (el l (i:Int).toNat f)) y=f (l.getD i d):=AR (Ay d h)
theorem elG{α β:Type}{l:List α}{i:Nat}(d:α)(h:i<l.length){f:α->Option β}:el l (i:Int).toNat f=f (l.getD i d):=by rw[VE,Al (Ay d h)]
theorem Dt{x:Int}(h1 : -9223372036854775808<=x)(h2:x<=9223372036854775807):i64.wrap x=x:=by simp only[IntKind.wrap,IntKind.bits,IntKind.signed];simp;omega
theorem Mp{p:Nat->Bool}:∀{n s:Nat},(∀i,s<=i->i<s+n->p i=false)->fnd p s n=none:=by
 intro n;induction n with
 | zero=>intro s _;rfl
 | succ n ih=>intro s h;rw[fnd,h s (VH _) (by omega)];exact ih fun i h1 h2=>h i (by omega) (by omega)
theorem Rd{p:Nat->Bool}:∀{n s j:Nat},fnd p s n=some j->p j=true/\s<=j/\j<s+n:=by
 intro n;induction n with
 | zero=>intro s j h;cases h
 | succ n ih=>
  intro s j h;rw[fnd] at h;cases hp:p s with
  | true=>rw[hp] at h;cases h;exact⟨hp,VH _,by omega⟩
  | false=>rw[hp] at h;obtain⟨a,b,c⟩:=ih h;exact⟨a,by omega,by omega⟩
theorem HQ{p:Nat->Bool}:∀{n s:Nat},fnd p s n=none->∀i,s<=i->i<s+n->p i=false:=by
 intro n;induction n with
 | zero=>intro s _ i h1 h2;omega
 | succ n ih=>
  intro s h i h1 h2;rw[fnd] at h;cases hp:p s with
  | true=>rw[hp] at h;cases h
  | false=>
   rw[hp] at h;by_cases e:i=s
   .rw[e];exact hp
   .exact ih h i (by omega) (by omega)
def AS(l:List Int)(x:Int):Bool:=(fnd (fun i=>l.getD i 0==x) 0 l.length).isSome
theorem L2{l:List Int}{x:Int}(h:AS l x=false):x∉l:=by
 intro hm;unfold AS at h;have hn:fnd (fun i=>l.getD i 0==x) 0 l.length=none:=by simpa using h
 obtain⟨i,hi,rfl⟩:=V7.1 hm;have:=HQ hn i (VI _) (by omega);rw[Vw,Vv hi] at this;simp at this
theorem FD{l:List Int}{x:Int}:AS l x=true↔x∈l:=by
 constructor
 .intro h;unfold AS at h;cases hf:fnd (fun i=>l.getD i 0==x) 0 l.length with
  | none=>rw[hf] at h;cases h
  | some i=>
   obtain⟨h1,_,h2⟩:=Rd hf;have:l.getD i 0=x:=by simpa using h1
   rw[<-this,Vw,Vv (show i<l.length by omega)];exact V2 _
 .intro h;cases hh:AS l x with
  | true=>rfl
  | false=>exact absurd h (L2 hh)
theorem Ak{α σ ρ:Type}{step:σ->Option (σ⊕ρ)}{b:Bool}{X Y:Option (σ⊕ρ)}{f:α->ρ}(x:b=true->∃p,Ac step X (f p))(y:b=false->∃p,Ac step Y (f p)):∃p,Ac step (br b X Y) (f p):=by
 cases b with
 | true=>exact x rfl
 | false=>exact y rfl
theorem Ag{α σ ρ:Type}{step:σ->Option (σ⊕ρ)}{q:Prop}{X:Option (σ⊕ρ)}{f:α->ρ}(h:q)(x:∃p,Ac step X (f p)):∃p,Ac step (gu q X) (f p):=by rw[Ab h];exact x
theorem AG{α β σ ρ:Type}{step:σ->Option (σ⊕ρ)}{l:List β}{i:Nat}{F:β->Option (σ⊕ρ)}{f:α->ρ}(h:i<l.length)(x:∀y,l[i]?=some y->∃p,Ac step (F y) (f p)):∃p,Ac step (el l i F) (f p):=by have e:l[i]?=some l[i]:=Vv h;rw[Al e];exact x _ e
theorem Az{α σ ρ:Type}{step:σ->Option (σ⊕ρ)}{s:σ}{X:Option (σ⊕ρ)}{f:α->ρ}(h:step s=X)(x:∃p,Ac step X (f p)):∃p,Ac step (some (.inl s)) (f p):=by obtain⟨p,hp⟩:=x;exact⟨p,.to h hp⟩
theorem Bn{α σ ρ:Type}{step:σ->Option (σ⊕ρ)}{p:Prop}[Decidable p]{X Y:Option (σ⊕ρ)}{f:α->ρ}(x:p->∃q,Ac step X (f q))(y:¬p->∃q,Ac step Y (f q)):∃q,Ac step (br (decide p) X Y) (f q):=Ak (fun h=>x (of_decide_eq_true h)) (fun h=>y (of_decide_eq_false h))
def O7(i j q:Int):Option (Empty⊕Ret):=br (decide (j<=i)) (some (.inr ([],bV (decide (i<=q))))) (some (.inr ([],bV false)))
theorem wit_ct(i j q:Int)(r:Ret)(h:Ac emT (O7 i j q) r):CT Wu 122 ([]) ([.int .i64 i,.int .i64 j,.int .i64 q]) r.1 r.2:=CT.mach (fn:=Tryz.f122) (c:=zB Tryz.f122) (S:=emS) (hd:=emH) Tryz.func122 (by kernel_rfl) (nL rfl) (fun s o ho=>match s,ho with | x,_=>x.elim) (fun o ho=>Scr.ok (X:=O7 i j q) ho mix (.ra s2 <|.br (fun a0=>.ta [21] (az (aR (bD (ai a0 (aW a0 t3 s2)))))) (fun a0=>.ta [20] (az (aR (aj t3 (aG a0 (aC a0 (cc a0)))))))) (by kernel_rfl)) h
def MZ(q:Int):Option (Empty⊕Ret):=br (decide (97<=q)) (br (decide (q<=122)) (some (.inr ([],bV true))) (br (decide (65<=q)) (some (.inr ([],bV (decide (q<=90))))) (some (.inr ([],bV false))))) (br (decide (65<=q)) (some (.inr ([],bV (decide (q<=90))))) (some (.inr ([],bV false))))
theorem lett_ct(q:Int)(r:Ret)(h:Ac emT (MZ q) r):CT Wu 150 ([]) ([.int .u8 q]) r.1 r.2:=CT.mach (fn:=Tryz.f150) (c:=zB Tryz.f150) (S:=emS) (hd:=emH) Tryz.func150 (by kernel_rfl) (nL rfl) (fun s o ho=>match s,ho with | x,_=>x.elim) (fun o ho=>Scr.ok (X:=MZ q) ho mix (.ra s2 <|.br (fun a0=>.br (fun a1=>.ta [11,19] (az (aL (bt a0 (aG a1 (aC a1 (an a1 (cc a1)))))))) (fun a1=>.br (fun a2=>.ta [11,18,25] (az (aL (bt a0 (u2 (ag a1 (aA a1 a2 (aj (bq a1 a2) (cc a1))))))))) (fun a2=>.ta [11,18,24] (az (aL (bt a0 (u2 (bt a1 (aj a2 (ab a2 (bq a1 a2) (cc a1))))))))))) (fun a0=>.br (fun a1=>.ta [10,25] (az (aL (aC a0 (ag a0 (aG t3 (cK (ai a1 (ab (ak (az a1)) t3 s2))))))))) (fun a1=>.ta [10,24] (az (aL (aC a0 (ag a0 (aG t3 (cK (aC a1 (ab (ak (az a1)) t3 s2))))))))))) (by kernel_rfl)) h
def Nf(q:Int):Option (Empty⊕Ret):=br (decide (97<=q)) (br (decide (q<=122)) (some (.inr ([],bV true))) (br (decide (65<=q)) (some (.inr ([],bV (decide (q<=90))))) (some (.inr ([],bV false))))) (br (decide (65<=q)) (some (.inr ([],bV (decide (q<=90))))) (some (.inr ([],bV false))))
theorem rle_ct(q:Int)(r:Ret)(h:Ac emT (Nf q) r):CT Wu 94 ([]) ([.int .u8 q]) r.1 r.2:=CT.mach (fn:=Tryz.f94) (c:=zB Tryz.f94) (S:=emS) (hd:=emH) Tryz.func94 (by kernel_rfl) (nL rfl) (fun s o ho=>match s,ho with | x,_=>x.elim) (fun o ho=>Scr.ok (X:=Nf q) ho mix (.ra s2 <|.br (fun a0=>.br (fun a1=>.ta [11,19] (az (aL (bt a0 (aG a1 (aC a1 (an a1 (cc a1)))))))) (fun a1=>.br (fun a2=>.ta [11,18,25] (az (aL (bt a0 (u2 (ag a1 (aA a1 a2 (aj (bq a1 a2) (cc a1))))))))) (fun a2=>.ta [11,18,24] (az (aL (bt a0 (u2 (bt a1 (aj a2 (ab a2 (bq a1 a2) (cc a1))))))))))) (fun a0=>.br (fun a1=>.ta [10,25] (az (aL (aC a0 (ag a0 (aG t3 (cK (ai a1 (ab (ak (az a1)) t3 s2))))))))) (fun a1=>.ta [10,24] (az (aL (aC a0 (ag a0 (aG t3 (cK (aC a1 (ab (ak (az a1)) t3 s2))))))))))) (by kernel_rfl)) h
@[irreducible] def CD(c:Int):Bool:=(decide (97<=c)&&decide (c<=122))||(decide (65<=c)&&decide (c<=90))
@[irreducible] def okB(c:Int):Bool:=CD c||!(decide (c<48)||decide (57<c))||(c==45)||(c==95)
@[irreducible] def nmB(s:ByteArray):Bool:= !(s.toList==(ByteArray.mk #[]).toList)&&!(decide (12<iN s.size))&&CD (bAt s 0)&&!(fnd (fun i=> !(okB (bAt s i))) 0 s.size).isSome
@[irreducible] def Bh(x y z:Int):Bool:=decide (y<=x)&&decide (x<=z)
theorem FH(c:Int):CT Wu 150 [] [.int .u8 c] [] (.bool (CD c)):=by refine lett_ct c ([],_) (.val ?_);unfold MZ CD;cases decide (97<=c)<;>cases decide (c<=122)<;>cases decide (65<=c)<;>rfl
theorem FK(c:Int):CT Wu 94 [] [.int .u8 c] [] (.bool (CD c)):=by refine rle_ct c ([],_) (.val ?_);unfold Nf CD;cases decide (97<=c)<;>cases decide (c<=122)<;>cases decide (65<=c)<;>rfl
theorem Df(x y z:Int):CT Wu 122 [] [.int .i64 x,.int .i64 y,.int .i64 z] [] (.bool (Bh x y z)):=by refine wit_ct x y z ([],_) (.val ?_);unfold O7 Bh;cases decide (y<=x)<;>rfl
theorem U1(s:ByteArray):(CZ s).length=s.size:=by simp[CZ]
theorem KN{s:ByteArray}(h:(s.toList==(ByteArray.mk #[]).toList)=false):0<s.size:=by
 rcases Nat.eq_zero_or_pos s.size with h0 | h0
 .have:s=ByteArray.mk #[]:=by cases s;rename_i d;congr;exact Array.eq_empty_of_size_eq_zero h0
  subst this;simp at h
 .exact h0
inductive Fy where | l0 (v0:Int)
def nmeSt(w:ByteArray):Fy->St | .l0 v0=>St.mk 45 [(19,AV.lst (CZ w)),(20,iv (iN (CZ w).length)),(21,iv v0)] []
def P3(w:ByteArray):Option (Fy⊕Ret):=br (w.toList==(ByteArray.mk #[]).toList) (some (.inr ([],bV false))) (br (decide (12<iN w.size)) (some (.inr ([],bV false))) (gu (0<iN w.size) <|br (!CD (bAt w (Int.toNat 0))) (some (.inr ([],bV false))) (some (.inl (.l0 ((0:Int)))))))
def IR(w:ByteArray)(v0:Int):Option (Fy⊕Ret):=br (decide (v0<iN (CZ w).length)) (gu (0<=v0) <|el (w.data.toList) (v0.toNat) fun(x23:UInt8)=>br (!CD (iN x23.toNat)) (br (decide (iN x23.toNat<48)) (br (iN x23.toNat != 45) (br (iN x23.toNat != 95) (some (.inr ([],bV false))) (some (.inl (.l0 (i64.wrap (v0+1)))))) (some (.inl (.l0 (i64.wrap (v0+1)))))) (br (decide (57<iN x23.toNat)) (br (iN x23.toNat != 45) (br (iN x23.toNat != 95) (some (.inr ([],bV false))) (some (.inl (.l0 (i64.wrap (v0+1)))))) (some (.inl (.l0 (i64.wrap (v0+1)))))) (some (.inl (.l0 (i64.wrap (v0+1))))))) (some (.inl (.l0 (i64.wrap (v0+1)))))) (some (.inr ([],bV true)))
def nmeStep(w:ByteArray):Fy->Option (Fy⊕Ret) | .l0 v0=>IR w v0
theorem nme_ct(w:ByteArray)(r:Ret)(h:Ac (nmeStep w) (P3 w) r):CT Wu 124 ([]) ([.str w]) r.1 r.2:=CT.mach (fn:=Tryz.f124) (c:=zB Tryz.f124) (S:=(nmeSt w)) (hd:=Fy.ctorIdx) Tryz.func124 (by kernel_rfl) (nL rfl) (fun s o ho=>match s,ho with | .l0 v0,ho=>Scr.ok (X:=IR w v0) ho mix (.ra bG <|.br (fun a0=>.gu fun a1=>.el fun x23 a2=>.rd [45] [(23,AV.int IntKind.u8 (iN x23.toNat))] [] (af a0 (aB a1 (Ae (f:=fun b=>AV.int IntKind.u8 (iN b.toNat)) a2) aw)) <|.br (fun a3=>.br (fun a4=>.br (fun a5=>have c0:=FH (iN x23.toNat);.rd [57,63,81] [] [(26,hK c0 [] [])] (al (cC (c0) (aa (bt a3 (aj a4 (ab a4 (bq a3 a4) (ag a3 (aG t3 (cK (cP a5 (bE a5))))))))))) <|.br (fun a6=>.ta [57,63,81,87] (bO a6)) (fun a6=>.pa [57,63,81,86] [] [19,20,21] (cj a6 t4))) (fun a5=>have c0:=FH (iN x23.toNat);.pb [57,63,80] [] [(26,hK c0 [] [])] [] [] [19,20,21] (bI (cC (c0) (aa (bt a3 (aj a4 (ab a4 (bq a3 a4) (ag a3 (aG t3 (cK (u2 (bW a5)))))))))) aw t4))) (fun a4=>.br (fun a5=>.br (fun a6=>have c0:=FH (iN x23.toNat);.rd [57,62,73,81] [] [(26,hK c0 [] [])] (al (cC (c0) (aa (ag a3 (aA a3 a4 (aj (bq a3 a4) (bj a3 (bt a5 (cP a6 (bE a6)))))))))) <|.br (fun a7=>.ta [57,62,73,81,87] (bO a7)) (fun a7=>.pa [57,62,73,81,86] [] [19,20,21] (cj a7 t4))) (fun a6=>have c0:=FH (iN x23.toNat);.pb [57,62,73,80] [] [(26,hK c0 [] [])] [] [] [19,20,21] (bI (cC (c0) (aa (ag a3 (aA a3 a4 (aj (bq a3 a4) (bj a3 (bt a5 (u2 (bW a6))))))))) aw t4))) (fun a5=>have c0:=FH (iN x23.toNat);.pb [57,62,72] [] [(26,hK c0 [] [])] [] [] [19,20,21] (bI (cC (c0) (aa (ag a3 (aA a3 a4 (aj (bq a3 a4) (bj a3 (cx a5 (k2 aD)))))))) aw t4)))) (fun a3=>have c0:=FH (iN x23.toNat);.pb [56] [] [(26,hK c0 [] [])] [] [] [19,20,21] (bI (cC (c0) (bg a3 (aC a3 (an a3 (bj a3 (an t3 (u2 (k2 aD)))))))) aw t4))) (fun a0=>.ta [44] (bO a0))) (by kernel_rfl)) (fun o ho=>Scr.ok (X:=P3 w) ho mix (.ra s2 <|.br (fun a0=>.ta [15] (cB (bb a0 (cx a0 (aN aD))))) (fun a0=>.br (fun a1=>.ta [14,25] (cB (am (aX a0 (aC a1 (bW a1)))))) (fun a1=>.gu fun a2=>have c0:=FH (bAt w (Int.toNat 0));.rd [14,24] [] [(15,hK c0 [] [])] (aL (aX a0 (ag a1 (bv a1 (aU (Int.le_refl 0) a2) (aj a1 (aM (c0))) (ag a1 (bE a1)))))) <|.br (fun a3=>.ta [14,24,35] (bO a3)) (fun a3=>.pa [14,24,34] [] [19,20,21] (aF a3 (am t2) t4))))) (by kernel_rfl)) h
inductive F0 where | l0 (v0:Int)
def rnaSt(w:ByteArray):F0->St | .l0 v0=>St.mk 46 [(0,AV.str w),(3,iv v0)] []
def MT(w:ByteArray):Option (F0⊕Ret):=br (w.toList==(ByteArray.mk #[]).toList) (some (.inr ([],bV false))) (br (decide (12<iN w.size)) (some (.inr ([],bV false))) (gu (0<iN w.size) <|br (!CD (bAt w (Int.toNat 0))) (some (.inr ([],bV false))) (some (.inl (.l0 ((0:Int)))))))
def HE(w:ByteArray)(v0:Int):Option (F0⊕Ret):=br (decide (v0<iN w.size)) (gu (0<=v0) <|gu (v0<iN w.size) <|br (!CD (bAt w v0.toNat)) (br (decide (bAt w v0.toNat<48)) (br (bAt w v0.toNat != 45) (br (bAt w v0.toNat != 95) (some (.inr ([],bV false))) (some (.inl (.l0 (i64.wrap (v0+1)))))) (some (.inl (.l0 (i64.wrap (v0+1)))))) (br (decide (57<bAt w v0.toNat)) (br (bAt w v0.toNat != 45) (br (bAt w v0.toNat != 95) (some (.inr ([],bV false))) (some (.inl (.l0 (i64.wrap (v0+1)))))) (some (.inl (.l0 (i64.wrap (v0+1)))))) (some (.inl (.l0 (i64.wrap (v0+1))))))) (some (.inl (.l0 (i64.wrap (v0+1)))))) (some (.inr ([],bV true)))
def rnaStep(w:ByteArray):F0->Option (F0⊕Ret) | .l0 v0=>HE w v0
theorem rna_ct(w:ByteArray)(r:Ret)(h:Ac (rnaStep w) (MT w) r):CT Wu 38 ([]) ([.str w]) r.1 r.2:=CT.mach (fn:=Tryz.f38) (c:=zB Tryz.f38) (S:=(rnaSt w)) (hd:=F0.ctorIdx) Tryz.func38 (by kernel_rfl) (nL rfl) (fun s o ho=>match s,ho with | .l0 v0,ho=>Scr.ok (X:=HE w v0) ho mix (.ra cF <|.br (fun a0=>.gu fun a1=>.gu fun a2=>.rb [43] (af a0 (bN a1 a2 s2)) <|.br (fun a3=>.br (fun a4=>.br (fun a5=>have c0:=FK (bAt w v0.toNat);.rd [61,67,85] [] [(28,hK c0 [] [])] (al (cC (c0) (aa (bt a3 (aj a4 (ab a4 (bq a3 a4) (ag a3 (aG t3 (cK (cP a5 (bE a5))))))))))) <|.br (fun a6=>.ta [61,67,85,91] (bO a6)) (fun a6=>.pa [61,67,85,90] [] [0,3] (b4 a6 t3))) (fun a5=>have c0:=FK (bAt w v0.toNat);.pb [61,67,84] [] [(28,hK c0 [] [])] [] [] [0,3] (bI (cC (c0) (aa (bt a3 (aj a4 (ab a4 (bq a3 a4) (ag a3 (aG t3 (cK (u2 (bW a5)))))))))) aE t3))) (fun a4=>.br (fun a5=>.br (fun a6=>have c0:=FK (bAt w v0.toNat);.rd [61,66,77,85] [] [(28,hK c0 [] [])] (al (cC (c0) (aa (ag a3 (aA a3 a4 (aj (bq a3 a4) (bj a3 (bt a5 (cP a6 (bE a6)))))))))) <|.br (fun a7=>.ta [61,66,77,85,91] (bO a7)) (fun a7=>.pa [61,66,77,85,90] [] [0,3] (b4 a7 t3))) (fun a6=>have c0:=FK (bAt w v0.toNat);.pb [61,66,77,84] [] [(28,hK c0 [] [])] [] [] [0,3] (bI (cC (c0) (aa (ag a3 (aA a3 a4 (aj (bq a3 a4) (bj a3 (bt a5 (u2 (bW a6))))))))) aE t3))) (fun a5=>have c0:=FK (bAt w v0.toNat);.pb [61,66,76] [] [(28,hK c0 [] [])] [] [] [0,3] (bI (cC (c0) (aa (ag a3 (aA a3 a4 (aj (bq a3 a4) (bj a3 (cx a5 (k2 aD)))))))) aE t3)))) (fun a3=>have c0:=FK (bAt w v0.toNat);.pb [60] [] [(28,hK c0 [] [])] [] [] [0,3] (bI (cC (c0) (bg a3 (aC a3 (an a3 (bj a3 (an t3 (u2 (k2 aD)))))))) aE t3))) (fun a0=>.ta [42] (bO a0))) (by kernel_rfl)) (fun o ho=>Scr.ok (X:=MT w) ho mix (.ra s2 <|.br (fun a0=>.ta [15] (cB (bb a0 (cx a0 (aN aD))))) (fun a0=>.br (fun a1=>.ta [14,25] (cB (am (aX a0 (aC a1 (bW a1)))))) (fun a1=>.gu fun a2=>have c0:=FK (bAt w (Int.toNat 0));.rd [14,24] [] [(15,hK c0 [] [])] (aL (aX a0 (ag a1 (bv a1 (aU (Int.le_refl 0) a2) (aj a1 (aM (c0))) (ag a1 (bE a1)))))) <|.br (fun a3=>.ta [14,24,35] (bO a3)) (fun a3=>.pa [14,24,34] [] [0,3] (cO a3 t3))))) (by kernel_rfl)) h
structure AD where
 nm:ByteArray
 x:Int
 y:Int
structure Au where
 nm:ByteArray
 dep:Bool
 i:Int
 o:Int
 k:Int
 b:Int
structure Aa where
 bs:List AD
 nx:List (List Int)
 ss:List Au
 rs:List Int
 q:Int
 a:Int
 d:Int
 p:Int
def bA(b:AD):AV:=.agg [.str b.nm,.int .i64 b.x,.int .i64 b.y]
def sA(s:Au):AV:=.agg [.str s.nm,.bool s.dep,.int .i64 s.i,.int .i64 s.o,.int .i64 s.k,.int .i64 s.b]
def Ai(n:Aa):AV:=.agg [.lst (n.bs.map bA),.lst (gL n.nx),.lst (n.ss.map sA),lI n.rs,.int .i64 n.q,.int .i64 n.a,.int .i64 n.d,.int .i64 n.p]
def Bo(r:List Int)(i:Nat):Int:=if i=0 then -1 else r.getD (i-1) 0
@[irreducible] def CY(n:Aa):Bool:=Bh n.q 1 8&&Bh n.a 0 4&&Bh n.d 0 3&&Bh n.p 1 16
@[irreducible] def nxE(r:List Int)(i m:Int)(k:Nat):Bool:=decide (r.getD k 0<=Bo r k)||decide (m<=r.getD k 0)||r.getD k 0==i
@[irreducible] def nxB(r:List Int)(i m:Int):Bool:= !(fnd (nxE r i m) 0 r.length).isSome&&decide (r.length<=4)
def Be(n:Aa):List ByteArray:=n.bs.map (·.nm)++n.ss.map (·.nm)
theorem Bm{x y z:Int}:Bh x y z=true↔y<=x/\x<=z:=by unfold Bh;simp
theorem IT(x y z:Int)(h:Bh x y z=true):CT Wu 122 [] [.int .i64 x,.int .i64 y,.int .i64 z] [] (.bool true):=by rw[<-h];exact Df x y z
theorem Da{r:List Int}{i m:Int}(h:nxB r i m=true):r.length<=4/\∀k,k<r.length->Bo r k<r.getD k 0/\r.getD k 0<m/\r.getD k 0≠i:=by
 unfold nxB at h;rw[VD,decide_eq_true_eq] at h;refine⟨h.2,fun k hk=>?_⟩;have hn:fnd (nxE r i m) 0 r.length=none:=by cases hf:fnd (nxE r i m) 0 r.length with | none=>rfl | some _=>rw[hf] at h;cases h.1
 have:=HQ hn k (VI _) (by omega);unfold nxE at this;simp only[Bool.or_eq_false_iff,decide_eq_false_iff_not,V6] at this;omega
theorem Rq{σ:Type}{step:σ->Option (σ⊕Ret)}{L:Int->σ}(s:ByteArray)(h12:s.size<=1000)
  (hs:∀i:Nat,i<s.size->step (L i)=br (okB (bAt s i)) (some (.inl (L (i64.wrap ((i:Int)+1))))) (some (.inr ([],.bool false))))
  (he:step (L (s.size:Nat))=some (.inr ([],.bool true))):Ac step (some (.inl (L 0))) (([],.bool (!(fnd (fun i=> !(okB (bAt s i))) 0 s.size).isSome)):Ret):=by
 have key:∀(d i:Nat),i+d=s.size->Ac step (some (.inl (L (i:Nat)))) (([],.bool (!(fnd (fun i=> !(okB (bAt s i))) i d).isSome)):Ret):=by
  intro d;induction d with
  | zero=>
   intro i hi;obtain rfl:i=s.size:=by omega
   exact .to he (.ret _)
  | succ d ih=>
   intro i hi;refine .to (hs i (by omega)) ?_;unfold fnd;cases okB (bAt s i) with
   | true=>rw[Ah rfl,zW i (by omega)];exact ih (i+1) (by omega)
   | false=>exact .ret _
 exact key s.size 0 (by omega)
theorem Q1(s:ByteArray):CT Wu 38 [] [.str s] [] (.bool (nmB s)):=by
 refine rna_ct s ([],_) ?_;unfold MT nmB;cases h1:s.toList==(ByteArray.mk #[]).toList with
 | true=>exact .val rfl
 | false=>
  have h0:=KN h1;rw[Ad rfl];cases h2:decide (12<iN s.size) with
  | true=>exact .val rfl
  | false=>
   have h2:=of_decide_eq_false h2;simp only[iN] at h2;rw[Ad rfl,Ab (by simp only[iN];omega)];cases h3:CD (bAt s 0) with
   | false=>rw[Ah (by rw[show Int.toNat 0=0 from rfl,h3];rfl)];exact .ret _
   | true=>
    rw[Ad (by rw[show Int.toNat 0=0 from rfl,h3];rfl)];simp only[Bool.not_false,Bool.true_and];refine Rq (L:=fun i=>F0.l0 i) s (by omega) (fun i hi=>?_) ?_
    .show HE s i=_;unfold HE okB;rw[Ah (VB (by simp only[iN];omega)),Ab (by omega),Ab (by simp only[iN];omega),VE];simp only[bne];cases CD (bAt s i)<;>cases decide (bAt s i<48)<;>cases decide (57<bAt s i)<;>cases bAt s i==45<;>cases bAt s i==95<;>rfl
    .show HE s s.size=_;unfold HE;rw[Ad (VA (by simp only[iN];omega))]
theorem bAt_get{s:ByteArray}{i:Nat}{b:UInt8}(h:s.data.toList[i]?=some b):iN b.toNat=bAt s i:=by unfold bAt;rw[Vw,h];rfl
theorem Ta(s:ByteArray)(h:nmB s=true):CT Wu 124 [] [.str s] [] (.bool true):=by
 rw[<-h];refine nme_ct s ([],_) ?_;unfold nmB at h;simp only[VD,Wh,decide_eq_false_iff_not] at h;obtain⟨⟨⟨h1,h2⟩,h3⟩,_⟩:=h;have h0:=KN h1;simp only[iN] at h2;unfold P3 nmB;rw[h1,Ad rfl,VA (show ¬12<iN s.size by simp only[iN];omega),Ad rfl,Ab (by simp only[iN];omega),show Int.toNat 0=0 from rfl,h3,Ad (by rfl)];simp only[Bool.not_false,Bool.true_and];have hl:s.data.toList.length=s.size:=by simp
 have hb:=U1 s;refine Rq (L:=fun i=>Fy.l0 i) s (by omega) (fun i hi=>?_) ?_
 .show IR s i=_;obtain⟨b,hx⟩:∃b,s.data.toList[i]?=some b:=⟨_,Vv (by omega)⟩;have e:=bAt_get hx;unfold IR okB;rw[Ah (VB (by simp only[iN];omega)),Ab (by omega),VE,Al hx,e];simp only[bne];cases CD (bAt s i)<;>cases decide (bAt s i<48)<;>cases decide (57<bAt s i)<;>cases bAt s i==45<;>cases bAt s i==95<;>rfl
 .show IR s s.size=_;unfold IR;rw[Ad (VA (by simp only[iN];omega))]
theorem tl_loop(s:ByteArray):∀(d i:Nat) (r:List UInt8),i+d=s.size->ByteArray.toList.loop s i r=r.reverse++s.data.toList.drop i:=by
 intro d;induction d with
 | zero=>
  intro i r h;have hl:s.data.toList.length=s.size:=by simp
  unfold ByteArray.toList.loop;rw[Vu (by omega),List.drop_eq_nil_of_le (by omega),List.append_nil]
 | succ d ih=>
  intro i r h;have hl:s.data.toList.length=s.size:=by simp
  unfold ByteArray.toList.loop;rw[Vt (by omega),ih (i+1) _ (by omega),Wg (l:=s.data.toList) (i:=i) (by omega)];have:s.get! i=s.data.toList[i]:=by
   have hi:i<s.data.size:=by have:s.data.size=s.size:=rfl;omega
   show s.data[i]! = _;rw[getElem!_pos s.data i hi,Array.getElem_toList]
  rw[this,List.reverse_cons,List.append_assoc];rfl
theorem nm_eq{a b:ByteArray}(h:a.toList=b.toList):a=b:=by
 have e:∀s:ByteArray,s.toList=s.data.toList:=fun s=>(tl_loop s s.size 0 [] (VL _)).trans rfl
 rw[e,e] at h;cases a;cases b;exact congrArg ByteArray.mk (Array.toList_inj.1 h)
def OC(i j q l:Int):Option (Empty⊕Ret):=br (Bh i 1 8) (br (Bh j 0 4) (br (Bh q 0 3) (some (.inr ([],bV (Bh l 1 16)))) (some (.inr ([],bV false)))) (some (.inr ([],bV false)))) (some (.inr ([],bV false)))
theorem cfv_ct(i j q l:Int)(r:Ret)(h:Ac emT (OC i j q l) r):CT Wu 123 ([]) ([.agg [.int .i64 i,.int .i64 j,.int .i64 q,.int .i64 l]]) r.1 r.2:=CT.mach (fn:=Tryz.f123) (c:=zB Tryz.f123) (S:=emS) (hd:=emH) Tryz.func123 (by kernel_rfl) (nL rfl) (fun s o ho=>match s,ho with | x,_=>x.elim) (fun o ho=>Scr.ok (X:=OC i j q l) ho mix (.ra bR <|.br (fun a0=>.br (fun a1=>.br (fun a2=>have c0:=Df (i) (1) (8);have c1:=Df (j) (0) (4);have c2:=Df (q) (0) (3);have c3:=Df (l) (1) (16);.tb [13,23,33] [] [(5,hK c0 [] []),(9,hK c1 [] []),(14,hK c2 [] []),(19,hK c3 [] [])] [] [] (az (aR (aO (bu (c0)) (ai a0 (aW a0 (bu (c1)) (cP a1 (aW a1 (bu (c2)) (cP a2 (aW a2 (bu (c3)) s2)))))))))) (fun a2=>have c0:=Df (i) (1) (8);have c1:=Df (j) (0) (4);have c2:=Df (q) (0) (3);.tb [13,23,32] [] [(5,hK c0 [] []),(9,hK c1 [] []),(14,hK c2 [] [])] [] [] (az (aR (aO (bu (c0)) (ai a0 (aW a0 (bu (c1)) (cP a1 (aW a1 (bu (c2)) (aG a2 (aC a2 (cc a2)))))))))))) (fun a1=>have c0:=Df (i) (1) (8);have c1:=Df (j) (0) (4);.tb [13,22] [] [(5,hK c0 [] []),(9,hK c1 [] [])] [] [] (az (aR (aO (bu (c0)) (ai a0 (aW a0 (bu (c1)) (aG a1 (cx a1 (bB t3 s2)))))))))) (fun a0=>have c0:=Df (i) (1) (8);.tb [12] [] [(5,hK c0 [] [])] [] [] (az (aR (aj (bu (c0)) (aG a0 (cx a0 (ci (bB t3 s2))))))))) (by kernel_rfl)) h
def Pu(i j q l:Int):Option (Empty⊕Ret):=br (decide (1<=i)) (br (decide (i<=8)) (br (decide (0<=j)) (br (decide (j<=4)) (br (decide (0<=q)) (br (decide (q<=3)) (br (decide (1<=l)) (some (.inr ([],bV (decide (l<=16))))) (some (.inr ([],bV false)))) (some (.inr ([],bV false)))) (some (.inr ([],bV false)))) (some (.inr ([],bV false)))) (some (.inr ([],bV false)))) (some (.inr ([],bV false)))) (some (.inr ([],bV false)))
theorem cfr_ct(i j q l:Int)(r:Ret)(h:Ac emT (Pu i j q l) r):CT Wu 144 ([]) ([.agg [.int .i64 i,.int .i64 j,.int .i64 q,.int .i64 l]]) r.1 r.2:=CT.mach (fn:=Tryz.f144) (c:=zB Tryz.f144) (S:=emS) (hd:=emH) Tryz.func144 (by kernel_rfl) (nL rfl) (fun s o ho=>match s,ho with | x,_=>x.elim) (fun o ho=>Scr.ok (X:=Pu i j q l) ho mix (.ra bR <|.br (fun a0=>.br (fun a1=>.br (fun a2=>.br (fun a3=>.br (fun a4=>.br (fun a5=>.br (fun a6=>.ta [13,23,33,43,53,63,73] (az (bC (aX a0 (aX a1 (aX a2 (aX a3 (aX a4 (aX a5 (aI a6 s2)))))))))) (fun a6=>.ta [13,23,33,43,53,63,72] (az (bC (aX a0 (aX a1 (aX a2 (aX a3 (aX a4 (aI a5 (aG a6 (aC a6 (cc a6))))))))))))) (fun a5=>.ta [13,23,33,43,53,62] (az (bC (aX a0 (aX a1 (aX a2 (aX a3 (aI a4 (aG a5 (cx a5 (bB t3 s2)))))))))))) (fun a4=>.ta [13,23,33,43,52] (az (bC (aX a0 (aX a1 (aX a2 (aI a3 (aG a4 (cx a4 (ci (bB t3 s2)))))))))))) (fun a3=>.ta [13,23,33,42] (az (bC (aX a0 (aX a1 (aI a2 (aG a3 (cx a3 (ci (ci (bB t3 s2)))))))))))) (fun a2=>.ta [13,23,32] (az (bC (aX a0 (aI a1 (aG a2 (cx a2 (ci (ci (ci (bB t3 s2)))))))))))) (fun a1=>.ta [13,22] (az (bC (aI a0 (aG a1 (cx a1 (ci (ci (ci (ci (bB t3 s2)))))))))))) (fun a0=>.ta [12] (az (bC (aj a0 (cx a0 (ci (ci (ci (ci (ci (bB t3 s2)))))))))))) (by kernel_rfl)) h
inductive Gp where | l0 (v0 v1:Int)
def vnxSt(l:List Int)(i j:Int):Gp->St | .l0 v0 v1=>St.mk 34 [(0,AV.lst (Wn iv l)),(1,iv i),(2,iv j),(7,iv v0),(10,AV.lst (Wn iv l)),(11,iv (iN (Wn iv l).length)),(12,iv v1)] []
def vnxEn(l:List Int)(i j:Int):Option (Gp⊕Ret):=some (.inl (.l0 ((-1:Int)) ((0:Int))))
def Ij(l:List Int)(i j:Int)(v0 v1:Int):Option (Gp⊕Ret):=br (decide (v1<iN (Wn iV l).length)) (gu (0<=v1) <|el l (v1.toNat) fun(x14:Int)=>br (decide (x14<=v0)) (some (.inr ([],bV false))) (br (decide (j<=x14)) (some (.inr ([],bV false))) (br (x14==i) (some (.inr ([],bV false))) (some (.inl (.l0 x14 (i64.wrap (v1+1)))))))) (some (.inr ([],bV (decide (iN (Wn iV l).length<=4)))))
def vnxStep(l:List Int)(i j:Int):Gp->Option (Gp⊕Ret) | .l0 v0 v1=>Ij l i j v0 v1
theorem vnx_ct(l:List Int)(i j:Int)(r:Ret)(h:Ac (vnxStep l i j) (vnxEn l i j) r):CT Wu 125 ([]) ([lI l,.int .i64 i,.int .i64 j]) r.1 r.2:=CT.mach (fn:=Tryz.f125) (c:=zB Tryz.f125) (S:=(vnxSt l i j)) (hd:=Gp.ctorIdx) Tryz.func125 (by kernel_rfl) (nL rfl) (fun s o ho=>match s,ho with | .l0 v0 v1,ho=>Scr.ok (X:=Ij l i j v0 v1) ho mix (.ra bG <|.br (fun a0=>.gu fun a1=>.el fun x14 a2=>.rd [27] [(14,iv x14)] [] (af a0 (aB a1 (Ae (f:=iv) a2) aw)) <|.br (fun a3=>.ta [39] (cB (bg t3 (aG a3 (cx a3 (k3 aD)))))) (fun a3=>.br (fun a4=>.ta [38,49] (cB (aa (bD (ai a3 (aW a3 t3 (aG a4 (bW a4)))))))) (fun a4=>.rb [38,48] (aR (bD (ai a3 (aW a3 t3 (cP a4 (bT a4 t3 a4)))))) <|.br (fun a5=>.ta [38,48,57] (bO a5)) (fun a5=>.pa [38,48,56] [] [0,1,2,7,10,11,12] (bm a5 aw aw t8))))) (fun a0=>.ta [26] (az (bX a0 s2)))) (by kernel_rfl)) (fun o ho=>Scr.ok (X:=vnxEn l i j) ho mix (.pa [] [] [0,1,2,7,10,11,12] (aj (aa cI) t8)) (by kernel_rfl)) h
theorem cfg_e(i j q l:Int):CT Wu 123 [] [.agg [.int .i64 i,.int .i64 j,.int .i64 q,.int .i64 l]] [] (.bool (CY ⟨[],[],[],[],i,j,q,l⟩)):=by refine cfv_ct i j q l ([],_) (.val ?_);unfold OC CY;cases Bh i 1 8<;>cases Bh j 0 4<;>cases Bh q 0 3<;>rfl
theorem cfg_r(i j q l:Int):CT Wu 144 [] [.agg [.int .i64 i,.int .i64 j,.int .i64 q,.int .i64 l]] [] (.bool (CY ⟨[],[],[],[],i,j,q,l⟩)):=by refine cfr_ct i j q l ([],_) (.val ?_);unfold Pu CY Bh;cases decide (1<=i)<;>cases decide (i<=8)<;>cases decide (0<=j)<;>cases decide (j<=4)<;>cases decide (0<=q)<;>cases decide (q<=3)<;>cases decide (1<=l)<;>rfl
theorem vnx_v(r:List Int)(i m:Int)(h:nxB r i m=true):CT Wu 125 [] [lI r,.int .i64 i,.int .i64 m] [] (.bool true):=by
 obtain⟨hl,hr⟩:=Da h;refine vnx_ct r i m ([],_) ?_;refine Bb (fun k=>Gp.l0 (Bo r k) (k:Int)) r.length (fun k hk hx=>.to (show Ij r i m (Bo r k) k=_ from ?_) hx) (.to (show Ij r i m (Bo r r.length) r.length=_ from ?_) (.ret _))
 .have hg:r[k]?=some (r.getD k 0):=by rw[Vw,Vv hk];rfl
  obtain⟨a1,a2,a3⟩:=hr k hk;unfold Ij;rw[AR hg,Ad (VA (by omega)),Ad (VA (by omega)),Ad (by simpa using a3),zW k (by omega)];rfl
 .unfold Ij;rw[AN,VB (by simp only[iN,Vy];omega)]
theorem cfg_v(i j q l:Int)(h:CY ⟨[],[],[],[],i,j,q,l⟩=true):CT Wu 123 [] [.agg [.int .i64 i,.int .i64 j,.int .i64 q,.int .i64 l]] [] (.bool true):=h ▸ cfg_e i j q l
theorem cfg_w(i j q l:Int)(h:CY ⟨[],[],[],[],i,j,q,l⟩=true):CT Wu 144 [] [.agg [.int .i64 i,.int .i64 j,.int .i64 q,.int .i64 l]] [] (.bool true):=h ▸ cfg_r i j q l
inductive Et where | l0 (v0:Int) (v1:List MapEntry) (v2:Nat) | l1 (v0 v1:Int) (v2:List MapEntry) (v3:Nat) (v4:List MapEntry) (v5:Nat) | l2 (v0 v1:Int) (v2:Au) (v3:Int) (v4:List MapEntry) (v5:Nat) (v6:List MapEntry) (v7:Nat) | l3 (v0:Bool) (v1:Int) (v2:List MapEntry) (v3:Nat)
def mvvSt(n:Aa):Et->St | .l0 v0 v1 v2=>St.mk 185 [(1,AV.ptr 0 0 0),(3,AV.map 1),(47,AV.lst (Wn bA n.bs)),(48,iv (iN (Wn bA n.bs).length)),(49,iv v0)] [some (bK [Ai n] 8),some (Blk.mk [] 0 true true (some (v1,v2)))] | .l1 v0 v1 v2 v3 v4 v5=>St.mk 185 [(1,AV.ptr 0 0 0),(3,AV.map 1),(6,iv v0),(7,AV.map 2),(94,AV.lst (Wn sA n.ss)),(95,iv (iN (Wn sA n.ss).length)),(96,iv v1)] [some (bK [Ai n] 8),some (Blk.mk [] 0 true true (some (v2,v3))),some (Blk.mk [] 0 true true (some (v4,v5)))] | .l2 v0 v1 v2 v3 v4 v5 v6 v7=>St.mk 185 [(1,AV.ptr 0 0 0),(3,AV.map 1),(6,iv v0),(7,AV.map 2),(9,AV.ptr 3 0 0),(94,AV.lst (Wn sA n.ss)),(95,iv (iN (Wn sA n.ss).length)),(96,iv v1),(142,iv v2.k),(143,iv v3)] [some (bK [Ai n] 8),some (Blk.mk [] 0 true true (some (v4,v5))),some (Blk.mk [] 0 true true (some (v6,v7))),some (bK [sA v2] 6)] | .l3 v0 v1 v2 v3=>St.mk 185 [(7,AV.map 0),(10,bV v0),(169,AV.lst (Wn iv n.rs)),(170,iv (iN (Wn iv n.rs).length)),(171,iv v1)] [some (Blk.mk [] 0 true true (some (v2,v3)))]
def O1(n:Aa):Option (Et⊕Ret):=br (Bh (iN (Wn bA n.bs).length) 1 24) (br (iN (gL n.nx).length != iN (Wn bA n.bs).length) (none) (br (decide (6<iN (Wn sA n.ss).length)) (none) (br (decide (8<iN (Wn iV n.rs).length)) (none) (br (CY (Aa.mk [] [] [] [] n.q n.a n.d n.p)) (some (.inl (.l0 ((0:Int)) ([]) (nat_lit 0)))) (none))))) (none)
def IS(n:Aa)(v0:Int)(v1:List MapEntry)(v2:Nat):Option (Et⊕Ret):=
 br (decide (v0<iN (Wn bA n.bs).length))
 (gu (0<=v0) <|
  el (n.bs) (v0.toNat) fun(x52:AD)=>
  gu (∀ (x : MapEntry), x ∈ v1 -> BX (TypeInfo.mk TypeDesc.string "string" 1 16 true 8 8 (some (Value.string (ByteArray.mk #[]))) true #[]).desc x.key = true /\ D5 (MK.i i64) x.val) <|
  br (nmB x52.nm)
  (br (Bh x52.x (-9999) 9999)
   (br (Bh x52.y (-9999) 9999)
    (el (n.nx) (v0.toNat) fun(x79:List Int)=>
     br (nxB x79 v0 (iN (Wn bA n.bs).length))
     (some (.inl (.l0 (i64.wrap (v0+1)) (BM TypeDesc.string (Value.string x52.nm) (Value.int i64 (i64.wrap (DE TypeDesc.string (Value.string x52.nm) v1+1))) v1 v2) (Bp TypeDesc.string (Value.string x52.nm) v1 v2))))
     (none))
    (none))
   (none))
  (none))
 (some (.inl (.l1 (iN (Wn bA n.bs).length) ((0:Int)) v1 v2 ([]) (nat_lit 0))))
def H2(n:Aa)(v0 v1:Int)(v2:List MapEntry)(v3:Nat)(v4:List MapEntry)(v5:Nat):Option (Et⊕Ret):=
 br (decide (v1<iN (Wn sA n.ss).length))
 (gu (0<=v1) <|
  el (n.ss) (v1.toNat) fun(x98:Au)=>
  gu (∀ (x : MapEntry), x ∈ v2 -> BX (TypeInfo.mk TypeDesc.string "string" 1 16 true 8 8 (some (Value.string (ByteArray.mk #[]))) true #[]).desc x.key = true /\ D5 (MK.i i64) x.val) <|
  br (nmB x98.nm)
  (br (Bh x98.i 0 (i64.wrap (iN (Wn bA n.bs).length-1)))
   (br (Bh x98.o 0 (i64.wrap (iN (Wn bA n.bs).length-1)))
    (br (Bh x98.k 1 4)
     (br (x98.b != v0)
      (none)
      (some (.inl (.l2 v0 v1 x98 ((0:Int)) (BM TypeDesc.string (Value.string x98.nm) (Value.int i64 (i64.wrap (DE TypeDesc.string (Value.string x98.nm) v2+1))) v2 v3) (Bp TypeDesc.string (Value.string x98.nm) v2 v3) v4 v5))))
     (none))
    (none))
   (none))
  (none))
 (br (decide (0<iN v4.length))
  (some (.inl (.l3 (iN v2.length==i64.wrap (iN (Wn bA n.bs).length+iN (Wn sA n.ss).length)) ((0:Int)) v4 v5)))
  (none))
def EK(n:Aa)(v0 v1:Int)(v2:Au)(v3:Int)(v4:List MapEntry)(v5:Nat)(v6:List MapEntry)(v7:Nat):Option (Et⊕Ret):=
 br (decide (v3<v2.k))
 (br (v2.dep)
  (gu (∀ (x : MapEntry), x ∈ v6 -> BX (TypeInfo.mk (TypeDesc.int i64) "int" 1 8 false 8 8 (some (Value.int i64 0)) true #[]).desc x.key = true /\ D5 MK.b x.val) <|
   some (.inl (.l2 (i64.wrap (v0+1)) v1 v2 (i64.wrap (v3+1)) v4 v5 (BM (TypeDesc.int i64) (Value.int i64 v0) (Value.bool true) v6 v7) (Bp (TypeDesc.int i64) (Value.int i64 v0) v6 v7))))
  (some (.inl (.l2 (i64.wrap (v0+1)) v1 v2 (i64.wrap (v3+1)) v4 v5 v6 v7))))
 (some (.inl (.l1 v0 (i64.wrap (v1+1)) v4 v5 v6 v7)))
def H9(n:Aa)(v0:Bool)(v1:Int)(v2:List MapEntry)(v3:Nat):Option (Et⊕Ret):=
 br (decide (v1<iN (Wn iV n.rs).length))
 (gu (0<=v1) <|
  el (n.rs) (v1.toNat) fun(x173:Int)=>
  br v0
  (gu (∀ (x : MapEntry), x ∈ v2 -> BX (TypeInfo.mk (TypeDesc.int i64) "int" 1 8 false 8 8 (some (Value.int i64 0)) true #[]).desc x.key = true /\ D5 MK.b x.val) <|
   some (.inl (.l3 (FN (TypeDesc.int i64) (Value.int i64 x173) v2) (i64.wrap (v1+1)) (CK (TypeDesc.int i64) (Value.int i64 x173) v2) v3)))
  (none))
 (some (.inr ([],bV v0)))
def Iz(n:Aa):Et->Option (Et⊕Ret) | .l0 v0 v1 v2=>IS n v0 v1 v2 | .l1 v0 v1 v2 v3 v4 v5=>H2 n v0 v1 v2 v3 v4 v5 | .l2 v0 v1 v2 v3 v4 v5 v6 v7=>EK n v0 v1 v2 v3 v4 v5 v6 v7 | .l3 v0 v1 v2 v3=>H9 n v0 v1 v2 v3
theorem mvv_ct(n:Aa)(r:Ret)(h:Ac (Iz n) (O1 n) r):CT Wu 71 ([]) ([Ai n]) r.1 r.2:=CT.mach (fn:=Tryz.f71) (c:=zB Tryz.f71) (S:=(mvvSt n)) (hd:=Et.ctorIdx) Tryz.func71 (by kernel_rfl) (nL rfl) (fun s o ho=>match s,ho with | .l0 v0 v1 v2,ho=>Scr.ok (X:=IS n v0 v1 v2) ho mix (.ra bG <|.br (fun a0=>.gu fun a1=>.el fun x52 a2=>.rd [101] [(52,bA x52)] [] (af a0 (u2 (bH a1 (Ae (f:=bA) a2) (ak cu)))) <|.gu fun a3=>.ra (aL (aO (k2 a3) (al (k3 a3)))) <|.br (fun a4=>.br (fun a5=>.br (fun a6=>.el fun x79 a7=>.br (fun a8=>have c0:=Ta (x52.nm) a4;have c1:=IT (x52.x) (-9999) (9999) a5;have c2:=IT (x52.y) (-9999) (9999) a6;have c3:=vnx_v x79 v0 (iN (Wn bA n.bs).length) a8;.pb [] [(79,lI x79)] [(61,hK c0 [] []),(66,hK c1 [] []),(72,hK c2 [] []),(85,hK c3 [] [])] [] [0,1] [1,3,47,48,49] (bI (bg (aM (c0)) (bg t3 (bf (cm (c1)) (cK (aG t3 (bf (cm (c2)) (cK (aG t3 (cK (ab (bB a1 (Ae (f:=lI) a7)) t3 (cK (cK (ax (k2 (cm (c3))) t3 t3))))))))))))) aw t8)) (fun a8=>.no)) (fun a6=>.no)) (fun a5=>.no)) (fun a4=>.no)) (fun a0=>.pa [100] [0,1,2] [1,3,6,7,94,95,96] (bm a0 (am (ak aw)) (am t2) (k2 t9)))) (by kernel_rfl) | .l1 v0 v1 v2 v3 v4 v5,ho=>Scr.ok (X:=H2 n v0 v1 v2 v3 v4 v5) ho mix (.ra bG <|.br (fun a0=>.gu fun a1=>.el fun x98 a2=>.rd [195] [(98,sA x98)] [] (af a0 (bH a1 (Ae (f:=sA) a2) aS)) <|.gu fun a3=>.ra (aL (aO (k2 a3) (al (k3 a3)))) <|.br (fun a4=>.br (fun a5=>.br (fun a6=>.br (fun a7=>have c0:=Ta (x98.nm) a4;have c1:=IT (x98.i) (0) (i64.wrap (iN (Wn bA n.bs).length-1)) a5;have c2:=IT (x98.o) (0) (i64.wrap (iN (Wn bA n.bs).length-1)) a6;have c3:=IT (x98.k) (1) (4) a7;.rc [(107,hK c0 [] []),(116,hK c1 [] []),(126,hK c2 [] []),(132,hK c3 [] [])] (aR (aj (aM (c0)) (bg t3 (cK (cK (bf (bL (al (c1))) (cK (aG t3 (cK (cK (bf (bL (al (c2))) (cK (aG t3 (bf (cm (c3)) (cK (u2 (cK (ax t3 t4 t3)))))))))))))))))) <|.br (fun a8=>.no) (fun a8=>.pa [280] [0,1,2,3] [1,3,6,7,9,94,95,96,142,143] (aF a8 bY (ak aP)))) (fun a7=>.no)) (fun a6=>.no)) (fun a5=>.no)) (fun a4=>.no)) (fun a0=>.br (fun a1=>.pa [194,313] [2] [7,10,169,170,171] (bm a0 (ah (aI a1 (aI a1 (bv a1 t3 (aj a1 t3) (cc a1))))) (am t2) t7)) (fun a1=>.no))) (by kernel_rfl) | .l2 v0 v1 v2 v3 v4 v5 v6 v7,ho=>Scr.ok (X:=EK n v0 v1 v2 v3 v4 v5 v6 v7) ho mix (.ra bG <|.br (fun a0=>.rb [289] (bx a0) <|.br (fun a1=>.gu fun a2=>.pa [293] [0,1,2,3] [1,3,6,7,9,94,95,96,142,143] (ar a1 (ax (aa (al (k2 a2))) aE aw) (ak aP))) (fun a1=>.pa [292] [0,1,2,3] [1,3,6,7,9,94,95,96,142,143] (bm a1 aE aw (ak aP)))) (fun a0=>.pa [288] [0,1,2] [1,3,6,7,94,95,96] (cj a0 (k2 t9)))) (by kernel_rfl) | .l3 v0 v1 v2 v3,ho=>Scr.ok (X:=H9 n v0 v1 v2 v3) ho mix (.ra bG <|.br (fun a0=>.gu fun a1=>.el fun x173 a2=>.rd [345] [(173,iv x173)] [] (af a0 (aB a1 (Ae (f:=iv) a2) aw)) <|.br (fun a3=>.gu fun a4=>.pa [353] [0] [7,10,169,170,171] (bm (aa (ai a3 (aW a3 (k2 a4) s2))) (aa (al (k2 a4))) aw t7)) (fun a3=>.no)) (fun a0=>.ta [344] (az (bx a0)))) (by kernel_rfl)) (fun o ho=>Scr.ok (X:=O1 n) ho mix (.ra bR <|.br (fun a0=>.br (fun a1=>.no) (fun a1=>.br (fun a2=>.no) (fun a2=>.br (fun a3=>.no) (fun a3=>.br (fun a4=>have c0:=IT (iN (Wn bA n.bs).length) (1) (24) a0;have c1:=cfg_v (n.q) (n.a) (n.d) (n.p) a4;.pb [54,66,78] [] [(16,hK c0 [] []),(42,hK c1 [] [])] [] [0,1] [1,3,47,48,49] (ar (bb (bu (c0)) (aa (cK (cK (cK (ab t4 t3 (u2 (ag a1 (aX a1 (ag a2 (aX a2 (ai a3 (aW a3 (bc t5 (c1)) (bE a3)))))))))))))) (bc bn (am t2)) t8)) (fun a4=>.no))))) (fun a0=>.no)) (by kernel_rfl)) h
structure GoodB(n:Aa)(i:Nat)(b:AD):Prop where
 nm:nmB b.nm=true
 x:Bh b.x (-9999) 9999=true
 y:Bh b.y (-9999) 9999=true
 nx:nxB (n.nx.getD i []) i n.bs.length=true
def AQ(n:Aa)(i:Nat):Int:=n.bs.length+((n.ss.take i).map (·.k)).sum
structure GoodS(n:Aa)(i:Nat)(s:Au):Prop where
 nm:nmB s.nm=true
 hi:Bh s.i 0 ((n.bs.length:Int)-1)=true
 ho:Bh s.o 0 ((n.bs.length:Int)-1)=true
 hk:Bh s.k 1 4=true
 hb:s.b=AQ n i
def CA(n:Aa)(i:Nat)(x:Int):Prop:=∃s∈n.ss.take i,s.dep=true/\s.b<=x/\x<s.b+s.k
structure An(n:Aa):Prop where
 nb:Bh n.bs.length 1 24=true
 nx:n.nx.length=n.bs.length
 ns:n.ss.length<=6
 nr:n.rs.length<=8
 cfg:CY n=true
 blk:∀i b,n.bs[i]?=some b->GoodB n i b
 spu:∀i s,n.ss[i]?=some s->GoodS n i s
 nod:(Be n).Nodup
 dep:∃x,CA n n.ss.length x
 rob:∀i c,n.rs[i]?=some c->CA n n.ss.length c/\c∉n.rs.take i
open Classical in
def A9(n:Aa):Bool:=decide (An n)
theorem valB_f{n:Aa}(h:¬An n):A9 n=false:=by unfold A9;exact @VA _ (Classical.propDecidable _) h
theorem BF{n:Aa}:A9 n=true↔An n:=by unfold A9;exact @decide_eq_true_iff _ (Classical.propDecidable _)
theorem C1{n:Aa}{i:Nat}{s:Au}(h:n.ss[i]?=some s):AQ n (i+1)=AQ n i+s.k:=by unfold AQ;simp[List.take_add_one,h,List.sum_append];omega
theorem TC{n:Aa}{i:Nat}{s:Au}(h:n.ss[i]?=some s)(x:Int):CA n (i+1) x↔CA n i x\/(s.dep=true/\s.b<=x/\x<s.b+s.k):=by
 unfold CA;simp only[List.take_add_one,h,Option.toList_some,VZ,Vn];constructor
 .rintro⟨t,ht | rfl,h1⟩
  .exact .inl ⟨t,ht,h1⟩
  .exact .inr h1
 .rintro(⟨t,ht,h1⟩ | h1)
  .exact⟨t,.inl ht,h1⟩
  .exact⟨s,.inr rfl,h1⟩
def b0:AD:=⟨⟨#[]⟩,0,0⟩
def s0:Au:=⟨⟨#[]⟩,false,0,0,0,0⟩
theorem An.nb24{n:Aa}(hv:An n):1<=n.bs.length/\n.bs.length<=24:=by have:=Bm.1 hv.nb;omega
theorem An.bd{n:Aa}(hv:An n):∀(i:Nat),(n.bs.length:Int)<=AQ n i/\AQ n i<=n.bs.length+4 * i
 | 0=>by simp[AQ]
 | i+1=>by
  have ih:=hv.bd i;cases hs:n.ss[i]? with
  | some s=>rw[C1 hs];have:=Bm.1 (hv.spu i s hs).hk;omega
  | none=>
   have:AQ n (i+1)=AQ n i:=by unfold AQ;simp[List.take_add_one,hs]
   rw[this];omega
def C6(l:List MapEntry):List Value:=l.map (·.key)
theorem Q2{d:TypeDesc}{mk:MK}{k v:Value}{l:List MapEntry}{c:Nat}(hk:BX d k=true)(hl:Cf d mk l)(h:k∉C6 l):BM d k v l c=l++[⟨k,v,c⟩]:=by
 unfold BM;rcases EL (Ej hk) hl.keys with ⟨_,h2,_⟩ | ⟨j,e,_,h2,h3,h4⟩
 .rw[h2]
 .exact absurd (V0.2 ⟨e,Vz h3,h4⟩) h
theorem Su{d:TypeDesc}{mk:MK}{k v:Value}{l:List MapEntry}{c:Nat}(hk:BX d k=true)(hv:D5 mk v)(hl:Cf d mk l):Cf d mk (l++[⟨k,v,c⟩]):=fun x hx=>by
 rcases VZ.1 hx with h | h
 .exact hl x h
 .rw[Vn.1 h];exact⟨hk,hv⟩
def NmP(xs:List ByteArray)(l:List MapEntry):Prop:=Cf .string (.i .i64) l/\C6 l=xs.map .string
theorem NmP.step{xs:List ByteArray}{l:List MapEntry}{c:Nat}{x:ByteArray}{z:Int}(h:NmP xs l)(hx:x∉xs):NmP (xs++[x]) (BM .string (.string x) (.int .i64 z) l c):=by
 have hn:Value.string x∉C6 l:=by rw[h.2];simpa using hx
 rw[Q2 rfl h.1 hn];exact⟨Su rfl rfl h.1,by simp[C6,<-h.2]⟩
structure DpP(b:Int)(S:Int->Prop)(l:List MapEntry):Prop where
 ok:Cf (.int .i64) .b l
 tru:∀e∈l,e.val = .bool true
 lt:∀y,Value.int .i64 y∈C6 l->y<b
 has:∀x,S x->Value.int .i64 x∈C6 l
theorem DpP.put{b:Int}{S:Int->Prop}{l:List MapEntry}{c:Nat}(h:DpP b S l):DpP (b+1) (fun y=>S y\/y=b) (BM (.int .i64) (.int .i64 b) (.bool true) l c):=by
 rw[Q2 rfl h.ok (fun hm=>by have:=h.lt b hm;omega)];refine⟨Su rfl trivial h.ok,fun e he=>?_,fun y hy=>?_,fun x hx=>?_⟩
 .rcases VZ.1 he with h1 | h1
  .exact h.tru e h1
  .rw[Vn.1 h1]
 .simp only[C6,VJ,VZ,Vr,Vs,Vn] at hy;rcases hy with h1 | h1
  .have:=h.lt y h1;omega
  .cases h1;omega
 .simp only[C6,VJ,VZ,Vr,Vs,Vn];exact hx.imp (h.has x) (fun e=>by rw[e])
theorem DpP.get{b:Int}{S:Int->Prop}{l:List MapEntry}(h:DpP b S l){x:Int}(hx:S x):FN (.int .i64) (.int .i64 x) l=true:=by
 unfold FN;rcases EL (Ej (d:=.int .i64) (v:=.int .i64 x) rfl) h.ok.keys with ⟨_,h2,h3⟩ | ⟨j,e,_,h2,h3,h4⟩
 .obtain⟨e,he,hk⟩:=V0.1 (h.has x hx);exact absurd hk (h3 e he)
 .rw[h2,h.tru e (Vz h3)]
theorem DpP.del{b:Int}{S:Int->Prop}{l:List MapEntry}{x:Int}(h:DpP b S l):DpP b (fun y=>S y/\y≠x) (CK (.int .i64) (.int .i64 x) l):=by
 unfold CK;rcases EL (Ej (d:=.int .i64) (v:=.int .i64 x) rfl) h.ok.keys with ⟨_,h2,h3⟩ | ⟨j,e,_,h2,h3,h4⟩
 .rw[h2];exact⟨h.ok,h.tru,h.lt,fun y hy=>h.has y hy.1⟩
 .rw[h2];have hsub:List.Sublist (l.eraseIdx j) l:=List.eraseIdx_sublist l j;refine⟨fun y hy=>h.ok y (hsub.subset hy),fun y hy=>h.tru y (hsub.subset hy),fun y hy=>h.lt y ((hsub.map _).subset hy),fun y hy=>?_⟩;obtain⟨e',he,hk⟩:=V0.1 (h.has y hy.1);obtain⟨i,hi,hie⟩:=List.getElem_of_mem he;refine V0.2 ⟨e',?_,hk⟩;rw[List.mem_eraseIdx_iff_getElem];refine⟨i,hi,fun hij=>?_,hie⟩;subst hij;rw[Vv hi,hie] at h3;cases h3;rw[hk] at h4;cases h4;exact hy.2 rfl
theorem isK{l:List MapEntry}{mk:MK}{t:TypeInfo}(h:Cf t.desc mk l):∀x,x∈l->BX t.desc x.key=true/\D5 mk x.val:=h
theorem mv3{n:Aa}(hv:An n):∀(d i:Nat) (l:List MapEntry) (c:Nat),i+d=n.rs.length->(∃b,DpP b (fun x=>CA n n.ss.length x/\x∉n.rs.take i) l)->Ac (Iz n) (some (.inl (.l3 true (i:Nat) l c))) (([],.bool true):Ret):=by
 have hr:=hv.nr;intro d;induction d with
 | zero=>
  intro i l c hi _;obtain rfl:i=n.rs.length:=by omega
  refine .to (show H9 n true n.rs.length l c=_ from ?_) (.ret _);unfold H9;rw[AN]
 | succ d ih=>
  intro i l c hi ⟨b,hs⟩;have hx:n.rs[i]?=some n.rs[i]:=Vv (by omega);refine .to (show H9 n true i l c=_ from ?_) (ih (i+1) (CK (.int .i64) (.int .i64 n.rs[i]) l) c (by omega) ⟨b,hs.del.ok,hs.del.tru,hs.del.lt,fun y hy=>hs.del.has y ⟨⟨hy.1,?_⟩,?_⟩⟩)
  .unfold H9;rw[AR hx,Ah rfl,Ab (isK hs.ok),hs.get (hv.rob i _ hx),zW i (by omega)]
  .exact fun hm=>hy.2 (by rw[List.take_add_one];exact List.mem_append_left _ hm)
  .exact fun e=>hy.2 (by rw[List.take_add_one,hx];exact List.mem_append_right _ (by simp[e]))
theorem mv2{n:Aa}(hv:An n){i:Nat}{s:Au}(hs:n.ss[i]?=some s){l:List MapEntry}{c:Nat}
  (nx:∀l2 c2,DpP (AQ n (i+1)) (CA n (i+1)) l2->Ac (Iz n) (some (.inl (.l1 (AQ n (i+1)) ((i+1:Nat):Int) l c l2 c2))) (([],.bool true):Ret)):
  ∀(d k:Nat) (l2:List MapEntry) (c2:Nat),(k:Int)+d=s.k->DpP (s.b+k) (fun x=>CA n i x\/(s.dep=true/\s.b<=x/\x<s.b+(k:Int))) l2->Ac (Iz n) (some (.inl (.l2 (s.b+(k:Int)) (i:Int) s (k:Int) l c l2 c2))) (([],.bool true):Ret):=by
 have hb:=(hv.spu i s hs).hb;have hbd:=hv.bd i;have hn:=hv.nb24;have hns:=hv.ns;have hi:=(Vx.1 hs).1;intro d;induction d with
 | zero=>
  intro k l2 c2 hk hd;refine .to (show EK n (s.b+(k:Int)) i s k l c l2 c2=_ from ?_) (nx l2 c2 ?_)
  .unfold EK;rw[Ad (VA (by omega)),zW i (by omega),C1 hs,<-hb,show s.b+(k:Int)=s.b+s.k by omega]
  .have e:s.b+(k:Int)=AQ n (i+1):=by rw[C1 hs,<-hb];omega
   rw[<-e];exact⟨hd.ok,hd.tru,hd.lt,fun x hx=>hd.has x (by have:=(TC hs x).1 hx;rwa [show s.b+(k:Int)=s.b+s.k by omega])⟩
 | succ d ih=>
  intro k l2 c2 hk hd;have wb:i64.wrap (s.b+(k:Int)+1)=s.b+((k+1:Nat):Int):=by rw[A3 _ (by have:=Bm.1 (hv.spu i s hs).hk;omega) (by have:=Bm.1 (hv.spu i s hs).hk;omega)];omega
  have hk4:=Bm.1 (hv.spu i s hs).hk;cases hp:s.dep with
  | true=>
   refine .to (show EK n (s.b+(k:Int)) i s k l c l2 c2=_ from ?_) (ih (k+1) (BM (.int .i64) (.int .i64 (s.b+(k:Int))) (.bool true) l2 c2) (Bp (.int .i64) (.int .i64 (s.b+(k:Int))) l2 c2) (by omega) ?_)
   .unfold EK;rw[Ah (VB (by omega)),hp,Ah rfl,Ab (isK hd.ok),wb,zW k (by omega)]
   .have h:=hd.put (c:=c2);refine⟨h.ok,h.tru,fun y hy=>by have:=h.lt y hy;omega,fun x hx=>h.has x ?_⟩;rcases hx with h1 | ⟨h1,h2,h3⟩
    .exact .inl (.inl h1)
    .by_cases e:x=s.b+(k:Int)
     .exact .inr e
     .exact .inl (.inr ⟨h1,h2,by omega⟩)
  | false=>refine .to (show EK n (s.b+(k:Int)) i s k l c l2 c2=_ from ?_) (ih (k+1) l2 c2 (by omega) ⟨hd.ok,hd.tru,fun y hy=>by have:=hd.lt y hy;omega,fun x hx=>hd.has x (hx.imp id fun h=>by rw[hp] at h;cases h.1)⟩);unfold EK;rw[Ah (VB (by omega)),hp,Ad rfl,wb,zW k (by omega)]
theorem mv1{n:Aa}(hv:An n):∀(d i:Nat) (l:List MapEntry) (c:Nat) (l2:List MapEntry) (c2:Nat),i+d=n.ss.length->NmP ((Be n).take (n.bs.length+i)) l->DpP (AQ n i) (CA n i) l2->Ac (Iz n) (some (.inl (.l1 (AQ n i) (i:Nat) l c l2 c2))) (([],.bool true):Ret):=by
 have hn:=hv.nb24;have hns:=hv.ns;have hnl:(Be n).length=n.bs.length+n.ss.length:=by simp[Be]
 intro d;induction d with
 | zero=>
  intro i l c l2 c2 hi h1 h2;obtain rfl:i=n.ss.length:=by omega
  obtain⟨x,hx⟩:=hv.dep;have hp:0<l2.length:=by have:=h2.has x hx;rw[C6] at this;exact List.length_pos_of_mem (V0.1 this).choose_spec.1
  have hl:l.length=n.bs.length+n.ss.length:=by have:=congrArg List.length h1.2;simpa [C6,VX,hnl] using this
  refine .to (show H2 n (AQ n n.ss.length) n.ss.length l c l2 c2=some (.inl (.l3 true 0 l2 c2)) from ?_) (mv3 hv n.rs.length 0 l2 c2 (VL _) ⟨_,h2.ok,h2.tru,h2.lt,fun x hx=>h2.has x hx.1⟩);unfold H2;rw[AN,Ah (VB (by simp only[iN];omega)),hl,A3 _ (by simp only[iN,Vy];omega) (by simp only[iN,Vy];omega)];rw[show (iN (n.bs.length+n.ss.length)==iN (Wn bA n.bs).length+iN (Wn sA n.ss).length)=true by simp[iN]]
 | succ d ih=>
  intro i l c l2 c2 hi h1 h2;have hx:n.ss[i]?=some n.ss[i]:=Vv (by omega);have g:=hv.spu i _ hx;have w1:i64.wrap (iN (Wn bA n.bs).length-1)=(n.bs.length:Int)-1:=by rw[A3 _ (by simp only[iN,Vy];omega) (by simp only[iN,Vy];omega)];simp[iN]
  have hnm:(Be n)[n.bs.length+i]?=some n.ss[i].nm:=by unfold Be;rw[List.getElem?_append_right (by simp)];simp[hx]
  have hnd:n.ss[i].nm∉(Be n).take (n.bs.length+i):=fun hm=>by
   obtain⟨j,hj,hje⟩:=List.getElem_of_mem hm;rw[List.getElem_take] at hje;have hj2:j<n.bs.length+i:=by simp at hj;omega
   have hl2:=(Vx.1 hnm);exact List.pairwise_iff_getElem.1 hv.nod j (n.bs.length+i) (by omega) hl2.1 hj2 (hje.trans hl2.2.symm)
  have h1':=h1.step (c:=c) (z:=i64.wrap (DE .string (.string n.ss[i].nm) l+1)) hnd;refine .to (show H2 n (AQ n i) i l c l2 c2=_ from ?_) (mv2 hv hx (l:=BM .string (.string n.ss[i].nm) (.int .i64 (i64.wrap (DE .string (.string n.ss[i].nm) l+1))) l c) (c:=Bp .string (.string n.ss[i].nm) l c) (fun l2 c2 h=>ih (i+1) _ _ l2 c2 (by omega) ?_ h) n.ss[i].k.toNat 0 l2 c2 (by have:=Bm.1 g.hk;omega) ?_)
  .unfold H2;rw[AR hx,Ab (isK h1.1),Ah g.nm,w1,Ah g.hi,Ah g.ho,Ah g.hk,Ad (by simpa using g.hb),g.hb];simp
  .rw[show n.bs.length+(i+1)=n.bs.length+i+1 by omega,List.take_add_one,hnm];exact h1'
  .rw[g.hb];exact⟨h2.ok,h2.tru,fun y hy=>by have:=h2.lt y hy;omega,fun x hx=>h2.has x (hx.elim id fun h=>by omega)⟩
theorem Sz{n:Aa}(hrw:Rows n.nx)(hv:An n):CT Wu 71 [] [Ai n] [] (.bool true):=by
 have hn:=hv.nb24;have hns:=hv.ns;have hnr:=hv.nr;have hnx:=hv.nx;have hgl:=B4 n.nx;have hnl:(Be n).length=n.bs.length+n.ss.length:=by simp[Be]
 refine mvv_ct n ([],_) ?_;unfold O1;rw[Ah (by rw[show iN (Wn bA n.bs).length=(n.bs.length:Int) by simp[iN]];exact hv.nb),Ad (by simp[iN,hgl,hnx]),Ad (VA (by simp only[iN,Vy];omega)),Ad (VA (by simp only[iN,Vy];omega)),Ah (by have:=hv.cfg;unfold CY at this ⊢;exact this)];have key:∀(d i:Nat) (l:List MapEntry) (c:Nat),i+d=n.bs.length->NmP ((Be n).take i) l->Ac (Iz n) (some (.inl (.l0 (i:Nat) l c))) (([],.bool true):Ret):=by
  intro d;induction d with
  | zero=>
   intro i l c hi h1;obtain rfl:i=n.bs.length:=by omega
   refine .to (show IS n n.bs.length l c=some (.inl (.l1 (AQ n 0) 0 l c [] 0)) from ?_) (mv1 hv n.ss.length 0 l c [] 0 (VL _) (by simpa using h1) ⟨fun x hx=>(by cases hx),fun x hx=>(by cases hx),fun x hx=>(by cases hx),fun x hx=>by obtain⟨s,hs,_⟩:=hx;simp at hs⟩);unfold IS;rw[AN];simp[AQ,iN]
  | succ d ih=>
   intro i l c hi h1;have hx:n.bs[i]?=some n.bs[i]:=Vv (by omega);have g:=hv.blk i _ hx;have hnm:(Be n)[i]?=some n.bs[i].nm:=by unfold Be;rw[List.getElem?_append_left (by simp;omega)];simp[hx]
   have hnd:n.bs[i].nm∉(Be n).take i:=fun hm=>by
    obtain⟨j,hj,hje⟩:=List.getElem_of_mem hm;rw[List.getElem_take] at hje;have hj2:j<i:=by simp at hj;omega
    have hl2:=(Vx.1 hnm);exact List.pairwise_iff_getElem.1 hv.nod j i (by omega) hl2.1 hj2 (hje.trans hl2.2.symm)
   have hr:n.nx[i]?=some (n.nx.getD i []):=by rw[Vw,Vv (by omega)];rfl
   have h1':=h1.step (c:=c) (z:=i64.wrap (DE .string (.string n.bs[i].nm) l+1)) hnd;refine .to (show IS n i l c=_ from ?_) (ih (i+1) (BM .string (.string n.bs[i].nm) (.int .i64 (i64.wrap (DE .string (.string n.bs[i].nm) l+1))) l c) (Bp .string (.string n.bs[i].nm) l c) (by omega) (by rw[List.take_add_one,hnm];exact h1'));unfold IS;rw[AR hx,Ab (isK h1.1),Ah g.nm,Ah g.x,Ah g.y,VE,Al hr,Ah (by rw[show iN (Wn bA n.bs).length=(n.bs.length:Int) by simp[iN]];exact g.nx),zW i (by omega)]
 exact key n.bs.length 0 [] 0 (VL _) ⟨fun x hx=>(by cases hx),by simp[C6]⟩
def vsA(s:ByteArray):AV:=.str s
theorem rnm_v(s:ByteArray)(h:nmB s=true):CT Wu 38 [] [.str s] [] (.bool true):=h ▸ Q1 s
end Go.Proofs.YthjgbnbibebigaaGreat

/- Parts of the proof:AxR,AxS,AxT,AxU,AxMp,AxSt,AxMv,AxIm,AxAz,AxCl,AxV,AxW,AxX. -/
import Derived.MapKept
import Derived.Laws.Strings3
import Derived.Lib.ConvBytes
import Derived.Laws.IdiomStrings
import Derived.Laws.Strings
import Derived.Test.YthjgbnbibebigaaGreatLedgerQuietM1
set_option linter.unusedVariables false
set_option linter.unusedSimpArgs false
open Go.IntKind (i64 u64)
namespace Go.AX
variable {P:Program}
def Eh:List Nat->List Blk->List (Nat×Blk) | b::r,x::l=>(b,x)::Eh r l | _,_=>[]
theorem FY:∀{σ:List Nat} {l:List Blk} {b:Nat} {x:Blk},(b,x)∈Eh σ l->∃k:Nat,σ[k]?=some b/\l[k]?=some x:=by
 intro σ;induction σ with
 | nil=>intro l b x h;simp[Eh] at h
 | cons y r ih=>
  intro l b x h;cases l with
  | nil=>simp[Eh] at h
  | cons z l=>
   simp only[Eh,VY,Vm] at h;rcases h with ⟨rfl,rfl⟩ | h
   .exact⟨0,rfl,rfl⟩
   .obtain⟨k,h1,h2⟩:=ih h;exact⟨k+1,by simpa using h1,by simpa using h2⟩
theorem SD:∀{σ:List Nat} {l:List Blk} {k:Nat} {b:Nat} {x:Blk},σ[k]?=some b->l[k]?=some x->(b,x)∈Eh σ l:=by
 intro σ;induction σ with
 | nil=>intro l k b x h;simp at h
 | cons y r ih=>
  intro l k b x h1 h2;cases l with
  | nil=>simp at h2
  | cons z l=>
   cases k with
   | zero=>simp at h1 h2;subst h1 h2;simp[Eh]
   | succ k=>exact VN _ (ih (by simpa using h1) (by simpa using h2))
def D3(σ:List Nat)(nb:Nat)(outs:List Blk)(res:AV):OpR:={v:=BT (tau σ nb) 3 res,chg:=(Eh σ ((outs.take σ.length).map (Bu (tau σ nb)))).filter (fun x=>x.2.wr),new:=(outs.drop σ.length).map (Bu (tau σ nb))}
def roH:List Blk->List (Option Blk)->List (Option Blk)
 | _,[]=>[]
 | [],o::r=>o::r
 | x::l,o::r=>(match x.wr with | true=>o | false=>match o with | some b=>some {b with wr:=false} | none=>none)::roH l r
theorem MX:∀(l:List Blk) (h:List (Option Blk)),(roH l h).length=h.length | [],[]=>rfl | [],_::_=>rfl | _::_,[]=>rfl | x::l,o::r=>by simp[roH,MX l r]
theorem JS:∀{l:List Blk} {h:List (Option Blk)} {k:Nat} {b':Blk},nth (roH l h) k=some b'->∃b,nth h k=some b/\(b'=b\/b'={b with wr:=false})/\(b'.wr=true->b'=b/\∀x,l[k]?=some x->x.wr=true)
 | [],[],k,b',hk=>by simp[roH,nth] at hk
 | [],o::r,k,b',hk=>⟨b',hk,.inl rfl,fun _=>⟨rfl,fun x hx=>by simp at hx⟩⟩
 | _::_,[],k,b',hk=>by simp[roH,nth] at hk
 | x::l,o::r,k,b',hk=>by
  cases k with
  | zero=>
   simp only[roH,nth] at hk ⊢
   cases hx:x.wr with
   | true=>rw[hx] at hk;exact⟨b',hk,.inl rfl,fun _=>⟨rfl,fun y hy=>by simp at hy;rw[<-hy];exact hx⟩⟩
   | false=>
    rw[hx] at hk;cases o with
    | none=>cases hk
    | some b=>cases hk;exact⟨b,rfl,.inr rfl,fun h=>(by cases h)⟩
  | succ k=>
   simp only[roH,nth] at hk ⊢
   obtain⟨b,h1,h2,h3⟩:=JS hk;exact⟨b,h1,h2,fun h=>⟨(h3 h).1,fun y hy=>(h3 h).2 y (by simpa using hy)⟩⟩
theorem HR.ro{φ:Phi}{A:Nat->Prop}{w:World}{h:List (Option Blk)}(l:List Blk)(hr:HR φ A w (nth h)):HR φ A w (nth (roH l h)):=by
 refine⟨fun b blk hb=>?_,fun b blk hb hf=>?_,fun b b' r z z' hb hb' h1 h2=>?_⟩
 .obtain⟨b0,h1,h2,_⟩:=JS hb;rcases h2 with rfl | rfl
  .exact hr.blk b _ h1
  .exact hr.blk b b0 h1
 .obtain⟨b0,h1,h2,_⟩:=JS hb;rcases h2 with rfl | rfl
  .exact hr.flat b _ h1 hf
  .exact hr.flat b b0 h1 hf
 .have up:∀b,(nth (roH l h) b).isSome=true->(nth h b).isSome=true:=fun b hb=>by obtain⟨x,hx⟩:=Option.isSome_iff_exists.1 hb;obtain⟨b0,h1,_⟩:=JS hx;rw[h1];rfl
  exact hr.inj b b' r z z' (up b hb) (up b' hb') h1 h2
def Eu(P:Program)(f:FuncId):Bool:=
 match P.funcs[f]? with
 | some fn => !(fn.name == "runtime.NumGoroutine") && fn.body.isSome
 | none=>false
theorem run_call{f:FuncId}(hf:Eu P f=true)(ρ:Operand->Value)(o:Oper)(x:Operand)(xs:Array Operand)(ts:Array TypeId)(caps:Array Value)
  (ho:o.op = .call {callee:=.value x,args:=xs,argTypes:=ts}) (hx:ρ x = .func (.func f) #[] caps) (w:World):
  (execOp ρ o).run P w = .ok (.enter f (xs.map ρ++caps)) w:=by
 unfold Eu at hf
 split at hf
 case h_2=>cases hf
 rename_i fn hfn
 simp only[VD,Wh] at hf
 obtain⟨hname,hbody⟩:=hf
 have hnone:¬fn.body=none:=by cases hb:fn.body<;>simp_all
 have hname' : ¬ fn.name = "runtime.NumGoroutine" := by simpa using hname
 simp[execOp,ho,resolve,hx,Deferred.ofValue,invoke,callFunc,hfn,hname',hnone]
theorem Ss{o:Oper}{ev:Operand->AV}{f:FuncId}{args:List AV}{hp:List (Option Blk)}{σ fz:List Nat}{hpl:List (Option Blk×Prop)}
  {outs:List Blk} {res:AV}
  (hrun:∀(φ:Phi) (A:Nat->Prop) (w:World) (ρ:Operand->Value),(∀x,VR φ A w (ev x) (ρ x))->∃vs:List Value,(execOp ρ o).run P w = .ok (.enter f vs.toArray) w/\
   vs.length=args.length/\∀(i:Nat) c v,args[i]?=some c->vs[i]?=some v->VR φ A w c v)
  (hargs:∀a∈args,(A6 σ fz hp 3 a).2) (hh:DT σ fz hp=some hpl) (hp2:∀p∈hpl.map (·.2),p) (hn:C0 σ=true) (hfz:∀b∈fz,b∉σ)
  (hσ:∀b∈σ,∃blk,nth hp b=some blk/\blk.wr=true)
  (hct:CT P f (roH outs (hpl.map (·.1))) (args.map fun a=>(A6 σ fz hp 3 a).1) (AW outs) res)
  (hwr:∀(k:Nat) (x:Blk),σ.length<=k->outs[k]?=some x->x.wr=true) (himm:fz=[]\/(Cw 3 res=true/\∀blk∈outs,AY blk)):
  Aq P o ev (nth hp) hp.length (D3 σ hp.length outs res):=by
 intro φ A w a K Q hA hv hhr hno k
 obtain⟨vs,hrn,hvl,hvh⟩:=hrun φ A w a.eval hv
 obtain⟨hlen,hsp⟩:=DN hh
 let FZ:Nat->Prop:=fun r=>∃b blk z,b∈fz/\nth hp b=some blk/\φ b=some (r,z)
 let A1:Nat->Prop:=fun r=>A r\/FZ r
 have hK:F2 φ A A1 w hp fz:=⟨fun r h=>.inl h,fun b blk hb hblk r z hφ=>.inr ⟨b,blk,z,hb,hblk,hφ⟩,hhr⟩
 obtain⟨hheap,hlive⟩:=SU hK hh hp2 hn
 have hphi:∀k b,σ[k]?=some b->A4 σ φ k=φ b:=fun k b hk=>by simp[A4,hk]
 have hmut:∀r,Mut (A4 σ φ) (nth (roH outs (hpl.map (·.1)))) r->∃(k b:Nat) (blk:Blk) (z:Nat),σ[k]?=some b/\nth hp b=some blk/\blk.wr=true/\φ b=some (r,z)/\∀x,outs[k]?=some x->x.wr=true:=by
  rintro r ⟨k,blk',z,hk,hw,hφ⟩
  obtain⟨b0,q1,_,q2⟩:=JS hk
  obtain⟨rfl,q3⟩:=q2 hw
  obtain⟨b,blk,h1,h2,h3⟩:=hlive k _ q1
  rw[hphi k b h1] at hφ
  exact⟨k,b,blk,z,h1,h2,by rw[<-h3];exact hw,hφ,q3⟩
 have hlt:∀b blk r z,nth hp b=some blk->φ b=some (r,z)->r<w.heap.size:=by
  intro b blk r z hblk hφ
  rcases hhr.blk b blk hblk with ⟨_,h0,_⟩ | ⟨r',cs,T,h1,h2,_⟩ | ⟨_,r',_,h1,_,h2⟩
  .rw[hφ] at h0;cases h0
  .rw[hφ] at h1;simp at h1;rw[h1.1];exact(Wf.1 h2).1
  .rw[hφ] at h1;simp at h1;rw[h1.1];exact(Wf.1 h2).1
 have hA1:∀r,A1 r->r<w.heap.size/\¬Mut (A4 σ φ) (nth (roH outs (hpl.map (·.1)))) r:=by
  rintro r (h | ⟨b,blk,z,hb,hblk,hφ⟩)
  .refine⟨(hA r h).1,fun hm=>?_⟩
   obtain⟨k,b,blk,z,_,g2,g3,g4,_⟩:=hmut r hm
   exact(hA r h).2 ⟨b,blk,z,g2,g3,g4⟩
  .refine⟨hlt b blk r z hblk hφ,fun hm=>?_⟩
   obtain⟨k,b',blk',z',g1,g2,g3,g4,_⟩:=hmut r hm
   have:=hhr.inj b b' r _ _ (by simp[hblk]) (by simp[g2]) hφ g4
   subst this
   exact hfz b hb (Vz g1)
 have hcall:=hct (A4 σ φ) A1 w vs hA1 (hheap.ro outs)
  (fun b hb=>by simp only[A4];rw[VT (by simpa [MX,hlen] using hb)])
  (by simp[hvl]) (fun i c v hc hvv=>by
   simp only[VF,Option.map_eq_some_iff] at hc
   obtain⟨c0,hc0,rfl⟩:=hc
   exact VR.ren hK 3 c0 v (hvh i c0 v hc0 hvv) (hargs c0 (Vz hc0)))
 unfold Oper.wp
 rw[hrn]
 simp only[Oper.upon]
 refine hcall.mono fun e w' hq=>?_
 obtain⟨v,φ2,rfl,hc⟩:=hq
 simp only
 -- back
 have hlenσ:(roH outs (hpl.map (·.1))).length=σ.length:=by rw[MX,Vy,hlen]
 have houtl:(AW outs).length=outs.length:=DW outs
 have hlo:σ.length<=outs.length:=by have:=hc.len;rw[hlenσ,houtl] at this;exact this
 let φ3:Phi:=fun b=>if b<hp.length then φ b else φ2 (σ.length+(b-hp.length))
 have hσlt:∀b∈σ,b<hp.length:=by
  intro b hb
  obtain⟨blk,h1,_⟩:=hσ b hb
  rcases Wm b hp.length with h | h
  .exact h
  .rw[Cr,VT h] at h1;cases h1
 have htau:∀k,φ3 (tau σ hp.length k)=φ2 k:=by
  intro k
  unfold tau
  cases hk:σ[k]? with
  | some b=>
   have hb:=Vz hk
   have hkl:k<σ.length:=(Vx.1 hk).1
   simp only[φ3]
   rw[Vt (hσlt b hb),<-hphi k b hk,hc.par k (by rw[hlenσ];exact hkl)]
  | none=>
   have hkl:σ.length<=k:=List.getElem?_eq_none_iff.1 hk
   simp only[φ3]
   rw[Vu (by omega)]
   congr 1;omega
 have hφ3:∀k y,φ2 k=some y->φ3 (tau σ hp.length k)=some y:=fun k y h=>by rw[htau];exact h
 have hnewlt:∀k r z,σ.length<=k->φ2 k=some (r,z)->w.heap.size<=r/\r<w'.heap.size/\Mut φ2 (nth (AW outs)) r:=by
  intro k r z hk hφ
  have hko:k<outs.length:=by
   rcases Wm k outs.length with h | h
   .exact h
   .rw[hc.out k (by rw[houtl];exact h)] at hφ;cases hφ
  have hb:nth (AW outs) k=some outs[k]:=by rw[Ee];simp[hko]
  have hM:Mut φ2 (nth (AW outs)) r:=⟨k,outs[k],z,hb,hwr k _ hk (Vv hko),hφ⟩
  have hsz:w.heap.size<=r:=by
   rcases hc.own k r z (by rw[hlenσ];exact hk) hφ with ha | hs
   .rcases hc.mutd r hM with hm | hs
    .exact absurd hm (hA1 r ha).2
    .exact hs
   .exact hs
  refine⟨hsz,?_,hM⟩
  rcases hc.heap.blk k _ hb with ⟨_,h0,_⟩ | ⟨r',cs,T,h1,h2,_⟩ | ⟨_,r',_,h1,_,h2⟩
  .rw[hφ] at h0;cases h0
  .rw[hφ] at h1;simp at h1;rw[h1.1];exact(Wf.1 h2).1
  .rw[hφ] at h1;simp at h1;rw[h1.1];exact(Wf.1 h2).1
 have hgrow:fz=[]->∀r,Ok A1 w.heap.size φ2 (nth (AW outs)) w' r->Bk A φ3 hp.length w w' r:=by
  rintro hfe r ⟨h1,h2,h3⟩
  have hfresh:w.heap.size<=r->Bk A φ3 hp.length w w' r:=fun hs=>.inr ⟨hs,h2,fun⟨b,z,hb,hφ⟩=>by
   simp only[φ3] at hφ
   rw[Vu (by omega)] at hφ
   exact h3 (hnewlt _ r z (by omega) hφ).2.2⟩
  rcases h1 with (h1 | ⟨b,_,_,hb,_⟩) | h1
  .exact .inl h1
  .rw[hfe] at hb;simp at hb
  .exact hfresh h1
 have hside:∀(q:Prop),((fz=[])\/q)->((∀r,Ok A1 w.heap.size φ2 (nth (AW outs)) w' r->Bk A φ3 hp.length w w' r)\/q):=fun q h=>h.imp hgrow id
 have hbr:∀(k:Nat) (blk:Blk),outs[k]?=some blk->BR φ3 (Bk A φ3 hp.length w w') w' (tau σ hp.length k) (Bu (tau σ hp.length) blk):=by
  intro k blk hk
  have hb:nth (AW outs) k=some blk:=by rw[Ee];exact hk
  exact(hc.heap.blk k blk hb).bak hφ3 (fun h=>by rw[htau];exact h) (hc.heap.flat k blk hb) (hside _ (himm.imp id fun h=>h.2 blk (Vz hk)))
 have hflat:∀(k:Nat) (blk:Blk),outs[k]?=some blk->(Bu (tau σ hp.length) blk).flat=true->Bw (Bu (tau σ hp.length) blk).es:=by
  intro k blk hk hfl
  have hb:nth (AW outs) k=some blk:=by rw[Ee];exact hk
  unfold Bu at hfl ⊢
  split at hfl
  .exact hc.heap.flat k blk hb hfl
  .rename_i hf0;simp only at hfl;rw[hf0] at hfl;cases hfl
 refine k v w' φ3 ⟨?_,fun b hb=>?_,fun b hb=>?_,fun b r z hb hφ=>?_,fun b b' r z z' hb hb' h1 h2=>?_,?_,fun b blk hm=>?_,fun blk hm=>?_,fun b blk hm=>?_,fun j blk hj=>?_⟩
 .refine hc.keep.mono fun r hr=>?_
  obtain⟨k,b,blk,z,g1,g2,g3,g4,g5⟩:=hmut r hr
  have hkl:k<σ.length:=(Vx.1 g1).1
  have hko:k<outs.length:=by omega
  refine⟨b,z,.inr ⟨Bu (tau σ hp.length) outs[k],?_⟩,g4⟩
  refine List.mem_filter.2 ⟨SD g1 (by simp[hkl,show k<outs.length by omega]),?_⟩
  have:=g5 _ (Vv hko)
  unfold Bu
  split<;>exact this
 .simp only[φ3];rw[Vt hb]
 .have hb2:hp.length+(outs.length-σ.length)<=b:=by simpa [D3] using hb
  simp only[φ3];rw[Vu (by omega)]
  exact hc.out _ (by rw[houtl];omega)
 .simp only[φ3] at hφ
  rw[Vu (by omega)] at hφ
  obtain⟨g1,g2,_⟩:=hnewlt _ r z (by omega) hφ
  exact .inl ⟨g1,g2⟩
 .simp only[φ3] at h1 h2
  rw[Vu (by omega)] at h1 h2
  have live:∀k r z,σ.length<=k->φ2 k=some (r,z)->(nth (AW outs) k).isSome=true:=by
   intro k r z hk hφ
   have hko:k<outs.length:=by
    rcases Wm k outs.length with h | h
    .exact h
    .rw[hc.out k (by rw[houtl];exact h)] at hφ;cases hφ
   rw[Ee];simp[hko]
  have:=hc.heap.inj _ _ r z z' (live _ r z (by omega) h1) (live _ r z' (by omega) h2) h1 h2
  omega
 .exact VR.bak hφ3 3 res v hc.val (hside _ (himm.imp id (·.1)))
 .obtain⟨k,h1,h2⟩:=FY (List.mem_filter.1 hm).1
  simp only[VF,Option.map_eq_some_iff] at h2
  obtain⟨blk0,h2,rfl⟩:=h2
  rw[VO] at h2
  split at h2
  .exact hflat k blk0 h2
  .cases h2
 .simp only[D3,V0] at hm
  obtain⟨blk0,hm,rfl⟩:=hm
  obtain⟨j,hj⟩:=List.getElem?_of_mem (List.mem_of_mem_drop hm)
  exact hflat j blk0 hj
 .obtain⟨k,h1,h2⟩:=FY (List.mem_filter.1 hm).1
  simp only[VF,Option.map_eq_some_iff] at h2
  obtain⟨blk0,h2,rfl⟩:=h2
  rw[VO] at h2
  split at h2
  .have:=hbr k blk0 h2
   have ht:tau σ hp.length k=b:=by unfold tau;rw[h1]
   rw[ht] at this;exact this
  .cases h2
 .simp only[D3,VF,Option.map_eq_some_iff] at hj
  obtain⟨blk0,hj,rfl⟩:=hj
  rw[Vi] at hj
  have:=hbr _ blk0 hj
  have ht:tau σ hp.length (σ.length+j)=hp.length+j:=by
   unfold tau;rw[VT (by omega)];simp only;omega
  rw[ht] at this;exact this
structure CTX(P:Program)(f:FuncId)(hin:List (Option Blk))(args:List AV)(hout:List (Option Blk))(res:AV):Prop where
 ct:CTO P f hin args hout res
def E9(σ:List Nat)(nb:Nat)(outs:List Blk)(res:AV):OpR:={v:=BT (tau (σ.take 1) nb) 3 res,chg:=Eh (σ.take 1) ((outs.take 1).map (Bu (tau (σ.take 1) nb))),dead:=σ.drop 1,new:=(outs.drop 1).map (Bu (tau (σ.take 1) nb))}
theorem ok_callO{o:Oper}{ev:Operand->AV}{f:FuncId}{args:List AV}{hp:List (Option Blk)}{σ fz:List Nat}{hpl:List (Option Blk×Prop)}
  {outs:List Blk} {res:AV}
  (hrun:∀(φ:Phi) (A:Nat->Prop) (w:World) (ρ:Operand->Value),(∀x,VR φ A w (ev x) (ρ x))->∃vs:List Value,(execOp ρ o).run P w = .ok (.enter f vs.toArray) w/\
   vs.length=args.length/\∀(i:Nat) c v,args[i]?=some c->vs[i]?=some v->VR φ A w c v)
  (hargs:∀a∈args,(A6 σ fz hp 3 a).2) (hh:DT σ fz hp=some hpl) (hp2:∀p∈hpl.map (·.2),p) (hn:C0 σ=true) (hfz:∀b∈fz,b∉σ)
  (hσ:∀b∈σ,∃blk,nth hp b=some blk/\blk.wr=true)
  (hct:CTO P f (hpl.map (·.1)) (args.map fun a=>(A6 σ fz hp 3 a).1) (AW outs) res)
  (hwr:∀blk∈outs,blk.wr=true) (hl1:1<=σ.length) (hl2:1<=outs.length) (hfe:fz=[]):
  EW P o ev (nth hp) hp.length (E9 σ hp.length outs res):=by
 intro φ A w a K Q hA hv hhr hno k;obtain⟨vs,hrn,hvl,hvh⟩:=hrun φ A w a.eval hv;obtain⟨hlen,hsp⟩:=DN hh;let FZ:Nat->Prop:=fun r=>∃b blk z,b∈fz/\nth hp b=some blk/\φ b=some (r,z)
 let A1:Nat->Prop:=fun r=>A r\/FZ r
 have hK:F2 φ A A1 w hp fz:=⟨fun r h=>.inl h,fun b blk hb hblk r z hφ=>.inr ⟨b,blk,z,hb,hblk,hφ⟩,hhr⟩;obtain⟨hheap,hlive⟩:=SU hK hh hp2 hn;have hphi:∀k b,σ[k]?=some b->A4 σ φ k=φ b:=fun k b hk=>by simp[A4,hk]
 have hmut:∀r,Mut (A4 σ φ) (nth (hpl.map (·.1))) r->∃(k b:Nat) (blk:Blk) (z:Nat),σ[k]?=some b/\nth hp b=some blk/\blk.wr=true/\φ b=some (r,z):=by
  rintro r ⟨k,blk',z,hk,hw,hφ⟩
  obtain⟨b,blk,h1,h2,h3⟩:=hlive k blk' hk;rw[hphi k b h1] at hφ;exact⟨k,b,blk,z,h1,h2,by rw[<-h3];exact hw,hφ⟩
 have hlt:∀b blk r z,nth hp b=some blk->φ b=some (r,z)->r<w.heap.size:=by
  intro b blk r z hblk hφ;rcases hhr.blk b blk hblk with ⟨_,h0,_⟩ | ⟨r',cs,T,h1,h2,_⟩ | ⟨_,r',_,h1,_,h2⟩
  .rw[hφ] at h0;cases h0
  .rw[hφ] at h1;simp at h1;rw[h1.1];exact(Wf.1 h2).1
  .rw[hφ] at h1;simp at h1;rw[h1.1];exact(Wf.1 h2).1
 have hA1:∀r,A1 r->r<w.heap.size/\¬Mut (A4 σ φ) (nth (hpl.map (·.1))) r:=by
  rintro r (h | ⟨b,blk,z,hb,hblk,hφ⟩)
  .refine⟨(hA r h).1,fun hm=>?_⟩;obtain⟨k,b,blk,z,_,g2,g3,g4⟩:=hmut r hm;exact(hA r h).2 ⟨b,blk,z,g2,g3,g4⟩
  .refine⟨hlt b blk r z hblk hφ,fun hm=>?_⟩;obtain⟨k,b',blk',z',g1,g2,g3,g4⟩:=hmut r hm;have:=hhr.inj b b' r _ _ (by simp[hblk]) (by simp[g2]) hφ g4;subst this;exact hfz b hb (Vz g1)
 have hcall:=hct (A4 σ φ) A1 w vs hA1 hheap
  (fun b hb=>by simp only[A4];rw[VT (by simpa [hlen] using hb)])
  (by simp[hvl]) (fun i c v hc hvv=>by
   simp only[VF,Option.map_eq_some_iff] at hc;obtain⟨c0,hc0,rfl⟩:=hc;exact VR.ren hK 3 c0 v (hvh i c0 v hc0 hvv) (hargs c0 (Vz hc0)))
 unfold Oper.wp;rw[hrn];simp only[Oper.upon];refine hcall.mono fun e w' hq=>?_
 obtain⟨v,φ2,rfl,hc⟩:=hq;simp only;have houtl:(AW outs).length=outs.length:=DW outs;have hlenσ:(hpl.map (·.1)).length=σ.length:=by rw[Vy,hlen]
 have g0:σ[0]?=some (σ[0]'hl1):=Vv hl1;have ht0:tau (σ.take 1) hp.length 0=σ[0]'hl1:=by unfold tau;rw[VO,Vt (Vj 0),g0]
 have ht1:∀k,1<=k->tau (σ.take 1) hp.length k=hp.length+(k-1):=fun k hk=>by
  unfold tau;have hl:(σ.take 1).length=1:=by rw[VX];omega
  rw[VT (by omega),hl]
 let φ3:Phi:=fun b=>if b<hp.length then φ b else φ2 (1+(b-hp.length))
 have hs0:σ[0]'hl1<hp.length:=by
  obtain⟨blk,h1,_⟩:=hσ _ (V2 hl1);rcases Wm (σ[0]'hl1) hp.length with h | h
  .exact h
  .rw[Cr,VT h] at h1;cases h1
 have htau:∀k,φ3 (tau (σ.take 1) hp.length k)=φ2 k:=by
  intro k;cases k with
  | zero=>rw[ht0];simp only[φ3];rw[Vt hs0,<-hphi 0 _ g0,hc.par]
  | succ k=>rw[ht1 _ (by omega)];simp only[φ3];rw[Vu (by omega)];congr 1;omega
 have hφ3:∀k y,φ2 k=some y->φ3 (tau (σ.take 1) hp.length k)=some y:=fun k y h=>by rw[htau];exact h
 have hlo:∀k x,φ2 k=some x->k<outs.length:=by
  intro k x hφ;rcases Wm k outs.length with h | h
  .exact h
  .rw[hc.out k (by rw[houtl];exact h)] at hφ;cases hφ
 have live:∀k x,φ2 k=some x->(nth (AW outs) k).isSome=true:=fun k x hφ=>by rw[Ee];simp[hlo k x hφ]
 have hnw:∀k r z,φ2 k=some (r,z)->Mut φ2 (nth (AW outs)) r/\r<w'.heap.size:=by
  intro k r z hφ;have hko:=hlo k _ hφ;have hb:nth (AW outs) k=some outs[k]:=by rw[Ee];simp[hko]
  refine⟨⟨k,outs[k],z,hb,hwr _ (V2 hko),hφ⟩,?_⟩;rcases hc.heap.blk k _ hb with ⟨_,h0,_⟩ | ⟨r',cs,T,h1,h2,_⟩ | ⟨_,r',_,h1,_,h2⟩
  .rw[hφ] at h0;cases h0
  .rw[hφ] at h1;simp at h1;rw[h1.1];exact(Wf.1 h2).1
  .rw[hφ] at h1;simp at h1;rw[h1.1];exact(Wf.1 h2).1
 let A':Nat->Prop:=fun r=>A r\/Ko φ (nth hp) (E9 σ hp.length outs res) φ3 hp.length r
 have hnN:∀r,¬Mut φ2 (nth (AW outs)) r->¬New φ3 hp.length r:=by
  rintro r h3 ⟨b,z,hb,hφ⟩
  simp only[φ3] at hφ;rw[Vu (by omega)] at hφ;exact h3 (hnw _ r z hφ).1
 have hgrow:∀r,Ok (AH A1 (A4 σ φ) (hpl.map (·.1)).length) w.heap.size φ2 (nth (AW outs)) w' r->Bk A' φ3 hp.length w w' r:=by
  rintro r ⟨h1,h2,h3⟩
  rcases h1 with ((h1 | ⟨b,_,_,hb,_⟩) | ⟨k,z,hk1,hk2,hφ⟩) | h1
  .exact .inl (.inl h1)
  .rw[hfe] at hb;simp at hb
  .rw[hlenσ] at hk2;have gk:σ[k]?=some (σ[k]'hk2):=Vv hk2;rw[hphi k _ gk] at hφ;obtain⟨blk,q1,_⟩:=hσ _ (V2 hk2);refine .inl (.inr ⟨σ[k]'hk2,blk,z,?_,q1,hφ,hnN r h3⟩);exact Vz (show(σ.drop 1)[k-1]?=some (σ[k]'hk2) by rw[Vi,show 1+(k-1)=k by omega];exact gk)
  .exact .inr ⟨h1,h2,hnN r h3⟩
 have hbr:∀(k:Nat) (blk:Blk),outs[k]?=some blk->BR φ3 (Bk A' φ3 hp.length w w') w' (tau (σ.take 1) hp.length k) (Bu (tau (σ.take 1) hp.length) blk):=by
  intro k blk hk;have hb:nth (AW outs) k=some blk:=by rw[Ee];exact hk
  exact(hc.heap.blk k blk hb).bak hφ3 (fun h=>by rw[htau];exact h) (hc.heap.flat k blk hb) (.inl hgrow)
 have hflat:∀(k:Nat) (blk:Blk),outs[k]?=some blk->(Bu (tau (σ.take 1) hp.length) blk).flat=true->Bw (Bu (tau (σ.take 1) hp.length) blk).es:=by
  intro k blk hk hfl;have hb:nth (AW outs) k=some blk:=by rw[Ee];exact hk
  unfold Bu at hfl ⊢
  split at hfl
  .exact hc.heap.flat k blk hb hfl
  .rename_i hf0;simp only at hfl;rw[hf0] at hfl;cases hfl
 have hch:∀b blk,(b,blk)∈(E9 σ hp.length outs res).chg->b=σ[0]'hl1/\∃blk0,outs[0]?=some blk0/\blk=Bu (tau (σ.take 1) hp.length) blk0:=by
  intro b blk hm;obtain⟨k,h1,h2⟩:=FY hm;simp only[VF,Option.map_eq_some_iff] at h2;obtain⟨blk0,h2,rfl⟩:=h2;rw[VO] at h1 h2;split at h1
  .have hk:k=0:=by omega
   subst hk;rw[Vt (Vj 0)] at h2;rw[g0] at h1;exact⟨(V3 h1).symm,blk0,h2,rfl⟩
  .cases h1
 refine k v w' φ3 A' (fun _ h=>.inl h) (fun _ h=>h) ⟨?_,fun b hb=>?_,fun b hb=>?_,fun b r z hb hφ=>?_,fun b b' r z z' hb hb' h1 h2=>?_,?_,fun b blk hm=>?_,fun blk hm=>?_,fun b blk hm=>?_,fun j blk hj=>?_⟩
 .refine hc.keep.mono fun r hr=>?_
  obtain⟨k,b,blk,z,g1,g2,g3,g4⟩:=hmut r hr;cases k with
  | zero=>refine⟨b,z,.inr ⟨Bu (tau (σ.take 1) hp.length) outs[0],?_⟩,g4⟩;exact SD (k:=0) (by rw[VO,Vt (Vj 0)];exact g1) (by rw[VF,VO,Vt (Vj 0),Vv hl2];rfl)
  | succ k=>exact⟨b,z,.inl (Vz (show(σ.drop 1)[k]?=some b by rw[Vi,Nat.add_comm];exact g1)),g4⟩
 .simp only[φ3];rw[Vt hb]
 .have hb2:hp.length+(outs.length-1)<=b:=by simpa [E9] using hb
  simp only[φ3];rw[Vu (by omega)];exact hc.out _ (by rw[houtl];omega)
 .simp only[φ3] at hφ;rw[Vu (by omega)] at hφ;obtain⟨g1,g2⟩:=hnw _ r z hφ;rcases hc.mutd r g1 with hm | hs
  .obtain⟨k,b0,blk,z0,q1,q2,q3,q4⟩:=hmut r hm;cases k with
   | zero=>
    have e0:φ2 0=some (r,z0):=by rw[hc.par,hphi 0 b0 q1];exact q4
    have:=hc.heap.inj 0 _ r _ _ (live 0 _ e0) (live _ _ hφ) e0 hφ;omega
   | succ k=>exact .inr ⟨b0,z0,blk,Vz (show(σ.drop 1)[k]?=some b0 by rw[Vi,Nat.add_comm];exact q1),q2,q3,q4⟩
  .exact .inl ⟨hs,g2⟩
 .simp only[φ3] at h1 h2;rw[Vu (by omega)] at h1 h2;have:=hc.heap.inj _ _ r z z' (live _ _ h1) (live _ _ h2) h1 h2;omega
 .exact VR.bak hφ3 3 res v hc.val (.inl hgrow)
 .obtain⟨_,blk0,h2,rfl⟩:=hch b blk hm;exact hflat 0 blk0 h2
 .simp only[E9,V0] at hm;obtain⟨blk0,hm,rfl⟩:=hm;obtain⟨j,hj⟩:=List.getElem?_of_mem (List.mem_of_mem_drop hm);exact hflat j blk0 hj
 .obtain⟨rfl,blk0,h2,rfl⟩:=hch b blk hm;have:=hbr 0 blk0 h2;rw[ht0] at this;exact this
 .simp only[E9,VF,Option.map_eq_some_iff] at hj;obtain⟨blk0,hj,rfl⟩:=hj;rw[Vi] at hj;have:=hbr _ blk0 hj;rw[ht1 _ (by omega),show 1+j-1=j by omega] at this;exact this
theorem callV{o:Oper}{ev:Operand->AV}{x:Operand}{xs:Array Operand}{ts:Array TypeId}{f:FuncId}{caps:List AV}{φ:Phi}{A:Nat->Prop}{w:World}{ρ:Operand->Value}(hf:Eu P f=true)
  (ho:o.op = .call {callee:=.value x,args:=xs,argTypes:=ts}) (hx:ev x = .fn f caps) (hv:∀x,VR φ A w (ev x) (ρ x)):∃vs:List Value,(execOp ρ o).run P w = .ok (.enter f vs.toArray) w/\
   vs.length=(xs.toList.map ev++caps).length/\∀(i:Nat) c v,(xs.toList.map ev++caps)[i]?=some c->vs[i]?=some v->VR φ A w c v:=by
 have hcv:=hv x;rw[hx] at hcv;obtain⟨cv,hcx,hcl,hch⟩:=hcv.fn_inv;refine⟨xs.toList.map ρ++cv,?_,by simp[hcl],fun i c0 v hc0 hvv=>?_⟩
 .rw[run_call hf ρ o x xs ts cv.toArray ho hcx w];have e:xs.map ρ++cv.toArray=(xs.toList.map ρ++cv).toArray:=by apply Array.ext';simp
  rw[e]
 .rw[V5] at hc0 hvv;simp only[Vy] at hc0 hvv;split at hc0
  .rename_i hi;rw[Vt hi] at hvv;simp only[VF,Option.map_eq_some_iff] at hc0 hvv;obtain⟨p,hp1,rfl⟩:=hc0;obtain⟨q,hq1,rfl⟩:=hvv;rw[hp1] at hq1;cases hq1;exact hv p
  .rename_i hi;rw[Vu hi] at hvv;exact hch _ c0 v hc0 hvv
theorem ok_call{o:Oper}{ev:Operand->AV}{x:Operand}{xs:Array Operand}{ts:Array TypeId}{f:FuncId}{caps:List AV}{hp:List (Option Blk)}{σ fz:List Nat}{hpl:List (Option Blk×Prop)}
  {outs:List Blk} {res:AV} (ho:o.op = .call {callee:=.value x,args:=xs,argTypes:=ts}) (hx:ev x = .fn f caps) (hf:Eu P f=true)
  (hargs:∀a∈xs.toList.map ev++caps,(A6 σ fz hp 3 a).2) (hh:DT σ fz hp=some hpl) (hp2:∀p∈hpl.map (·.2),p) (hn:C0 σ=true) (hfz:∀b∈fz,b∉σ)
  (hσ:∀b∈σ,∃blk,nth hp b=some blk/\blk.wr=true)
  (hct:CT P f (roH outs (hpl.map (·.1))) ((xs.toList.map ev++caps).map fun a=>(A6 σ fz hp 3 a).1) (AW outs) res)
  (hwr:∀(k:Nat) (x:Blk),σ.length<=k->outs[k]?=some x->x.wr=true) (himm:fz=[]\/(Cw 3 res=true/\∀blk∈outs,AY blk)):
  Aq P o ev (nth hp) hp.length (D3 σ hp.length outs res):=by
 exact Ss (args:=xs.toList.map ev++caps) (fun φ A w ρ hv=>callV hf ho hx hv) hargs hh hp2 hn hfz hσ hct hwr himm
def JM(P:Program)(t:TypeId)(name:String):Option FuncId:=
 match P.info? t,P.underlying t with
 | some i,some (.pointer _)=>match i.methods.find? (·.name==name) with
  | some m=>match m.path.toList,m.func with
   | [],some (f,true)=>match Eu P f with | true=>some f | false=>none
   | _,_=>none
  | none=>none
 | _,_=>none
theorem Uy{t:TypeId}{name:String}{f:FuncId}(hm:JM P t name=some f)(v:Value)(w:World)(n:Nat):
  (method (n+1) t v name).run P w = .ok (f,v) w:=by
 unfold JM at hm;split at hm
 case h_2=>cases hm
 rename_i i el hi hu;split at hm
 case h_2=>cases hm
 rename_i m hf;split at hm
 case h_2=>cases hm
 rename_i f' hp hfn;split at hm
 case h_2=>cases hm
 cases hm;have hpl:m.path.toList=[]:=hp;simp[method,typeInfo,hi,hf,hpl,hfn,follow,receiverAt,run_underlying hu,Place.get]
theorem UL{o:Oper}{ev:Operand->AV}{x:Operand}{name:String}{t:TypeId}{xs:Array Operand}{ts:Array TypeId}{f:FuncId}{c:AV}{hp:List (Option Blk)}{σ fz:List Nat}{hpl:List (Option Blk×Prop)}
  {outs:List Blk} {res:AV} (ho:o.op = .call {callee:=.invoke x name,args:=xs,argTypes:=ts}) (hx:ev x = .ifc t [c]) (hf:JM P t name=some f)
  (hargs:∀a∈c::xs.toList.map ev,(A6 σ fz hp 3 a).2) (hh:DT σ fz hp=some hpl) (hp2:∀p∈hpl.map (·.2),p) (hn:C0 σ=true) (hfz:∀b∈fz,b∉σ)
  (hσ:∀b∈σ,∃blk,nth hp b=some blk/\blk.wr=true)
  (hct:CT P f (roH outs (hpl.map (·.1))) ((c::xs.toList.map ev).map fun a=>(A6 σ fz hp 3 a).1) (AW outs) res)
  (hwr:∀(k:Nat) (x:Blk),σ.length<=k->outs[k]?=some x->x.wr=true) (himm:fz=[]\/(Cw 3 res=true/\∀blk∈outs,AY blk)):
  Aq P o ev (nth hp) hp.length (D3 σ hp.length outs res):=by
 refine Ss (args:=c::xs.toList.map ev) (fun φ A w ρ hv=>?_) hargs hh hp2 hn hfz hσ hct hwr himm
 have hcv:=hv x
 rw[hx] at hcv
 obtain⟨cv,hcx,hcl,hch⟩:=hcv.ifc_inv
 obtain⟨v,rfl⟩:∃v,cv=[v]:=by
  cases cv with
  | nil=>simp at hcl
  | cons v r=>cases r with
   | nil=>exact⟨v,rfl⟩
   | cons y r=>simp at hcl
 have hfo:Eu P f=true:=by
  unfold JM at hf
  split at hf
  case h_2=>cases hf
  split at hf
  case h_2=>cases hf
  split at hf
  case h_2=>cases hf
  split at hf
  case h_2=>cases hf
  cases hf
  assumption
 refine⟨v::xs.toList.map ρ,?_,by simp,fun i c0 u hc0 hvv=>?_⟩
 .unfold Eu at hfo
  split at hfo
  case h_2=>cases hfo
  rename_i fn hfn
  simp only[VD,Wh] at hfo
  obtain⟨hname,hbody⟩:=hfo
  have hnone:¬fn.body=none:=by intro hb;rw[hb] at hbody;cases hbody
  have hname' : ¬ fn.name = "runtime.NumGoroutine" := by simpa using hname
  have hmm:(method (P.types.size+100) t v name).run P w = .ok (f,v) w:=Uy hf v w (P.types.size+99)
  have e0:(#[Value.iface t v]++xs.map ρ)[0]?=some (.iface t v):=by rw[Array.getElem?_append_left (by simp)];rfl
  simp only[ifV,List.headD_cons] at hcx
  simp[execOp,ho,resolve,hcx,invoke,e0,callMethod,callFunc,hfn,hname',hnone,Made.depth,hmm]
  exact List.take_of_length_le (by simp)
 .cases i with
  | zero=>simp at hc0 hvv;subst hc0 hvv;exact hch 0 _ _ rfl rfl
  | succ i=>
   simp only[List.getElem?_cons_succ,VF,Option.map_eq_some_iff] at hc0 hvv
   obtain⟨p,hp1,rfl⟩:=hc0
   obtain⟨q,hq1,rfl⟩:=hvv
   rw[hp1] at hq1;cases hq1
   exact hv p
theorem Ty{o:Oper}{ev:Operand->AV}{h:Hp}{nb:Nat}{t:TypeId}{x:Operand}{el:TypeId}
  (ho:o.op = .makeInterface t x) (hu:P.underlying t=some (.pointer el)):Aq P o ev h nb {v:=.ifc t [ev x]}:=by
 refine .value fun φ A w ρ _ hv _=>⟨ifV t [ρ x],?_,.ifc t [ev x] [ρ x] rfl fun i c v hc hvv=>?_⟩
 .simp[execOp,ho,Instr.makeInterface,run_underlying hu,ifV]
 .cases i with
  | zero=>simp at hc hvv;subst hc hvv;exact hv x
  | succ i=>simp at hc
variable {φ:Phi} {A:Nat->Prop} {w:World} {P:Program}
theorem U5{o:Oper}{ev:Operand->AV}{h:Hp}{nb:Nat}{t:TypeId}{x:Operand}{lo hi mx:Option Operand}{es:List AV}{z:Nat}{l u m:Int}
  (ho:o.op = .slice t x lo hi mx) (hx:ev x = .lst es) (ht:Bv P t=some (none,z)) (hz:∀e∈es,e.cells.length=z)
  (hl:bnd ev lo 0=some l) (hu:bnd ev hi es.length=some u) (hm:bnd ev mx es.length=some m) (hmx:mx.isSome=true->hi.isSome=true)
  (h0:0<=l/\l<=u/\u<=m/\m<=es.length):Aq P o ev h nb {v:=.lst ((es.drop l.toNat).take (u.toNat-l.toNat))}:=by
 refine .value fun φ A w ρ _ hv hh=>?_
 have h1:=hv x;rw[hx] at h1;obtain⟨e,inf,hun,hi',hsz⟩:=Fc ht;obtain⟨h0,h01,h02,h03⟩:=h0;have hlen:((es.drop l.toNat).take (u.toNat-l.toNat)).length=u.toNat-l.toNat:=by simp;omega
 have fin:∀(a:Option Addr) (cap:Nat),ρ x = .slice a es.length cap->es.length<=cap->(∀m':Nat,u.toNat<=m'->m'<=cap->VR φ A w (.lst ((es.drop l.toNat).take (u.toNat-l.toNat)))
   (.slice (if m'=l.toNat then a else a.map (·.add (l.toNat * inf.size))) (u.toNat-l.toNat) (m'-l.toNat)))->
   ∃v',(execOp ρ o).run P w = .ok (.value v') w/\VR φ A w (.lst ((es.drop l.toNat).take (u.toNat-l.toNat))) v':=by
  intro a cap he hc hvr;obtain⟨m',hm1,hm2,hr⟩:=N5 (P:=P) hv (len:=es.length) (cap:=cap) true hl hu hm hmx rfl h0 h01 h02 h03 hc;refine⟨_,?_,hvr m' hm1 hm2⟩;simp[execOp,ho,he,Instr.sliceAt,Instr.slice,run_underlying hun,hr,sizeOf,typeInfo,hi']
 rcases h1.lst_inv with ⟨he0,a,he⟩ | ⟨r,o',cap,z',g,he,hcap,hA,hz',hone,hc,hrt⟩
 .subst he0;refine fin a 0 he (VH _) fun m' hm1 hm2=>?_
  simp at h03;have hl0:l.toNat=0:=by omega
  have hu0:u.toNat=0:=by omega
  have hm0:m'=0:=by omega
  rw[hl0,hu0,hm0];exact .imm _ _ (.lnil a)
 .refine fin _ cap he hcap fun m' hm1 hm2=>?_
  by_cases hml:m'=l.toNat
  .rw[Vt hml];have e1:u.toNat-l.toNat=0:=by omega
   have e2:m'-l.toNat=0:=by omega
   rw[e1,e2];exact .imm _ _ (.lnil _)
  .rw[Vu hml];by_cases hes:es=[]
   .subst hes;simp at h03;have hl0:l.toNat=0:=by omega
    have hu0:u.toNat=0:=by omega
    rw[hl0,hu0];have:=RT.lst (A:=A) (w:=w) [] r o' (m'-0) 0 (fun _ _=>undef) (by simp) (by simp) (by simp) (by simp) (by simp) (by simp);exact .imm _ _ (by simpa [Addr.add] using this)
   .have hzz:z'=z:=by obtain⟨e,he⟩:=List.exists_mem_of_ne_nil es hes;rw[<-hz e he,hz' e he]
    subst hzz;have ead:(⟨r,o',none⟩:Addr).add (l.toNat * inf.size)=⟨r,o'+l.toNat * z',none⟩:=by rw[Addr.add_lit,hsz]
    simp only[Option.map_some,ead];have hmem:∀e∈(es.drop l.toNat).take (u.toNat-l.toNat),e∈es:=fun e he=>List.mem_of_mem_drop (List.mem_of_mem_take he)
    have:=RT.lst (A:=A) (w:=w) ((es.drop l.toNat).take (u.toNat-l.toNat)) r (o'+l.toNat * z') (m'-l.toNat) z' (fun i j=>g (l.toNat+i) j) (by rw[hlen];omega) (fun _=>hA hes)
     (fun e he=>hz' e (hmem e he)) (fun e he=>hone e (hmem e he)) (fun i j hi hj=>by
      rw[hlen] at hi;have:=hc (l.toNat+i) j (by omega) hj;rw[Ve,<-Nat.add_assoc] at this;rw[show o'+l.toNat * z'+i * z'+j=o'+(l.toNat * z')+i * z'+j from rfl];exact this) (fun i j e c he hj=>by
      rw[VO] at he;split at he
      .rw[Vi] at he;exact hrt _ j e c he hj
      .cases he)
    rw[hlen] at this;exact .imm _ _ this
theorem Te{o:Oper}{ev:Operand->AV}{h:Hp}{nb:Nat}{t:TypeId}{x:Operand}{lo hi mx:Option Operand}{es:List AV}{z:Nat}{l u m:Int}
  (ho:o.op = .slice t x lo hi mx) (hx:ev x = .lst es) (ht:Bv P t=some (none,z)) (hz:∀e∈es,e.cells.length=z)
  (hl:bnd ev lo 0=some l) (hu:bnd ev hi es.length=some u) (hm:bnd ev mx es.length=some m) (hmx:mx.isSome=true->hi.isSome=true)
  (hms:mx.isSome=true) (h0:0<=l/\l<=u/\u=m/\m<=es.length):Aq P o ev h nb {v:=.lstc ((es.drop l.toNat).take (u.toNat-l.toNat))}:=by
 refine .value fun φ A w ρ _ hv hh=>?_
 have h1:=hv x;rw[hx] at h1;obtain⟨e,inf,hun,hi',hsz⟩:=Fc ht;obtain⟨h0,h01,h02,h03⟩:=h0;have hlen:((es.drop l.toNat).take (u.toNat-l.toNat)).length=u.toNat-l.toNat:=by simp;omega
 have fin:∀(a:Option Addr) (cap:Nat),ρ x = .slice a es.length cap->es.length<=cap->(∀m':Nat,u.toNat=m'->m'<=cap->VR φ A w (.lstc ((es.drop l.toNat).take (u.toNat-l.toNat)))
   (.slice (if m'=l.toNat then a else a.map (·.add (l.toNat * inf.size))) (u.toNat-l.toNat) (m'-l.toNat)))->
   ∃v',(execOp ρ o).run P w = .ok (.value v') w/\VR φ A w (.lstc ((es.drop l.toNat).take (u.toNat-l.toNat))) v':=by
  intro a cap he hc hvr;obtain⟨m',hm1,hm2,hm3,hr⟩:=Q4 (P:=P) hv (len:=es.length) (cap:=cap) true hl hu hm hmx rfl h0 h01 (by omega) h03 hc;refine⟨_,?_,hvr m' (by have:=hm3 hms;omega) hm2⟩;simp[execOp,ho,he,Instr.sliceAt,Instr.slice,run_underlying hun,hr,sizeOf,typeInfo,hi']
 rcases h1.lst_inv with ⟨he0,a,he⟩ | ⟨r,o',cap,z',g,he,hcap,hA,hz',hone,hc,hrt⟩
 .subst he0;refine fin a 0 he (VH _) fun m' hm1 hm2=>?_
  simp at h03;have hl0:l.toNat=0:=by omega
  have hu0:u.toNat=0:=by omega
  have hm0:m'=0:=by omega
  rw[hl0,hu0,hm0];exact .imm _ _ (.lstc _ _ 0 (.lnil a))
 .refine fin _ cap he hcap fun m' hm1 hm2=>?_
  by_cases hml:m'=l.toNat
  .rw[Vt hml];have e1:u.toNat-l.toNat=0:=by omega
   have e2:m'-l.toNat=0:=by omega
   rw[e1,e2];exact .imm _ _ (.lstc _ _ 0 (.lnil _))
  .rw[Vu hml];by_cases hes:es=[]
   .subst hes;simp at h03;have hl0:l.toNat=0:=by omega
    have hu0:u.toNat=0:=by omega
    rw[hl0,hu0];have:=RT.lst (A:=A) (w:=w) [] r o' (m'-0) 0 (fun _ _=>undef) (by simp) (by simp) (by simp) (by simp) (by simp) (by simp);refine .imm _ _ ?_;have hm0:m'=0:=by omega
    subst hm0;exact .lstc _ _ 0 (by simpa [Addr.add] using this)
   .have hzz:z'=z:=by obtain⟨e,he⟩:=List.exists_mem_of_ne_nil es hes;rw[<-hz e he,hz' e he]
    subst hzz;have ead:(⟨r,o',none⟩:Addr).add (l.toNat * inf.size)=⟨r,o'+l.toNat * z',none⟩:=by rw[Addr.add_lit,hsz]
    simp only[Option.map_some,ead];have hmem:∀e∈(es.drop l.toNat).take (u.toNat-l.toNat),e∈es:=fun e he=>List.mem_of_mem_drop (List.mem_of_mem_take he)
    have:=RT.lst (A:=A) (w:=w) ((es.drop l.toNat).take (u.toNat-l.toNat)) r (o'+l.toNat * z') (m'-l.toNat) z' (fun i j=>g (l.toNat+i) j) (by rw[hlen];omega) (fun _=>hA hes)
     (fun e he=>hz' e (hmem e he)) (fun e he=>hone e (hmem e he)) (fun i j hi hj=>by
      rw[hlen] at hi;have:=hc (l.toNat+i) j (by omega) hj;rw[Ve,<-Nat.add_assoc] at this;rw[show o'+l.toNat * z'+i * z'+j=o'+(l.toNat * z')+i * z'+j from rfl];exact this) (fun i j e c he hj=>by
      rw[VO] at he;split at he
      .rw[Vi] at he;exact hrt _ j e c he hj
      .cases he)
    rw[hlen] at this;rw[<-hm1] at this ⊢
    exact .imm _ _ (.lstc _ _ _ this)
theorem UZ{o:Oper}{ev:Operand->AV}{h:Hp}{nb:Nat}{t:TypeId}{x:Operand}{lo hi mx:Option Operand}{b i n z:Nat}{l u m:Int}{blk:Blk}
  (ho:o.op = .slice t x lo hi mx) (hx:ev x = .ptr b i 0) (ht:Bv P t=some (some n,z)) (hb:h b=some blk) (hz:blk.z=z)
  (hl:bnd ev lo 0=some l) (hu:bnd ev hi n=some u) (hm:bnd ev mx n=some m) (hmx:mx.isSome=true->hi.isSome=true)
  (h0:0<=l/\l<=u/\u<=m/\m<=n) (hfit:i+n<=blk.es.length) (hmp:blk.mp=none):Aq P o ev h nb {v:=.sl b (i+l.toNat) (u.toNat-l.toNat)}:=by
 refine .value fun φ A w ρ _ hv hh=>?_
 have h1:=hv x;rw[hx] at h1;obtain⟨e,inf,hun,hi',hsz⟩:=QR ht;obtain⟨h0,h01,h02,h03⟩:=h0;obtain⟨r,z',hφ,he⟩:=h1.ptr_inv;obtain⟨hzz,_,cs,T,hr,hsz',_⟩:=hh.row hb hφ (.inr hmp);obtain⟨m',hm1,hm2,hrun⟩:=N5 (P:=P) hv (len:=n) (cap:=n) false hl hu hm hmx rfl h0 h01 h02 h03 (VH _);have ead:(⟨r,i * z'+0,none⟩:Addr).add (l.toNat * inf.size)=⟨r,(i+l.toNat) * z',none⟩:=by rw[Addr.add_lit,hsz,<-hz,<-hzz,Ve];rfl
 refine⟨.slice (some (if m'=l.toNat then ⟨r,i * z'+0,none⟩ else ⟨r,(i+l.toNat) * z',none⟩)) (u.toNat-l.toNat) (m'-l.toNat),?_,?_⟩
 .rw[<-ead];simp[execOp,ho,he,Instr.sliceAt,run_underlying hun,Instr.sureAddr,hrun,sizeOf,typeInfo,hi']
 .by_cases hml:m'=l.toNat
  .rw[Vt hml];have e1:u.toNat-l.toNat=0:=by omega
   have e2:m'-l.toNat=0:=by omega
   rw[e1,e2];exact .slnil b _ _
  .rw[Vu hml];refine VR.sl (φ:=φ) (A:=A) (w:=w) b (i+l.toNat) (u.toNat-l.toNat) r z' (m'-l.toNat) hφ (by omega) ?_;have hrs:Bj w r=cs.size:=by unfold Bj;rw[hr]
   rw[hrs];exact Wd (VM _ (by omega)) hsz'
theorem U4{o:Oper}{ev:Operand->AV}{h:Hp}{nb:Nat}{t:TypeId}{x y q:Operand}{es:List AV}{z:Nat}{ky kq:IntKind}
  (ho:o.op = .slice t x none (some y) (some q)) (hx:ev x = .lst es) (ht:Bv P t=some (none,z)) (hy:ev y = .int ky 0) (hq:ev q = .int kq 0):Aq P o ev h nb {v:=.sl 1000000 0 0}:=by
 refine .value fun φ A w ρ _ hv hh=>?_
 have h1:=hv x;rw[hx] at h1;have h2:=hv y;rw[hy] at h2;have h3:=hv q;rw[hq] at h3;have h2:=h2.int_inv;have h3:=h3.int_inv;obtain⟨e,inf,hun,hi',hsz⟩:=Fc ht;obtain⟨a,len,cap,he⟩:∃a len cap,ρ x = .slice a len cap:=by
  rcases h1.lst_inv with ⟨_,a,he⟩ | ⟨r,o',cap,z',g,he,_⟩
  .exact⟨_,_,_,he⟩
  .exact⟨_,_,_,he⟩
 refine⟨.slice a 0 0,?_,.slnil _ _ a⟩;simp[execOp,ho,he,h2,h3,Instr.sliceAt,Instr.slice,run_underlying hun,sizeOf,typeInfo,hi',Instr.sliceBounds,Instr.sliceBound,asIntOf]
theorem TD{o:Oper}{ev:Operand->AV}{h:Hp}{nb:Nat}{t:TypeId}{x y:Operand}{z:Nat}{ky:IntKind}
  (ho:o.op = .slice t x none (some y) none) (hx:ev x = .nils) (ht:Bv P t=some (none,z)) (hy:ev y = .int ky 0):Aq P o ev h nb {v:=.nils}:=by
 refine .value fun φ A w ρ _ hv hh=>?_
 have h1:=hv x;rw[hx] at h1;have h2:=hv y;rw[hy] at h2;have h2:=h2.int_inv;obtain⟨e,inf,hun,hi',hsz⟩:=Fc ht;have he:=h1.nils_inv;refine⟨.slice none 0 0,?_,.imm _ _ .nils⟩;simp[execOp,ho,he,h2,Instr.sliceAt,Instr.slice,run_underlying hun,sizeOf,typeInfo,hi',Instr.sliceBounds,Instr.sliceBound,asIntOf]
theorem H5{o:Oper}{ev:Operand->AV}{h:Hp}{nb:Nat}{t t' e:TypeId}{x y:Operand}{op:BinOp}{b v:Bool}
  (ho:o.op = .binOp op t x y t') (hu:P.underlying t=some (.slice e)) (hy:ev y = .nils)
  (hx:(ev x = .nils/\b=true)\/(b=false/\∃es,ev x = .lst es/\es≠[])\/(b=false/\∃bl i n,ev x = .sl bl i n/\n≠0))
  (hop:(op = .eql/\v=b)\/(op = .neq/\v=!b)):Aq P o ev h nb {v:=.bool v}:=by
 refine .value fun φ A w ρ _ hv _=>⟨.bool v,?_,.imm _ _ (.bool _)⟩
 have h1:=hv x;have h2:=hv y;rw[hy] at h2;have h2:=h2.nils_inv;have hp:∃a n c,ρ x = .slice a n c/\((a=none/\b=true)\/(a≠none/\b=false)):=by
  rcases hx with ⟨hx,rfl⟩ | ⟨rfl,es,hx,hes⟩ | ⟨rfl,bl,i,n,hx,hn⟩<;>rw[hx] at h1
  .exact⟨none,0,0,h1.nils_inv,.inl ⟨rfl,rfl⟩⟩
  .rcases h1.lst_inv with ⟨he,_⟩ | ⟨r,o',cap,z,g,he,_⟩
   .exact absurd he hes
   .exact⟨_,_,_,he,.inr ⟨by simp,rfl⟩⟩
  .rcases h1.sl_inv with ⟨he,_⟩ | ⟨r,z,cap,_,_,_,he⟩
   .exact absurd he hn
   .exact⟨_,_,_,he,.inr ⟨by simp,rfl⟩⟩
 obtain⟨a,n,c,he,hb⟩:=hp;have hg:(eqGuard op t x y (.slice a n c) (.slice none 0 0)).run P w = .ok () w:=by unfold eqGuard;split<;>simp_all
 have hr:(Op.equal t (.slice a n c) (.slice none 0 0)).run P w = .ok b w:=by
  have key:∀d,(Op.equalIn (d+1) t (.slice a n c) (.slice none 0 0)).run P w = .ok b w:=by
   intro d;cases a with
   | none=>
    rcases hb with ⟨_,rfl⟩ | ⟨hb,_⟩
    .simp[Op.equalIn,run_underlying hu]
    .exact absurd rfl hb
   | some ad=>
    rcases hb with ⟨hb,_⟩ | ⟨_,rfl⟩
    .cases hb
    .simp[Op.equalIn,run_underlying hu]
  exact key 9999
 rcases hop with ⟨rfl,rfl⟩ | ⟨rfl,rfl⟩
 .simp only[execOp,ho,he,h2,Sem.run_bind,hg,Result.andThen_ok,binOp,hr];rfl
 .simp only[execOp,ho,he,h2,Sem.run_bind,hg,Result.andThen_ok,binOp,hr];rfl
theorem ok_len_c{o:Oper}{ev:Operand->AV}{h:Hp}{nb:Nat}{ts:Array TypeId}{t e:TypeId}{x:Operand}{es:List AV}
  (ho:o.op = .call {callee:=.builtin .len,args:=#[x],argTypes:=ts}) (hts:ts[0]?=some t) (hu:P.underlying t=some (.slice e)) (hx:ev x = .lstc es):Aq P o ev h nb {v:=.int .i64 es.length}:=by
 classical
 have key:=KU (P:=P) (o:=o) (ev:=fun y=>if y=x then .lst es else ev y) (h:=h) (nb:=nb) ho hts hu (.inr (.inl ⟨es,by simp,rfl⟩));intro φ A w ac K Q hA hv hh hn k;refine key φ A w ac K Q hA (fun y=>?_) hh hn k;show VR φ A w (if y=x then .lst es else ev y) _;by_cases hy:y=x
 .subst hy;rw[Vt rfl];have h0:=hv y;rw[hx] at h0;exact h0.lstc_inv.choose_spec.2
 .rw[Vu hy];exact hv y
inductive AF where | no | el (e:AV) | call (σ fz:List Nat) (outs:List Blk) (res:AV) | callO (σ fz:List Nat) (outs:List Blk) (res:AV)
def unB(P:Program)(t:TypeId):Bool:=match P.underlying t with | some .bool=>true | _=>false
def unI(P:Program)(t:TypeId):Option IntKind:=match P.underlying t with | some (.int k)=>some k | _=>none
def unS(P:Program)(t:TypeId):Bool:=match P.underlying t with | some .string=>true | _=>false
def unL(P:Program)(t:TypeId):Bool:=match P.underlying t with | some (.slice _)=>true | _=>false
def unA(P:Program)(t:TypeId):Option Nat:=match P.underlying t with | some (.array n _)=>some n | _=>none
def unK(P:Program)(t:TypeId):Bool:=match P.underlying t with | some _=>true | _=>false
def vOp(v:AV):Option (OpR×Prop):=some ({v},True)
def aBin(P:Program)(op:BinOp)(t:TypeId)(x y:AV):Option (OpR×Prop):=
 match x,y with
 | .int k a,.int k' b=>
  match op with
  | .shl=>some ({v:=.int k (k.wrap (a * 2 ^ min b.toNat k.bits))},0<=b)
  | .shr=>some ({v:=.int k (a.fdiv (2 ^ min b.toNat k.bits))},0<=b)
  | op=>match decide (k=k') with
  | true=>match op with
   | .quo=>some ({v:=.int k (k.wrap (a.tdiv b))},b≠0)
   | .rem=>some ({v:=.int k (a.tmod b)},b≠0)
   | op=>match binI op k a b with | some v=>vOp v | none=>none
  | false=>none
 | .bool a,.bool b=>match unB P t,op with
  | true,.eql=>vOp (.bool (a==b))
  | true,.neq=>vOp (.bool (!(a==b)))
  | _,_=>none
 | .str a,.str b=>match op with
  | .eql=>vOp (.bool (a.toList==b.toList))
  | .neq=>vOp (.bool (!(a.toList==b.toList)))
  | .lss=>vOp (.bool (Op.bytesLess a.toList b.toList))
  | .add=>some ({v:=.str (a++b)},a.size+b.size<=9223372036854775807)
  | _=>none
 | .agg xs,.agg ys=>match eqA P 60 t (.agg xs) (.agg ys),P.eqGuardType P.depth t,op with
  | some b,false,.eql=>vOp (.bool b)
  | some b,false,.neq=>vOp (.bool (!b))
  | _,_,_=>none
 | .nils,.nils=>match unL P t,op with
  | true,.eql=>vOp (.bool true)
  | true,.neq=>vOp (.bool (!true))
  | _,_=>none
 | .lst es,.nils=>match unL P t,op with
  | true,.eql=>some ({v:=.bool false},es≠[])
  | true,.neq=>some ({v:=.bool (!false)},es≠[])
  | _,_=>none
 | .sl _ _ n,.nils=>match unL P t,op with
  | true,.eql=>some ({v:=.bool false},n≠0)
  | true,.neq=>some ({v:=.bool (!false)},n≠0)
  | _,_=>none
 | _,_=>none
theorem OpR.fits_value(v:AV)(h:Hp):OpR.fits {v} h:=⟨fun b blk hm=>by simp at hm,fun b hm=>by simp at hm⟩
theorem Tx{o:Oper}{ev:Operand->AV}{h:Hp}{nb:Nat}{op:BinOp}{t t':TypeId}{x y:Operand}{R:OpR}{p:Prop}
  (ho:o.op = .binOp op t x y t') (hr:aBin P op t (ev x) (ev y)=some (R,p)) (hp:p):Aq P o ev h nb R/\R.fits h/\R.dead=[]:=by
 generalize hx:ev x=u at hr;generalize hy:ev y=v at hr;unfold aBin at hr;split at hr
 .rename_i k a k' b;split at hr
  .cases hr;exact⟨QO ho hx hy hp (.inl ⟨rfl,rfl⟩),OpR.fits_value _ _,rfl⟩
  .cases hr;exact⟨QO ho hx hy hp (.inr ⟨rfl,rfl⟩),OpR.fits_value _ _,rfl⟩
  split at hr
  .rename_i hk;have hk:=of_decide_eq_true hk;subst hk;split at hr
   .cases hr;exact⟨Sy ho hx hy hp (.inl ⟨rfl,rfl⟩),OpR.fits_value _ _,rfl⟩
   .cases hr;exact⟨Sy ho hx hy hp (.inr ⟨rfl,rfl⟩),OpR.fits_value _ _,rfl⟩
   .split at hr
    .rename_i w hw;cases hr;exact⟨ok_binI ho hx hy hw,OpR.fits_value _ _,rfl⟩
    .cases hr
  .cases hr
 .split at hr
  .rename_i hu;cases hr;refine⟨Sv ho hx hy ?_ (.inl ⟨rfl,rfl⟩),OpR.fits_value _ _,rfl⟩;unfold unB at hu;split at hu
   .assumption
   .cases hu
  .rename_i hu;cases hr;refine⟨Sv ho hx hy ?_ (.inr ⟨rfl,rfl⟩),OpR.fits_value _ _,rfl⟩;unfold unB at hu;split at hu
   .assumption
   .cases hu
  .cases hr
 .split at hr
  .cases hr;exact⟨Ld ho hx hy (.inl ⟨rfl,rfl⟩),OpR.fits_value _ _,rfl⟩
  .cases hr;exact⟨Ld ho hx hy (.inr (.inl ⟨rfl,rfl⟩)),OpR.fits_value _ _,rfl⟩
  .cases hr;exact⟨Ld ho hx hy (.inr (.inr (.inl ⟨rfl,rfl⟩))),OpR.fits_value _ _,rfl⟩
  .cases hr;exact⟨Ld ho hx hy (.inr (.inr (.inr ⟨rfl,hp,rfl⟩))),OpR.fits_value _ _,rfl⟩
  .cases hr
 .split at hr
  .rename_i hb hg;cases hr;exact⟨QI ho hx hy hb (by omega) hg (.inl ⟨rfl,rfl⟩),OpR.fits_value _ _,rfl⟩
  .rename_i hb hg;cases hr;exact⟨QI ho hx hy hb (by omega) hg (.inr ⟨rfl,rfl⟩),OpR.fits_value _ _,rfl⟩
  .cases hr
 all_goals
  have hsl:unL P t=true->∃e,P.underlying t=some (.slice e):=by
   intro hu;unfold unL at hu;split at hu
   .rename_i e he;exact⟨e,he⟩
   .cases hu
 .split at hr
  .rename_i hu;cases hr;obtain⟨e,he⟩:=hsl hu;exact⟨H5 ho he hy (.inl ⟨hx,rfl⟩) (.inl ⟨rfl,rfl⟩),OpR.fits_value _ _,rfl⟩
  .rename_i hu;cases hr;obtain⟨e,he⟩:=hsl hu;exact⟨H5 ho he hy (.inl ⟨hx,rfl⟩) (.inr ⟨rfl,rfl⟩),OpR.fits_value _ _,rfl⟩
  .cases hr
 .split at hr
  .rename_i hu;cases hr;obtain⟨e,he⟩:=hsl hu;exact⟨H5 ho he hy (.inr (.inl ⟨rfl,_,hx,hp⟩)) (.inl ⟨rfl,rfl⟩),OpR.fits_value _ _,rfl⟩
  .rename_i hu;cases hr;obtain⟨e,he⟩:=hsl hu;exact⟨H5 ho he hy (.inr (.inl ⟨rfl,_,hx,hp⟩)) (.inr ⟨rfl,rfl⟩),OpR.fits_value _ _,rfl⟩
  .cases hr
 .split at hr
  .rename_i hu;cases hr;obtain⟨e,he⟩:=hsl hu;exact⟨H5 ho he hy (.inr (.inr ⟨rfl,_,_,_,hx,hp⟩)) (.inl ⟨rfl,rfl⟩),OpR.fits_value _ _,rfl⟩
  .rename_i hu;cases hr;obtain⟨e,he⟩:=hsl hu;exact⟨H5 ho he hy (.inr (.inr ⟨rfl,_,_,_,hx,hp⟩)) (.inr ⟨rfl,rfl⟩),OpR.fits_value _ _,rfl⟩
  .cases hr
 .cases hr
def NM(P:Program)(t:TypeId)(x:AV)(hp:List (Option Blk))(hint:AF):Option (OpR×Prop):=
 match x,tsz P t with
 | .ptr b i j,some (s,ag)=>
  match nth hp b with
  | some blk=>
   match hint with
   | .el e=>match Nat.beq ((e.cells.drop j).take s).length s,mkV ag ((e.cells.drop j).take s) with
    | true,some v=>some ({v},blk.es[i]?=some e)
    | _,_=>none
   | _=>match blk.es[i]? with
    | some e=>match Nat.beq ((e.cells.drop j).take s).length s,mkV ag ((e.cells.drop j).take s) with
     | true,some v=>vOp v
     | _,_=>none
    | none=>none
  | none=>none
 | .iptr cs,some (s,ag)=>match Nat.beq (cs.take s).length s,mkV ag (cs.take s) with
  | true,some v=>vOp v
  | _,_=>none
 | _,_=>none
theorem TT{o:Oper}{ev:Operand->AV}{hp:List (Option Blk)}{nb:Nat}{t:TypeId}{x:Operand}{hint:AF}{R:OpR}{p:Prop}
  (ho:o.op = .load t x) (hr:NM P t (ev x) hp hint=some (R,p)) (hpp:p):Aq P o ev (nth hp) nb R/\R.fits (nth hp)/\R.dead=[]:=by
 generalize hx:ev x=u at hr;unfold NM at hr;split at hr
 .rename_i b i j s ag ht;split at hr
  case h_2=>cases hr
  rename_i blk hb;split at hr
  .rename_i e;split at hr
   .rename_i v hl hm;cases hr;exact⟨EC ho hx hb hpp ht (VC hl) hm,OpR.fits_value _ _,rfl⟩
   .cases hr
  .split at hr
   case h_2=>cases hr
   rename_i e he;split at hr
   .rename_i v hl hm;cases hr;exact⟨EC ho hx hb he ht (VC hl) hm,OpR.fits_value _ _,rfl⟩
   .cases hr
 .rename_i cs s ag ht;split at hr
  .rename_i v hl hm;cases hr;exact⟨Db ho hx ht (VC hl) hm,OpR.fits_value _ _,rfl⟩
  .cases hr
 .cases hr
def L6(P:Program)(t:TypeId)(x y:AV)(hp:List (Option Blk))(hint:AF):Option (OpR×Prop):=
 match x,tsz P t with
 | .ptr b i j,some (s,_)=>
  match nth hp b,y.known&&BN y.cells&&Nat.beq y.cells.length s with
  | some blk,true=>
   match blk.wr,Nat.beq j 0&&Nat.beq s blk.z with
   | true,true=>some ({v:=.unk,chg:=[(b,{blk with es:=blk.es.set i y,flat:=blk.flat&&A8 y.cells})]},i<blk.es.length)
   | true,false=>
    match hint with
    | .el (.agg cs)=>match Nat.ble (j+s) blk.z&&Nat.beq cs.length blk.z with
     | true=>some ({v:=.unk,chg:=[(b,{blk with es:=blk.es.set i (.agg (cs.take j++y.cells++cs.drop (j+s))),flat:=blk.flat&&A8 y.cells})]},blk.es[i]?=some (.agg cs))
     | false=>none
    | _=>match blk.es[i]? with
     | some (.agg cs)=>match Nat.ble (j+s) blk.z&&Nat.beq cs.length blk.z with
      | true=>some ({v:=.unk,chg:=[(b,{blk with es:=blk.es.set i (.agg (cs.take j++y.cells++cs.drop (j+s))),flat:=blk.flat&&A8 y.cells})]},True)
      | false=>none
     | _=>none
   | false,_=>none
  | _,_=>none
 | _,_=>none
theorem Jn{hp:List (Option Blk)}{b:Nat}{blk blk':Blk}(hb:nth hp b=some blk)(hw:blk.wr=true):OpR.fits {v:=.unk,chg:=[(b,blk')]} (nth hp):=⟨fun b' blk'' hm=>by simp at hm;obtain⟨rfl,rfl⟩:=hm;exact⟨blk,hb,hw⟩,fun b hm=>by simp at hm⟩
theorem Tb(cs ys:List AV)(j s k:Nat)(c:AV)(hs:ys.length=s)(hj:j+s<=cs.length)(h:(cs.take j++ys++cs.drop (j+s))[k]?=some c):
  (j<=k/\k<j+s/\ys[k-j]?=some c)\/((k<j\/j+s<=k)/\cs[k]?=some c):=by
 simp only[List.append_assoc,V5,VX,VO,Vi] at h;have e1:min j cs.length=j:=by omega
 rw[e1] at h;by_cases h1:k<j
 .rw[Vt h1,Vt h1] at h;exact .inr ⟨.inl h1,h⟩
 .rw[Vu h1] at h;by_cases h2:k-j<ys.length
  .rw[Vt h2] at h;exact .inl ⟨by omega,by omega,h⟩
  .rw[Vu h2] at h;rw[show j+s+(k-j-ys.length)=k by omega] at h;exact .inr ⟨.inr (by omega),h⟩
theorem Tm{o:Oper}{ev:Operand->AV}{hp:List (Option Blk)}{nb:Nat}{t:TypeId}{x y:Operand}{hint:AF}{R:OpR}{p:Prop}
  (ho:o.op = .store t x y) (hr:L6 P t (ev x) (ev y) hp hint=some (R,p)) (hpp:p):Aq P o ev (nth hp) nb R/\R.fits (nth hp)/\R.dead=[]:=by
 generalize hx:ev x=u at hr;unfold L6 at hr;split at hr
 case h_2=>cases hr
 rename_i b i j s ag ht;split at hr
 case h_2=>cases hr
 rename_i blk hb hc;simp only[VD] at hc;obtain⟨⟨hk,h1⟩,hl⟩:=hc;have hl:=VC hl
 have part:∀cs:List AV,blk.wr=true->(Nat.ble (j+s) blk.z&&Nat.beq cs.length blk.z)=true->blk.es[i]?=some (.agg cs)->
   Aq P o ev (nth hp) nb {v:=.unk,chg:=[(b,{blk with es:=blk.es.set i (.agg (cs.take j++(ev y).cells++cs.drop (j+s))),flat:=blk.flat&&A8 (ev y).cells})]}:=by
  intro cs hw hc he;simp only[VD] at hc;have hjz:=VU hc.1;have hcz:=VC hc.2;refine JR ho hx hb hw ht hk hl h1 (Vx.1 he).1 hjz ?_ fun k c hkc=>?_
  .simp[AV.cells] at hl ⊢;omega
  .rcases Tb cs (ev y).cells j s k c hl (by omega) hkc with h | ⟨h,h2⟩
   .exact .inl h
   .exact .inr ⟨h,_,he,h2⟩
 split at hr
 .rename_i hw hj;cases hr;simp only[VD] at hj;have hj0:=VC hj.1;have hsz:=VC hj.2;subst hj0;refine⟨JR ho hx hb hw ht hk hl h1 hpp (by omega) (by omega) fun k c hkc=>.inl ⟨VI _,?_,by simpa using hkc⟩,Jn hb hw,rfl⟩;have:=(Vx.1 hkc).1;omega
 .rename_i hw hj;split at hr
  .rename_i cs;split at hr
   .rename_i hc;cases hr;exact⟨part cs hw hc hpp,Jn hb hw,rfl⟩
   .cases hr
  .split at hr
   .rename_i cs he;split at hr
    .rename_i hc;cases hr;exact⟨part cs hw hc he,Jn hb hw,rfl⟩
    .cases hr
   .cases hr
 .cases hr
def P5(P:Program)(t:TypeId)(x:AV)(hp:List (Option Blk))(v:AV):Option (OpR×Prop):=
 match x,tsz P t with
 | .ptr b i j,some (1,false)=>
  match nth hp b with
  | some blk=>match blk.es[i]? with
   | some e=>some ({v},e.cells[j]?=some v)
   | none=>none
  | none=>none
 | _,_=>none
theorem U9{o:Oper}{ev:Operand->AV}{hp:List (Option Blk)}{nb:Nat}{t:TypeId}{x:Operand}{v:AV}{R:OpR}{p:Prop}
  (ho:o.op = .load t x) (hr:P5 P t (ev x) hp v=some (R,p)) (hpp:p):Aq P o ev (nth hp) nb R/\R.fits (nth hp)/\R.dead=[]:=by
 generalize hx:ev x=u at hr;unfold P5 at hr;split at hr
 case h_2=>cases hr
 rename_i b i j ht;split at hr
 case h_2=>cases hr
 rename_i blk hb;split at hr
 case h_2=>cases hr
 rename_i e he;cases hr;have hd:(e.cells.drop j).take 1=[v]:=by obtain⟨hj,hv⟩:=Vx.1 hpp;rw[Wg hj,hv];rfl
 exact⟨EC ho hx hb he ht (by rw[hd];rfl) (by rw[hd];rfl),OpR.fits_value _ _,rfl⟩
def Ly(P:Program)(t:TypeId)(x y:AV)(hp:List (Option Blk)):Option (OpR×Prop):=
 match x,tsz P t with
 | .ptr b i j,some (s,_)=>
  match nth hp b,y.known&&BN y.cells&&Nat.beq y.cells.length s with
  | some blk,true=>
   match blk.wr,blk.es[i]? with
   | true,some (.agg cs)=>match Nat.beq cs.length blk.z with
    | true=>some ({v:=.unk,chg:=[(b,{blk with es:=blk.es.set i (.agg (cs.take j++y.cells++cs.drop (j+s))),flat:=blk.flat&&A8 y.cells})]},j+s<=blk.z)
    | false=>none
   | _,_=>none
  | _,_=>none
 | _,_=>none
theorem Ur{o:Oper}{ev:Operand->AV}{hp:List (Option Blk)}{nb:Nat}{t:TypeId}{x y:Operand}{R:OpR}{p:Prop}
  (ho:o.op = .store t x y) (hr:Ly P t (ev x) (ev y) hp=some (R,p)) (hpp:p):Aq P o ev (nth hp) nb R/\R.fits (nth hp)/\R.dead=[]:=by
 generalize hx:ev x=u at hr;unfold Ly at hr;split at hr
 case h_2=>cases hr
 rename_i b i j s ag ht;split at hr
 case h_2=>cases hr
 rename_i blk hb hc;simp only[VD] at hc;obtain⟨⟨hk,h1⟩,hl⟩:=hc;have hl:=VC hl;split at hr
 case h_2=>cases hr
 rename_i cs hw he;split at hr
 case h_2=>cases hr
 rename_i hcz;have hcz:=VC hcz;cases hr;refine⟨JR ho hx hb hw ht hk hl h1 (Vx.1 he).1 hpp ?_ fun k c hkc=>?_,Jn hb hw,rfl⟩
 .simp[AV.cells] at hl ⊢;omega
 .rcases Tb cs (ev y).cells j s k c hl (by omega) hkc with h | ⟨h,h2⟩
  .exact .inl h
  .exact .inr ⟨h,_,he,h2⟩
def Fe(c y:AV)(b:Bool):Option AV:=match c,y with
 | .int k a,.int k' d=>match decide (k=k') with
  | true=>some (.int k (cond b d a))
  | false=>none
 | .bool a,.bool d=>some (.bool (cond b d a))
 | _,_=>none
def Ke(y:AV)(j:Nat):Nat->List AV->Option (List AV)
 | _,[]=>some []
 | i,c::r=>match Fe c y (Nat.beq i j),Ke y j (i+1) r with
  | some c',some r'=>some (c'::r')
  | _,_=>none
theorem UM{c y c':AV}{b:Bool}(h:Fe c y b=some c'):(b=true->c'=y)/\(b=false->c'=c):=by
 cases c<;>try (simp[Fe] at h;done)
 case int k a=>
  cases y<;>try (simp[Fe] at h;done)
  rename_i k' d;simp only[Fe] at h;by_cases hk:k=k'
  .subst hk;rw[VB rfl] at h;cases b<;>simp at h<;>simp[<-h]
  .rw[VA hk] at h;simp at h
 case bool a=>
  cases y<;>try (simp[Fe] at h;done)
  cases b<;>simp[Fe] at h<;>simp[<-h]
theorem Un{y:AV}{j:Nat}:∀{cs cs':List AV} {i:Nat},Ke y j i cs=some cs'->cs'.length=cs.length/\∀(k:Nat) c,cs'[k]?=some c->(i+k=j/\c=y)\/(i+k≠j/\cs[k]?=some c):=by
 intro cs;induction cs with
 | nil=>intro cs' i h;simp[Ke] at h;subst h;exact⟨rfl,fun k c h=>by simp at h⟩
 | cons c r ih=>
  intro cs' i h;simp only[Ke] at h;split at h
  case h_2=>cases h
  rename_i c1 r1 h1 h2;cases h;obtain⟨g1,g2⟩:=ih h2;refine⟨by simp[g1],fun k d hk=>?_⟩;cases k with
  | zero=>
   simp only[List.getElem?_cons_zero,Vc] at hk;subst hk;have e:=UM h1;cases hb:Nat.beq i j with
   | true=>exact .inl ⟨VC hb,e.1 hb⟩
   | false=>refine .inr ⟨fun he=>?_,by simpa using (e.2 hb).symm⟩;rw[Vk] at he;subst he;rw[Nat.beq_refl] at hb;cases hb
  | succ k=>
   simp only[List.getElem?_cons_succ] at hk ⊢
   rcases g2 k d hk with ⟨a1,a2⟩ | ⟨a1,a2⟩
   .exact .inl ⟨by omega,a2⟩
   .exact .inr ⟨by omega,a2⟩
def M1(P:Program)(t:TypeId)(x y:AV)(hp:List (Option Blk)):Option (OpR×Prop):=
 match x,tsz P t with
 | .ptr b i j,some (s,_)=>
  match nth hp b,y.known&&BN y.cells&&Nat.beq y.cells.length s&&Nat.beq s 1 with
  | some blk,true=>
   match blk.wr,blk.es[i]?,y.cells with
   | true,some (.agg cs),[y1]=>match Nat.beq cs.length blk.z,Ke y1 j 0 cs with
    | true,some cs'=>some ({v:=.unk,chg:=[(b,{blk with es:=blk.es.set i (.agg cs'),flat:=blk.flat&&A8 y.cells})]},j+1<=blk.z)
    | _,_=>none
   | _,_,_=>none
  | _,_=>none
 | _,_=>none
theorem Ts{o:Oper}{ev:Operand->AV}{hp:List (Option Blk)}{nb:Nat}{t:TypeId}{x y:Operand}{R:OpR}{p:Prop}
  (ho:o.op = .store t x y) (hr:M1 P t (ev x) (ev y) hp=some (R,p)) (hpp:p):Aq P o ev (nth hp) nb R/\R.fits (nth hp)/\R.dead=[]:=by
 generalize hx:ev x=u at hr;unfold M1 at hr;split at hr
 case h_2=>cases hr
 rename_i b i j s ag ht;split at hr
 case h_2=>cases hr
 rename_i blk hb hc;simp only[VD] at hc;obtain⟨⟨⟨hk,h1⟩,hl⟩,hs1⟩:=hc;have hl:=VC hl;have hs1:=VC hs1;subst hs1;split at hr
 case h_2=>cases hr
 rename_i cs y1 hw he hy;split at hr
 case h_2=>cases hr
 rename_i cs' hcz hset;have hcz:=VC hcz;cases hr;obtain⟨g1,g2⟩:=Un hset;refine⟨JR ho hx hb hw ht hk hl h1 (Vx.1 he).1 hpp (by show cs'.length=blk.z;rw[g1,hcz]) fun k c hkc=>?_,Jn hb hw,rfl⟩;rcases g2 k c hkc with ⟨a1,a2⟩ | ⟨a1,a2⟩
 .refine .inl ⟨by omega,by omega,?_⟩;rw[hy,show k-j=0 by omega,a2];rfl
 .exact .inr ⟨by omega,_,he,a2⟩
def Pj(P:Program)(t:TypeId)(x:AV)(hp:List (Option Blk))(hint:AF):Option (OpR×Prop):=
 match hint with
 | .el (.tup [v])=>P5 P t x hp v
 | hint=>NM P t x hp hint
theorem Th{o:Oper}{ev:Operand->AV}{hp:List (Option Blk)}{nb:Nat}{t:TypeId}{x:Operand}{hint:AF}{R:OpR}{p:Prop}
  (ho:o.op = .load t x) (hr:Pj P t (ev x) hp hint=some (R,p)) (hpp:p):Aq P o ev (nth hp) nb R/\R.fits (nth hp)/\R.dead=[]:=by
 unfold Pj at hr;split at hr
 .exact U9 ho hr hpp
 .exact TT ho hr hpp
def Gk(P:Program)(t:TypeId)(x y:AV)(hp:List (Option Blk))(hint:AF):Option (OpR×Prop):=
 match hint with
 | .el (.tup (.unk::_))=>M1 P t x y hp
 | .el (.tup _)=>Ly P t x y hp
 | hint=>L6 P t x y hp hint
theorem S5{o:Oper}{ev:Operand->AV}{hp:List (Option Blk)}{nb:Nat}{t:TypeId}{x y:Operand}{hint:AF}{R:OpR}{p:Prop}
  (ho:o.op = .store t x y) (hr:Gk P t (ev x) (ev y) hp hint=some (R,p)) (hpp:p):Aq P o ev (nth hp) nb R/\R.fits (nth hp)/\R.dead=[]:=by
 unfold Gk at hr;split at hr
 .exact Ts ho hr hpp
 .exact Ur ho hr hpp
 .exact Tm ho hr hpp
def aIdx(P:Program)(t:TypeId)(x y:AV)(hp:List (Option Blk))(hint:AF):Option (OpR×Prop):=
 match x,y,Bv P t with
 | .sl b i n,.int _ m,some (none,z)=>
  match nth hp b with
  | some blk=>match Nat.beq blk.z z with
   | true=>some ({v:=.ptr b (i+m.toNat) 0},0<=m/\m<n)
   | false=>none
  | none=>none
 | .lst es,.int _ m,some (none,z)=>
  match hint with
  | .el e=>match Nat.beq e.cells.length z with
   | true=>some ({v:=.iptr e.cells},0<=m/\es[m.toNat]?=some e)
   | false=>none
  | _=>match es[m.toNat]? with
   | some e=>match Nat.beq e.cells.length z with
    | true=>some ({v:=.iptr e.cells},0<=m)
    | false=>none
   | none=>none
 | .ptr b i j,.int _ m,some (some n,z)=>some ({v:=.ptr b i (j+m.toNat * z)},0<=m/\m<n)
 | _,_,_=>none
theorem Uw{o:Oper}{ev:Operand->AV}{hp:List (Option Blk)}{nb:Nat}{t:TypeId}{x y:Operand}{hint:AF}{R:OpR}{p:Prop}
  (ho:o.op = .indexAddr t x y) (hr:aIdx P t (ev x) (ev y) hp hint=some (R,p)) (hpp:p):Aq P o ev (nth hp) nb R/\R.fits (nth hp)/\R.dead=[]:=by
 generalize hx:ev x=u at hr;generalize hy:ev y=v at hr;unfold aIdx at hr;split at hr
 .rename_i b i n k m z ht;split at hr
  case h_2=>cases hr
  rename_i blk hb;split at hr
  .rename_i hz;cases hr;exact⟨DF ho hx hy ht hb (VC hz) hpp,OpR.fits_value _ _,rfl⟩
  .cases hr
 .rename_i es k m z ht;split at hr
  .rename_i e;split at hr
   .rename_i hz;cases hr;exact⟨C2 ho hx hy ht hpp.1 hpp.2 (VC hz),OpR.fits_value _ _,rfl⟩
   .cases hr
  .split at hr
   case h_2=>cases hr
   rename_i e he;split at hr
   .rename_i hz;cases hr;exact⟨C2 ho hx hy ht hpp he (VC hz),OpR.fits_value _ _,rfl⟩
   .cases hr
 .rename_i b i j k m n z ht;cases hr;exact⟨UN ho hx hy ht hpp,OpR.fits_value _ _,rfl⟩
 .cases hr
def cutL(es:List AV)(l u:Int):AV:=.lst ((es.drop l.toNat).take (u.toNat-l.toNat))
def cutC(es:List AV)(l u:Int):AV:=.lstc ((es.drop l.toNat).take (u.toNat-l.toNat))
def Oy(P:Program)(t:TypeId)(x:AV)(lo hi mx:Option AV):Bool:=
 match x,lo,hi,mx,Bv P t with
 | .lst _,none,some (.int _ u),some (.int _ m),some (none,_)=>match u,m with
  | .ofNat 0,.ofNat 0=>true
  | _,_=>false
 | _,_,_,_,_=>false
theorem Tt{t:TypeId}{x:AV}{lo hi mx:Option AV}(h:Oy P t x lo hi mx=true):∃es ky kq z,x = .lst es/\lo=none/\hi=some (.int ky 0)/\mx=some (.int kq 0)/\Bv P t=some (none,z):=by
 unfold Oy at h;split at h
 case h_2=>cases h
 rename_i es ky u kq m z he;split at h
 case h_2=>cases h
 exact⟨es,ky,kq,z,rfl,rfl,rfl,rfl,he⟩
def Mt(P:Program)(t:TypeId)(x:AV)(lo hi mx:Option AV)(hp:List (Option Blk)):Option (OpR×Prop):=
 match Oy P t x lo hi mx with
 | true=>some ({v:=.sl 1000000 0 0},True)
 | false=>
 let bd (o:Option AV) (d:Int):Option Int:=match o with | none=>some d | some (.int _ n)=>some n | _=>none
 match mx.isSome&&!hi.isSome with
 | true=>none
 | false=>
  match x,Bv P t with
  | .sl b i n,some (none,z)=>
   match nth hp b,bd lo 0,bd hi n,bd mx n with
   | some blk,some l,some u,some m=>match Nat.beq blk.z z with
    | true=>some ({v:=.sl b (i+l.toNat) (u.toNat-l.toNat)},0<=l/\l<=u/\u<=m/\m<=n)
    | false=>none
   | _,_,_,_=>none
  | .lst es,some (none,z)=>
   match bd lo 0,bd hi es.length,bd mx es.length with
   | some l,some u,some m=>match mx.isSome with
    | true=>some ({v:=cutC es l u},(∀e∈es,e.cells.length=z)/\0<=l/\l<=u/\u=m/\m<=es.length)
    | false=>some ({v:=cutL es l u},(∀e∈es,e.cells.length=z)/\0<=l/\l<=u/\u<=m/\m<=es.length)
   | _,_,_=>none
  | .ptr b i 0,some (some n,z)=>
   match nth hp b,bd lo 0,bd hi n,bd mx n with
   | some blk,some l,some u,some m=>match Nat.beq blk.z z&&blk.mp.isNone with
    | true=>some ({v:=.sl b (i+l.toNat) (u.toNat-l.toNat)},(0<=l/\l<=u/\u<=m/\m<=n)/\i+n<=blk.es.length)
    | false=>none
   | _,_,_,_=>none
  | _,_=>none
theorem TG{o:Oper}{ev:Operand->AV}{hp:List (Option Blk)}{nb:Nat}{t:TypeId}{x:Operand}{lo hi mx:Option Operand}{R:OpR}{p:Prop}
  (ho:o.op = .slice t x lo hi mx) (hr:Mt P t (ev x) (lo.map ev) (hi.map ev) (mx.map ev) hp=some (R,p)) (hpp:p):Aq P o ev (nth hp) nb R/\R.fits (nth hp)/\R.dead=[]:=by
 have bdeq:∀(q:Option Operand) (d:Int),(match q.map ev with | none=>some d | some (.int _ n)=>some n | _=>none:Option Int)=bnd ev q d:=by
  intro q d;cases q with
  | none=>rfl
  | some q=>simp only[Option.map_some,bnd]
            cases ev q<;>rfl
 generalize hx:ev x=u at hr;unfold Mt at hr;split at hr
 .rename_i hE;cases hr;obtain⟨es,ky,kq,z,rfl,h2,h3,h4,h5⟩:=Tt hE;cases lo with
  | some _=>simp at h2
  | none=>
   cases hi with
   | none=>simp at h3
   | some y=>
    cases mx with
    | none=>simp at h4
    | some q=>simp only[Option.map_some,Vc] at h3 h4;exact⟨U4 ho hx h5 h3 h4,OpR.fits_value _ _,rfl⟩
 rename_i hF;clear hF;simp only[bdeq] at hr;split at hr
 case h_1=>cases hr
 rename_i hmx;have hmx:mx.isSome=true->hi.isSome=true:=by intro h;simp[h] at hmx;simpa using hmx
 split at hr
 .rename_i b i n z ht;split at hr
  .rename_i blk l u m hb hl hu hm;split at hr
   .rename_i hz;cases hr;exact⟨P2 ho hx ht hb (VC hz) hl hu hm hmx hpp,OpR.fits_value _ _,rfl⟩
   .cases hr
  .cases hr
 .rename_i es z ht;split at hr
  .rename_i l u m hl hu hm;split at hr
   .rename_i hms;cases hr;exact⟨Te ho hx ht hpp.1 hl hu hm hmx (by simpa using hms) hpp.2,OpR.fits_value _ _,rfl⟩
   .cases hr;exact⟨U5 ho hx ht hpp.1 hl hu hm hmx hpp.2,OpR.fits_value _ _,rfl⟩
  .cases hr
 .rename_i b i n z ht;split at hr
  .rename_i blk l u m hb hl hu hm;split at hr
   .rename_i hz;cases hr;simp only[VD,Option.isNone_iff_eq_none] at hz;exact⟨UZ ho hx ht hb (VC hz.1) hl hu hm hmx hpp.1 hpp.2 hz.2,OpR.fits_value _ _,rfl⟩
   .cases hr
  .cases hr
 .cases hr
def aLen(P:Program)(t:TypeId)(x:AV):Option (OpR×Prop):=
 match unL P t,x with
 | true,.sl _ _ n=>vOp (.int .i64 n)
 | true,.lst es=>vOp (.int .i64 es.length)
 | true,.lstc es=>vOp (.int .i64 es.length)
 | true,.nils=>vOp (.int .i64 (0:Nat))
 | false,.str s=>match unS P t with
  | true=>vOp (.int .i64 s.size)
  | false=>none
 | false,_=>match unA P t with
  | some n=>vOp (.int .i64 n)
  | none=>none
 | _,_=>none
theorem TF{o:Oper}{ev:Operand->AV}{h:Hp}{nb:Nat}{ts:Array TypeId}{t:TypeId}{x:Operand}{R:OpR}{p:Prop}
  (ho:o.op = .call {callee:=.builtin .len,args:=#[x],argTypes:=ts}) (hts:ts[0]?=some t) (hr:aLen P t (ev x)=some (R,p)):Aq P o ev h nb R/\R.fits h/\R.dead=[]:=by
 have hsl:unL P t=true->∃e,P.underlying t=some (.slice e):=by
  intro hu;unfold unL at hu;split at hu
  .rename_i e he;exact⟨e,he⟩
  .cases hu
 generalize hx:ev x=u at hr;unfold aLen at hr;split at hr
 .rename_i b i n hu;cases hr;obtain⟨e,he⟩:=hsl hu;exact⟨KU ho hts he (.inl ⟨_,_,hx⟩),OpR.fits_value _ _,rfl⟩
 .rename_i es hu;cases hr;obtain⟨e,he⟩:=hsl hu;exact⟨KU ho hts he (.inr (.inl ⟨_,hx,rfl⟩)),OpR.fits_value _ _,rfl⟩
 .rename_i es hu;cases hr;obtain⟨e,he⟩:=hsl hu;exact⟨ok_len_c ho hts he hx,OpR.fits_value _ _,rfl⟩
 .rename_i hu;cases hr;obtain⟨e,he⟩:=hsl hu;exact⟨KU ho hts he (.inr (.inr ⟨hx,rfl⟩)),OpR.fits_value _ _,rfl⟩
 .split at hr
  .rename_i hu;cases hr;refine⟨Ui ho hts ?_ hx,OpR.fits_value _ _,rfl⟩;unfold unS at hu;split at hu
   .assumption
   .cases hu
  .cases hr
 .split at hr
  .rename_i n hu;cases hr;unfold unA at hu;split at hu
   .rename_i m e he;cases hu;exact⟨Ue ho hts he,OpR.fits_value _ _,rfl⟩
   .cases hu
  .cases hr
 .cases hr
def Lw(P:Program)(t:TypeId)(x y:AV)(hp:List (Option Blk)):Option (OpR×Prop):=
 match Cl P t,Ca (nth hp) y with
 | some (_,z,by_),some src=>
  match x with
  | .nils=>some ({v:=.sl hp.length 0 src.length,new:=[{es:=src,z,flat:=Bd (nth hp) y}]},
    BG (nth hp) z y/\src.length<=9223372036854775807/\src.length * by_<=140737488355328)
  | .sl b 0 n=>match nth hp b with
   | some blk=>match blk.wr&&Nat.beq blk.z z with
    | true=>some ({v:=.sl hp.length 0 (blk.es.length+src.length),dead:=[b],new:=[{es:=blk.es++src,z,flat:=blk.flat&&Bd (nth hp) y}]},
      blk.es.length=n/\BG (nth hp) z y/\blk.es.length+src.length<=9223372036854775807/\(blk.es.length+src.length) * by_<=140737488355328)
    | false=>none
   | none=>match n with
    | 0=>match Nat.ble hp.length b with
     | true=>some ({v:=.sl hp.length 0 src.length,new:=[{es:=src,z,flat:=Bd (nth hp) y}]},
       BG (nth hp) z y/\src.length<=9223372036854775807/\src.length * by_<=140737488355328)
     | false=>none
    | _=>none
  | .lstc es=>some ({v:=.sl hp.length 0 (es.length+src.length),new:=[{es:=es++src,z,flat:=Bd (nth hp) y}]},
    (∀e∈es,e.cells.length=z)/\BG (nth hp) z y/\0<src.length/\es.length+src.length<=9223372036854775807/\(es.length+src.length) * by_<=140737488355328)
  | _=>none
 | _,_=>none
theorem Sf{o:Oper}{ev:Operand->AV}{hp:List (Option Blk)}{t:TypeId}{x y:Operand}{R:OpR}{p:Prop}
  (ho:o.op = .call {callee:=.builtin .append,args:=#[x,y],argTypes:=#[t,t]}) (hr:Lw P t (ev x) (ev y) hp=some (R,p)) (hpp:p):
  Aq P o ev (nth hp) hp.length R/\R.fits (nth hp):=by
 generalize hx:ev x=u at hr;unfold Lw at hr;split at hr
 case h_2=>cases hr
 rename_i e z by_ src ht hs;split at hr
 .cases hr;refine⟨?_,fun b blk hm=>by simp at hm,fun b hm=>by simp at hm⟩;have:=K0 (nb:=hp.length) (old:=[]) (dead:=[]) (fl:=true) ho ht (.inl ⟨.inl hx,rfl,rfl,rfl⟩) hs hpp.1 (by simpa using hpp.2.1) (by simpa using hpp.2.2);simpa using this
 .rename_i b n;split at hr
  case h_2=>
   split at hr
   case h_2=>cases hr
   split at hr
   case h_2=>cases hr
   rename_i hble;cases hr;refine⟨?_,fun b blk hm=>by simp at hm,fun b hm=>by simp at hm⟩;have:=K0 (nb:=hp.length) (old:=[]) (dead:=[]) (fl:=true) ho ht (.inl ⟨.inr ⟨b,VU hble,hx⟩,rfl,rfl,rfl⟩) hs hpp.1 (by simpa using hpp.2.1) (by simpa using hpp.2.2);simpa using this
  rename_i blk hb;split at hr
  case h_2=>cases hr
  rename_i hc;simp only[VD] at hc;cases hr;refine⟨?_,fun b blk hm=>by simp at hm,fun b' hm=>?_⟩
  .exact K0 (nb:=hp.length) (old:=blk.es) (dead:=[b]) (fl:=blk.flat) ho ht (.inr ⟨b,n,blk,hx,hb,VC hc.2,hc.1,rfl,rfl,hpp.1,rfl⟩) hs hpp.2.1 hpp.2.2.1 hpp.2.2.2
  .simp at hm;subst hm;exact⟨⟨blk,hb,hc.1⟩,rfl⟩
 .cases hr;exact⟨U3 ho ht hx hpp.1 hs hpp.2.1 hpp.2.2.1 hpp.2.2.2.1 hpp.2.2.2.2,fun b blk hm=>by simp at hm,fun b hm=>by simp at hm⟩
 .cases hr
def My(P:Program)(t:TypeId)(x y:AV)(hp:List (Option Blk)):Option (OpR×Prop):=
 match Cl P t,Ca (nth hp) y,x with
 | some (_,z,_),some src,.sl b i n=>
  match nth hp b with
  | some blk=>match blk.wr&&Nat.beq blk.z z with
   | true=>some ({v:=.int .i64 (min src.length n:Nat),chg:=[(b,{blk with es:=blk.es.take i++src.take (min src.length n)++blk.es.drop (i+min src.length n),flat:=blk.flat&&Bd (nth hp) y})]},
     i+n<=blk.es.length/\BG (nth hp) z y)
   | false=>none
  | none=>none
 | _,_,_=>none
theorem US{o:Oper}{ev:Operand->AV}{hp:List (Option Blk)}{nb:Nat}{t t':TypeId}{x y:Operand}{R:OpR}{p:Prop}
  (ho:o.op = .call {callee:=.builtin .copy,args:=#[x,y],argTypes:=#[t,t']}) (hr:My P t (ev x) (ev y) hp=some (R,p)) (hpp:p):
  Aq P o ev (nth hp) nb R/\R.fits (nth hp)/\R.dead=[]:=by
 generalize hx:ev x=u at hr;unfold My at hr;split at hr
 case h_2=>cases hr
 rename_i e z by_ src b i n ht hs;split at hr
 case h_2=>cases hr
 rename_i blk hb;split at hr
 case h_2=>cases hr
 rename_i hc;simp only[VD] at hc;cases hr;refine⟨ok_copy ho ht hx hb (VC hc.2) hc.1 hpp.1 hs hpp.2,⟨fun b' blk'' hm=>?_,fun b hm=>by simp at hm⟩,rfl⟩;simp only[Vn,Vm] at hm;obtain⟨rfl,rfl⟩:=hm;exact⟨blk,hb,hc.1⟩
def BZ:AV->Option Value
 | .int k n=>some (.int k n)
 | .str s=>some (.string s)
 | .bool b=>some (.bool b)
 | .fn f cs=>match cs with
  | []=>some (.func (.func f) #[] #[])
  | _=>none
 | _=>none
theorem Gi{a:AV}{kv v:Value}(h:BZ a=some kv)(hv:VR φ A w a v):v=kv:=by
 cases a with
 | fn f cs=>
  cases cs with
  | nil=>simp only[BZ] at h;cases h;obtain⟨vs,rfl,hl,_⟩:=hv.fn_inv;rw[List.eq_nil_of_length_eq_zero hl]
  | cons _ _=>simp[BZ] at h
 | bool b=>simp only[BZ] at h;cases h;exact hv.bool_inv
 | int k n=>simp only[BZ] at h;cases h;exact hv.int_inv
 | str s=>simp only[BZ] at h;cases h;exact hv.str_inv
 | _=>simp[BZ] at h
def BX:TypeDesc->Value->Bool | .bool,.bool _=>true | .int k,.int k' _=>decide (k'=k) | .string,.string _=>true | _,_=>false
theorem Ej{d:TypeDesc}{v:Value}(h:BX d v=true):MapKept.IsKey d v:=by
 unfold BX at h;split at h
 .trivial
 .have h:=of_decide_eq_true h;subst h;exact rfl
 .trivial
 .cases h
def Dc(P:Program)(t:TypeId):Option (TypeId×TypeDesc×TypeId):=match P.underlying t with
 | some (.map kt et)=>match P.underlying kt with
  | some d=>some (kt,d,et)
  | none=>none
 | _=>none
theorem I9{t kt et:TypeId}{d:TypeDesc}(h:Dc P t=some (kt,d,et)):P.underlying t=some (.map kt et)/\P.underlying kt=some d:=by
 unfold Dc at h;split at h
 .rename_i kt' et' h1;split at h
  .rename_i d' h2;simp at h;obtain⟨rfl,rfl,rfl⟩:=h;exact⟨h1,h2⟩
  .cases h
 .cases h
def FR(d:TypeDesc)(l:List MapEntry):Prop:=∀x∈l,MapKept.IsKey d x.key
def Bz(d:TypeDesc)(k:Value)(l:List MapEntry):Option (Nat×Value):=match Instr.findNow d k l 0 with
 | some r=>r
 | none=>none
theorem EL{d:TypeDesc}{k:Value}{l:List MapEntry}(hk:MapKept.IsKey d k)(hl:FR d l):
  (Instr.findNow d k l 0=some none/\Bz d k l=none/\∀x∈l,x.key≠k)\/∃j e,Instr.findNow d k l 0=some (some (j,e.val))/\Bz d k l=some (j,e.val)/\l[j]?=some e/\e.key=k:=by
 rcases MapKept.findNow_spec hk l 0 hl with ⟨h1,h2⟩ | ⟨j,e,h1,h2,h3⟩
 .exact .inl ⟨h1,by unfold Bz;rw[h1],h2⟩
 .rw[VL] at h1;exact .inr ⟨j,e,h1,by unfold Bz;rw[h1],h2,h3⟩
def FN(d:TypeDesc)(k:Value)(l:List MapEntry):Bool:=match Bz d k l with | some (_,.bool b)=>b | _=>false
def DE(d:TypeDesc)(k:Value)(l:List MapEntry):Int:=match Bz d k l with | some (_,.int _ n)=>n | _=>0
def Di(d:TypeDesc)(k:Value)(l:List MapEntry)(c:Nat):Nat:=match Bz d k l with | some (i,_)=>((l[i]?).map (·.born)).getD 0 | none=>c
def C9(d:TypeDesc)(k z:Value)(l:List MapEntry)(c:Nat):List MapEntry:=match Bz d k l with | some _=>l | none=>l++[{key:=k,val:=z,born:=c}]
def Bp(d:TypeDesc)(k:Value)(l:List MapEntry)(c:Nat):Nat:=match Bz d k l with | some _=>c | none=>c+1
def Fq(s:Int)(v:Value)(l:List MapEntry):List MapEntry:=match l.findIdx? (fun e=>((e.born:Nat):Int)==s) with | some i=>l.modify i (fun e=>{e with val:=v}) | none=>l
def BM(d:TypeDesc)(k v:Value)(l:List MapEntry)(c:Nat):List MapEntry:=match Bz d k l with | some (i,_)=>l.modify i (fun e=>{e with val:=v}) | none=>l++[{key:=k,val:=v,born:=c}]
def CK(d:TypeDesc)(k:Value)(l:List MapEntry):List MapEntry:=match Bz d k l with | some (i,_)=>l.eraseIdx i | none=>l
theorem Eff.wmap{h:Hp}{nb b r z:Nat}{blk:Blk}{m m':List MapEntry×Nat}{v:AV}{v':Value}
  (hA:∀r,A r->r<w.heap.size/\¬Mut φ h r) (hn:∀b,nb<=b->φ b=none) (hb:h b=some blk) (hw:blk.wr=true) (hφ:φ b=some (r,z)) (hm:blk.mp=some m) (hh:HR φ A w h) (hv:VR φ A w v v'):
  Eff φ A w h nb {v,chg:=[(b,{blk with mp:=some m'})]} v' {w with heap:=w.heap.setIfInBounds r (.map m'.1.toArray m'.2)} φ:=by
 have hr:blk.z=z/\blk.es=[]/\blk.z=0/\w.heap[r]?=some (.map m.1.toArray m.2):=by
  rcases hh.blk b blk hb with ⟨_,h0,_⟩ | ⟨_,_,_,_,_,⟨_,h0⟩,_⟩ | ⟨m2,r2,h1,h2,⟨h3,h4⟩,h5⟩
  .rw[hφ] at h0;cases h0
  .rw[hm] at h0;cases h0
  .rw[hφ] at h2;simp at h2;rw[hm] at h1;cases h1;exact⟨h2.2.symm,h3,h4,by rw[h2.1];exact h5⟩
 obtain⟨hz,hes,hz0,hr⟩:=hr;have hne:∀q,q≠r->({w with heap:=w.heap.setIfInBounds r (.map m'.1.toArray m'.2)}:World).heap[q]?=w.heap[q]?:=fun q hq=>(MapKept.heap_set hr).2 q hq
 have hAr:∀q,A q->q≠r:=fun q hq he=>(hA q hq).2 ⟨b,blk,z,hb,hw,by rw[he];exact hφ⟩
 have hrow:∀q,Bj w q<=Bj ({w with heap:=w.heap.setIfInBounds r (.map m'.1.toArray m'.2)}:World) q:=by
  intro q;by_cases hq:q=r
  .subst hq;unfold Bj;rw[hr];exact VI _
  .unfold Bj;rw[hne q hq];exact VH _
 refine⟨⟨rfl,rfl,rfl,by simp,fun q _ hq=>hne q fun he=>hq ⟨b,z,.inr ⟨{blk with mp:=some m'},Vn.2 rfl⟩,(by rw[he];exact hφ)⟩,hrow⟩,fun _ _=>rfl,
  fun b' hb'=>hn b' (by simpa using hb'),fun b' q z' hb' h1=>?_,fun b1 b2 q z1 z2 h1 _ h2 _=>?_,hv.mono (fun _ _ h=>h) (fun _ h=>.inl h) (fun q hq=>hne q (hAr q hq)) hrow,
  fun b' blk'' hmm=>(by simp at hmm;obtain⟨_,rfl⟩:=hmm;intro _;simp only;rw[hes];intro e he;cases he),fun blk'' hmm=>by simp at hmm,fun b' blk'' hmm=>?_,fun k blk'' hmm=>by simp at hmm⟩
 .rw[hn b' hb'] at h1;cases h1
 .rw[hn b1 h1] at h2;cases h2
 .simp only[Vn,Vm] at hmm;obtain⟨rfl,rfl⟩:=hmm;exact .inr (.inr ⟨m',r,rfl,by rw[hφ,hz],⟨hes,hz0⟩,(MapKept.heap_set hr).1⟩)
theorem HR.map{h:Hp}(hh:HR φ A w h){b:Nat}{blk:Blk}(hb:h b=some blk){m:List MapEntry×Nat}(hm:blk.mp=some m){r z:Nat}(hφ:φ b=some (r,z)):w.heap[r]?=some (.map m.1.toArray m.2):=by
 rcases hh.blk b blk hb with ⟨_,h0,_⟩ | ⟨_,_,_,_,_,⟨_,h0⟩,_⟩ | ⟨m2,r2,h1,h2,⟨h3,h4⟩,h5⟩
 .rw[hφ] at h0;cases h0
 .rw[hm] at h0;cases h0
 .rw[hφ] at h2;simp at h2;rw[hm] at h1;cases h1;rw[h2.1];exact h5
theorem UI{o:Oper}{ev:Operand->AV}{h:Hp}{nb:Nat}{t:TypeId}(ho:o.op = .makeMap t none):Aq P o ev h nb {v:=.map nb,new:=[{es:=[],z:=0,mp:=some ([],0)}]}:=by
 intro φ A w a K Q hA hv hh hn k;unfold Oper.wp;have hrun:(execOp a.eval o).run P w = .ok (.value (.map (some w.heap.size))) (w.alloc (.map #[] 0)):=by generalize a.eval=ρ;simp[execOp,ho,Instr.makeMap,Result.andThen]
 rw[hrun];have hnew:=(MapKept.heap_alloc w (.map #[] 0)).1;let φ':Phi:=fun b=>if b=nb then some (w.heap.size,0) else φ b
 have hφ:∀b x,φ b=some x->φ' b=some x:=fun b x hb=>by
  simp only[φ'];split
  .rename_i he;subst he;rw[hn b (VH _)] at hb;cases hb
  .exact hb
 refine k _ _ φ' ⟨⟨rfl,rfl,rfl,by simp,fun r hr _=>RowKit.Below.heap_alloc w _ r hr,Kr w _ _ rfl⟩,fun b hb=>?_,fun b hb=>?_,fun b r z' hb h1=>?_,fun b b' r z1 z2 hb hb' h1 h2=>?_,.map nb _ 0 (by simp[φ']),fun b blk hm=>(by simp at hm),fun blk hm=>(by simp at hm;subst hm;intro _ e he;cases he),fun b blk hm=>(by simp at hm),fun j blk hj=>?_⟩
 .simp only[φ'];rw[Vu (by omega)]
 .simp at hb;simp only[φ'];rw[Vu (by omega)];exact hn b (by omega)
 .simp only[φ'] at h1;split at h1
  .simp at h1;left;simp;omega
  .rw[hn b hb] at h1;cases h1
 .simp only[φ'] at h1 h2;by_cases e1:b=nb
  .by_cases e2:b'=nb
   .omega
   .rw[Vu e2,hn b' hb'] at h2;cases h2
  .rw[Vu e1,hn b hb] at h1;cases h1
 .match j,hj with
  | 0,hj=>simp at hj;subst hj;exact .inr (.inr ⟨([],0),w.heap.size,rfl,by simp[φ'],⟨rfl,rfl⟩,hnew⟩)
theorem Ut{o:Oper}{ev:Operand->AV}{h:Hp}{nb:Nat}{t kt et:TypeId}{d:TypeDesc}{x y:Operand}{b:Nat}{blk:Blk}{l:List MapEntry}{c:Nat}{kv zv:Value}{ti:TypeInfo}{v:AV}
  (ho:o.op = .lookup t x y false) (hx:ev x = .map b) (hb:h b=some blk) (hm:blk.mp=some (l,c)) (ht:Dc P t=some (kt,d,et)) (hk:BZ (ev y)=some kv) (hkd:BX d kv=true) (hl:FR d l)
  (hti:P.info? et=some ti) (hz:ti.zero=some zv) (hv:∀u,(Bz d kv l=none/\u=zv)\/(∃j e,Bz d kv l=some (j,e.val)/\l[j]?=some e/\u=e.val)->∀(φ:Phi) (A:Nat->Prop) (w:World),VR φ A w v u):Aq P o ev h nb {v}:=by
 refine .value fun φ A w ρ _ hvv hh=>?_
 obtain⟨h1,h2⟩:=I9 ht;have hx':=hvv x;rw[hx] at hx';obtain⟨r,z,hφ,hp⟩:=hx'.map_inv;have hy:=Gi hk (hvv y);have hr:=hh.map hb hm hφ;have hkk:=Ej hkd;have hzr:(zeroValue et).run P w = .ok zv w:=by simp[zeroValue,typeInfo,hti,hz,Result.andThen]
 rcases EL hkk hl with ⟨g1,g2,_⟩ | ⟨j,e,g1,g2,g3,_⟩
 .refine⟨zv,?_,hv zv (.inl ⟨g2,rfl⟩) φ A w⟩;simp[execOp,ho,hp,hy,Instr.lookup,run_underlying h1,MapKept.run_getObj_map hr,MapKept.run_checkKey h2 hkk,MapKept.run_findKey h2 g1,hzr,Result.andThen]
 .refine⟨e.val,?_,hv e.val (.inr ⟨j,e,g2,g3,rfl⟩) φ A w⟩;simp[execOp,ho,hp,hy,Instr.lookup,run_underlying h1,MapKept.run_getObj_map hr,MapKept.run_checkKey h2 hkk,MapKept.run_findKey h2 g1,Result.andThen]
def Dm(d:TypeDesc)(k:Value)(l:List MapEntry):Bool:=match Bz d k l with | some _=>true | none=>false
theorem Uc{o:Oper}{ev:Operand->AV}{h:Hp}{nb:Nat}{t kt et:TypeId}{d:TypeDesc}{x y:Operand}{b:Nat}{blk:Blk}{l:List MapEntry}{c:Nat}{kv zv:Value}{ti:TypeInfo}{v:AV}
  (ho:o.op = .lookup t x y true) (hx:ev x = .map b) (hb:h b=some blk) (hm:blk.mp=some (l,c)) (ht:Dc P t=some (kt,d,et)) (hk:BZ (ev y)=some kv) (hkd:BX d kv=true) (hl:FR d l)
  (hti:P.info? et=some ti) (hz:ti.zero=some zv) (hv:∀u,(Bz d kv l=none/\u=zv)\/(∃j e,Bz d kv l=some (j,e.val)/\l[j]?=some e/\u=e.val)->∀(φ:Phi) (A:Nat->Prop) (w:World),VR φ A w v u):Aq P o ev h nb {v:=.tup [v,.bool (Dm d kv l)]}:=by
 refine .value fun φ A w ρ _ hvv hh=>?_
 obtain⟨h1,h2⟩:=I9 ht;have hx':=hvv x;rw[hx] at hx';obtain⟨r,z,hφ,hp⟩:=hx'.map_inv;have hy:=Gi hk (hvv y);have hr:=hh.map hb hm hφ;have hkk:=Ej hkd;have hzr:(zeroValue et).run P w = .ok zv w:=by simp[zeroValue,typeInfo,hti,hz,Result.andThen]
 have tupOk:∀u b,VR φ A w v u->VR φ A w (.tup [v,.bool b]) (.tuple [u,.bool b].toArray):=fun u b hu=>
  .tup _ _ rfl fun i c' u' hc hu'=>by
   match i with
   | 0=>simp at hc hu';subst hc hu';exact hu
   | 1=>simp at hc hu';subst hc hu';exact .imm _ _ (.bool _)
   | i+2=>simp at hc
 rcases EL hkk hl with ⟨g1,g2,_⟩ | ⟨j,e,g1,g2,g3,_⟩
 .have e1:Dm d kv l=false:=by unfold Dm;rw[g2]
  refine⟨.tuple [zv,.bool (Dm d kv l)].toArray,?_,tupOk _ _ (hv zv (.inl ⟨g2,rfl⟩) φ A w)⟩;rw[e1];simp[execOp,ho,hp,hy,Instr.lookup,run_underlying h1,MapKept.run_getObj_map hr,MapKept.run_checkKey h2 hkk,MapKept.run_findKey h2 g1,hzr,Result.andThen]
 .have e1:Dm d kv l=true:=by unfold Dm;rw[g2]
  refine⟨.tuple [e.val,.bool (Dm d kv l)].toArray,?_,tupOk _ _ (hv e.val (.inr ⟨j,e,g2,g3,rfl⟩) φ A w)⟩;rw[e1];simp[execOp,ho,hp,hy,Instr.lookup,run_underlying h1,MapKept.run_getObj_map hr,MapKept.run_checkKey h2 hkk,MapKept.run_findKey h2 g1,Result.andThen]
theorem Up{o:Oper}{ev:Operand->AV}{h:Hp}{nb:Nat}{t kt et:TypeId}{d:TypeDesc}{x:Operand}{ts:Array TypeId}{b:Nat}{blk:Blk}{l:List MapEntry}{c:Nat}
  (ho:o.op = .call {callee:=.builtin .len,args:=#[x],argTypes:=ts}) (hts:ts[0]?=some t) (hx:ev x = .map b) (hb:h b=some blk) (hm:blk.mp=some (l,c)) (ht:Dc P t=some (kt,d,et)):Aq P o ev h nb {v:=.int .i64 l.length}:=by
 refine .value fun φ A w ρ _ hv hh=>⟨.int .i64 l.length,?_,.imm _ _ (.int _ _)⟩
 obtain⟨h1,h2⟩:=I9 ht;have hx':=hv x;rw[hx] at hx';obtain⟨r,z,hφ,hp⟩:=hx'.map_inv;have hr:=hh.map hb hm hφ;simp[execOp,ho,resolve,invoke,builtin,Builtin.len_,hts,run_underlying h1,hp,MapKept.run_getObj_map hr,goInt,Result.andThen]
theorem Ti{l:List MapEntry}{i:Nat}{f:MapEntry->MapEntry}(h:∀e,l[i]?=some e->f e=e):l.modify i f=l:=by
 apply List.ext_getElem?;intro j;rw[List.getElem?_modify];split
 .rename_i hij;subst hij;cases hj:l[i]? with
  | none=>rfl
  | some e=>simp[h e hj]
 .simp
theorem Us{o:Oper}{ev:Operand->AV}{h:Hp}{nb:Nat}{t kt et:TypeId}{d:TypeDesc}{x y:Operand}{b:Nat}{blk:Blk}{l:List MapEntry}{c:Nat}{kv zv:Value}{ti:TypeInfo}{ve:AV}
  (ho:o.op = .mapEntry t x y) (hx:ev x = .map b) (hb:h b=some blk) (hw:blk.wr=true) (hm:blk.mp=some (l,c)) (ht:Dc P t=some (kt,d,et)) (hk:BZ (ev y)=some kv) (hkd:BX d kv=true) (hl:FR d l)
  (hti:P.info? et=some ti) (hz:ti.zero=some zv) (hv:∀u,(Bz d kv l=none/\u=zv)\/(∃j e,Bz d kv l=some (j,e.val)/\l[j]?=some e/\u=e.val)->∀(φ:Phi) (A:Nat->Prop) (w:World),VR φ A w ve u):
  Aq P o ev h nb {v:=.tup [ve,.int .i64 (Di d kv l c)],chg:=[(b,{blk with mp:=some (C9 d kv zv l c,Bp d kv l c)})]}:=by
 intro φ A w a K Q hA hvv hh hn k;obtain⟨h1,h2⟩:=I9 ht;have hx':=hvv x;rw[hx] at hx';obtain⟨r,z,hφ,hp⟩:=hx'.map_inv;have hy:=Gi hk (hvv y);have hr:=hh.map hb hm hφ;have hkk:=Ej hkd;have hzr:(zeroValue et).run P w = .ok zv w:=by simp[zeroValue,typeInfo,hti,hz,Result.andThen]
 unfold Oper.wp;have tupOk:∀u,(∀(φ:Phi) (A:Nat->Prop) (w:World),VR φ A w ve u)->VR φ A w (.tup [ve,.int .i64 (Di d kv l c)]) (.tuple [u,.int .i64 (Di d kv l c)].toArray):=fun u hu=>
  .tup _ _ rfl fun i c' u' hc hu'=>by
   match i with
   | 0=>simp at hc hu';subst hc hu';exact hu φ A w
   | 1=>simp at hc hu';subst hc hu';exact .imm _ _ (.int _ _)
   | i+2=>simp at hc
 rcases EL hkk hl with ⟨g1,g2,_⟩ | ⟨j,e,g1,g2,g3,g4⟩
 .have e1:C9 d kv zv l c=l++[{key:=kv,val:=zv,born:=c}]:=by unfold C9;rw[g2]
  have e2:Bp d kv l c=c+1:=by unfold Bp;rw[g2]
  have e3:Di d kv l c=c:=by unfold Di;rw[g2]
  have hrun:(execOp a.eval o).run P w = .ok (.value (.tuple [zv,.int .i64 (Di d kv l c)].toArray)) {w with heap:=w.heap.setIfInBounds r (.map (C9 d kv zv l c).toArray (Bp d kv l c))}:=by rw[e1,e2,e3];generalize a.eval=ρ at *;simp[execOp,ho,hp,hy,Instr.mapEntry,run_underlying h1,MapKept.run_getObj_map hr,MapKept.run_checkKey h2 hkk,MapKept.run_findKey h2 g1,hzr,MapKept.run_setObj_map _ hr,goInt,Result.andThen]
  rw[hrun];exact k _ _ φ (Eff.wmap (m:=(l,c)) (m':=(C9 d kv zv l c,Bp d kv l c)) hA hn hb hw hφ hm hh (tupOk zv (hv zv (.inl ⟨g2,rfl⟩))))
 .have e1:C9 d kv zv l c=l:=by unfold C9;rw[g2]
  have e2:Bp d kv l c=c:=by unfold Bp;rw[g2]
  have e3:Di d kv l c=e.born:=by unfold Di;rw[g2];simp[g3]
  have hmod:l.modify j (fun e=>{e with key:=kv})=l:=Ti fun e' he'=>by rw[g3] at he';cases he';cases e;simp_all
  have hrun:(execOp a.eval o).run P w = .ok (.value (.tuple [e.val,.int .i64 (Di d kv l c)].toArray)) {w with heap:=w.heap.setIfInBounds r (.map (C9 d kv zv l c).toArray (Bp d kv l c))}:=by rw[e1,e2,e3];generalize a.eval=ρ at *;simp[execOp,ho,hp,hy,Instr.mapEntry,run_underlying h1,MapKept.run_getObj_map hr,MapKept.run_checkKey h2 hkk,MapKept.run_findKey h2 g1,g3,g4,MapKept.run_keyThatStays hkk,MapKept.run_setObj_map _ hr,goInt,hmod,Result.andThen]
  rw[hrun];exact k _ _ φ (Eff.wmap (m:=(l,c)) (m':=(C9 d kv zv l c,Bp d kv l c)) hA hn hb hw hφ hm hh (tupOk e.val (hv e.val (.inr ⟨j,e,g2,g3,rfl⟩))))
theorem U7{o:Oper}{ev:Operand->AV}{h:Hp}{nb:Nat}{t:TypeId}{x y q:Operand}{b:Nat}{blk:Blk}{l:List MapEntry}{c:Nat}{s:Int}{ki:IntKind}{vv:Value}
  (ho:o.op = .entryStore t x y q) (hx:ev x = .map b) (hb:h b=some blk) (hw:blk.wr=true) (hm:blk.mp=some (l,c)) (hy:ev y = .int ki s) (hq:BZ (ev q)=some vv) (hs:(l.findIdx? (fun e=>((e.born:Nat):Int)==s)).isSome=true):
  Aq P o ev h nb {v:=.unk,chg:=[(b,{blk with mp:=some (Fq s vv l,c)})]}:=by
 intro φ A w a K Q hA hvv hh hn k;have hx':=hvv x;rw[hx] at hx';obtain⟨r,z,hφ,hp⟩:=hx'.map_inv;have hy':=hvv y;rw[hy] at hy';have hy':=hy'.int_inv;have hq':=Gi hq (hvv q);have hr:=hh.map hb hm hφ;obtain⟨i,hi⟩:=Option.isSome_iff_exists.1 hs;unfold Oper.wp;have e1:Fq s vv l=l.modify i (fun e=>{e with val:=vv}):=by unfold Fq;rw[hi]
 have hrun:(execOp a.eval o).run P w = .ok .skip {w with heap:=w.heap.setIfInBounds r (.map (Fq s vv l).toArray c)}:=by rw[e1];generalize a.eval=ρ at *;simp[execOp,ho,hp,hy',hq',Instr.entryStore,MapKept.run_getObj_map hr,asInt,asIntOf,hi,MapKept.run_setObj_map _ hr,Result.andThen]
 rw[hrun];exact k undef _ φ (Eff.wmap (m:=(l,c)) (m':=(Fq s vv l,c)) hA hn hb hw hφ hm hh (.imm _ _ (.unk _)))
theorem QK{o:Oper}{ev:Operand->AV}{h:Hp}{nb:Nat}{t kt et:TypeId}{d:TypeDesc}{x y q:Operand}{b:Nat}{blk:Blk}{l:List MapEntry}{c:Nat}{kv vv:Value}
  (ho:o.op = .mapUpdate t x y q\/o.op = .insert t x y q) (hx:ev x = .map b) (hb:h b=some blk) (hw:blk.wr=true) (hm:blk.mp=some (l,c)) (ht:Dc P t=some (kt,d,et)) (hk:BZ (ev y)=some kv) (hkd:BX d kv=true) (hl:FR d l) (hq:BZ (ev q)=some vv):
  Aq P o ev h nb {v:=.unk,chg:=[(b,{blk with mp:=some (BM d kv vv l c,Bp d kv l c)})]}:=by
 intro φ A w a K Q hA hvv hh hn k;obtain⟨h1,h2⟩:=I9 ht;have hx':=hvv x;rw[hx] at hx';obtain⟨r,z,hφ,hp⟩:=hx'.map_inv;have hy:=Gi hk (hvv y);have hq':=Gi hq (hvv q);have hr:=hh.map hb hm hφ;have hkk:=Ej hkd;unfold Oper.wp;have hrun:(execOp a.eval o).run P w = .ok .skip {w with heap:=w.heap.setIfInBounds r (.map (BM d kv vv l c).toArray (Bp d kv l c))}:=by
  rcases EL hkk hl with ⟨g1,g2,_⟩ | ⟨j,e,g1,g2,g3,g4⟩
  .have e1:BM d kv vv l c=l++[{key:=kv,val:=vv,born:=c}]:=by unfold BM;rw[g2]
   have e2:Bp d kv l c=c+1:=by unfold Bp;rw[g2]
   rw[e1,e2];generalize a.eval=ρ at *;rcases ho with ho | ho<;>simp[execOp,ho,hp,hy,hq',Instr.mapUpdate,run_underlying h1,MapKept.run_getObj_map hr,MapKept.run_checkKey h2 hkk,MapKept.run_findKey h2 g1,MapKept.run_setObj_map _ hr,Result.andThen]
  .have e1:BM d kv vv l c=l.modify j (fun e=>{e with val:=vv}):=by unfold BM;rw[g2]
   have e2:Bp d kv l c=c:=by unfold Bp;rw[g2]
   have hmod:l.modify j (fun e=>{e with key:=kv,val:=vv})=l.modify j (fun e=>{e with val:=vv}):=by
    apply List.ext_getElem?;intro i;rw[List.getElem?_modify,List.getElem?_modify];by_cases hij:j=i
    .subst hij;rw[g3];cases e;simp_all
    .simp[hij]
   rw[e1,e2];generalize a.eval=ρ at *;rcases ho with ho | ho<;>simp[execOp,ho,hp,hy,hq',Instr.mapUpdate,run_underlying h1,MapKept.run_getObj_map hr,MapKept.run_checkKey h2 hkk,MapKept.run_findKey h2 g1,g3,g4,MapKept.run_keyThatStays hkk,MapKept.run_setObj_map _ hr,hmod,Result.andThen]
 rw[hrun];exact k undef _ φ (Eff.wmap (m:=(l,c)) (m':=(BM d kv vv l c,Bp d kv l c)) hA hn hb hw hφ hm hh (.imm _ _ (.unk _)))
theorem Tw{o:Oper}{ev:Operand->AV}{h:Hp}{nb:Nat}{t kt et:TypeId}{d:TypeDesc}{x y:Operand}{b:Nat}{blk:Blk}{l:List MapEntry}{c:Nat}{kv:Value}{ts:Array TypeId}
  (ho:o.op = .call {callee:=.builtin .delete,args:=#[x,y],argTypes:=ts}) (hts:ts[0]?=some t) (hx:ev x = .map b) (hb:h b=some blk) (hw:blk.wr=true) (hm:blk.mp=some (l,c)) (ht:Dc P t=some (kt,d,et)) (hk:BZ (ev y)=some kv) (hkd:BX d kv=true) (hl:FR d l):
  Aq P o ev h nb {v:=.unk,chg:=[(b,{blk with mp:=some (CK d kv l,c)})]}:=by
 intro φ A w a K Q hA hvv hh hn k;obtain⟨h1,h2⟩:=I9 ht;have hx':=hvv x;rw[hx] at hx';obtain⟨r,z,hφ,hp⟩:=hx'.map_inv;have hy:=Gi hk (hvv y);have hr:=hh.map hb hm hφ;have hkk:=Ej hkd;unfold Oper.wp;have hrun:(execOp a.eval o).run P w = .ok (.value (.tuple #[])) {w with heap:=w.heap.setIfInBounds r (.map (CK d kv l).toArray c)}:=by
  rcases EL hkk hl with ⟨g1,g2,_⟩ | ⟨j,e,g1,g2,g3,g4⟩
  .have e1:CK d kv l=l:=by unfold CK;rw[g2]
   rw[e1];generalize a.eval=ρ at *;simp[execOp,ho,hp,hy,resolve,invoke,builtin,Builtin.delete_,hts,run_underlying h1,MapKept.run_getObj_map hr,MapKept.run_checkKey h2 hkk,MapKept.run_findKey h2 g1,MapKept.run_setObj_map _ hr,Result.andThen]
  .have e1:CK d kv l=l.eraseIdx j:=by unfold CK;rw[g2]
   rw[e1];generalize a.eval=ρ at *;have hjl:j<l.length:=(Vx.1 g3).1;simp[execOp,ho,hp,hy,resolve,invoke,builtin,Builtin.delete_,hts,run_underlying h1,MapKept.run_getObj_map hr,MapKept.run_checkKey h2 hkk,MapKept.run_findKey h2 g1,MapKept.run_setObj_map _ hr,Result.andThen,Array.eraseIdxIfInBounds,hjl]
 rw[hrun];exact k _ _ φ (Eff.wmap (m:=(l,c)) (m':=(CK d kv l,c)) hA hn hb hw hφ hm hh (.imm _ _ (.unk _)))
attribute [irreducible] Bz FN DE Di C9 Bp Fq BM CK
def bAt(s:ByteArray)(i:Nat):Int:=((s.data.toList.getD i 0).toNat:Int)
def CZ(s:ByteArray):List AV:=s.data.toList.map fun b=>.int .u8 (b.toNat:Int)
theorem UU{o:Oper}{ev:Operand->AV}{h:Hp}{nb:Nat}{t:TypeId}{x y:Operand}{s:ByteArray}{k:IntKind}{i:Int}
  (ho:o.op = .index t x y) (ht:P.underlying t=some .string) (hx:ev x = .str s) (hy:ev y = .int k i) (h0:0<=i) (h1:i<s.size):Aq P o ev h nb {v:=.int .u8 (bAt s i.toNat)}:=by
 refine .value fun φ A w ρ _ hv _=>⟨.int .u8 (bAt s i.toNat),?_,.imm _ _ (.int _ _)⟩
 have e1:=hv x;rw[hx] at e1;have e1:=e1.str_inv;have e2:=hv y;rw[hy] at e2;have e2:=e2.int_inv;have hlt:i.toNat<s.data.size:=by have:s.size=s.data.size:=rfl;omega
 have e3:bAt s i.toNat=((s[i.toNat]'hlt).toNat:Int):=by unfold bAt;rw[Vw,Vv (by simpa using hlt)];rfl
 rw[e3];simp[execOp,ho,e1,e2,run_index_string w t s k i ht,h0,h1]
theorem Ub{o:Oper}{ev:Operand->AV}{h:Hp}{nb:Nat}{t:TypeId}{x y y':Operand}{s:ByteArray}{k k':IntKind}{i j:Int}
  (ho:o.op = .slice t x (some y) (some y') none) (ht:P.underlying t=some .string) (hx:ev x = .str s) (hy:ev y = .int k i) (hy':ev y' = .int k' j) (h0:0<=i) (h1:i<=j) (h2:j<=s.size):Aq P o ev h nb {v:=.str (s.extract i.toNat j.toNat)}:=by
 refine .value fun φ A w ρ _ hv _=>⟨.string (s.extract i.toNat j.toNat),?_,.imm _ _ (.str _)⟩
 have e1:=hv x;rw[hx] at e1;have e1:=e1.str_inv;have e2:=hv y;rw[hy] at e2;have e2:=e2.int_inv;have e3:=hv y';rw[hy'] at e3;have e3:=e3.int_inv;simp[execOp,ho,e1,e2,e3,run_sliceAt_string (w:=w) t _ _ _ _ ht,run_slice_string w t s k k' i j ht h0 h1 h2]
theorem Ug{o:Oper}{ev:Operand->AV}{h:Hp}{nb:Nat}{t:TypeId}{x y:Operand}{s:ByteArray}{k:IntKind}{i:Int}
  (ho:o.op = .slice t x (some y) none none) (ht:P.underlying t=some .string) (hx:ev x = .str s) (hy:ev y = .int k i) (h0:0<=i) (h1:i<=s.size):Aq P o ev h nb {v:=.str (s.extract i.toNat s.size)}:=by
 refine .value fun φ A w ρ _ hv _=>⟨.string (s.extract i.toNat s.size),?_,.imm _ _ (.str _)⟩
 have e1:=hv x;rw[hx] at e1;have e1:=e1.str_inv;have e2:=hv y;rw[hy] at e2;have e2:=e2.int_inv;simp[execOp,ho,e1,e2,run_sliceAt_string (w:=w) t _ _ _ _ ht,run_slice_string_from_if (w:=w) t s k i ht,h0,h1]
theorem Uk{o:Oper}{ev:Operand->AV}{h:Hp}{nb:Nat}{src dst e:TypeId}{x:Operand}{s:ByteArray}{u:TypeDesc}
  (ho:o.op = .convert src dst x) (hs:P.underlying src=some u) (hd:P.underlying dst=some (.slice e)) (he:P.underlying e=some (.int .u8)) (hx:ev x = .str s):Aq P o ev h nb {v:=.lst (CZ s)}:=by
 intro φ A w a K Q hA hvv hh hn k;have e1:=hvv x;rw[hx] at e1;have e1:=e1.str_inv;unfold Oper.wp;have hrun:(execOp a.eval o).run P w = .ok (.value (.slice (some ⟨w.heap.size,0,none⟩) s.size (grownCap w s.size 0 e))) (Lib.bytesWorld w e s):=by generalize a.eval=ρ at *;simp[execOp,ho,e1,Lib.run_convert_string_bytes w src dst e s hs hd he,Result.andThen]
 rw[hrun];have hlen:(CZ s).length=s.size:=by simp[CZ]
 have hsz:=Lib.bytesWorld_size w e s;have hrow:∀r,Bj w r<=Bj (Lib.bytesWorld w e s) r:=by
  intro r;by_cases hr:r<w.heap.size
  .unfold Bj;rw[Lib.bytesWorld_at_old w e s r hr];exact VH _
  .unfold Bj;rw[Array.getElem?_eq_none (by omega)];exact VI _
 refine k _ _ φ ⟨⟨rfl,rfl,rfl,by omega,fun r hr _=>Lib.bytesWorld_at_old w e s r hr,hrow⟩,fun _ _=>rfl,fun b hb=>hn b (by simpa using hb),fun b r z hb h=>?_,fun b b' r z z' hb _ h _=>?_,?_,fun b blk hm=>(by simp at hm),fun blk hm=>(by simp at hm),fun b blk hm=>(by simp at hm),fun b blk hm=>(by simp at hm)⟩
 .rw[hn b hb] at h;cases h
 .rw[hn b hb] at h;cases h
 .refine .imm _ _ ?_;have:=RT.lst (A:=Bk A φ nb w (Lib.bytesWorld w e s)) (w:=Lib.bytesWorld w e s) (CZ s) w.heap.size 0 (grownCap w s.size 0 e) 1 (fun i _=>.int .u8 (bAt s i)) ?_ ?_ ?_ ?_ ?_ ?_
  .rw[hlen] at this;exact this
  .rw[hlen];exact grownCap_ge w s.size 0 e
  .intro _;refine .inr ⟨VH _,by rw[hsz];omega,?_⟩
   rintro⟨b,z,hb,h1⟩
   rw[hn b hb] at h1;cases h1
  .intro e' he';obtain⟨b,_,rfl⟩:=V0.1 he';rfl
  .intro e' he' c hc;obtain⟨b,_,rfl⟩:=V0.1 he';simp[AV.cells] at hc;subst hc;rfl
  .intro i j hi hj;have hj0:j=0:=by omega
   subst hj0;rw[hlen] at hi;have:=Lib.bytesWorld_cell w e s i hi;simpa [bAt] using this
  .intro i j e' c hi hj;unfold CZ at hi;rw[VF] at hi;cases hg:s.data.toList[i]? with
   | none=>rw[hg] at hi;cases hi
   | some b=>
    rw[hg] at hi;simp at hi;subst hi;match j,hj with
    | 0,hj=>simp[AV.cells] at hj;subst hj;simp only[bAt];rw[Vw,hg];exact .int _ _
def Pf:AV->Option UInt8 | .int .u8 n=>some (UInt8.ofNat n.toNat) | _=>none
def Km:AV->Bool | .int .u8 n=>decide (0<=n)&&decide (n<256) | _=>false
def DD(es:List AV):ByteArray:=⟨(es.filterMap Pf).toArray⟩
theorem UC{a:AV}(h:Km a=true):∃b:UInt8,a = .int .u8 (b.toNat:Int)/\Pf a=some b:=by
 unfold Km at h;split at h
 .rename_i n;simp only[VD,decide_eq_true_eq] at h;refine⟨UInt8.ofNat n.toNat,?_,rfl⟩;have:(UInt8.ofNat n.toNat).toNat=n.toNat:=by simp;omega
  rw[this,VW h.1]
 .cases h
theorem Rj:∀{es:List AV},es.all Km=true->∃l:List UInt8,es=l.map (fun b=>AV.int .u8 (b.toNat:Int))/\es.filterMap Pf=l
 | [],_=>⟨[],rfl,rfl⟩
 | a::es,h=>by simp only[List.all_cons,VD] at h;obtain⟨b,h1,h2⟩:=UC h.1;obtain⟨l,h3,h4⟩:=Rj h.2;exact⟨b::l,by rw[h1,h3];rfl,by rw[List.filterMap_cons,h2,h4]⟩
theorem Ux{o:Oper}{ev:Operand->AV}{h:Hp}{nb:Nat}{src dst e:TypeId}{x:Operand}{b n:Nat}{blk:Blk}
  (ho:o.op = .convert src dst x) (hs:P.underlying src=some (.slice e)) (he:P.underlying e=some (.int .u8)) (hd:P.underlying dst=some .string)
  (hx:ev x = .sl b 0 n) (hb:h b=some blk) (hz:blk.z=1) (hn:blk.es.length=n) (h0:n≠0) (hmp:blk.mp=none) (hby:blk.es.all Km=true):Aq P o ev h nb {v:=.str (DD blk.es)}:=by
 refine .value fun φ A w ρ _ hv hh=>⟨.string (DD blk.es),?_,.imm _ _ (.str _)⟩
 have hx':=hv x;rw[hx] at hx';obtain⟨l,hl1,hl2⟩:=Rj hby;have hln:l.length=n:=by rw[<-hn,hl1];simp
 rcases hx'.sl_inv with ⟨h1,_⟩ | ⟨r,z,cap,hφ,hnc,hr,he'⟩
 .exact absurd h1 h0
 .rw[Nat.zero_mul,<-hln] at he';rcases hh.blk b blk hb with ⟨_,g0,_⟩ | ⟨r',cs,T,hφ',hrow,_,hel⟩ | ⟨_,_,g0,_⟩
  .rw[hφ] at g0;cases g0
  case inr.inr=>rw[hmp] at g0;cases g0
  rw[hφ] at hφ';cases hφ';have hcell:∀j (hj:j<l.length),w.cell? ((⟨r,0,none⟩:Addr).add j)=some (.int .u8 (l[j].toNat:Int)):=by
   intro j hj;have hej:blk.es[j]?=some (.int .u8 (l[j].toNat:Int)):=by rw[hl1];simp[hj]
   obtain⟨_,g⟩:=hel j _ hej;obtain⟨_,v,hv1,hv2⟩:=g 0 _ rfl;have hv2:=hv2.int_inv;subst hv2;rw[Addr.add_lit];simp only[World.cell?];rw[hrow];simpa [hz] using hv1
  simp[execOp,ho,he',run_convert_bytes_back w src dst e ⟨r,0,none⟩ cap l hs he hd hcell,DD,hl2,Result.andThen]
attribute [irreducible] bAt CZ DD
inductive MK where | b | i (k:IntKind) | f
def Js:MK->Value | .b=>.bool false | .i k=>.int k 0 | .f=>.nilFunc
def D5:MK->Value->Prop | .b,.bool _=>True | .i k,.int k' _=>k'=k | .f,v=>∃f,v = .func (.func f) #[] #[] | _,_=>False
def Cf(d:TypeDesc)(mk:MK)(l:List MapEntry):Prop:=∀x∈l,BX d x.key=true/\D5 mk x.val
def CL(mk:MK)(d:TypeDesc)(kv:Value)(l:List MapEntry):AV:=match mk with
 | .b=>.bool (FN d kv l)
 | .i k=>.int k (DE d kv l)
 | .f=>match Bz d kv l with
  | some (_,.func (.func f) _ _)=>.fn f []
  | _=>.unk
def Mi(P:Program)(et:TypeId):Option MK:=match P.info? et with
 | some ti=>match ti.zero with
  | some (.bool false)=>some .b
  | some .nilFunc=>some .f
  | some (.int k n)=>match n with
   | .ofNat 0=>some (.i k)
   | _=>none
  | _=>none
 | none=>none
theorem Mw{et:TypeId}{mk:MK}(h:Mi P et=some mk):∃ti,P.info? et=some ti/\ti.zero=some (Js mk):=by
 unfold Mi at h;split at h
 .rename_i ti hi;split at h
  .rename_i hz;cases h;exact⟨ti,hi,hz⟩
  .rename_i hz;cases h;exact⟨ti,hi,hz⟩
  .rename_i k n hz;split at h
   .cases h;exact⟨ti,hi,hz⟩
   .cases h
  .cases h
 .cases h
def E3(P:Program)(t:TypeId):Option (TypeDesc×MK):=match Dc P t with
 | some (_,d,et)=>match Mi P et with
  | some mk=>some (d,mk)
  | none=>none
 | none=>none
theorem H0{t:TypeId}{d:TypeDesc}{mk:MK}(h:E3 P t=some (d,mk)):∃kt et,Dc P t=some (kt,d,et)/\Mi P et=some mk:=by
 unfold E3 at h;split at h
 .rename_i kt d' et h1;split at h
  .rename_i mk' h2;simp at h;obtain⟨rfl,rfl⟩:=h;exact⟨kt,et,h1,h2⟩
  .cases h
 .cases h
theorem Cf.keys{d:TypeDesc}{mk:MK}{l:List MapEntry}(h:Cf d mk l):FR d l:=fun x hx=>Ej (h x hx).1
theorem Cf.val{d:TypeDesc}{mk:MK}{l:List MapEntry}{kv:Value}(h:Cf d mk l):∀u,(Bz d kv l=none/\u=Js mk)\/(∃j e,Bz d kv l=some (j,e.val)/\l[j]?=some e/\u=e.val)->∀(φ:Phi) (A:Nat->Prop) (w:World),VR φ A w (CL mk d kv l) u:=by
 intro u hu φ A w;rcases hu with ⟨h1,rfl⟩ | ⟨j,e,h1,h2,rfl⟩
 .cases mk with
  | b=>simp only[CL,FN,h1,Js];exact .imm _ _ (.bool _)
  | i k=>simp only[CL,DE,h1,Js];exact .imm _ _ (.int _ _)
  | f=>simp only[CL,h1];exact .imm _ _ (.unk _)
 .have:=(h e (Vz h2)).2;cases mk with
  | b=>
   cases hv:e.val<;>rw[hv] at this<;>simp[D5] at this;simp only[CL,FN,h1,hv];exact .imm _ _ (.bool _)
  | i k=>
   cases hv:e.val<;>rw[hv] at this<;>simp[D5] at this;subst this;simp only[CL,DE,h1,hv];exact .imm _ _ (.int _ _)
  | f=>obtain⟨f,hv⟩:=this;simp only[CL,h1,hv];exact .fn f [] [] rfl fun i c u hc=>by simp at hc
def DI(x:AV)(hp:List (Option Blk)):Option (Nat×Blk×List MapEntry×Nat):=match x with
 | .map b=>match nth hp b with
  | some blk=>match blk.mp with
   | some (l,c)=>some (b,blk,l,c)
   | none=>none
  | none=>none
 | _=>none
theorem EJ{x:AV}{hp:List (Option Blk)}{b:Nat}{blk:Blk}{l:List MapEntry}{c:Nat}(h:DI x hp=some (b,blk,l,c)):x = .map b/\nth hp b=some blk/\blk.mp=some (l,c):=by
 unfold DI at h;split at h
 case h_2=>cases h
 split at h
 case h_2=>cases h
 rename_i b' blk' h1;split at h
 case h_2=>cases h
 rename_i l' c' h2;simp at h;obtain⟨rfl,rfl,rfl,rfl⟩:=h;exact⟨rfl,h1,h2⟩
def Ez(d:TypeDesc)(y:AV):Option Value:=match BZ y with
 | some kv=>match BX d kv with
  | true=>some kv
  | false=>none
 | none=>none
theorem H4{d:TypeDesc}{y:AV}{kv:Value}(h:Ez d y=some kv):BZ y=some kv/\BX d kv=true:=by
 unfold Ez at h;split at h
 case h_2=>cases h
 rename_i kv' h1;split at h
 case h_2=>cases h
 rename_i h2;cases h;exact⟨h1,h2⟩
def NA(P:Program)(t:TypeId)(x y:AV)(hp:List (Option Blk)):Option (OpR×Prop):=
 match DI x hp,E3 P t with
 | some (_,_,l,_),some (d,mk)=>match Ez d y with
  | some kv=>some ({v:=CL mk d kv l},Cf d mk l)
  | none=>none
 | _,_=>none
theorem Ul{o:Oper}{ev:Operand->AV}{hp:List (Option Blk)}{nb:Nat}{t:TypeId}{x y:Operand}{R:OpR}{p:Prop}
  (ho:o.op = .lookup t x y false) (hr:NA P t (ev x) (ev y) hp=some (R,p)) (hpp:p):Aq P o ev (nth hp) nb R/\R.fits (nth hp)/\R.dead=[]:=by
 unfold NA at hr;split at hr
 case h_2=>cases hr
 rename_i b blk l c d mk h1 h2;split at hr
 case h_2=>cases hr
 rename_i kv h3;cases hr;obtain⟨hx,hb,hm⟩:=EJ h1;obtain⟨kt,et,ht,hz⟩:=H0 h2;obtain⟨ti,hti,hzv⟩:=Mw hz;obtain⟨hk,hkd⟩:=H4 h3;exact⟨Ut ho hx hb hm ht hk hkd hpp.keys hti hzv hpp.val,OpR.fits_value _ _,rfl⟩
def emA:Array Value->Bool | ⟨[]⟩=>true | _=>false
def Kf(d:TypeDesc):List MapEntry->Bool
 | []=>true
 | x::r=>match x.val with
  | .func (.func _) a b=>match BX d x.key with
   | true=>match emA a with
    | true=>match emA b with
     | true=>Kf d r
     | false=>false
    | false=>false
   | false=>false
  | _=>false
theorem QU{a:Array Value}(h:emA a=true):a = #[]:=by
 obtain⟨l⟩:=a;cases l with
 | nil=>rfl
 | cons _ _=>simp[emA] at h
theorem Oj{d:TypeDesc}:∀{l:List MapEntry},Kf d l=true->Cf d .f l
 | [],_=>fun x hx=>by cases hx
 | y::r,h=>fun x hx=>by
  unfold Kf at h;split at h
  .rename_i f a b hv;cases hk:BX d y.key with
   | false=>rw[hk] at h;cases h
   | true=>
    cases ha:emA a with
    | false=>rw[hk,ha] at h;cases h
    | true=>
     cases hb:emA b with
     | false=>rw[hk,ha,hb] at h;cases h
     | true=>
      rw[hk,ha,hb] at h;rcases VY.1 hx with rfl | hx
      .exact⟨hk,by rw[hv,QU ha,QU hb];exact⟨f,rfl⟩⟩
      .exact Oj h x hx
  .cases h
def Nr(P:Program)(t:TypeId)(x y:AV)(hp:List (Option Blk)):Option (OpR×Prop):=
 match DI x hp,E3 P t with
 | some (_,_,l,_),some (d,mk)=>match Ez d y with
  | some kv=>match mk with
   | .f=>match Kf d l with
    | true=>some ({v:=.tup [CL .f d kv l,.bool (Dm d kv l)]},True)
    | false=>none
   | _=>some ({v:=.tup [CL mk d kv l,.bool (Dm d kv l)]},Cf d mk l)
  | none=>none
 | _,_=>none
theorem T3{o:Oper}{ev:Operand->AV}{hp:List (Option Blk)}{nb:Nat}{t:TypeId}{x y:Operand}{R:OpR}{p:Prop}
  (ho:o.op = .lookup t x y true) (hr:Nr P t (ev x) (ev y) hp=some (R,p)) (hpp:p):Aq P o ev (nth hp) nb R/\R.fits (nth hp)/\R.dead=[]:=by
 unfold Nr at hr;split at hr
 case h_2=>cases hr
 rename_i b blk l c d mk h1 h2;split at hr
 case h_2=>cases hr
 rename_i kv h3;have hr:R={v:=.tup [CL mk d kv l,.bool (Dm d kv l)]}/\Cf d mk l:=by
  cases mk with
  | f=>
   simp only at hr;split at hr
   .rename_i hf;cases hr;exact⟨rfl,Oj hf⟩
   .cases hr
  | b=>cases hr;exact⟨rfl,hpp⟩
  | i k=>cases hr;exact⟨rfl,hpp⟩
 obtain⟨rfl,hpp⟩:=hr;obtain⟨hx,hb,hm⟩:=EJ h1;obtain⟨kt,et,ht,hz⟩:=H0 h2;obtain⟨ti,hti,hzv⟩:=Mw hz;obtain⟨hk,hkd⟩:=H4 h3;exact⟨Uc ho hx hb hm ht hk hkd hpp.keys hti hzv hpp.val,OpR.fits_value _ _,rfl⟩
def OZ(P:Program)(t:TypeId)(x:AV)(hp:List (Option Blk)):Option (OpR×Prop):=
 match DI x hp,Dc P t with
 | some (_,_,l,_),some _=>some ({v:=.int .i64 l.length},True)
 | _,_=>none
theorem UE{o:Oper}{ev:Operand->AV}{hp:List (Option Blk)}{nb:Nat}{ts:Array TypeId}{t:TypeId}{x:Operand}{R:OpR}{p:Prop}
  (ho:o.op = .call {callee:=.builtin .len,args:=#[x],argTypes:=ts}) (hts:ts[0]?=some t) (hr:OZ P t (ev x) hp=some (R,p)):Aq P o ev (nth hp) nb R/\R.fits (nth hp)/\R.dead=[]:=by
 unfold OZ at hr;split at hr
 case h_2=>cases hr
 rename_i b blk l c r h1 h2;obtain⟨kt,d,et⟩:=r;cases hr;obtain⟨hx,hb,hm⟩:=EJ h1;exact⟨Up ho hts hx hb hm h2,OpR.fits_value _ _,rfl⟩
def OS(P:Program)(t:TypeId)(x y:AV)(hp:List (Option Blk)):Option (OpR×Prop):=
 match DI x hp,E3 P t with
 | some (b,blk,l,c),some (d,mk)=>match Ez d y,blk.wr with
  | some kv,true=>some ({v:=.tup [CL mk d kv l,.int .i64 (Di d kv l c)],chg:=[(b,{blk with mp:=some (C9 d kv (Js mk) l c,Bp d kv l c)})]},Cf d mk l)
  | _,_=>none
 | _,_=>none
theorem Ft{hp:List (Option Blk)}{v:AV}{b:Nat}{blk blk':Blk}(hb:nth hp b=some blk)(hw:blk.wr=true):OpR.fits {v,chg:=[(b,blk')]} (nth hp):=⟨fun b' blk'' hm=>by simp at hm;obtain⟨rfl,rfl⟩:=hm;exact⟨blk,hb,hw⟩,fun b hm=>by simp at hm⟩
theorem UP{o:Oper}{ev:Operand->AV}{hp:List (Option Blk)}{nb:Nat}{t:TypeId}{x y:Operand}{R:OpR}{p:Prop}
  (ho:o.op = .mapEntry t x y) (hr:OS P t (ev x) (ev y) hp=some (R,p)) (hpp:p):Aq P o ev (nth hp) nb R/\R.fits (nth hp)/\R.dead=[]:=by
 unfold OS at hr;split at hr
 case h_2=>cases hr
 rename_i b blk l c d mk h1 h2;split at hr
 case h_2=>cases hr
 rename_i kv h3 hw;cases hr;obtain⟨hx,hb,hm⟩:=EJ h1;obtain⟨kt,et,ht,hz⟩:=H0 h2;obtain⟨ti,hti,hzv⟩:=Mw hz;obtain⟨hk,hkd⟩:=H4 h3;exact⟨Us ho hx hb hw hm ht hk hkd hpp.keys hti hzv hpp.val,Ft hb hw,rfl⟩
def Od(x y q:AV)(hp:List (Option Blk)):Option (OpR×Prop):=
 match DI x hp,y with
 | some (b,blk,l,c),.int _ s=>match BZ q,blk.wr with
  | some vv,true=>some ({v:=.unk,chg:=[(b,{blk with mp:=some (Fq s vv l,c)})]},(l.findIdx? (fun e=>((e.born:Nat):Int)==s)).isSome=true)
  | _,_=>none
 | _,_=>none
theorem TR{o:Oper}{ev:Operand->AV}{hp:List (Option Blk)}{nb:Nat}{t:TypeId}{x y q:Operand}{R:OpR}{p:Prop}
  (ho:o.op = .entryStore t x y q) (hr:Od (ev x) (ev y) (ev q) hp=some (R,p)) (hpp:p):Aq P o ev (nth hp) nb R/\R.fits (nth hp)/\R.dead=[]:=by
 generalize hy:ev y=yv at hr;unfold Od at hr;split at hr
 case h_2=>cases hr
 rename_i b blk l c k s h1;split at hr
 case h_2=>cases hr
 rename_i vv h3 hw;cases hr;obtain⟨hx,hb,hm⟩:=EJ h1;exact⟨U7 ho hx hb hw hm hy h3 hpp,Ft hb hw,rfl⟩
def NY(P:Program)(t:TypeId)(x y q:AV)(hp:List (Option Blk)):Option (OpR×Prop):=
 match DI x hp,E3 P t with
 | some (b,blk,l,c),some (d,mk)=>match Ez d y,BZ q,blk.wr with
  | some kv,some vv,true=>some ({v:=.unk,chg:=[(b,{blk with mp:=some (BM d kv vv l c,Bp d kv l c)})]},Cf d mk l)
  | _,_,_=>none
 | _,_=>none
theorem T8{o:Oper}{ev:Operand->AV}{hp:List (Option Blk)}{nb:Nat}{t:TypeId}{x y q:Operand}{R:OpR}{p:Prop}
  (ho:o.op = .mapUpdate t x y q) (hr:NY P t (ev x) (ev y) (ev q) hp=some (R,p)) (hpp:p):Aq P o ev (nth hp) nb R/\R.fits (nth hp)/\R.dead=[]:=by
 unfold NY at hr;split at hr
 case h_2=>cases hr
 rename_i b blk l c d mk h1 h2;split at hr
 case h_2=>cases hr
 rename_i kv vv h3 h4 hw;cases hr;obtain⟨hx,hb,hm⟩:=EJ h1;obtain⟨kt,et,ht,hz⟩:=H0 h2;obtain⟨hk,hkd⟩:=H4 h3;exact⟨QK (.inl ho) hx hb hw hm ht hk hkd hpp.keys h4,Ft hb hw,rfl⟩
def Oz(P:Program)(t:TypeId)(x y q:AV)(hp:List (Option Blk)):Option (OpR×Prop):=
 match DI x hp,E3 P t with
 | some (b,blk,l,c),some (d,.f)=>match Ez d y,BZ q,blk.wr,Kf d l with
  | some kv,some vv,true,true=>some ({v:=.unk,chg:=[(b,{blk with mp:=some (BM d kv vv l c,Bp d kv l c)})]},True)
  | _,_,_,_=>none
 | _,_=>none
theorem Uv{o:Oper}{ev:Operand->AV}{hp:List (Option Blk)}{nb:Nat}{t:TypeId}{x y q:Operand}{R:OpR}{p:Prop}
  (ho:o.op = .insert t x y q) (hr:Oz P t (ev x) (ev y) (ev q) hp=some (R,p)):Aq P o ev (nth hp) nb R/\R.fits (nth hp)/\R.dead=[]:=by
 unfold Oz at hr;split at hr
 case h_2=>cases hr
 rename_i b blk l c d h1 h2;split at hr
 case h_2=>cases hr
 rename_i kv vv h3 h4 hw hf;cases hr;obtain⟨hx,hb,hm⟩:=EJ h1;obtain⟨kt,et,ht,hz⟩:=H0 h2;obtain⟨hk,hkd⟩:=H4 h3;exact⟨QK (.inr ho) hx hb hw hm ht hk hkd (Oj hf).keys h4,Ft hb hw,rfl⟩
def Mv(P:Program)(t:TypeId)(x y:AV)(hp:List (Option Blk)):Option (OpR×Prop):=
 match DI x hp,E3 P t with
 | some (b,blk,l,c),some (d,mk)=>match Ez d y,blk.wr with
  | some kv,true=>some ({v:=.unk,chg:=[(b,{blk with mp:=some (CK d kv l,c)})]},Cf d mk l)
  | _,_=>none
 | _,_=>none
theorem T1{o:Oper}{ev:Operand->AV}{hp:List (Option Blk)}{nb:Nat}{ts:Array TypeId}{t:TypeId}{x y:Operand}{R:OpR}{p:Prop}
  (ho:o.op = .call {callee:=.builtin .delete,args:=#[x,y],argTypes:=ts}) (hts:ts[0]?=some t) (hr:Mv P t (ev x) (ev y) hp=some (R,p)) (hpp:p):Aq P o ev (nth hp) nb R/\R.fits (nth hp)/\R.dead=[]:=by
 unfold Mv at hr;split at hr
 case h_2=>cases hr
 rename_i b blk l c d mk h1 h2;split at hr
 case h_2=>cases hr
 rename_i kv h3 hw;cases hr;obtain⟨hx,hb,hm⟩:=EJ h1;obtain⟨kt,et,ht,hz⟩:=H0 h2;obtain⟨hk,hkd⟩:=H4 h3;exact⟨Tw ho hts hx hb hw hm ht hk hkd hpp.keys,Ft hb hw,rfl⟩
def KZ(P:Program)(t:TypeId):Bool:=match P.underlying t with
 | some (.slice e)=>match P.underlying e with
  | some (.int .u8)=>true
  | _=>false
 | _=>false
theorem SY{t:TypeId}(h:KZ P t=true):∃e,P.underlying t=some (.slice e)/\P.underlying e=some (.int .u8):=by
 unfold KZ at h;split at h
 .rename_i e h1;split at h
  .rename_i h2;exact⟨e,h1,h2⟩
  .cases h
 .cases h
def On(P:Program)(s t:TypeId)(x:AV)(hp:List (Option Blk)):Option (OpR×Prop):=
 match x with
 | .int _ n=>match unI P t,unK P s with
  | some k',true=>vOp (.int k' (k'.wrap n))
  | _,_=>none
 | .str b=>match KZ P t,unK P s with
  | true,true=>some ({v:=.lst (CZ b)},True)
  | _,_=>none
 | .sl b 0 n=>match nth hp b,KZ P s,unS P t with
  | some blk,true,true=>match Nat.beq blk.z 1&&blk.mp.isNone with
   | true=>some ({v:=.str (DD blk.es)},blk.es.length=n/\n≠0/\blk.es.all Km=true)
   | false=>none
  | _,_,_=>none
 | _=>none
theorem QJ{t:TypeId}(h:unK P t=true):∃d,P.underlying t=some d:=by
 unfold unK at h;split at h
 .rename_i d hd;exact⟨d,hd⟩
 .cases h
theorem Mg{t:TypeId}(h:unS P t=true):P.underlying t=some .string:=by
 unfold unS at h;split at h
 .assumption
 .cases h
theorem Tz{o:Oper}{ev:Operand->AV}{hp:List (Option Blk)}{nb:Nat}{s t:TypeId}{x:Operand}{R:OpR}{p:Prop}
  (ho:o.op = .convert s t x) (hr:On P s t (ev x) hp=some (R,p)) (hpp:p):Aq P o ev (nth hp) nb R/\R.fits (nth hp)/\R.dead=[]:=by
 generalize hx:ev x=xv at hr;unfold On at hr;split at hr
 .rename_i k n;split at hr
  case h_2=>cases hr
  rename_i k' hu hs;cases hr;refine⟨ok_convI ho hx (QJ hs) ?_,OpR.fits_value _ _,rfl⟩;unfold unI at hu;split at hu
  .cases hu;assumption
  .cases hu
 .rename_i b;split at hr
  case h_2=>cases hr
  rename_i h1 h2;cases hr;obtain⟨e,g1,g2⟩:=SY h1;obtain⟨u,g3⟩:=QJ h2;exact⟨Uk ho g3 g1 g2 hx,OpR.fits_value _ _,rfl⟩
 .rename_i b n;split at hr
  case h_2=>cases hr
  rename_i blk hb h1 h2;split at hr
  case h_2=>cases hr
  rename_i h3;simp only[VD,Option.isNone_iff_eq_none] at h3;cases hr;obtain⟨e,g1,g2⟩:=SY h1;exact⟨Ux ho g1 g2 (Mg h2) hx hb (VC h3.1) hpp.1 hpp.2.1 h3.2 hpp.2.2,OpR.fits_value _ _,rfl⟩
 .cases hr
def NK(P:Program)(t:TypeId)(x y:AV):Option (OpR×Prop):=
 match x,y with
 | .str s,.int _ i=>match unS P t with
  | true=>some ({v:=.int .u8 (bAt s i.toNat)},0<=i/\i<s.size)
  | false=>none
 | _,_=>none
theorem TH{o:Oper}{ev:Operand->AV}{h:Hp}{nb:Nat}{t:TypeId}{x y:Operand}{R:OpR}{p:Prop}
  (ho:o.op = .index t x y) (hr:NK P t (ev x) (ev y)=some (R,p)) (hpp:p):Aq P o ev h nb R/\R.fits h/\R.dead=[]:=by
 generalize hx:ev x=xv at hr;generalize hy:ev y=yv at hr;unfold NK at hr;split at hr
 case h_2=>cases hr
 rename_i s k i;split at hr
 case h_2=>cases hr
 rename_i hu;cases hr;exact⟨UU ho (Mg hu) hx hy hpp.1 hpp.2,OpR.fits_value _ _,rfl⟩
def NT(P:Program)(t:TypeId)(x:AV)(lo hi mx:Option AV):Option (OpR×Prop):=
 match x,lo,hi,mx with
 | .str s,some (.int _ i),some (.int _ j),none=>match unS P t with
  | true=>some ({v:=.str (s.extract i.toNat j.toNat)},0<=i/\i<=j/\j<=s.size)
  | false=>none
 | .str s,some (.int _ i),none,none=>match unS P t with
  | true=>some ({v:=.str (s.extract i.toNat s.size)},0<=i/\i<=s.size)
  | false=>none
 | _,_,_,_=>none
theorem TI{o:Oper}{ev:Operand->AV}{h:Hp}{nb:Nat}{t:TypeId}{x:Operand}{lo hi mx:Option Operand}{R:OpR}{p:Prop}
  (ho:o.op = .slice t x lo hi mx) (hr:NT P t (ev x) (lo.map ev) (hi.map ev) (mx.map ev)=some (R,p)) (hpp:p):Aq P o ev h nb R/\R.fits h/\R.dead=[]:=by
 generalize hx:ev x=xv at hr;unfold NT at hr;split at hr
 .rename_i s k i k' j h1 h2 h3;split at hr
  case h_2=>cases hr
  rename_i hu;cases hr;cases lo with
  | none=>cases h1
  | some y=>
   cases hi with
   | none=>cases h2
   | some y'=>
    cases mx with
    | some z=>cases h3
    | none=>exact⟨Ub ho (Mg hu) hx (V3 h1) (V3 h2) hpp.1 hpp.2.1 hpp.2.2,OpR.fits_value _ _,rfl⟩
 .rename_i s k i h1 h2 h3;split at hr
  case h_2=>cases hr
  rename_i hu;cases hr;cases lo with
  | none=>cases h1
  | some y=>
   cases hi with
   | some _=>cases h2
   | none=>
    cases mx with
    | some z=>cases h3
    | none=>exact⟨Ug ho (Mg hu) hx (V3 h1) hpp.1 hpp.2,OpR.fits_value _ _,rfl⟩
 .cases hr
theorem VR.rt_of_noref{φ:Phi}{A:Nat->Prop}{w:World}{a:AV}{v:Value}(h:VR φ A w a v)(hn:a.noref=true):RT A w a v:=by
 cases h with
 | imm a v h=>exact h
 | ptr=>simp[AV.noref] at hn
 | sl=>simp[AV.noref] at hn
 | slnil=>simp[AV.noref] at hn
 | agg=>simp[AV.noref] at hn
 | tup=>simp[AV.noref] at hn
 | fn=>simp[AV.noref] at hn
 | map=>simp[AV.noref] at hn
 | ifc=>simp[AV.noref] at hn
theorem Aq.toImm{o:Oper}{ev:Operand->AV}{h:Hp}{nb n:Nat}{blk:Blk}(hok:Aq P o ev h nb {v:=.sl nb 0 n,new:=[blk]})(hn:blk.es.length=n)(hmp:blk.mp=none)
  (hnr:∀e∈blk.es,∀c∈e.cells,c.noref=true):Aq P o ev h nb {v:=.lst blk.es}:=by
 intro φ A w a K Q hA hv hh hnone k;refine hok φ A w a K Q hA hv hh hnone fun v' w' φ' E=>k v' w' φ ?_
 have hgrow:∀r,w.heap.size<=r->r<w'.heap.size->Bk A φ nb w w' r:=fun r h1 h2=>.inr ⟨h1,h2,by rintro⟨b,z,hb,h3⟩;rw[hnone b hb] at h3;cases h3⟩
 have hA':∀r,Bk A φ' nb w w' r->Bk A φ nb w w' r:=by
  rintro r (h1 | ⟨h1,h2,_⟩)
  .exact .inl h1
  .exact hgrow r h1 h2
 refine⟨E.keep.mono fun r hr=>?_,fun _ _=>rfl,fun b hb=>hnone b (by simpa using hb),fun b r z hb h1=>?_,fun b b' r z z' hb _ h1 _=>?_,?_,fun b blk hm=>(by simp at hm),fun blk hm=>(by simp at hm),fun b blk hm=>(by simp at hm),fun b blk hm=>(by simp at hm)⟩
 .obtain⟨b,z,hd,_⟩:=hr;simp[OpR.dirty] at hd
 .rw[hnone b hb] at h1;cases h1
 .rw[hnone b hb] at h1;cases h1
 .have hval:=E.val;rcases hval.sl_inv with ⟨h0,a',he⟩ | ⟨r,z,cap,hφ,hnc,hr,he⟩
  .have:blk.es=[]:=List.length_eq_zero_iff.1 (by omega);simp only[he,this];exact .imm _ _ (.lnil a')
  .have hb:=E.newb 0 blk rfl;rcases hb with ⟨_,h0,_⟩ | ⟨r',cs,T,hφ',hrow,_,hel⟩ | ⟨m,r',h0,_⟩
   .rw[Vk,hφ] at h0;cases h0
   case inr.inr=>rw[hmp] at h0;cases h0
   rw[Vk,hφ] at hφ';simp only[Vc,Vm] at hφ';obtain⟨rfl,rfl⟩:=hφ';have hfr:w.heap.size<=r/\r<w'.heap.size:=by
    rcases E.fresh nb r _ (VH _) hφ with h1 | ⟨b0,z0,blk0,hd,_⟩
    .exact h1
    .simp at hd
   simp only[he,Nat.zero_mul];rw[<-hn];refine .imm _ _ (.lst blk.es r 0 cap blk.z (fun i j=>(cs[i * blk.z+j]?).getD undef) (by omega) (fun _=>hgrow r hfr.1 hfr.2) (fun e he=>?_) (fun e he c hc=>?_) (fun i j hi hj=>?_) fun i j e c hi hj=>?_)
   .obtain⟨i,hi⟩:=List.mem_iff_getElem?.1 he;exact(hel i e hi).1
   .obtain⟨i,hi⟩:=List.mem_iff_getElem?.1 he;obtain⟨j,hj⟩:=List.mem_iff_getElem?.1 hc;exact((hel i e hi).2 j c hj).1
   .have hie:=Vv hi;obtain⟨h1,h2⟩:=hel i _ hie;have hje:=Vv (l:=(blk.es[i]).cells) (i:=j) (by rw[h1];exact hj);obtain⟨_,v,hv1,_⟩:=h2 j _ hje;simp only[World.cell?];rw[hrow];simpa using hv1.trans (by rw[hv1];rfl)
   .obtain⟨_,h2⟩:=hel i e hi;obtain⟨_,v,hv1,hv2⟩:=h2 j c hj;rw[hv1];exact(hv2.rt_of_noref (hnr e (Vz hi) c (Vz hj))).mono hA' fun _ _=>rfl
theorem Aq.toImmF{o:Oper}{ev:Operand->AV}{h:Hp}{nb n:Nat}{blk:Blk}(hok:Aq P o ev h nb {v:=.sl nb 0 n,new:=[blk]})(hn:blk.es.length=n)(hmp:blk.mp=none)
  (hfl:blk.flat=true):Aq P o ev h nb {v:=.lst blk.es}:=by
 intro φ A w a K Q hA hv hh hnone k;refine hok φ A w a K Q hA hv hh hnone fun v' w' φ' E=>k v' w' φ ?_
 have hnr:=E.fln blk (Vn.2 rfl) hfl;have hgrow:∀r,w.heap.size<=r->r<w'.heap.size->Bk A φ nb w w' r:=fun r h1 h2=>.inr ⟨h1,h2,by rintro⟨b,z,hb,h3⟩;rw[hnone b hb] at h3;cases h3⟩
 have hA':∀r,Bk A φ' nb w w' r->Bk A φ nb w w' r:=by
  rintro r (h1 | ⟨h1,h2,_⟩)
  .exact .inl h1
  .exact hgrow r h1 h2
 refine⟨E.keep.mono fun r hr=>?_,fun _ _=>rfl,fun b hb=>hnone b (by simpa using hb),fun b r z hb h1=>?_,fun b b' r z z' hb _ h1 _=>?_,?_,fun b blk hm=>(by simp at hm),fun blk hm=>(by simp at hm),fun b blk hm=>(by simp at hm),fun b blk hm=>(by simp at hm)⟩
 .obtain⟨b,z,hd,_⟩:=hr;simp[OpR.dirty] at hd
 .rw[hnone b hb] at h1;cases h1
 .rw[hnone b hb] at h1;cases h1
 .have hval:=E.val;rcases hval.sl_inv with ⟨h0,a',he⟩ | ⟨r,z,cap,hφ,hnc,hr,he⟩
  .have:blk.es=[]:=List.length_eq_zero_iff.1 (by omega);simp only[he,this];exact .imm _ _ (.lnil a')
  .have hb:=E.newb 0 blk rfl;rcases hb with ⟨_,h0,_⟩ | ⟨r',cs,T,hφ',hrow,_,hel⟩ | ⟨m,r',h0,_⟩
   .rw[Vk,hφ] at h0;cases h0
   case inr.inr=>rw[hmp] at h0;cases h0
   rw[Vk,hφ] at hφ';simp only[Vc,Vm] at hφ';obtain⟨rfl,rfl⟩:=hφ';have hfr:w.heap.size<=r/\r<w'.heap.size:=by
    rcases E.fresh nb r _ (VH _) hφ with h1 | ⟨b0,z0,blk0,hd,_⟩
    .exact h1
    .simp at hd
   simp only[he,Nat.zero_mul];rw[<-hn];refine .imm _ _ (.lst blk.es r 0 cap blk.z (fun i j=>(cs[i * blk.z+j]?).getD undef) (by omega) (fun _=>hgrow r hfr.1 hfr.2) (fun e he=>?_) (fun e he c hc=>?_) (fun i j hi hj=>?_) fun i j e c hi hj=>?_)
   .obtain⟨i,hi⟩:=List.mem_iff_getElem?.1 he;exact(hel i e hi).1
   .obtain⟨i,hi⟩:=List.mem_iff_getElem?.1 he;obtain⟨j,hj⟩:=List.mem_iff_getElem?.1 hc;exact((hel i e hi).2 j c hj).1
   .have hie:=Vv hi;obtain⟨h1,h2⟩:=hel i _ hie;have hje:=Vv (l:=(blk.es[i]).cells) (i:=j) (by rw[h1];exact hj);obtain⟨_,v,hv1,_⟩:=h2 j _ hje;simp only[World.cell?];rw[hrow];simpa using hv1.trans (by rw[hv1];rfl)
   .obtain⟨_,h2⟩:=hel i e hi;obtain⟨_,v,hv1,hv2⟩:=h2 j c hj;rw[hv1];exact(hv2.rt_of_noref (hnr e (Vz hi) c (Vz hj))).mono hA' fun _ _=>rfl
def immR(nb:Nat):OpR×Prop->Option (OpR×Prop)
 | (⟨.sl b 0 n,[],[],[blk]⟩,p)=>match Nat.beq b nb&&blk.flat,blk.mp with
  | true,none=>some ({v:=.lst blk.es},p/\blk.es.length=n)
  | _,_=>none
 | _=>none
theorem UO{o:Oper}{ev:Operand->AV}{h:Hp}{nb:Nat}{r:OpR×Prop}{R:OpR}{p:Prop}(hr:immR nb r=some (R,p))(hpp:p)(hok:r.2->Aq P o ev h nb r.1):Aq P o ev h nb R/\R.fits h:=by
 unfold immR at hr;split at hr
 .rename_i b n blk q;split at hr
  .rename_i hb hm;cases hr;simp only[VD] at hb;have:=VC hb.1;subst this;exact⟨(hok hpp.1).toImmF hpp.2 hm hb.2,OpR.fits_value _ _⟩
  .cases hr
 .cases hr
def wkq:AV->AV | .nils=>.lst [] | e=>e
def wkr:AV->AV | .nils=>.lst [] | .agg cs=>.agg (cs.map wkq) | e=>e
theorem SR{φ:Phi}{A:Nat->Prop}{w:World}{c:AV}{v:Value}(h:VR φ A w c v):VR φ A w (wkq c) v:=by
 cases c with
 | nils=>rw[h.nils_inv];exact .imm _ _ (.lnil none)
 | _=>exact h
theorem wkr_len(e:AV):(wkr e).cells.length=e.cells.length:=by cases e<;>simp[wkr,AV.cells]
theorem Rh{φ:Phi}{A:Nat->Prop}{w:World}(c:AV):(c.one=true->(wkq c).one=true)/\(c.noref=true->(wkq c).noref=true)/\∀v,VR φ A w c v->VR φ A w (wkq c) v:=by refine⟨fun h=>?_,fun h=>?_,fun v h=>SR h⟩<;>cases c<;>first | exact h | rfl
theorem Rg{φ:Phi}{A:Nat->Prop}{w:World}{e c:AV}{j:Nat}(hc:(wkr e).cells[j]?=some c):∃c',e.cells[j]?=some c'/\(c'.one=true->c.one=true)/\(c'.noref=true->c.noref=true)/\∀v,VR φ A w c' v->VR φ A w c v:=by
 cases e with
 | nils=>
  match j,hc with
  | 0,hc=>simp[wkr,AV.cells] at hc;subst hc;exact⟨.nils,rfl,Rh .nils⟩
 | agg cs=>simp only[wkr,AV.cells,VF] at hc;obtain⟨c',h1,rfl⟩:=Option.map_eq_some_iff.1 hc;exact⟨c',h1,Rh c'⟩
 | _=>exact⟨c,hc,id,id,fun _ h=>h⟩
theorem Aq.wkNew{o:Oper}{ev:Operand->AV}{h:Hp}{nb:Nat}{v:AV}{blk:Blk}(hok:Aq P o ev h nb {v,new:=[blk]})(hfl:blk.flat=true->Bw blk.es):Aq P o ev h nb {v,new:=[{blk with es:=blk.es.map wkr}]}:=by
 intro φ A w a K Q hA hv hh hnone k;refine hok φ A w a K Q hA hv hh hnone fun v' w' φ' E=>k v' w' φ' ?_
 refine⟨E.keep,E.old,E.out,E.fresh,E.inj,E.val,fun b blk' hm=>(by simp at hm),fun blk' hm=>?_,fun b blk' hm=>(by simp at hm),fun k blk' hk=>?_⟩
 .simp at hm;subst hm;intro hf e he c hc;obtain⟨e0,he0,rfl⟩:=V0.1 he;obtain⟨j,hj⟩:=List.mem_iff_getElem?.1 hc;obtain⟨c',h1,_,h3,_⟩:=Rg (φ:=φ) (A:=A) (w:=w) hj;exact h3 (hfl hf e0 he0 c' (Vz h1))
 .match k,hk with
  | 0,hk=>
   simp at hk;subst hk;rcases E.newb 0 blk rfl with ⟨h1,h2,h3,h4⟩ | ⟨r,cs,T,h1,h2,⟨h3,h4⟩,h5⟩ | ⟨m,r,h1,h2,⟨h3,h4⟩,h5⟩
   .exact .inl ⟨by simp[h1],h2,h3,h4⟩
   .refine .inr (.inl ⟨r,cs,T,h1,h2,⟨by simpa using h3,h4⟩,fun i e he=>?_⟩);simp only[VF] at he;cases hi:blk.es[i]? with
    | none=>rw[hi] at he;cases he
    | some e0=>rw[hi] at he;simp at he;subst he;obtain⟨g1,g2⟩:=h5 i e0 hi;refine⟨by rw[wkr_len];exact g1,fun j c hc=>?_⟩;obtain⟨c',k1,k2,_,k4⟩:=Rg (φ:=φ') (A:=Bk A φ' nb w w') (w:=w') hc;obtain⟨g3,v,g4,g5⟩:=g2 j c' k1;exact⟨k2 g3,v,g4,k4 v g5⟩
   .exact .inr (.inr ⟨m,r,h1,h2,⟨by simp[h3],h4⟩,h5⟩)
theorem wkr_vr{φ:Phi}{A:Nat->Prop}{w:World}{c:AV}{v:Value}(h:VR φ A w c v):VR φ A w (wkr c) v:=by
 cases c with
 | nils=>rw[h.nils_inv];exact .imm _ _ (.lnil none)
 | agg cs=>
  obtain⟨vs,rfl,hl,hh⟩:=h.agg_inv;refine .agg (cs.map wkq) vs (by simpa using hl) fun i d u hd hu=>?_
  rw[VF] at hd;obtain⟨c',h1,rfl⟩:=Option.map_eq_some_iff.1 hd;exact SR (hh i c' u h1 hu)
 | _=>exact h
theorem Aq.lessEv{o:Oper}{ev:Operand->AV}{h:Hp}{nb:Nat}{R:OpR}(hk:Aq P o (fun x=>wkr (ev x)) h nb R):Aq P o ev h nb R:=by intro φ A w a K Q hA hv hh hn k;exact hk φ A w a K Q hA (fun x=>wkr_vr (hv x)) hh hn k
theorem TB{t:TypeId}{x y:AV}{hp:List (Option Blk)}{hint:AF}:Gk P t (wkr x) y hp hint=Gk P t x y hp hint:=by cases x<;>first | rfl | (simp only[wkr];unfold Gk Ly L6;split<;>rfl)
theorem T4(w:World)(t tx ty e:TypeId)(i:TypeInfo)(z:Value)(kx:IntKind)(ht:P.underlying t=some (.slice e))(htx:P.underlying tx=some (.int kx))(hi:P.info? e=some i)(hz:i.zero=some z)
  (n:Nat) (h0:0<n) (hpos:0<i.size) (h63:(n:Int)<=9223372036854775807) (h48:n * i.bytes<=281474976710656):
  (Builtin.append_ #[t,tx] ty #[.slice none 0 0,.int .i64 n]).run P w =
   .ok (.slice (some ⟨w.heap.size,0,none⟩) n (grownCap w n 0 e)) (w.drew.alloc (.cells (Builtin.zeroCells z.cells n++Builtin.zeroCells z.cells (grownCap w n 0 e-n)) e)):=by
 have hn:n≠0:=by omega
 have h63':¬(9223372036854775807<(n:Int)):=by omega
 have h48':¬(281474976710656<Builtin.nextslicecap n 0 * i.bytes):=by rw[nextslicecap_zero h0];omega
 have h48'':¬(281474976710656<(n:Int) * i.bytes):=by have:((n * i.bytes:Nat):Int)=(n:Int) * i.bytes:=by simp
                                                     omega
 have hw:i64.wrap (n:Int)=n:=by simp only[IntKind.wrap,IntKind.bits,IntKind.signed];simp;omega
 have hns:¬(n * i.size=0):=by have:=Nat.mul_pos h0 hpos;omega
 have hneg:¬((n:Int)<0):=by omega
 simp[Builtin.append_,run_underlying ht,run_underlying htx,sizeOf,typeInfo,zeroValue,hi,hz,asInt,asIntOf,hw,hneg,h48'',hns,hn,h63',h48',Question.forced,run_firstCells_none,newRow,grownCap]
theorem UR{o:Oper}{ev:Operand->AV}{h:Hp}{nb:Nat}{t tx:TypeId}{x y:Operand}{e:AV}{z by_:Nat}{n:Int}
  (ho:o.op = .call {callee:=.builtin .append,args:=#[x,y],argTypes:=#[t,tx]}) (ht:Cl P t=some (e,z,by_)) (htx:P.underlying tx=some (.int .i64)) (hx:ev x = .nils) (hy:ev y = .int .i64 n)
  (h0:0<n) (h63:n<=9223372036854775807) (hb:n.toNat * by_<=140737488355328):
  Aq P o ev h nb {v:=.sl nb 0 n.toNat,new:=[{es:=List.replicate n.toNat e,z,flat:=A8 e.cells}]}:=by
 intro φ A w ac K Q hA hv hh hn k;obtain⟨el,i,zv,hu,hi,hz,rfl,hsz,hby,hkn,hzl,hone,hpos⟩:=Fu ht;have hx':=hv x;rw[hx] at hx';have hx':=hx'.nils_inv;have hy':=hv y;rw[hy] at hy';have hy':=hy'.int_inv;have hcr:=(VR.imm (φ:=φ) (A:=A) (w:=w) _ _ (RT.absV zv)).cr hkn;have hzs:zv.cells.size=z:=by have:=hcr.1;simp at this;omega
 obtain⟨m,rfl⟩:∃m:Nat,n=(m:Int):=⟨n.toNat,by omega⟩;rw[VE] at hb;simp only[VE] at k ⊢
 have hrun:=T4 (P:=P) w t tx o.type el i zv .i64 hu htx hi hz m (by omega) (by omega) h63 (by rw[hby];omega);have hsize:∀n,(Builtin.zeroCells zv.cells n).toList.length=n * z:=by intro n;simp[size_zeroCells,hzs]
 have hrow:Row φ A w z (List.replicate m (absV zv)) (Builtin.zeroCells zv.cells m).toList:=by
  refine⟨by rw[hsize,VQ],fun k e' he=>?_⟩;have hlt:=(Vx.1 he).1;rw[VQ] at hlt;rw[VV,Vt hlt] at he;cases he;refine⟨hzl,fun j c' hj=>?_⟩;have hjl:=(Vx.1 hj).1;have hidx:k * z+j<m * z:=by have:=VM z (show k+1<=m by omega);rw[Nat.succ_mul] at this;omega
  have hmod:(k * z+j) % z=j:=by rw[Vd,Nat.mul_add_mod];exact Vo (by omega)
  have hju:j<zv.cells.toList.length:=by simp;omega
  refine⟨VK.1 hone c' (Vz hj),zv.cells.toList[j],?_,hcr.2 j c' _ hj (by simp)⟩;simp[Builtin.zeroCells,hidx,hzs,hmod,getElem!_pos zv.cells j (by omega)]
 have hg:=grownCap_ge w m 0 el;unfold Oper.wp;have hex:(execOp ac.eval o).run P w = .ok (.value (.slice (some ⟨w.heap.size,0,none⟩) m (grownCap w m 0 el))) (w.drew.alloc (.cells (Builtin.zeroCells zv.cells m++Builtin.zeroCells zv.cells (grownCap w m 0 el-m)) el)):=by rw[<-hx',<-hy'] at hrun;generalize ac.eval=ρ at *;simp[execOp,ho,resolve,invoke,builtin,hrun]
 rw[hex];refine k _ _ (upd φ nb (w.heap.size,z)) ?_
 have:=Eff.grow (dead:=[]) (T:=el) (n:=m) (cap:=grownCap w m 0 el) (flat:=A8 (absV zv).cells) (fun hf e' he c' hc=>by rw[(List.mem_replicate.1 he).2] at hc;exact VK.1 hf c' hc) (extra:=(Builtin.zeroCells zv.cells (grownCap w m 0 el-m)).toList) hA hn hrow (by simp) hg
  (by rw[hsize,hsize,Nat.sub_mul];have:=VM z hg;omega)
 rw[<-Jl] at this;simpa using this
theorem Row.rep{φ:Phi}{A:Nat->Prop}{w:World}{zv:Value}{z:Nat}(hkn:(absV zv).known=true)(hzl:(absV zv).cells.length=z)(hone:BN (absV zv).cells=true)(m:Nat):
  Row φ A w z (List.replicate m (absV zv)) (Builtin.zeroCells zv.cells m).toList:=by
 have hcr:=(VR.imm (φ:=φ) (A:=A) (w:=w) _ _ (RT.absV zv)).cr hkn;have hzs:zv.cells.size=z:=by have:=hcr.1;simp at this;omega
 have hsize:∀n,(Builtin.zeroCells zv.cells n).toList.length=n * z:=by intro n;simp[size_zeroCells,hzs]
 refine⟨by rw[hsize,VQ],fun k e' he=>?_⟩;have hlt:=(Vx.1 he).1;rw[VQ] at hlt;rw[VV,Vt hlt] at he;cases he;refine⟨hzl,fun j c' hj=>?_⟩;have hjl:=(Vx.1 hj).1;have hidx:k * z+j<m * z:=by have:=VM z (show k+1<=m by omega);rw[Nat.succ_mul] at this;omega
 have hmod:(k * z+j) % z=j:=by rw[Vd,Nat.mul_add_mod];exact Vo (by omega)
 have hju:j<zv.cells.toList.length:=by simp;omega
 refine⟨VK.1 hone c' (Vz hj),zv.cells.toList[j],?_,hcr.2 j c' _ hj (by simp)⟩;simp[Builtin.zeroCells,hidx,hzs,hmod,getElem!_pos zv.cells j (by omega)]
theorem ok_clear{o:Oper}{ev:Operand->AV}{h:Hp}{nb:Nat}{t:TypeId}{x:Operand}{b i n z by_:Nat}{blk:Blk}{e:AV}
  (ho:o.op = .call {callee:=.builtin .clear,args:=#[x],argTypes:=#[t]}) (ht:Cl P t=some (e,z,by_))
  (hx:ev x = .sl b i n) (hb:h b=some blk) (hz:blk.z=z) (hw:blk.wr=true) (hin:i+n<=blk.es.length):
  Aq P o ev h nb {v:=.tup [],chg:=[(b,{blk with es:=blk.es.take i++List.replicate n e++blk.es.drop (i+n),flat:=blk.flat&&A8 e.cells})]}:=by
 intro φ A w ac K Q hA hv hh hn k;obtain⟨el,inf,zv,hu,hi,hzz,rfl,hsz,hby,hkn,hzl,hone,hpos⟩:=Fu ht;have h0:=hv x;rw[hx] at h0;have hsub:=Row.rep (φ:=φ) (A:=A) (w:=w) hkn hzl hone n;generalize hnews:(Builtin.zeroCells zv.cells n).toList=news at hsub;have hvl:news.length=n * z:=by have:=hsub.len;rw[this,VQ]
 have hones:∀u∈news,u.oneCell'=true:=hsub.one hpos;have vt:∀{A':Nat->Prop} {w':World},VR φ A' w' (.tup []) (.tuple #[]):=VR.tup [] [] rfl fun i c v hc=>by simp at hc
 have exec:∀(a:Option Addr) (cap:Nat) (w':World),ac.eval x = .slice a n cap->(n=0->w'=w)->(n≠0->∃ad,a=some ad/\(storeCells ad news).run P w = .ok () w')->
   (execOp ac.eval o).run P w = .ok (.value (.tuple #[])) w':=by
  intro a cap w' ha hz0 hz1;generalize ac.eval=ρ at *;cases n with
  | zero=>rw[hz0 rfl];cases a<;>simp[execOp,ho,resolve,invoke,builtin,Builtin.clear_,run_underlying hu,ha]
  | succ n=>obtain⟨ad,rfl,hst⟩:=hz1 (by omega);simp[execOp,ho,resolve,invoke,builtin,Builtin.clear_,run_underlying hu,ha,zeroValue,typeInfo,hi,hzz,hnews,hst]
 have hfl:(blk.flat&&A8 (absV zv).cells)=true->Bw (blk.es.take i++List.replicate n (absV zv)++blk.es.drop (i+n)):=by
  intro hf e' he';simp only[VD] at hf;rcases VZ.1 he' with hm' | hm'
  .rcases VZ.1 hm' with hm' | hm'
   .exact hh.flat b blk hb hf.1 e' (List.mem_of_mem_take hm')
   .intro c hc;rw[(List.mem_replicate.1 hm').2] at hc;exact VK.1 hf.2 c hc
  .exact hh.flat b blk hb hf.1 e' (List.mem_of_mem_drop hm')
 have same:n=0->blk.es.take i++List.replicate n (absV zv)++blk.es.drop (i+n)=blk.es:=by intro h;subst h;simp
 unfold Oper.wp;by_cases hn0:n=0
 .have he:∃a cap,ac.eval x = .slice a n cap:=by
   rcases h0.sl_inv with ⟨_,a,he⟩ | ⟨r,z',cap,hφ,hnc,hrw,he⟩
   .exact⟨a,0,by rw[he,hn0]⟩
   .exact⟨_,cap,he⟩
  obtain⟨a,cap,he⟩:=he;rw[exec a cap w he (fun _=>rfl) (fun h=>absurd hn0 h)];refine k _ w φ ⟨Bt.refl _ w,fun _ _=>rfl,fun b' hb'=>hn b' (by simpa using hb'),fun b' r' z' hb' h1=>?_,fun b1 b2 r' z1 z2 hb1 hb2 h1 h2=>?_,vt,fun b' blk' hmm=>by simp only[Vn,Vm] at hmm;obtain⟨_,rfl⟩:=hmm;exact hfl,fun blk' hmm=>by simp at hmm,fun b' blk' hmm=>?_,fun k' blk' hk=>by simp at hk⟩
  .rw[hn b' hb'] at h1;cases h1
  .rw[hn b1 hb1] at h1;cases h1
  .simp only[Vn,Vm] at hmm;obtain⟨rfl,rfl⟩:=hmm;rw[same hn0];rcases hh.blk b' blk hb with hl | ⟨r,cs,T,h1,h2,h3,h4⟩ | hl
   .exact .inl hl
   .refine .inr (.inl ⟨r,cs,T,h1,h2,h3,fun i e he=>?_⟩);obtain⟨g1,g2⟩:=h4 i e he;refine⟨g1,fun j c hj=>?_⟩;obtain⟨g3,u,g4,g5⟩:=g2 j c hj;exact⟨g3,u,g4,g5.mono (fun _ _ h=>h) (fun _ h=>.inl h) (fun _ _=>rfl) (fun _=>VH _)⟩
   .exact .inr (.inr hl)
 .rcases h0.sl_inv with ⟨h00,a,he⟩ | ⟨r,z',cap,hφ,hnc,hrw,he⟩
  .exact absurd h00 hn0
  obtain⟨hz2,hmpn,cs,T,hr,hsz',hrow'⟩:=hh.row hb hφ (.inl (hh.zpos hb hφ (by omega)));have hz3:z'=z:=by omega
  subst hz3;have hle:(i+n) * z'<=blk.es.length * z':=VM z' (by omega);have hle':=hle;rw[Ve] at hle';have hst:=run_storeCells_at P r (i * z') T news 0 cs w hr (by rw[hvl];omega) hones;simp only[Vk] at hst;rw[exec _ cap _ he (fun h=>absurd h hn0) (fun _=>⟨_,rfl,hst⟩)];have hlenU:(cs.toList.take (blk.es.length * z')).length=blk.es.length * z':=by simp;omega
  have h1:=hrow'.sub 0 i (by omega);have h2:=hrow'.sub (i+n) (blk.es.length-(i+n)) (by omega);simp only[Nat.zero_mul,List.drop_zero] at h1;have htk:(blk.es.drop (i+n)).take (blk.es.length-(i+n))=blk.es.drop (i+n):=List.take_of_length_le (by simp);rw[htk] at h2;have hall:=(h1.append hsub).append h2
  have hcs:cs.toList.take (i * z')++news++cs.toList.drop (i * z'+news.length) =
    ((cs.toList.take (blk.es.length * z')).take (i * z')++news++((cs.toList.take (blk.es.length * z')).drop ((i+n) * z')).take ((blk.es.length-(i+n)) * z'))++cs.toList.drop (blk.es.length * z'):=by
   rw[hvl,<-Ve];have e1:(cs.toList.take (blk.es.length * z')).take (i * z')=cs.toList.take (i * z'):=by rw[List.take_take];congr 1;omega
   have e2:((cs.toList.take (blk.es.length * z')).drop ((i+n) * z')).take ((blk.es.length-(i+n)) * z')=(cs.toList.take (blk.es.length * z')).drop ((i+n) * z'):=by apply List.take_of_length_le;rw[Vl,hlenU,Nat.sub_mul];exact VH _
   rw[e1,e2];have e3:=R2 cs.toList ((i+n) * z') (blk.es.length * z') hle;rw[e3];simp only[List.append_assoc]
  refine k _ _ φ (Eff.write (blk':={blk with es:=blk.es.take i++List.replicate n (absV zv)++blk.es.drop (i+n),flat:=blk.flat&&A8 (absV zv).cells}) hA hn hb hw hφ hz hr hmpn ?_ vt hfl ?_ fun q e he=>?_)
  .simp only[List.size_toArray,VP,VX,Vl,Array.length_toList] at hvl ⊢;rw[hvl];omega
  .simp only[VP,VX,Vl,List.size_toArray,Array.length_toList,VQ] at hvl ⊢
   rw[hvl];have:(min i blk.es.length+n+(blk.es.length-(i+n)))=blk.es.length:=by omega
   rw[this];omega
  .obtain⟨g1,g2⟩:=hall.cell q e he;refine⟨g1,fun j c hj=>?_⟩;obtain⟨g3,u,g4,g5⟩:=g2 j c hj;refine⟨g3,u,?_,g5⟩;rw[hcs,List.getElem?_toArray,List.getElem?_append_left (Vx.1 g4).1];exact g4
def Kn(hp:List (Option Blk))(b:Nat):Bool:=match nth hp b with | some blk=>blk.wr | none=>false
def immOK(fz:List Nat)(outs:List Blk):Prop:=match fz with
 | []=>True
 | _=>∀blk∈outs,AY blk
def M8(P:Program)(t:TypeId)(x:AV)(hp:List (Option Blk)):Option (OpR×Prop):=
 match Cl P t,x with
 | some (e,z,_),.sl b i n=>
  match nth hp b with
  | some blk=>match blk.wr&&Nat.beq blk.z z with
   | true=>some ({v:=.tup [],chg:=[(b,{blk with es:=blk.es.take i++List.replicate n e++blk.es.drop (i+n),flat:=blk.flat&&A8 e.cells})]},i+n<=blk.es.length)
   | false=>none
  | none=>none
 | _,_=>none
theorem Tk{o:Oper}{ev:Operand->AV}{hp:List (Option Blk)}{nb:Nat}{t:TypeId}{x:Operand}{R:OpR}{p:Prop}
  (ho:o.op = .call {callee:=.builtin .clear,args:=#[x],argTypes:=#[t]}) (hr:M8 P t (ev x) hp=some (R,p)) (hpp:p):
  Aq P o ev (nth hp) nb R/\R.fits (nth hp):=by
 generalize hx:ev x=u at hr;unfold M8 at hr;split at hr
 case h_2=>cases hr
 rename_i e z by_ b i n ht;split at hr
 case h_2=>cases hr
 rename_i blk hb;split at hr
 case h_2=>cases hr
 rename_i hc;simp only[VD] at hc;cases hr;refine⟨ok_clear ho ht hx hb (VC hc.2) hc.1 hpp,⟨fun b' blk'' hm=>?_,fun b hm=>by simp at hm⟩⟩;simp only[Vn,Vm] at hm;obtain⟨rfl,rfl⟩:=hm;exact⟨blk,hb,hc.1⟩
def JO(P:Program)(x:AV)(args:List AV)(hp:List (Option Blk))(hint:AF):Option (OpR×Prop):=
 match x,hint with
 | .fn f caps,.call σ fz outs res=>
  match DT σ fz hp,Eu P f&&C0 σ&&fz.all (fun b=> !Bf σ b)&&σ.all (Kn hp)&&(outs.drop σ.length).all (·.wr)&&(match fz with | []=>true | _=>Cw 3 res) with
  | some hpl,true=>some (D3 σ hp.length outs res,
    ((args++caps).map fun a=>(A6 σ fz hp 3 a).2).foldr And ((hpl.map (·.2)).foldr And
      (CT P f (roH outs (hpl.map (·.1))) ((args++caps).map fun a=>(A6 σ fz hp 3 a).1) (AW outs) res/\immOK fz outs)))
  | _,_=>none
 | _,_=>none
theorem Q5{n:Nat}{outs:List Blk}(h:(outs.drop n).all (·.wr)=true)(k:Nat)(x:Blk)(hk:n<=k)(hx:outs[k]?=some x):x.wr=true:=by refine VK.1 h x (Vz (i:=k-n) ?_);rw[Vi,show n+(k-n)=k by omega];exact hx
theorem Tv{o:Oper}{ev:Operand->AV}{hp:List (Option Blk)}{x:Operand}{xs:Array Operand}{ts:Array TypeId}{hint:AF}{R:OpR}{p:Prop}
  (ho:o.op = .call {callee:=.value x,args:=xs,argTypes:=ts}) (hr:JO P (ev x) (xs.toList.map ev) hp hint=some (R,p)) (hpp:p):
  Aq P o ev (nth hp) hp.length R/\R.fits (nth hp)/\R.dead=[]:=by
 generalize hx:ev x=u at hr;unfold JO at hr;split at hr
 case h_2=>cases hr
 rename_i f caps σ fz outs res;split at hr
 case h_2=>cases hr
 rename_i hpl hh hc;cases hr;simp only[VD] at hc;obtain⟨⟨⟨⟨⟨h1,h2⟩,h3⟩,h4⟩,h5⟩,h6⟩:=hc;obtain⟨p1,hpp⟩:=ED hpp;obtain⟨p2,p3,p4⟩:=ED hpp;have hlive:∀b∈σ,∃blk,nth hp b=some blk/\blk.wr=true:=by
  intro b hb;have:=VK.1 h4 b hb;unfold Kn at this;split at this
  .rename_i blk hblk;exact⟨blk,hblk,this⟩
  .cases this
 refine⟨ok_call ho hx h1 (fun a ha=>p1 _ (V0.2 ⟨a,ha,rfl⟩)) hh p2 h2 (fun b hb hm=>?_) hlive p3 (Q5 h5) ?_,⟨fun b blk hm=>?_,fun b hm=>by simp[D3] at hm⟩,rfl⟩
 .have:=VK.1 h3 b hb;rw[CM.2 hm] at this;cases this
 .cases fz with
  | nil=>exact .inl rfl
  | cons y r=>exact .inr ⟨h6,p4⟩
 .obtain⟨k,g1,_⟩:=FY (List.mem_filter.1 hm).1;exact hlive b (Vz g1)
def isO:AF->Bool | .callO _ _ _ _=>true | _=>false
def PJ(P:Program)(x:AV)(args:List AV)(hp:List (Option Blk))(hint:AF):Option (OpR×Prop):=
 match x,hint with
 | .fn f caps,.callO σ fz outs res=>
  match DT σ fz hp,Eu P f&&C0 σ&&fz.all (fun b=> !Bf σ b)&&σ.all (Kn hp)&&outs.all (·.wr)&&Nat.ble 1 σ.length&&Nat.ble 1 outs.length&&(match fz with | []=>true | _=>false) with
  | some hpl,true=>some (E9 σ hp.length outs res,
    ((args++caps).map fun a=>(A6 σ fz hp 3 a).2).foldr And ((hpl.map (·.2)).foldr And
      (CTX P f (hpl.map (·.1)) ((args++caps).map fun a=>(A6 σ fz hp 3 a).1) (AW outs) res)))
  | _,_=>none
 | _,_=>none
theorem Ud{o:Oper}{ev:Operand->AV}{hp:List (Option Blk)}{x:Operand}{xs:Array Operand}{ts:Array TypeId}{hint:AF}{R:OpR}{p:Prop}
  (ho:o.op = .call {callee:=.value x,args:=xs,argTypes:=ts}) (hr:PJ P (ev x) (xs.toList.map ev) hp hint=some (R,p)) (hpp:p):
  EW P o ev (nth hp) hp.length R/\R.fits (nth hp):=by
 generalize hx:ev x=u at hr;unfold PJ at hr;split at hr
 case h_2=>cases hr
 rename_i f caps σ fz outs res;split at hr
 case h_2=>cases hr
 rename_i hpl hh hc;cases hr;simp only[VD] at hc;obtain⟨⟨⟨⟨⟨⟨⟨h1,h2⟩,h3⟩,h4⟩,h5⟩,h6⟩,h7⟩,h8⟩:=hc;have hfe:fz=[]:=by cases fz with | nil=>rfl | cons _ _=>cases h8
 obtain⟨p1,hpp⟩:=ED hpp;obtain⟨p2,p3⟩:=ED hpp;have hlive:∀b∈σ,∃blk,nth hp b=some blk/\blk.wr=true:=by
  intro b hb;have:=VK.1 h4 b hb;unfold Kn at this;split at this
  .rename_i blk hblk;exact⟨blk,hblk,this⟩
  .cases this
 refine⟨ok_callO (fun φ A w ρ hv=>callV h1 ho hx hv) (fun a ha=>p1 _ (V0.2 ⟨a,ha,rfl⟩)) hh p2 h2 (fun b hb hm=>?_) hlive p3.ct (fun blk hb=>VK.1 h5 blk hb) (VU h6) (VU h7) hfe,⟨fun b blk hm=>?_,fun b hm=>⟨hlive b (List.mem_of_mem_drop hm),?_⟩⟩⟩
 rotate_left
 .obtain⟨k,g1,_⟩:=FY hm;exact hlive b (List.mem_of_mem_take (Vz g1))
 .cases hq:BJ (E9 σ hp.length outs res).chg b with
  | none=>rfl
  | some y=>
   obtain⟨k,g1,_⟩:=FY (FA hq);rw[VO] at g1;split at g1
   .obtain⟨j,hj⟩:=List.getElem?_of_mem hm;have hj:(σ.drop 1)[j]?=some b:=hj;rw[Vi] at hj;have:=Lo h2 k (1+j) b g1 hj;omega
   .cases g1
 have:=VK.1 h3 b hb;rw[CM.2 hm] at this;cases this
def MC(P:Program)(x:AV)(name:String)(args:List AV)(hp:List (Option Blk))(hint:AF):Option (OpR×Prop):=
 match x with
 | .ifc t [c]=>match JM P t name with
  | some f=>JO P (.fn f []) (c::args) hp hint
  | none=>none
 | _=>none
theorem T2{o:Oper}{ev:Operand->AV}{hp:List (Option Blk)}{x:Operand}{name:String}{xs:Array Operand}{ts:Array TypeId}{hint:AF}{R:OpR}{p:Prop}
  (ho:o.op = .call {callee:=.invoke x name,args:=xs,argTypes:=ts}) (hr:MC P (ev x) name (xs.toList.map ev) hp hint=some (R,p)) (hpp:p):
  Aq P o ev (nth hp) hp.length R/\R.fits (nth hp)/\R.dead=[]:=by
 unfold MC at hr;split at hr
 case h_2=>cases hr
 rename_i t c hx;split at hr
 case h_2=>cases hr
 rename_i f hf;unfold JO at hr;split at hr
 case h_2=>cases hr
 rename_i f' caps σ fz outs res hxx;cases hxx;split at hr
 case h_2=>cases hr
 rename_i hpl hh hc;cases hr;simp only[VD,List.append_nil] at hc hpp;obtain⟨⟨⟨⟨⟨h1,h2⟩,h3⟩,h4⟩,h5⟩,h6⟩:=hc;obtain⟨p1,hpp⟩:=ED hpp;obtain⟨p2,p3,p4⟩:=ED hpp;have hlive:∀b∈σ,∃blk,nth hp b=some blk/\blk.wr=true:=by
  intro b hb;have:=VK.1 h4 b hb;unfold Kn at this;split at this
  .rename_i blk hblk;exact⟨blk,hblk,this⟩
  .cases this
 refine⟨UL ho hx hf (fun a ha=>p1 _ (V0.2 ⟨a,ha,rfl⟩)) hh p2 h2 (fun b hb hm=>?_) hlive p3 (Q5 h5) ?_,⟨fun b blk hm=>?_,fun b hm=>by simp[D3] at hm⟩,rfl⟩
 .have:=VK.1 h3 b hb;rw[CM.2 hm] at this;cases this
 .cases fz with
  | nil=>exact .inl rfl
  | cons y r=>exact .inr ⟨h6,p4⟩
 .obtain⟨k,g1,_⟩:=FY (List.mem_filter.1 hm).1;exact hlive b (Vz g1)
def LH:AF->Bool | .el (.lst [])=>true | _=>false
def wkHn:AF->Bool | .el (.tup [])=>true | _=>false
def PA(P:Program)(t:TypeId)(x:AV)(lo:Option Operand)(hi:Option AV)(mx:Option Operand):Bool:=match x,lo,hi,mx,Bv P t with
 | .nils,none,some (.int _ k),none,some (none,_)=>match k with
  | .ofNat 0=>true
  | _=>false
 | _,_,_,_,_=>false
theorem UX{t:TypeId}{x:AV}{lo:Option Operand}{hi:Option AV}{mx:Option Operand}(h:PA P t x lo hi mx=true):∃ky z,x = .nils/\lo=none/\hi=some (.int ky 0)/\mx=none/\Bv P t=some (none,z):=by
 unfold PA at h;split at h
 case h_2=>cases h
 rename_i ky k z he;split at h
 case h_2=>cases h
 exact⟨ky,z,rfl,rfl,rfl,rfl,he⟩
def MH(P:Program)(t:TypeId):Bool:=match P.underlying t with
 | some (.int .i64)=>true
 | _=>false
theorem Uj{t:TypeId}(h:MH P t=true):P.underlying t=some (.int .i64):=by
 unfold MH at h;split at h
 .assumption
 .cases h
def trcH:AF->Bool | .el .unk=>true | _=>false
theorem Aq.shorten{o:Oper}{ev:Operand->AV}{h:Hp}{nb b k:Nat}{v:AV}{blk:Blk}(hop:Aq P o ev h nb {v})(hb:h b=some blk)(hlt:b<nb):Aq P o ev h nb {v,chg:=[(b,{blk with es:=blk.es.take k})]}:=by
 intro φ A w a K Q hA hv hh hn kk;refine hop φ A w a K Q hA hv hh hn fun v' w' φ' he=>kk v' w' φ' ⟨he.keep.mono fun r ⟨b',z,hd,_⟩=>?_,he.old,fun b' h'=>he.out b' (by simpa using h'),he.fresh,he.inj,he.val,fun b' blk' hm hfl=>?_,fun blk' hm=>by simp at hm,fun b' blk' hm=>?_,fun kq blk' hk=>by simp at hk⟩
 .rcases hd with hd | ⟨_,hd⟩<;>simp at hd
 .simp at hm;obtain⟨rfl,rfl⟩:=hm;exact fun e hm=>hh.flat b' blk hb hfl e (List.mem_of_mem_take hm)
 .simp at hm;obtain⟨rfl,rfl⟩:=hm;have hkeep:∀r,r<w.heap.size->w'.heap[r]?=w.heap[r]?:=fun r hr=>he.keep.block r hr fun⟨b',z,hd,_⟩=>by rcases hd with hd | ⟨_,hd⟩<;>simp at hd
  have hφ:∀c x,φ c=some x->φ' c=some x:=fun c x hc=>by
   rcases Wm c nb with h | h
   .rw[he.old c h];exact hc
   .rw[hn c h] at hc;cases hc
  have mono:∀{c u},VR φ A w c u->VR φ' (Bk A φ' nb w w') w' c u:=fun h=>h.mono hφ (fun r hr=>.inl hr) (fun r hr=>hkeep r (hA r hr).1) he.keep.row
  rcases hh.blk b' blk hb with ⟨h1,h2,h3⟩ | ⟨r,cs,T,h1,h2,⟨h3,hmp⟩,h4⟩ | ⟨m,r,h1,h2,⟨h3,h4⟩,h5⟩
  .exact .inl ⟨by simp[h1],by rw[he.old b' hlt];exact h2,h3⟩
  .refine .inr (.inl ⟨r,cs,T,hφ _ _ h1,by rw[hkeep r (Wf.1 h2).1];exact h2,⟨?_,hmp⟩,fun i e hi=>?_⟩)
   .refine Wd (VM _ ?_) h3;simp only[VX];exact Nat.min_le_right _ _
   .simp only[VO] at hi;split at hi
    .obtain⟨g1,g2⟩:=h4 i e hi;refine⟨g1,fun j c hj=>?_⟩;obtain⟨g3,u,g4,g5⟩:=g2 j c hj;exact⟨g3,u,g4,mono g5⟩
    .cases hi
  .exact .inr (.inr ⟨m,r,h1,hφ _ _ h2,⟨by simp[h3],h4⟩,by rw[hkeep r (Wf.1 h5).1];exact h5⟩)
def P4(P:Program)(t:TypeId)(x:AV)(lo hi mx:Option AV)(hp:List (Option Blk)):Option (OpR×Prop):=
 match x,lo,hi,mx,Bv P t with
 | .sl b 0 n,none,some (.int _ u),none,some (none,z)=>
  match nth hp b with
  | some blk=>match Nat.beq blk.z z&&blk.wr with
   | true=>some ({v:=.sl b 0 u.toNat,chg:=[(b,{blk with es:=blk.es.take u.toNat})]},0<=u/\u<=n)
   | false=>none
  | none=>none
 | _,_,_,_,_=>none
theorem U6{α:Type}{l:List (Option α)}{b:Nat}{x:α}(h:nth l b=some x):b<l.length:=by
 rw[Cr] at h;rcases Wm b l.length with h1 | h1
 .exact h1
 .rw[VT h1] at h;cases h
theorem Tp{o:Oper}{ev:Operand->AV}{hp:List (Option Blk)}{t:TypeId}{x:Operand}{lo hi mx:Option Operand}{R:OpR}{p:Prop}
  (ho:o.op = .slice t x lo hi mx) (hr:P4 P t (ev x) (lo.map ev) (hi.map ev) (mx.map ev) hp=some (R,p)) (hpp:p):Aq P o ev (nth hp) hp.length R/\R.fits (nth hp)/\R.dead=[]:=by
 generalize hx:ev x=u at hr;unfold P4 at hr;split at hr
 case h_2=>cases hr
 rename_i b n k u z h1 h2 h3 h4;split at hr
 case h_2=>cases hr
 rename_i blk hb;split at hr
 case h_2=>cases hr
 rename_i hc;simp only[VD] at hc;cases hr;cases lo with
 | some _=>cases h1
 | none=>
  cases hi with
  | none=>cases h2
  | some y=>
   cases mx with
   | some _=>cases h3
   | none=>have hy:ev y = .int k u:=V3 h2;have key:=P2 (h:=nth hp) (nb:=hp.length) (l:=0) (u:=u) (m:=n) ho hx h4 hb (VC hc.1) rfl (by simp only[bnd,hy]) rfl (fun h=>by cases h) ⟨Int.le_refl _,hpp.1,hpp.2,Int.le_refl _⟩;simp only[Int.toNat_zero,Vk,Nat.sub_zero] at key;exact⟨key.shorten hb (U6 hb),Ft hb hc.2,rfl⟩
def isStr:AV->Bool | .str _=>true | _=>false
def aop(P:Program)(o:Oper)(ev:Operand->AV)(hp:List (Option Blk))(hint:AF):Option (OpR×Prop):=
 match o.op with
 | .move x=>vOp (ev x)
 | .assign x=>vOp (ev x)
 | .pick c x y=>match ev c with
  | .bool t=>vOp (Lj t (ev x) (ev y))
  | _=>none
 | .nilCheck x=>match ev x with
  | .ptr b i j=>vOp (.ptr b i j)
  | .iptr cs=>vOp (.iptr cs)
  | _=>none
 | .binOp op t x y _=>aBin P op t (ev x) (ev y)
 | .unOp .not _ x=>match ev x with
  | .bool b=>vOp (.bool (!b))
  | _=>none
 | .unOp .neg _ x=>match ev x with
  | .int k n=>vOp (.int k (k.wrap (0-n)))
  | _=>none
 | .convert s t x=>On P s t (ev x) hp
 | .index t x y=>NK P t (ev x) (ev y)
 | .makeMap _ none=>some ({v:=.map hp.length,new:=[{es:=[],z:=0,mp:=some ([],0)}]},True)
 | .lookup t x y false=>NA P t (ev x) (ev y) hp
 | .lookup t x y true=>Nr P t (ev x) (ev y) hp
 | .mapEntry t x y=>OS P t (ev x) (ev y) hp
 | .entryStore _ x y q=>Od (ev x) (ev y) (ev q) hp
 | .mapUpdate t x y q=>NY P t (ev x) (ev y) (ev q) hp
 | .insert t x y q=>Oz P t (ev x) (ev y) (ev q) hp
 | .extract x i=>match ev x with
  | .tup vs=>match vs[i]? with
   | some v=>vOp v
   | none=>none
  | _=>none
 | .field t x f=>match ev x,P.underlying t with
  | .agg cs,some (.struct fs)=>match fs[f]? with
   | some fd=>match Iu P fd.type cs fd.offset with
    | some v=>vOp v
    | none=>none
   | none=>none
  | _,_=>none
 | .fieldAddr t x f=>match ev x,Jq P t f with
  | .ptr b i j,some off=>vOp (.ptr b i (j+off))
  | .iptr cs,some off=>vOp (.iptr (cs.drop off))
  | _,_=>none
 | .indexAddr t x y=>aIdx P t (ev x) (ev y) hp hint
 | .load t x=>Pj P t (ev x) hp hint
 | .store t x y=>match LH hint with
  | true=>Gk P t (ev x) (wkr (ev y)) hp hint
  | false=>Gk P t (ev x) (ev y) hp hint
 | .alloc t=>match P.info? t with
  | some i=>match i.zero with
   | some zv=>match (absV zv).known&&BN (absV zv).cells with
    | true=>some ({v:=.ptr hp.length 0 0,new:=[{es:=[absV zv],z:=(absV zv).cells.length,flat:=A8 (absV zv).cells}]},True)
    | false=>none
   | none=>none
  | none=>none
 | .box _ x=>match (ev x).known&&BN (ev x).cells with
  | true=>some ({v:=.ptr hp.length 0 0,new:=[{es:=[ev x],z:=(ev x).cells.length,flat:=A8 (ev x).cells}]},True)
  | false=>none
 | .build t parts=>match Nx P t (parts.toList.map fun p=>(p.1,ev p.2)) with
  | some v=>vOp v
  | none=>none
 | .buildSlice t n parts=>match litA P t n (parts.toList.map fun p=>(p.1,ev p.2)) with
  | some (es,z)=>match LH hint&&G4 es&&Nat.beq es.length n with
   | true=>some ({v:=.lst es},True)
   | false=>match wkHn hint with
    | true=>some ({v:=.sl hp.length 0 n,new:=[{es:=es.map wkr,z,flat:=G4 es}]},True)
    | false=>some ({v:=.sl hp.length 0 n,new:=[{es,z,flat:=G4 es}]},True)
  | none=>none
 | .makeSlice t x y=>match ev x,ev y,Cl P t with
  | .int _ l,.int _ c,some (e,z,by_)=>match LH hint&&A8 e.cells with
   | true=>some ({v:=.lst (List.replicate l.toNat e)},0<=l/\l<=c/\(by_:Int) * c<=281474976710656/\c<=9223372036854775807)
   | false=>some ({v:=.sl hp.length 0 l.toNat,new:=[{es:=List.replicate l.toNat e,z,flat:=A8 e.cells}]},
    0<=l/\l<=c/\(by_:Int) * c<=281474976710656/\c<=9223372036854775807)
  | _,_,_=>none
 | .slice t x lo hi mx=>match trcH hint with
  | true=>P4 P t (ev x) (lo.map ev) (hi.map ev) (mx.map ev) hp
  | false=>match PA P t (ev x) lo (hi.map ev) mx with
   | true=>vOp .nils
   | false=>match isStr (ev x) with
    | true=>NT P t (ev x) (lo.map ev) (hi.map ev) (mx.map ev)
    | false=>Mt P t (ev x) (lo.map ev) (hi.map ev) (mx.map ev) hp
 | .makeFunc fn first caps=>match fn,first.toList with
  | .func f,[]=>vOp (.fn f (caps.toList.map ev))
  | _,_=>none
 | .makeInterface t x=>match P.underlying t with
  | some (.pointer _)=>vOp (.ifc t [ev x])
  | _=>none
 | .call c=>match c.callee,c.args.toList,c.argTypes.toList with
  | .value x,xs,_=>match isO hint with
   | true=>PJ P (ev x) (xs.map ev) hp hint
   | false=>JO P (ev x) (xs.map ev) hp hint
  | .invoke x name,xs,_=>MC P (ev x) name (xs.map ev) hp hint
  | .builtin .len,[x],t::_=>match ev x with
   | .map b=>OZ P t (.map b) hp
   | v=>aLen P t v
  | .builtin .cap,[x],t::_=>match ev x,unL P t with
   | .nils,true=>vOp (.int .i64 0)
   | _,_=>none
  | .builtin .delete,[x,y],t::_=>Mv P t (ev x) (ev y) hp
  | .builtin .append,[x,y],[t,t']=>match Nat.beq t t' with
   | true=>match LH hint with
    | true=>match Lw P t (ev x) (ev y) hp with
     | some r=>immR hp.length r
     | none=>none
    | false=>Lw P t (ev x) (ev y) hp
   | false=>match ev x,ev y,Cl P t,MH P t' with
    | .nils,.int .i64 n,some (e,z,by_),true=>some ({v:=.sl hp.length 0 n.toNat,new:=[{es:=List.replicate n.toNat e,z,flat:=A8 e.cells}]},0<n/\n<=9223372036854775807/\n.toNat * by_<=140737488355328)
    | _,_,_,_=>none
  | .builtin .copy,[x,y],[t,_]=>My P t (ev x) (ev y) hp
  | .builtin .clear,[x],[t]=>M8 P t (ev x) hp
  | .builtin .min,[x,y],_=>match ev x,ev y with
   | .int k a,.int k' b=>match decide (k=k') with
    | true=>vOp (.int k (if b<a then b else a))
    | false=>none
   | _,_=>none
  | .builtin .max,[x,y],_=>match ev x,ev y with
   | .int k a,.int k' b=>match decide (k=k') with
    | true=>vOp (.int k (if a<b then b else a))
    | false=>none
   | _,_=>none
  | _,_,_=>none
 | _=>none
theorem B2{α:Type}{a:Array α}{l:List α}(h:a.toList=l):a=l.toArray:=by rw[<-h]
theorem RR{o:Oper}{ev:Operand->AV}{hp:List (Option Blk)}{hint:AF}{R:OpR}{p:Prop}(hr:aop P o ev hp hint=some (R,p))(hpp:p)(hO:∀c x,o.op = .call c->c.callee = .value x->isO hint=true->False):
  Aq P o ev (nth hp) hp.length R/\R.fits (nth hp):=by
 have value:∀{v:AV},vOp v=some (R,p)->Aq P o ev (nth hp) hp.length {v}->Aq P o ev (nth hp) hp.length R/\R.fits (nth hp):=by intro v h hk;cases h;exact⟨hk,OpR.fits_value _ _⟩
 have new:∀{v:AV} {blk:Blk},OpR.fits {v,new:=[blk]} (nth hp):=⟨fun b blk hm=>by simp at hm,fun b hm=>by simp at hm⟩;unfold aop at hr;split at hr
 .rename_i x ho;exact value hr (Ra (.inl ho))
 .rename_i x ho;exact value hr (Ra (.inr ho))
 .rename_i c x y ho;split at hr
  .rename_i t hc;exact value hr (ok_pick ho hc)
  .cases hr
 .rename_i x ho;split at hr
  .rename_i b i j hx;have:=RZ (P:=P) (h:=nth hp) (nb:=hp.length) ho (.inl ⟨b,i,j,hx⟩);rw[hx] at this;exact value hr this
  .rename_i cs hx;have:=RZ (P:=P) (h:=nth hp) (nb:=hp.length) ho (.inr ⟨cs,hx⟩);rw[hx] at this;exact value hr this
  .cases hr
 .rename_i op t x y t' ho;obtain⟨h1,h2,_⟩:=Tx ho hr hpp (h:=nth hp) (nb:=hp.length);exact⟨h1,h2⟩
 .rename_i t x ho;split at hr
  .rename_i b hx;exact value hr (ok_not ho hx)
  .cases hr
 .rename_i t x ho;split at hr
  .rename_i k n hx;exact value hr (ok_neg ho hx)
  .cases hr
 .rename_i s t x ho;obtain⟨h1,h2,_⟩:=Tz ho hr hpp (nb:=hp.length);exact⟨h1,h2⟩
 .rename_i t x y ho;obtain⟨h1,h2,_⟩:=TH ho hr hpp (h:=nth hp) (nb:=hp.length);exact⟨h1,h2⟩
 .rename_i t ho;cases hr;exact⟨UI ho,new⟩
 .rename_i t x y ho;obtain⟨h1,h2,_⟩:=Ul ho hr hpp (nb:=hp.length);exact⟨h1,h2⟩
 .rename_i t x y ho;obtain⟨h1,h2,_⟩:=T3 ho hr hpp (nb:=hp.length);exact⟨h1,h2⟩
 .rename_i t x y ho;obtain⟨h1,h2,_⟩:=UP ho hr hpp (nb:=hp.length);exact⟨h1,h2⟩
 .rename_i t x y q ho;obtain⟨h1,h2,_⟩:=TR ho hr hpp (nb:=hp.length);exact⟨h1,h2⟩
 .rename_i t x y q ho;obtain⟨h1,h2,_⟩:=T8 ho hr hpp (nb:=hp.length);exact⟨h1,h2⟩
 .rename_i t x y q ho;obtain⟨h1,h2,_⟩:=Uv ho hr (nb:=hp.length);exact⟨h1,h2⟩
 .rename_i x i ho;split at hr
  .rename_i vs hx;split at hr
   .rename_i v hv;exact value hr (T0 ho hx hv)
   .cases hr
  .cases hr
 .rename_i t x f ho;split at hr
  .rename_i cs fs hx hu;split at hr
   .rename_i fd hf;split at hr
    .rename_i v hv;exact value hr (ok_field ho hx hu hf hv)
    .cases hr
   .cases hr
  .cases hr
 .rename_i t x f ho;split at hr
  .rename_i b i j off hx hf;exact value hr (Tg ho hx hf)
  .rename_i cs off hx hf;exact value hr (TP ho hx hf)
  .cases hr
 .rename_i t x y ho;obtain⟨h1,h2,_⟩:=Uw ho hr hpp (nb:=hp.length);exact⟨h1,h2⟩
 .rename_i t x ho;obtain⟨h1,h2,_⟩:=Th ho hr hpp (nb:=hp.length);exact⟨h1,h2⟩
 .rename_i t x y ho;split at hr
  .rw[<-TB] at hr;obtain⟨h1,h2,_⟩:=S5 (ev:=fun z=>wkr (ev z)) ho hr hpp (nb:=hp.length);exact⟨h1.lessEv,h2⟩
  .obtain⟨h1,h2,_⟩:=S5 ho hr hpp (nb:=hp.length);exact⟨h1,h2⟩
 .rename_i t ho;split at hr
  .rename_i i hi;split at hr
   .rename_i zv hz;split at hr
    .rename_i hc;simp only[VD] at hc;cases hr;exact⟨ok_alloc ho hi hz hc.1 hc.2,new⟩
    .cases hr
   .cases hr
  .cases hr
 .rename_i t x ho;split at hr
  .rename_i hc;simp only[VD] at hc;cases hr;exact⟨ok_box ho hc.1 hc.2,new⟩
  .cases hr
 .rename_i t parts ho;split at hr
  .rename_i v hv;exact value hr (ok_build ho hv)
  .cases hr
 .rename_i t n parts ho;split at hr
  .rename_i es z hv;split at hr
   .rename_i hc;simp only[VD] at hc;cases hr;refine⟨(Gq ho hv).toImm (VC hc.2) rfl fun e he c hcc=>?_,OpR.fits_value _ _⟩;exact VK.1 (VK.1 hc.1.2 e he) c hcc
   .split at hr
    .cases hr;exact⟨(Gq ho hv).wkNew (LL es),new⟩
    .cases hr;exact⟨Gq ho hv,new⟩
  .cases hr
 .rename_i t x y ho;split at hr
  .rename_i kl l kc c e z by_ hx hy ht;split at hr
   .rename_i hc;simp only[VD] at hc;cases hr;refine⟨(Rm ho hx hy ht hpp.1 hpp.2.1 hpp.2.2.1 hpp.2.2.2).toImm (by simp) rfl fun e' he c hcc=>?_,OpR.fits_value _ _⟩;rw[(List.mem_replicate.1 he).2] at hcc;exact VK.1 hc.2 c hcc
   .cases hr;exact⟨Rm ho hx hy ht hpp.1 hpp.2.1 hpp.2.2.1 hpp.2.2.2,new⟩
  .cases hr
 .rename_i t x lo hi mx ho;split at hr
  .obtain⟨h1,h2,_⟩:=Tp ho hr hpp;exact⟨h1,h2⟩
  split at hr
  .rename_i hn;obtain⟨ky,z,g1,rfl,g3,rfl,g5⟩:=UX hn;cases hi with
   | none=>simp at g3
   | some y=>simp only[Option.map_some,Vc] at g3;exact value hr (TD ho g1 g5 g3)
  .split at hr
   .obtain⟨h1,h2,_⟩:=TI ho hr hpp (h:=nth hp) (nb:=hp.length);exact⟨h1,h2⟩
   .obtain⟨h1,h2,_⟩:=TG ho hr hpp (nb:=hp.length);exact⟨h1,h2⟩
 .rename_i fn first caps ho;split at hr
  .rename_i f hfn hf;have:=B2 hf;subst this;exact value hr (Tf ho)
  .cases hr
 .rename_i t x ho;split at hr
  .rename_i el hu;exact value hr (Ty ho hu)
  .cases hr
 .rename_i c ho;obtain⟨callee,args,argTypes⟩:=c;simp only at hr;split at hr
  .rename_i x xs ts _;split at hr
   .rename_i hq;exact(hO _ _ ho rfl hq).elim
   .obtain⟨h1,h2,_⟩:=Tv ho hr hpp;exact⟨h1,h2⟩
  .rename_i x name xs ts _;obtain⟨h1,h2,_⟩:=T2 ho hr hpp;exact⟨h1,h2⟩
  .rename_i x t ts ha ht;have:=B2 ha;subst this;split at hr
   .rename_i b hx;rw[<-hx] at hr;obtain⟨h1,h2,_⟩:=UE (nb:=hp.length) (t:=t) ho (by rw[B2 ht];simp) hr;exact⟨h1,h2⟩
   .obtain⟨h1,h2,_⟩:=TF (h:=nth hp) (nb:=hp.length) (t:=t) ho (by rw[B2 ht];simp) hr;exact⟨h1,h2⟩
  .rename_i x t ts ha ht;have:=B2 ha;subst this;split at hr
   .rename_i hx hu;unfold unL at hu;split at hu
    .rename_i e he;exact value hr (TU ho (by rw[B2 ht];simp) he hx)
    .cases hu
   .cases hr
  .rename_i x y t ts ha ht;have:=B2 ha;subst this;obtain⟨h1,h2,_⟩:=T1 (nb:=hp.length) (t:=t) ho (by rw[B2 ht];simp) hr hpp;exact⟨h1,h2⟩
  .rename_i x y t t' ha ht;split at hr
   .rename_i hb;have hb:=VC hb;subst hb;have:=B2 ha;subst this;have:=B2 ht;subst this;split at hr
    .split at hr
     .rename_i r hq;exact UO hr hpp fun h2=>(Sf ho (R:=r.1) (p:=r.2) hq h2).1
     .cases hr
    .exact Sf ho hr hpp
   .split at hr
    .rename_i n e z by_ hx hy hz hi;have:=B2 ha;subst this;have:=B2 ht;subst this;cases hr;exact⟨UR ho hz (Uj hi) hx hy hpp.1 hpp.2.1 hpp.2.2,new⟩
    .cases hr
  .rename_i x y t t' ha ht;have:=B2 ha;subst this;have:=B2 ht;subst this;obtain⟨h1,h2,_⟩:=US ho hr hpp (nb:=hp.length);exact⟨h1,h2⟩
  .rename_i x t ha ht;have:=B2 ha;subst this;have:=B2 ht;subst this;exact Tk ho hr hpp
  .rename_i x y ts ha;have:=B2 ha;subst this;split at hr
   .rename_i k a k' b hx hy;split at hr
    .rename_i hk;have hk:=of_decide_eq_true hk;subst hk;exact value hr (SB ho hx hy (.inl ⟨rfl,rfl⟩))
    .cases hr
   .cases hr
  .rename_i x y ts ha;have:=B2 ha;subst this;split at hr
   .rename_i k a k' b hx hy;split at hr
    .rename_i hk;have hk:=of_decide_eq_true hk;subst hk;exact value hr (SB ho hx hy (.inr ⟨rfl,rfl⟩))
    .cases hr
   .cases hr
  .cases hr
 .cases hr
theorem P0{o:Oper}{ev:Operand->AV}{hp:List (Option Blk)}{hint:AF}{R:OpR}{p:Prop}(hr:aop P o ev hp hint=some (R,p))(hpp:p):
  EW P o ev (nth hp) hp.length R/\R.fits (nth hp):=by
 by_cases hO:∃c x,o.op = .call c/\c.callee = .value x/\isO hint=true
 .obtain⟨⟨callee,args,argTypes⟩,x,h1,h2,h3⟩:=hO;simp only at h2;subst h2;unfold aop at hr;rw[h1] at hr;simp only[h3] at hr;exact Ud h1 hr hpp
 .obtain⟨h1,h2⟩:=RR hr hpp fun c x g1 g2 g3=>hO ⟨c,x,g1,g2,g3⟩
  exact⟨h1.up,h2⟩
structure Lq(A0:Nat->Prop)(n0 m n:Nat)(φ:Phi)(fr:Nat->AV)(h:Hp)(a:Act)(w:World):Prop where
 defs:a.defers=[]
 size:a.tmps.size=n
 slot:∀s,VR φ (Ok A0 n0 φ h w) w (fr s) (a.tmps.getD s undef)
 heap:HR φ (Ok A0 n0 φ h w) w h
 base:n0<=w.heap.size
 own:∀b r z,m<=b->φ b=some (r,z)->A0 r\/n0<=r
def Hk:Nat->AV->List Nat
 | 0,_=>[]
 | d+1,v=>match v with
  | .ptr b _ _=>[b]
  | .sl b _ _=>[b]
  | .agg cs=>(cs.map (Hk d)).flatten
  | .tup cs=>(cs.map (Hk d)).flatten
  | .fn _ cs=>(cs.map (Hk d)).flatten
  | .ifc _ cs=>(cs.map (Hk d)).flatten
  | _=>[]
def Cu(nb:Nat):Nat->AV->Bool
 | 0,_=>false
 | d+1,v=>match v with
  | .ptr b _ _=>Nat.blt b nb
  | .sl b _ _=>Nat.blt b nb
  | .map b=>Nat.blt b nb
  | .agg cs=>cs.all (Cu nb d)
  | .tup cs=>cs.all (Cu nb d)
  | .fn _ cs=>cs.all (Cu nb d)
  | .ifc _ cs=>cs.all (Cu nb d)
  | _=>true
def Lz(nb:Nat)(blk:Blk):Bool:=match blk.flat with
 | true=>true
 | false=>blk.es.all fun e=>e.cells.all (Cu nb 3)
def BS(nb:Nat)(φ:Phi):Phi:=fun b=>if b<nb then φ b else none
theorem VR.cut{φ:Phi}{A:Nat->Prop}{w:World}{nb:Nat}:∀(d:Nat) (c:AV) (v:Value),VR φ A w c v->Cu nb d c=true->VR (BS nb φ) A w c v:=by
 intro d;induction d with
 | zero=>intro c v _ h;simp[Cu] at h
 | succ d ih=>
  intro c v h hb
  have kids:∀(cs:List AV) (vs:List Value),cs.all (Cu nb d)=true->(∀(i:Nat) c u,cs[i]?=some c->vs[i]?=some u->VR φ A w c u)->
    ∀(i:Nat) c u,cs[i]?=some c->vs[i]?=some u->VR (BS nb φ) A w c u:=by
   intro cs vs hall hh i c u hc hu;exact ih c u (hh i c u hc hu) (VK.1 hall _ (Vz hc))
  cases h with
  | imm a v h=>exact .imm _ _ h
  | ptr b i j r z hφ=>simp only[Cu,Nat.blt,Nat.ble_eq] at hb;exact .ptr b i j r z (by simp only[BS];rw[Vt (by omega)];exact hφ)
  | sl b i n r z cap hφ hn hr=>simp only[Cu,Nat.blt,Nat.ble_eq] at hb;exact .sl b i n r z cap (by simp only[BS];rw[Vt (by omega)];exact hφ) hn hr
  | slnil b i a=>exact .slnil b i a
  | map b r z hφ=>simp only[Cu,Nat.blt,Nat.ble_eq] at hb;exact .map b r z (by simp only[BS];rw[Vt (by omega)];exact hφ)
  | agg cs vs hl hh=>exact .agg _ _ hl (kids cs vs hb hh)
  | tup cs vs hl hh=>exact .tup _ _ hl (kids cs vs hb hh)
  | fn f cs vs hl hh=>exact .fn f _ _ hl (kids cs vs hb hh)
  | ifc t cs vs hl hh=>exact .ifc t _ _ hl (kids cs vs hb hh)
theorem Dz{nb:Nat}{φ:Phi}{b:Nat}{x:Nat×Nat}(h:BS nb φ b=some x):b<nb/\φ b=some x:=by
 unfold BS at h;split at h
 .exact⟨by assumption,h⟩
 .cases h
def Bs(nb:Nat)(R:OpR)(b:Nat):Option (Option Blk):=
 if b<nb then (match BJ R.chg b with
  | some blk=>some (some blk)
  | none=>match Bf R.dead b with | true=>some none | false=>none) else if b<nb+R.new.length then some R.new[b-nb]? else none
def B1(nb:Nat)(R:OpR)(h:Hp):Hp:=fun b=>(Bs nb R b).getD (h b)
def HK(dst:Option Nat)(v:AV)(fr:Nat->AV):Nat->AV:=fun s=>if dst=some s then v else fr s
theorem Lq.step{A0:Nat->Prop}{n0 m n nb:Nat}{φ:Phi}{fr:Nat->AV}{h h0:Hp}{a:Act}{w:World}(hr:Lq A0 n0 m n φ fr h a w){dst:Option Nat}{R:OpR}{v':Value}{w':World}{φ0:Phi}
  (hm:m<=nb) (hmd:∀b,b∈R.dead->m<=b) (hd:∀d,dst=some d->d<n) (hf:R.fits h0)
  (hsub:∀b blk,h0 b=some blk->b<nb/\h b=some blk) (hnew:∀b,nb<=b->b<nb+R.new.length->φ b=none)
  {A':Nat->Prop} (hA1:∀r,Ok A0 n0 φ h w r->A' r) (hA2:∀r,A' r->Ok A0 n0 φ h w r\/Ko (BS nb φ) h0 R φ0 nb r) (he:Eff (BS nb φ) A' w h0 nb R v' w' φ0):
  ∃φ',Lq A0 n0 m n φ' (HK dst R.v fr) (B1 nb R h) (a.put dst v') w'/\Tr m φ h w φ' (B1 nb R h) w'/\(∀b,φ' b≠none->φ b≠none\/(nb<=b/\b<nb+R.new.length)):=by
 let φ':Phi:=fun b=>if nb<=b/\b<nb+R.new.length then φ0 b else φ b
 have hin:∀b,nb<=b->b<nb+R.new.length->φ' b=φ0 b:=fun b h1 h2=>Vt ⟨h1,h2⟩
 have hoff:∀b,¬(nb<=b/\b<nb+R.new.length)->φ' b=φ b:=fun b h1=>Vu h1
 have hφ0:∀b x,φ0 b=some x->φ' b=some x:=by
  intro b x hb
  rcases Wm b nb with h1 | h1
  .rw[he.old b h1] at hb
   rw[hoff b (by omega)]
   exact(Dz hb).2
  .rcases Wm b (nb+R.new.length) with h2 | h2
   .rw[hin b h1 h2];exact hb
   .rw[he.out b h2] at hb;cases hb
 have hφ:∀b x,φ b=some x->φ' b=some x:=fun b x hb=>by
  by_cases h1:nb<=b/\b<nb+R.new.length
  .rw[hnew b h1.1 h1.2] at hb;cases hb
  .rw[hoff b h1];exact hb
 have hlive:∀b blk r z,h b=some blk->φ b=some (r,z)->r<w.heap.size:=by
  intro b blk r z hb hbr
  rcases hr.heap.blk b blk hb with ⟨_,h0,_⟩ | ⟨r',cs,T,h1,h2,_⟩ | ⟨_,r',_,h1,_,h2⟩
  .rw[hbr] at h0;cases h0
  .rw[hbr] at h1;simp at h1;rw[h1.1];exact(Wf.1 h2).1
  .rw[hbr] at h1;simp at h1;rw[h1.1];exact(Wf.1 h2).1
 have hnone:∀b blk,h b=some blk->φ b=none->blk.es=[]:=by
  intro b blk hb hbr
  rcases hr.heap.blk b blk hb with ⟨h1,_⟩ | ⟨r',cs,T,h1,h2,_⟩ | ⟨_,_,_,_,⟨h1,_⟩,_⟩
  .exact h1
  .rw[hbr] at h1;cases h1
  .exact h1
 -- what acts on b
 have A2:∀b blk,B1 nb R h b=some blk->(b<nb/\(b,blk)∈R.chg)\/(Bs nb R b=none/\h b=some blk)\/∃k,b=nb+k/\R.new[k]?=some blk:=by
  intro b blk hb
  unfold B1 at hb
  cases ha:Bs nb R b with
  | none=>rw[ha] at hb;exact .inr (.inl ⟨rfl,hb⟩)
  | some ob=>
   rw[ha] at hb
   simp only[Option.getD_some] at hb
   subst hb
   unfold Bs at ha
   split at ha
   .rename_i hlt
    split at ha
    .rename_i blk' hc;cases ha;exact .inl ⟨hlt,FA hc⟩
    .split at ha<;>cases ha
   .split at ha
    .rename_i h1 h2;simp at ha;exact .inr (.inr ⟨b-nb,by omega,ha⟩)
    .cases ha
 have hnact:∀b,Bs nb R b=none->b<nb->BJ R.chg b=none/\b∉R.dead:=by
  intro b ha hb
  unfold Bs at ha
  rw[Vt hb] at ha
  split at ha
  .cases ha
  .rename_i hc
   split at ha
   .cases ha
   .rename_i hd0;exact⟨hc,fun hm=>by rw[CM.2 hm] at hd0;cases hd0⟩
 have hnact2:∀b,Bs nb R b=none->¬(nb<=b/\b<nb+R.new.length):=by
  intro b ha hb
  unfold Bs at ha
  rw[Vu (by omega),Vt hb.2] at ha
  cases ha
 have hdirtyb:∀b,R.dirty b->∃blk0,h0 b=some blk0/\blk0.wr=true:=by
  intro b hb
  rcases hb with hb | ⟨blk,hb⟩
  .exact(hf.2 b hb).1
  .exact hf.1 b blk hb
 have hmut:∀r,Mut φ' (B1 nb R h) r->Mut φ h r\/(w.heap.size<=r/\New φ0 nb r):=by
  rintro r ⟨b,blk,z,hb,hw,hbr⟩
  rcases A2 b blk hb with ⟨hlt,hc⟩ | ⟨ha,hb⟩ | ⟨k,rfl,hk⟩
  .rw[hoff b (by omega)] at hbr
   obtain⟨blk0,g0,g1⟩:=hf.1 b blk hc
   exact .inl ⟨b,blk0,z,(hsub b blk0 g0).2,g1,hbr⟩
  .rw[hoff b (hnact2 b ha)] at hbr
   exact .inl ⟨b,blk,z,hb,hw,hbr⟩
  .have hlt:k<R.new.length:=(Vx.1 hk).1
   rw[hin _ (by omega) (by omega)] at hbr
   rcases he.fresh _ r z (by omega) hbr with ⟨h1,_⟩ | ⟨b0,z0,blk0,h1,h2,h3,h4⟩
   .exact .inr ⟨h1,nb+k,z,by omega,hbr⟩
   .exact .inl ⟨b0,blk0,z0,(hsub b0 blk0 h2).2,h3,(Dz h4).2⟩
 have hdirty:∀r,(∃b z,R.dirty b/\BS nb φ b=some (r,z))->Mut φ h r:=by
  rintro r ⟨b,z,hb,hbr⟩
  obtain⟨blk0,g0,g1⟩:=hdirtyb b hb
  exact⟨b,blk0,z,(hsub b blk0 g0).2,g1,(Dz hbr).2⟩
 have hmutlt:∀r,Mut φ h r->r<w.heap.size:=fun r ⟨b,blk,z,hb,_,hbr⟩=>hlive b blk r z hb hbr
 have hG:∀r,Bk A' φ0 nb w w' r->Ok A0 n0 φ' (B1 nb R h) w' r:=by
  rintro r (h0' | ⟨h1,h2,h3⟩)
  rcases hA2 r h0' with ⟨h1,h2,h3⟩ | ⟨b0,blk0,z0,k1,k2,k3,k4⟩
  rotate_left
  .have k3':=(Dz k3).2
   obtain⟨k5,k6⟩:=hsub _ _ k2
   refine⟨hr.own b0 r z0 (hmd b0 k1) k3',Wc (hlive b0 blk0 r z0 k6 k3') he.keep.size,?_⟩
   rintro⟨b,blk,z,hb,hw,hbr⟩
   rcases A2 b blk hb with ⟨hlt,hc⟩ | ⟨ha,hb⟩ | ⟨k,rfl,hk⟩
   .rw[hoff b (by omega)] at hbr
    obtain⟨blk1,q0,q1⟩:=hf.1 b blk hc
    have:=hr.heap.inj b b0 r _ _ (by simp[(hsub b blk1 q0).2]) (by simp[k6]) hbr k3'
    subst this
    exact GH (hf.2 _ k1).2 _ hc
   .rw[hoff b (hnact2 b ha)] at hbr
    have:=hr.heap.inj b b0 r _ _ (by simp[hb]) (by simp[k6]) hbr k3'
    subst this
    exact(hnact b ha k5).2 k1
   .have hlt:k<R.new.length:=(Vx.1 hk).1
    rw[hin _ (by omega) (by omega)] at hbr
    exact k4 ⟨nb+k,z,by omega,hbr⟩
  rotate_left
  .refine⟨h1,Wc h2 he.keep.size,fun hmm=>?_⟩
   rcases hmut r hmm with h | ⟨h,_⟩
   .exact h3 h
   .omega
  .refine⟨.inr (Wd hr.base h1),h2,fun hmm=>?_⟩
   rcases hmut r hmm with h | ⟨_,h⟩
   .have:=hmutlt r h;omega
   .exact h3 h
 have hA:∀r,Ok A0 n0 φ h w r->Ok A0 n0 φ' (B1 nb R h) w' r:=fun r h=>hG r (.inl (hA1 r h))
 have hblk:∀r,Ok A0 n0 φ h w r->w'.heap[r]?=w.heap[r]?:=fun r h=>he.keep.block r h.2.1 fun hd=>h.2.2 (hdirty r hd)
 have hmono:∀{c u},VR φ (Ok A0 n0 φ h w) w c u->VR φ' (Ok A0 n0 φ' (B1 nb R h) w') w' c u:=fun h=>h.mono hφ hA hblk he.keep.row
 have hmono2:∀{c u},VR φ0 (Bk A' φ0 nb w w') w' c u->VR φ' (Ok A0 n0 φ' (B1 nb R h) w') w' c u:=fun h=>
  h.mono hφ0 hG (fun _ _=>rfl) (fun _=>VH _)
 have hbr2:∀{b blk},(φ0 b=none->φ' b=none)->BR φ0 (Bk A' φ0 nb w w') w' b blk->BR φ' (Ok A0 n0 φ' (B1 nb R h) w') w' b blk:=by
  rintro b blk hb0 (⟨h1,h2,h3⟩ | ⟨r,cs,T,h1,h2,h3,h4⟩ | ⟨m,r,h1,h2,h3,h4⟩)
  .exact .inl ⟨h1,hb0 h2,h3⟩
  case inr.inr=>exact .inr (.inr ⟨m,r,h1,hφ0 _ _ h2,h3,h4⟩)
  .refine .inr (.inl ⟨r,cs,T,hφ0 _ _ h1,h2,h3,fun i e hi=>⟨(h4 i e hi).1,fun j c hj=>?_⟩⟩)
   obtain⟨g1,u,g2,g3⟩:=(h4 i e hi).2 j c hj
   exact⟨g1,u,g2,hmono2 g3⟩
 have hold:∀b,(B1 nb R h b).isSome=true->¬(nb<=b/\b<nb+R.new.length)->(h b).isSome=true/\(b∈R.dead->False):=by
  intro b hs hnr
  obtain⟨blk,hb⟩:=Option.isSome_iff_exists.1 hs
  rcases A2 b blk hb with ⟨_,h⟩ | ⟨h1,h2⟩ | ⟨k,h1,h2⟩
  .obtain⟨blk0,h0,_⟩:=hf.1 b blk h
   refine⟨by simp[(hsub _ _ h0).2],fun hd0=>?_⟩
   exact absurd h (GH (hf.2 b hd0).2 blk)
  .refine⟨by simp[h2],fun hd0=>?_⟩
   obtain⟨⟨blk0,g0,_⟩,_⟩:=hf.2 b hd0
   exact(hnact b h1 (hsub _ _ g0).1).2 hd0
  .have hlt:k<R.new.length:=(Vx.1 h2).1
   omega
 refine⟨φ',⟨?_,?_,fun s=>?_,⟨fun b blk hb=>?_,fun b blk hb hfl=>?_,fun b b' r z z' hb hb' h1 h2=>?_⟩,Wd hr.base he.keep.size,fun b r z hb hbr=>?_⟩,⟨fun b hb=>hoff b (by omega),?_,fun r h=>(hmut r h).imp id (·.1)⟩,fun b hb=>?_⟩
 .cases ho:dst<;>simpa [Act.put,ho] using hr.defs
 .cases ho:dst<;>simpa [Act.put,ho] using hr.size
 .show VR _ _ _ (HK dst R.v fr s) _
  unfold HK
  cases ho:dst with
  | none=>have:=hmono (hr.slot s);simpa [Act.put,ho] using this
  | some d=>
   by_cases hds:d=s
   .subst hds
    rw[Vt rfl]
    have:d<a.tmps.size:=by rw[hr.size];exact hd d ho
    have e1:(a.put (some d) v').tmps.getD d undef=v':=by simp[Act.put,this]
    rw[e1]
    exact hmono2 he.val
   .rw[Vu (by simpa using hds)]
    have e1:(a.put (some d) v').tmps.getD s undef=a.tmps.getD s undef:=by simp[Act.put,Vp hds]
    rw[e1]
    exact hmono (hr.slot s)
 .rcases A2 b blk hb with ⟨hlt,h⟩ | ⟨ha,h2⟩ | ⟨k,rfl,hk⟩
  .exact hbr2 (fun h0=>by
    rw[he.old b hlt] at h0
    rw[hoff b (by omega)]
    unfold BS at h0
    rwa [Vt hlt] at h0) (he.chgd b blk h)
  .have hkp:∀r z,φ b=some (r,z)->w'.heap[r]?=w.heap[r]?:=by
    intro r z g1
    refine he.keep.block r (hlive b blk r _ h2 g1) ?_
    rintro⟨b',z',hdd,hb'⟩
    obtain⟨blk0,q0,_⟩:=hdirtyb b' hdd
    obtain⟨q1,q2⟩:=hsub _ _ q0
    have hbb:=hr.heap.inj b b' r _ _ (by simp[h2]) (by simp[q2]) g1 (Dz hb').2
    subst hbb
    obtain⟨k1,k2⟩:=hnact b ha q1
    rcases hdd with hdd | ⟨blk',hdd⟩
    .exact k2 hdd
    .exact GH k1 blk' hdd
   rcases hr.heap.blk b blk h2 with ⟨g1,g2,g3⟩ | ⟨r,cs,T,g1,g2,g3,g4⟩ | ⟨m,r,g1,g2,g3,g4⟩
   .exact .inl ⟨g1,by rw[hoff b (hnact2 b ha)];exact g2,g3⟩
   case inr.inr=>exact .inr (.inr ⟨m,r,g1,hφ _ _ g2,g3,by rw[hkp _ _ g2];exact g4⟩)
   .refine .inr (.inl ⟨r,cs,T,hφ _ _ g1,by rw[hkp _ _ g1];exact g2,g3,fun i e he=>⟨(g4 i e he).1,fun j c hj=>?_⟩⟩)
    obtain⟨k1,u,k2,k3⟩:=(g4 i e he).2 j c hj
    exact⟨k1,u,k2,hmono k3⟩
  .have hlt:k<R.new.length:=(Vx.1 hk).1
   exact hbr2 (fun h0=>by rw[hin _ (by omega) (by omega)];exact h0) (he.newb k blk hk)
 .rcases A2 b blk hb with ⟨hlt,h⟩ | ⟨_,h2⟩ | ⟨k,rfl,hk⟩
  .exact he.flc b blk h hfl
  .exact hr.heap.flat b blk h2 hfl
  .exact he.fln blk (Vz hk) hfl
 .have mixed:∀b b' r z z',¬(nb<=b/\b<nb+R.new.length)->(nb<=b'/\b'<nb+R.new.length)->(B1 nb R h b).isSome=true->φ' b=some (r,z)->φ' b'=some (r,z')->False:=by
   intro b b' r z z' hlt hge hs h1 h2
   obtain⟨g1,g2⟩:=hold b hs hlt
   obtain⟨blk,hblk⟩:=Option.isSome_iff_exists.1 g1
   rw[hoff b hlt] at h1
   rw[hin b' hge.1 hge.2] at h2
   rcases he.fresh b' r z' hge.1 h2 with ⟨k1,_⟩ | ⟨b0,z0,blk0,k1,k2,k3,k4⟩
   .have:=hlive b blk r z hblk h1;omega
   .have:=hr.heap.inj b b0 r _ _ g1 (by simp[(hsub _ _ k2).2]) h1 (Dz k4).2
    subst this;exact g2 k1
  by_cases e1:nb<=b/\b<nb+R.new.length
  .by_cases e2:nb<=b'/\b'<nb+R.new.length
   .rw[hin b e1.1 e1.2] at h1;rw[hin b' e2.1 e2.2] at h2
    exact he.inj b b' r z z' e1.1 e2.1 h1 h2
   .exact(mixed b' b r z' z e2 e1 hb' h2 h1).elim
  .by_cases e2:nb<=b'/\b'<nb+R.new.length
   .exact(mixed b b' r z z' e1 e2 hb h1 h2).elim
   .rw[hoff b e1] at h1;rw[hoff b' e2] at h2
    exact hr.heap.inj b b' r z z' (hold b hb e1).1 (hold b' hb' e2).1 h1 h2
 .by_cases e1:nb<=b/\b<nb+R.new.length
  .rw[hin b e1.1 e1.2] at hbr
   rcases he.fresh b r z e1.1 hbr with ⟨h1,_⟩ | ⟨b0,z0,blk0,h1,_,_,h4⟩
   .exact .inr (Wd hr.base h1)
   .exact hr.own b0 r z0 (hmd b0 h1) (Dz h4).2
  .rw[hoff b e1] at hbr;exact hr.own b r z hb hbr
 .exact he.keep.mono hdirty
 .by_cases e1:nb<=b/\b<nb+R.new.length
  .exact .inr e1
  .rw[hoff b e1] at hb;exact .inl hb
structure HT where
 dec:List (Nat×Bool):=[]
 els:List (Nat×AV):=[]
 calls:Nat->FuncId->List AV->List (Option Blk)->AF:=fun _ _ _ _=>.no
 unroll:Bool:=false
def LM{α:Type}:List (Nat×α)->Nat->Option α
 | [],_=>none
 | (k,v)::r,s=>match Nat.beq k s with | true=>some v | false=>LM r s
def O2(H:HT)(s:Nat):AF:=match LM H.els s with | some e=>.el e | none=>.no
def hintOf(H:HT)(o:Oper)(ev:Operand->AV)(hp:List (Option Blk)):AF:=
 match o.op with
 | .call c=>match c.callee with
  | .value x=>match ev x with
   | .fn f caps=>H.calls (match o.dst with | some d=>d | none=>0) f (c.args.toList.map ev++caps) hp
   | _=>.no
  | .builtin _=>match o.dst with
   | some d=>O2 H d
   | none=>.no
  | .invoke _ _=>H.calls (match o.dst with | some d=>d | none=>0) 0 [] hp
 | .store _ (.tmp s) _=>O2 H s
 | _=>match o.dst with
  | some d=>O2 H d
  | none=>.no
structure Pl where
 run:Bool
 fr:List (Nat×AV)
 hp:List (Option Blk)
 R:OpR
 reads:List Nat
def C7(T:List Nat):Nat->List (Option Blk)->List (Option Blk)
 | _,[]=>[]
 | i,x::r=>(match Bf T i with | true=>x | false=>none)::C7 T (i+1) r
theorem N9(T:List Nat):∀(i:Nat) (l:List (Option Blk)),(C7 T i l).length=l.length | _,[]=>rfl | i,x::r=>by simp[C7,N9 T (i+1) r]
theorem QN(T:List Nat):∀(l:List (Option Blk)) (i b:Nat) (blk:Blk),nth (C7 T i l) b=some blk->nth l b=some blk:=by
 intro l;induction l with
 | nil=>intro i b blk h;simp[C7,nth] at h
 | cons x r ih=>
  intro i b blk h;cases b with
  | zero=>
   simp only[C7,nth] at h ⊢
   split at h
   .exact h
   .cases h
  | succ b=>simp only[C7,nth] at h ⊢;exact ih _ _ _ h
def refsB(blk:Blk):List Nat:=match blk.flat with
 | true=>[]
 | false=>(blk.es.map fun e=>(e.cells.map (Hk 3)).flatten).flatten
def Pw(hp:List (Option Blk)):Nat->List Nat->List Nat
 | 0,T=>T
 | k+1,T=>Pw hp k (T++(T.map fun b=>match nth hp b with | some blk=>refsB blk | none=>[]).flatten)
def M6(o:Oper):List Nat:=o.op.operands.toList.filterMap fun x=>match x with | .tmp t=>some t | _=>none
def belowO(nb:Nat):Option Blk->Bool | some blk=>Lz nb blk | none=>true
def gd(H:HT)(g:Nat)(b:Bool):Bool×Prop:=match LM H.dec g with
 | some d=>(d,b=d)
 | none=>(b,True)
theorem En{H:HT}{g:Nat}{b:Bool}(h:(gd H g b).2):b=(gd H g b).1:=by
 unfold gd at *;split at h
 .rename_i d hd;exact h
 .rfl
def Kb(H:HT)(s:Nat)(v:AV):AV:=match v with
 | .bool b=>.bool (gd H s b).1
 | v=>v
def refP(H:HT)(s:Nat)(v:AV):Prop:=match v with
 | .bool b=>(gd H s b).2
 | _=>True
theorem refV_eq{H:HT}{s:Nat}{v:AV}(h:refP H s v):Kb H s v=v:=by
 cases v<;>first | rfl | skip
 rename_i b;simp only[Kb,refP] at *;rw[<-En h]
def touch(o:Oper):Bool:=match o.op with
 | .load _ _=>true
 | .store _ _ _=>true
 | .indexAddr _ _ _=>true
 | .slice _ _ _ _ _=>true
 | .call c=>match c.callee with
  | .builtin .len=>false
  | .builtin .min=>false
  | .builtin .max=>false
  | _=>true
 | _=>false
def roots(o:Oper)(fr:List (Nat×AV)):List Nat:=match touch o with
 | true=>(fr.map fun x=>Hk 3 x.2).flatten
 | false=>[]
def SP(o:Oper):Nat:=match o.op with
 | .load _ _=>0
 | _=>2
def Hj(P:Program)(H:HT)(dr:Bool)(m:Nat)(o:Oper)(st:St)(rs:List Nat):Option (Pl×Prop):=
 let sl:=M6 o
 let fr:=sl.map fun s=>(s,Kb H s (Av st.fr s))
 let ev:=St.ev {n:=st.n,fr,hp:=[]}
 let hp:=match dr with | true=>C7 (Pw st.hp (SP o) (roots o fr)) 0 st.hp | false=>st.hp
 match aop P o ev hp (hintOf H o ev hp) with
 | some (R,p)=>match R.dead.all (Nat.ble m)&&(!dr||(fr.all (fun x=>Cu st.hp.length 4 x.2)&&hp.all (belowO st.hp.length))) with
  | true=>some ({run:=true,fr,hp,R,reads:=rs++sl},(sl.map fun s=>refP H s (Av st.fr s)).foldr And p)
  | false=>none
 | none=>none
def IP(g:Nat)(st:St):Pl:={run:=false,fr:=[],hp:=C7 [] 0 st.hp,R:={v:=.tup []},reads:=[g]}
def dstOk:Option Nat->Nat->Bool | some d,n=>Nat.blt d n | none,_=>true
def NO(P:Program)(H:HT)(dr:Bool)(m:Nat)(ops:Array Oper)(o:Oper)(st:St):Option (Pl×Prop):=
 match dstOk o.dst st.n with
 | false=>none
 | true=>
  match o.guard with
  | none=>Hj P H dr m o st []
  | some (k,want)=>
   match (ops[k]?).bind (·.dst) with
   | none=>none
   | some g=>match Av st.fr g with
    | .bool b=>match (gd H g b).1,want with
     | true,true=>match Hj P H dr m o st [g] with
      | some (pl,p)=>some (pl,(gd H g b).2/\p)
      | none=>none
     | false,false=>match Hj P H dr m o st [g] with
      | some (pl,p)=>some (pl,(gd H g b).2/\p)
      | none=>none
     | _,_=>some (IP g st,(gd H g b).2)
    | .tup l=>match l with
     | []=>some (IP g st,True)
     | _=>none
    | _=>none
structure PlF(P:Program)(dr:Bool)(m:Nat)(ops:Array Oper)(o:Oper)(st:St)(pl:Pl):Prop where
 dst:∀d,o.dst=some d->d<st.n
 len:pl.hp.length=st.hp.length
 hsub:∀b blk,nth pl.hp b=some blk->nth st.hp b=some blk
 whole:dr=false->pl.run=true->pl.hp=st.hp
 dead:∀b,b∈pl.R.dead->m<=b
 fits:pl.R.fits (nth pl.hp)
 below:dr=true->∀b blk,nth pl.hp b=some blk->Lz st.hp.length blk=true
 slots:∀s,Av pl.fr s = .unk\/(s∈pl.reads/\Av pl.fr s=Av st.fr s)
 belowS:dr=true->∀s,Cu st.hp.length 4 (Av pl.fr s)=true
 run:pl.run=true->EW P o (St.ev {n:=st.n,fr:=pl.fr,hp:=[]}) (nth pl.hp) st.hp.length pl.R/\
  (∀k want,o.guard=some (k,want)->∃g,(ops[k]?).bind (·.dst)=some g/\g∈pl.reads/\Av st.fr g = .bool want)
 skip:pl.run=false->pl.R={v:=.tup []}/\∃k want g,o.guard=some (k,want)/\(ops[k]?).bind (·.dst)=some g/\g∈pl.reads/\(Av st.fr g = .bool (!want)\/Av st.fr g = .tup [])
theorem UA(f:Nat->AV):∀(l:List Nat) (s:Nat),Av (l.map fun s=>(s,f s)) s = .unk\/(s∈l/\Av (l.map fun s=>(s,f s)) s=f s):=by
 intro l;induction l with
 | nil=>intro s;exact .inl rfl
 | cons x r ih=>
  intro s;simp only[Vr,Av];cases hb:Nat.beq x s with
  | true=>have:=VC hb;subst this;exact .inr ⟨by simp,rfl⟩
  | false=>exact(ih s).imp id fun h=>⟨VN _ h.1,h.2⟩
theorem Um{p:AV->Prop}{l:List (Nat×AV)}(h0:p .unk)(h:∀x∈l,p x.2)(s:Nat):p (Av l s):=by
 induction l with
 | nil=>exact h0
 | cons x r ih=>
  obtain⟨k,v⟩:=x;simp only[Av];split
  .exact h (k,v) (by simp)
  .exact ih fun y hy=>h y (VN _ hy)
theorem Rt{H:HT}{dr:Bool}{m:Nat}{o:Oper}{st:St}{rs:List Nat}{pl:Pl}{p:Prop}(h:Hj P H dr m o st rs=some (pl,p))(hp:p):
  pl.run=true/\(∀g∈rs,g∈pl.reads)/\pl.hp.length=st.hp.length/\(∀b blk,nth pl.hp b=some blk->nth st.hp b=some blk)/\(dr=false->pl.hp=st.hp)/\(∀b,b∈pl.R.dead->m<=b)/\
  pl.R.fits (nth pl.hp)/\(dr=true->∀b blk,nth pl.hp b=some blk->Lz st.hp.length blk=true)/\(∀s,Av pl.fr s = .unk\/(s∈pl.reads/\Av pl.fr s=Av st.fr s))/\
  (dr=true->∀s,Cu st.hp.length 4 (Av pl.fr s)=true)/\EW P o (St.ev {n:=st.n,fr:=pl.fr,hp:=[]}) (nth pl.hp) st.hp.length pl.R:=by
 unfold Hj at h;simp only at h;generalize hhp:(match dr with | true=>C7 (Pw st.hp (SP o) (roots o ((M6 o).map fun s=>(s,Kb H s (Av st.fr s))))) 0 st.hp | false=>st.hp)=hp' at h;have hlen:hp'.length=st.hp.length:=by
  rw[<-hhp];cases dr
  .rfl
  .exact N9 _ _ _
 have hsub:∀b blk,nth hp' b=some blk->nth st.hp b=some blk:=by
  intro b blk hb;rw[<-hhp] at hb;cases dr
  .exact hb
  .exact QN _ _ _ _ _ hb
 have hwhole:dr=false->hp'=st.hp:=by rintro rfl;exact hhp.symm
 split at h
 case h_2=>cases h
 rename_i R q hop;split at h
 case h_2=>cases h
 rename_i hc;cases h;simp only[VD,Bool.or_eq_true,Wh] at hc;obtain⟨hrf,hp⟩:=ED hp;obtain⟨h1,h2⟩:=P0 hop hp;rw[hlen] at h1;refine⟨rfl,fun g hg=>List.mem_append_left _ hg,hlen,hsub,hwhole,fun b hb=>VU (VK.1 hc.1 b hb),h2,fun hd b blk hb=>?_,fun s=>?_,fun hd s=>?_,h1⟩
 .rcases hc.2 with hc | hc
  .rw[hd] at hc;cases hc
  .have hm:some blk∈hp':=by
    rw[Cr] at hb;cases hq:hp'[b]? with
    | none=>simp[hq] at hb
    | some ob=>simp[hq] at hb;subst hb;exact Vz hq
   exact VK.1 hc.2 _ hm
 .exact(UA (fun s=>Kb H s (Av st.fr s)) (M6 o) s).imp id fun h=>⟨List.mem_append_right _ h.1,h.2.trans (refV_eq (hrf _ (V0.2 ⟨s,h.1,rfl⟩)))⟩
 .rcases hc.2 with hc | hc
  .rw[hd] at hc;cases hc
  .exact Um (p:=fun v=>Cu st.hp.length 4 v=true) rfl (fun x hx=>VK.1 hc.1 x hx) s
theorem SX{dr:Bool}{m:Nat}{ops:Array Oper}{o:Oper}{st:St}{k g:Nat}{want:Bool}(hd:∀d,o.dst=some d->d<st.n)(hg:o.guard=some (k,want))(hk:(ops[k]?).bind (·.dst)=some g)
  (hv:Av st.fr g = .bool (!want)\/Av st.fr g = .tup []):PlF P dr m ops o st (IP g st):=by
 refine⟨hd,N9 _ _ _,fun b blk h=>QN _ _ _ _ _ h,fun _ h=>(by cases h),fun b h=>(by simp[IP] at h),OpR.fits_value _ _,fun _ b blk h=>?_,fun s=>.inl rfl,fun _ s=>rfl,fun h=>(by cases h),fun _=>⟨rfl,k,want,g,hg,hk,by simp[IP],hv⟩⟩;exfalso;have:∀(l:List (Option Blk)) (i b:Nat),nth (C7 [] i l) b=none:=by
  intro l;induction l with
  | nil=>intro i b;rfl
  | cons x r ih=>intro i b;cases b with
   | zero=>rfl
   | succ b=>exact ih _ _
 simp only[IP] at h;rw[this] at h;cases h
theorem Rw{H:HT}{dr:Bool}{m:Nat}{ops:Array Oper}{o:Oper}{st:St}{pl:Pl}{p:Prop}(h:NO P H dr m ops o st=some (pl,p))(hp:p):PlF P dr m ops o st pl:=by
 unfold NO at h;split at h
 case h_1=>cases h
 rename_i hdst;have hd:∀d,o.dst=some d->d<st.n:=by intro d hd;rw[hd] at hdst;exact VU (show Nat.ble (d+1) st.n=true from hdst)
 split at h
 .rename_i hg;obtain⟨h1,h2,h3,h4,h5,h6,h7,h8,h9,h10,h11⟩:=Rt h hp;exact⟨hd,h3,h4,fun h _=>h5 h,h6,h7,h8,h9,h10,fun _=>⟨h11,fun k want hk=>by rw[hg] at hk;cases hk⟩,fun h=>by rw[h1] at h;cases h⟩
 rename_i k want hg;split at h
 case h_1=>cases h
 rename_i g hk;split at h
 .rename_i b hb;have main:∀p0,(gd H g b).2->(gd H g b).1=want->Hj P H dr m o st [g]=some (pl,p0)->p0->PlF P dr m ops o st pl:=by intro p0 hgp hw hr hp0;obtain⟨h1,h2,h3,h4,h5,h6,h7,h8,h9,h10,h11⟩:=Rt hr hp0;refine⟨hd,h3,h4,fun h _=>h5 h,h6,h7,h8,h9,h10,fun _=>⟨h11,fun k' want' hk'=>?_⟩,fun h=>by rw[h1] at h;cases h⟩;rw[hg] at hk';cases hk';exact⟨g,hk,h2 g (by simp),by rw[hb,En hgp,hw]⟩
  split at h
  .rename_i hw;split at h
   .rename_i pl' p' hr;cases h;exact main _ hp.1 hw hr hp.2
   .cases h
  .rename_i hw;split at h
   .rename_i pl' p' hr;cases h;exact main _ hp.1 hw hr hp.2
   .cases h
  .rename_i n1 n2;cases h;refine SX hd hg hk (.inl ?_);rw[hb,En hp];congr 1;revert n1 n2;cases (gd H g b).1<;>(intro n1 n2;simp at n1 n2;first | (simp[n1];done) | (simp[n2];done))
 .rename_i l hl;split at h
  .cases h;exact SX hd hg hk (.inr hl)
  .cases h
 .cases h
def EG(P:Program)(H:HT)(dr:Bool)(m:Nat)(ops:Array Oper):List Oper->St->Option (List (Option Nat×Pl)×St×Prop)
 | [],st=>some ([],st,True)
 | o::r,st=>match NO P H dr m ops o st with
  | some (pl,p)=>match EG P H dr m ops r (st.app o.dst pl.R) with
   | some (pls,st',q)=>some ((o.dst,pl)::pls,st',p/\q)
   | none=>none
  | none=>none
def AM(st:St)(pls:List (Option Nat×Pl)):Nat->St
 | 0=>st
 | j+1=>match pls[j]? with
  | some x=>(AM st pls j).app x.1 x.2.R
  | none=>AM st pls j
theorem RH(st:St)(x:Option Nat×Pl)(pls:List (Option Nat×Pl)):∀j,AM st (x::pls) (j+1)=AM (st.app x.1 x.2.R) pls j:=by
 intro j;induction j with
 | zero=>rfl
 | succ j ih=>show(match (x::pls)[j+1]? with | some x=>_ | none=>_)=_;simp only[List.getElem?_cons_succ];rw[ih];rfl
theorem Uf{H:HT}{dr:Bool}{m:Nat}{ops:Array Oper}:∀{l:List Oper} {st st':St} {pls:List (Option Nat×Pl)} {p:Prop},EG P H dr m ops l st=some (pls,st',p)->p->
  pls.length=l.length/\st'=AM st pls l.length/\∀(j:Nat) o,l[j]?=some o->∃pl,pls[j]?=some (o.dst,pl)/\PlF P dr m ops o (AM st pls j) pl:=by
 intro l;induction l with
 | nil=>intro st st' pls p h hp;simp only[EG,Vc,Vm] at h;obtain⟨rfl,rfl,_⟩:=h;exact⟨rfl,rfl,fun j o h=>by simp at h⟩
 | cons o r ih=>
  intro st st' pls p h hp;simp only[EG] at h;split at h
  case h_2=>cases h
  rename_i pl p1 h1;split at h
  case h_2=>cases h
  rename_i pls' st1 q h2;cases h;obtain⟨g1,g2,g3⟩:=ih h2 hp.2;refine⟨by simp[g1],by rw[g2,Wa,RH],fun j o' hj=>?_⟩;cases j with
  | zero=>simp at hj;subst hj;exact⟨pl,rfl,Rw h1 hp.1⟩
  | succ j=>obtain⟨pl',k1,k2⟩:=g3 j o' (by simpa using hj);exact⟨pl',by simpa using k1,by rw[RH];exact k2⟩
end Go.AX

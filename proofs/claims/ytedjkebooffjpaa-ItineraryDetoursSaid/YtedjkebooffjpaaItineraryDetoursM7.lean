/- Parts of the proof:SgD,SgE,It1m,ItP,ItC,ItA,It2m,SgH,Rp1m,RpA,Rp2m,RpB,Rp3m,RpC,Sg3m,SgF,SgI,SgG,ItD,ItE,ItF,ItG,It4m,ItH,It3m,ItI,It5m,It6m,ItJ,It8m,ItK,It9m,ItL,It10m,ItM,It11m,It7m,ItN,Sg4m,SgJ,SgK. -/
import Derived.KernelRfl
import Derived.Test.YtedjkebooffjpaaProg
import Derived.Test.YtedjkebooffjpaaItineraryDetoursM6
noncomputable section
set_option linter.unusedVariables false
set_option linter.unusedSimpArgs false
open Go Go.AX Go.Proofs
set_option maxRecDepth 100000
set_option linter.unusedVariables false
set_option linter.unusedSimpArgs false
open Go.IntKind (i64 u64)
open List renaming map->Uu,replicate->Uv,range->Uy
open Int renaming toNat->Uz
open Go.AX.AV renaming lst->UA
open Go.Proofs.Try renaming prog->UB
namespace Go.Proofs.Ytedjkebooffjpaa
def prL(l:Al)(c k:Nat):List Int:=(l.qu.take c).flatten++(l.qu.getD c []).take k
def bdO(l:Al)(c:Nat):Bool:=decide (l.ow.getD c 0 < -1)||decide (8<=l.ow.getD c 0)
def bdQ(l:Al)(c k:Nat):Bool:=decide ((l.qu.getD c []).getD k 0<0)||(decide (8<=(l.qu.getD c []).getD k 0)||(Ay (prL l c k) ((l.qu.getD c []).getD k 0)||(l.qu.getD c []).getD k 0==l.ow.getD c 0))
def bdR(l:Al)(c:Nat):Bool:=bdO l c||(fnd (bdQ l c) 0 (l.qu.getD c []).length).isSome
def BZ(l:Al):Bool:=decide (l.ow.length<=48)&&(decide (l.ow.length=l.qu.length)&&(fnd (bdR l) 0 l.qu.length).isNone)
theorem JN{l:Al}(h:BZ l=true):l.ow.length=l.qu.length/\l.ow.length<=48:=by unfold BZ at h;simp only[TF,decide_eq_true_eq] at h;exact⟨h.2.1,h.1⟩
theorem CA{l:List Int}{x:Int}(h0:0<=x)(i:Nat):(bif Nat.beq i (0+x.toNat * 1) then true else Ay l (i:Int))=Ay (l++[x]) (i:Int):=by
 rw[beqM,Bool.eq_iff_iff,Dj,T3,Tm];split
 .exact⟨fun _=>.inr (by omega),fun _=>rfl⟩
 .rw[Dj];exact⟨.inl,fun h=>h.elim id fun e=>absurd e (by omega)⟩
theorem P3{l:Al}{c k:Nat}(h:k<(l.qu.getD c []).length):prL l c (k+1)=prL l c k++[(l.qu.getD c []).getD k 0]:=by unfold prL;rw[List.take_add_one,AP 0 h,List.append_assoc];rfl
theorem Qi{l:Al}{c:Nat}:prL l c (l.qu.getD c []).length=prL l (c+1) 0:=by unfold prL;rw[List.take_length,List.take_zero,List.append_nil,List.take_add_one,List.flatten_append,Ty];cases l.qu[c]?<;>simp
theorem I5{α:Type}{f:Nat->Bool}{k:Nat}(h:k<8){F:Bool->Option α}:el [f 0,f 1,f 2,f 3,f 4,f 5,f 6,f 7] (0+k * 1) F=F (f k):=by have e:[f 0,f 1,f 2,f 3,f 4,f 5,f 6,f 7]=(Uy 8).map f:=rfl;rw[e,TP,Nat.mul_one];exact AF (by rw[TH,TW h];rfl)
theorem le8{x:Int}(h0:0<=x)(h1:x<8):(0+x.toNat * 1+1).le 8:=show 0+x.toNat * 1+1<=8 by omega
theorem Ji{l:Al}{c k:Nat}(h:bdQ l c k=false):0<=(l.qu.getD c []).getD k 0/\(l.qu.getD c []).getD k 0<8/\Ay (prL l c k) ((l.qu.getD c []).getD k 0)=false/\((l.qu.getD c []).getD k 0==l.ow.getD c 0)=false:=by unfold bdQ at h;simp only[Bool.or_eq_false_iff,decide_eq_false_iff_not] at h;exact⟨by omega,by omega,h.2.2.1,h.2.2.2⟩
theorem IM{l:Al}{c k:Nat}(hk:k<=(l.qu.getD c []).length)(h:∀j,j<k->bdQ l c j=false):k<=8:=by
 have hn:((l.qu.getD c []).take k).Nodup:=Nk fun j hj=>by
  rw[T1] at hj;have e:((l.qu.getD c []).take k).getD j 0=(l.qu.getD c []).getD j 0:=by rw[Ty,TT,Tv (by omega),<-Ty]
  rw[e,List.take_take,Nat.min_eq_left (by omega)];have:=(Ji (h j (by omega))).2.2.1;cases h2:Ay ((l.qu.getD c []).take j) ((l.qu.getD c []).getD j 0) with
  | false=>rfl
  | true=>exact absurd (T3.2 (.inr (Dj.1 h2))) (Kw this)
 have:=IX hn (d:=(Uy 8).map fun i:Nat=>(i:Int)) fun x hx=>by obtain⟨j,hj,rfl⟩:=Ua.1 hx;rw[T1] at hj;have:=Ji (h j (by omega));rw[Ty,Tx (show j<(l.qu.getD c []).length by omega)] at this;simp only[Option.getD_some] at this;rw[List.getElem_take];exact ML (by omega) (by omega)
 rw[TA,Ug,T1] at this;omega
def HY(l:Al)(c:Nat):Db:=let f:=fun i:Nat=>Ay (prL l c 0) (i:Int);.l0 (c:Int) (f 0) (f 1) (f 2) (f 3) (f 4) (f 5) (f 6) (f 7)
def IG(l:Al)(c k:Nat):Db:=let f:=fun i:Nat=>Ay (prL l c k) (i:Int);.l1 (c:Int) (l.qu.getD c []) (l.qu.getD c []).length (k:Int) (f 0) (f 1) (f 2) (f 3) (f 4) (f 5) (f 6) (f 7)
theorem Pp{l:Al}{c:Nat}(hc:c<l.qu.length)(ho:l.ow.length=l.qu.length)(h48:l.ow.length<=48){x:Ret}(hx:fnd (bdQ l c) 0 (l.qu.getD c []).length=none->Ax (JS l) (some (.inl (HY l (c+1)))) x):
  Ax (JS l) (some (.inl (IG l c 0))) (match fnd (bdQ l c) 0 (l.qu.getD c []).length with | some _=>([],.bool false) | none=>x):=by
 refine(Fm (fun k=>IG l c k) (l.qu.getD c []).length (bdQ l c) (rF:=fun _=>(([],.bool false):Ret)) (r:=x) (fun k hk hj hp=>?_) (fun k x hk hj hp hx=>?_) (fun hn=>?_)).res (by cases fnd (bdQ l c) 0 (l.qu.getD c []).length<;>rfl)
 .have h8:=IM (Nat.le_of_lt hk) hj;refine .to (show E1 l c (l.qu.getD c []) (l.qu.getD c []).length k (Ay (prL l c k) ((0:Nat):Int)) (Ay (prL l c k) ((1:Nat):Int)) (Ay (prL l c k) ((2:Nat):Int)) (Ay (prL l c k) ((3:Nat):Int)) (Ay (prL l c k) ((4:Nat):Int)) (Ay (prL l c k) ((5:Nat):Int)) (Ay (prL l c k) ((6:Nat):Int)) (Ay (prL l c k) ((7:Nat):Int))=_ from ?_) (.ret _);unfold E1;unfold bdQ at hp;rw[An (AD (by simp only[iN];omega)),Ab (by omega),elG 0 hk];unfold Eu;by_cases h0:(l.qu.getD c []).getD k 0<0
  .rw[Ar (show ¬0<=(l.qu.getD c []).getD k 0 by omega),An (by rfl)]
  by_cases h1:8<=(l.qu.getD c []).getD k 0
  .rw[Ar (show ¬(l.qu.getD c []).getD k 0<8 by omega),An (by simp)]
  rw[Ar h0,Ar h1,Ts,Ts] at hp;rw[AD (show 0<=(l.qu.getD c []).getD k 0 by omega),AD (show(l.qu.getD c []).getD k 0<8 by omega),Af (by rfl),Ab (by omega),Ab (by omega),I5 (f:=fun i:Nat=>Ay (prL l c k) (i:Int)) (by omega),T0 (by omega)];cases h2:Ay (prL l c k) ((l.qu.getD c []).getD k 0) with
  | true=>rw[An rfl]
  | false=>rw[h2,Ts] at hp;rw[Af rfl,Ab (by omega),elG 0 (show c<l.ow.length by omega),An (by rw[<-hp];exact BEq.comm)]
 .have h8:=IM (Nat.le_of_lt hk) hj;obtain⟨a1,a2,a3,a4⟩:=Ji hp;refine .to (show E1 l c (l.qu.getD c []) (l.qu.getD c []).length k (Ay (prL l c k) ((0:Nat):Int)) (Ay (prL l c k) ((1:Nat):Int)) (Ay (prL l c k) ((2:Nat):Int)) (Ay (prL l c k) ((3:Nat):Int)) (Ay (prL l c k) ((4:Nat):Int)) (Ay (prL l c k) ((5:Nat):Int)) (Ay (prL l c k) ((6:Nat):Int)) (Ay (prL l c k) ((7:Nat):Int))=some (.inl (IG l c (k+1))) from ?_) hx;unfold E1 IG;rw[An (AD (by simp only[iN];omega)),Ab (by omega),elG 0 hk];unfold Eu;rw[AD a1,AD a2,Af (by rfl),Ab a1,Ab a2,I5 (f:=fun i:Nat=>Ay (prL l c k) (i:Int)) (by omega),T0 a1,a3,Af rfl,Ab (by omega),elG 0 (show c<l.ow.length by omega),Af (by rw[<-a4];exact BEq.comm),Ab (le8 a1 a2),zW k (by omega),CA a1,CA a1,CA a1,CA a1,CA a1,CA a1,CA a1,CA a1,P3 hk]
 .refine .to (show E1 l c (l.qu.getD c []) (l.qu.getD c []).length (l.qu.getD c []).length _ _ _ _ _ _ _ _=some (.inl (HY l (c+1))) from ?_) (hx hn);unfold E1 HY;rw[Af (Ar (by simp only[iN];omega)),zW c (by omega),Qi]
theorem bdO_rob{x:Int}:(x != -1&&!(Eu x))=(decide (x < -1)||decide (8<=x)):=by unfold Eu;rw[Bool.eq_iff_iff];simp only[TF,Ul,Uj,Bool.and_eq_false_iff,decide_eq_false_iff_not,T9,decide_eq_true_eq];omega
theorem ilv_c(l:Al):CT UB 51 [] [lkA l] [] (.bool (BZ l)):=by
 refine ilv_ct l ([],_) ?_;unfold Mn BZ;rw[TA,BD];by_cases h1:l.ow.length<=48
 case neg=>rw[An (AD (by simp only[iN];omega)),Ar h1];exact .ret _
 rw[Af (Ar (by simp only[iN];omega)),AD h1,Bool.true_and];by_cases h2:l.ow.length=l.qu.length
 case neg=>rw[An (Ul.2 (by simp only[iN];omega)),Ar h2];exact .ret _
 rw[Af (by rw[h2];simp),AD h2,Bool.true_and];refine Ax.res (r:=match fnd (bdR l) 0 l.qu.length with | some _=>(([],.bool false):Ret) | none=>(([],.bool true):Ret)) ?_ (by cases fnd (bdR l) 0 l.qu.length<;>rfl);have st:∀c,c<l.qu.length->JS l (HY l c)=br (bdO l c) (some (.inr ([],.bool false))) (some (.inl (IG l c 0))):=fun c hc=>by
  show GF l c _ _ _ _ _ _ _ _=_;unfold GF;rw[show (gL l.qu).length=(Uu lI l.qu).length from rfl,BB [] hc,elG 0 (show c<l.ow.length by omega)];unfold bdO;rw[<-bdO_rob];cases l.ow.getD c 0 != -1 with
  | false=>rw[Af rfl,Af (by rfl),TA];rfl
  | true=>
   rw[An rfl,elG 0 (show c<l.ow.length by omega),Bool.true_and];cases Eu (l.ow.getD c 0) with
   | false=>rw[An (by rfl),An (by rfl)]
   | true=>rw[Af (by rfl),Af (by rfl),TA];rfl
 refine(Fm (fun c=>HY l c) l.qu.length (bdR l) (rF:=fun _=>(([],.bool false):Ret)) (r:=(([],.bool true):Ret)) (fun c hc _ hp=>?_) (fun c x hc _ hp hx=>?_) (fun _=>?_)).res (by cases fnd (bdR l) 0 l.qu.length<;>rfl)
 .refine .to (st c hc) ?_;unfold bdR at hp;cases ho:bdO l c with
  | true=>exact .ret _
  | false=>rw[ho,Ts] at hp;rw[Af rfl];refine(Pp hc h2 h1 (x:=(([],.bool false):Ret)) fun e=>by rw[e] at hp;cases hp).res ?_;cases fnd (bdQ l c) 0 (l.qu.getD c []).length<;>rfl
 .refine .to (st c hc) ?_;unfold bdR at hp;rw[Bool.or_eq_false_iff] at hp;rw[Af hp.1];have:=Pp hc h2 h1 (x:=x) fun _=>hx
  cases hf:fnd (bdQ l c) 0 (l.qu.getD c []).length with
  | none=>rw[hf] at this;exact this
  | some i=>rw[hf] at hp;cases hp.2
 .refine .to (show GF l (l.qu.length:Nat) _ _ _ _ _ _ _ _=_ from ?_) (.ret _);unfold GF;rw[show (gL l.qu).length=(Uu lI l.qu).length from rfl,C3]
def IE(l:Al)(c:Nat):Dq:=let f:=fun i:Nat=>Ay (prL l c 0) (i:Int);.l0 (c:Int) (f 0) (f 1) (f 2) (f 3) (f 4) (f 5) (f 6) (f 7)
def Ir(l:Al)(c k:Nat):Dq:=let f:=fun i:Nat=>Ay (prL l c k) (i:Int);.l1 (c:Int) (k:Int) (l.ow.getD c 0) (decide (8<=l.ow.getD c 0)) (f 0) (f 1) (f 2) (f 3) (f 4) (f 5) (f 6) (f 7)
theorem Pz{l:Al}{c:Nat}(hc:c<l.qu.length)(ho:l.ow.length=l.qu.length)(h48:l.ow.length<=48){x:Ret}(hx:fnd (bdQ l c) 0 (l.qu.getD c []).length=none->Ax (Ke l) (some (.inl (IE l (c+1)))) x):
  Ax (Ke l) (some (.inl (Ir l c 0))) (match fnd (bdQ l c) 0 (l.qu.getD c []).length with | some _=>([],.bool false) | none=>x):=by
 refine(Fm (fun k=>Ir l c k) (l.qu.getD c []).length (bdQ l c) (rF:=fun _=>(([],.bool false):Ret)) (r:=x) (fun k hk hj hp=>?_) (fun k x hk hj hp hx=>?_) (fun hn=>?_)).res (by cases fnd (bdQ l c) 0 (l.qu.getD c []).length<;>rfl)
 .have h8:=IM (Nat.le_of_lt hk) hj;refine .to (show FE l c k (l.ow.getD c 0) (decide (8<=l.ow.getD c 0)) (Ay (prL l c k) ((0:Nat):Int)) (Ay (prL l c k) ((1:Nat):Int)) (Ay (prL l c k) ((2:Nat):Int)) (Ay (prL l c k) ((3:Nat):Int)) (Ay (prL l c k) ((4:Nat):Int)) (Ay (prL l c k) ((5:Nat):Int)) (Ay (prL l c k) ((6:Nat):Int)) (Ay (prL l c k) ((7:Nat):Int))=_ from ?_) (.ret _);unfold FE;unfold bdQ at hp;rw[Ab (by omega),elG [] hc,An (AD (by simp only[iN,TA];omega)),elG [] hc,Ab (by omega),elG 0 hk];by_cases h0:(l.qu.getD c []).getD k 0<0
  .rw[An (AD h0)]
  by_cases h1:8<=(l.qu.getD c []).getD k 0
  .rw[Af (Ar h0),An (AD h1)]
  rw[Ar h0,Ar h1,Ts,Ts] at hp;rw[Af (Ar h0),Af (Ar h1),Ab (by omega),Ab (by omega),I5 (f:=fun i:Nat=>Ay (prL l c k) (i:Int)) (by omega),T0 (by omega)];cases h2:Ay (prL l c k) ((l.qu.getD c []).getD k 0) with
  | true=>rw[An rfl]
  | false=>rw[h2,Ts] at hp;rw[Af rfl,elG 0 (show c<l.ow.length by omega),An hp]
 .have h8:=IM (Nat.le_of_lt hk) hj;obtain⟨a1,a2,a3,a4⟩:=Ji hp;refine .to (show FE l c k (l.ow.getD c 0) (decide (8<=l.ow.getD c 0)) (Ay (prL l c k) ((0:Nat):Int)) (Ay (prL l c k) ((1:Nat):Int)) (Ay (prL l c k) ((2:Nat):Int)) (Ay (prL l c k) ((3:Nat):Int)) (Ay (prL l c k) ((4:Nat):Int)) (Ay (prL l c k) ((5:Nat):Int)) (Ay (prL l c k) ((6:Nat):Int)) (Ay (prL l c k) ((7:Nat):Int))=some (.inl (Ir l c (k+1))) from ?_) hx;unfold FE Ir;rw[Ab (by omega),elG [] hc,An (AD (by simp only[iN,TA];omega)),elG [] hc,Ab (by omega),elG 0 hk,Af (Ar (by omega)),Af (Ar (by omega)),Ab a1,Ab a2,I5 (f:=fun i:Nat=>Ay (prL l c k) (i:Int)) (by omega),T0 a1,a3,Af rfl,elG 0 (show c<l.ow.length by omega),Af a4,Ab (le8 a1 a2),zW k (by omega),CA a1,CA a1,CA a1,CA a1,CA a1,CA a1,CA a1,CA a1,P3 hk]
 .refine .to (show FE l c ((l.qu.getD c []).length:Nat) _ _ _ _ _ _ _ _ _ _=some (.inl (IE l (c+1))) from ?_) (hx hn);unfold FE IE;rw[Ab (by omega),elG [] hc,TA,Af (Ar (by simp only[iN];omega)),zW c (by omega),Qi]
theorem rlv_c(l:Al):CT UB 91 [] [lkA l] [] (.bool (BZ l)):=by
 refine rlv_ct l ([],_) ?_;unfold Nw BZ;rw[TA,BD];by_cases h1:l.ow.length<=48
 case neg=>rw[An (AD (by simp only[iN];omega)),Ar h1];exact .ret _
 rw[Af (Ar (by simp only[iN];omega)),AD h1,Bool.true_and];by_cases h2:l.ow.length=l.qu.length
 case neg=>rw[An (Ul.2 (by simp only[iN];omega)),Ar h2];exact .ret _
 rw[Af (by rw[h2];simp),AD h2,Bool.true_and];refine Ax.res (r:=match fnd (bdR l) 0 l.qu.length with | some _=>(([],.bool false):Ret) | none=>(([],.bool true):Ret)) ?_ (by cases fnd (bdR l) 0 l.qu.length<;>rfl);have st:∀c,c<l.qu.length->Ke l (IE l c)=br (bdO l c) (some (.inr ([],.bool false))) (some (.inl (Ir l c 0))):=fun c hc=>by
  show Gz l c _ _ _ _ _ _ _ _=_;unfold Gz;rw[BB 0 (show c<l.ow.length by omega)];unfold bdO;cases decide (l.ow.getD c 0 < -1) with
  | true=>rfl
  | false=>rw[Af rfl,elG 0 (show c<l.ow.length by omega),Ts];rfl
 refine(Fm (fun c=>IE l c) l.qu.length (bdR l) (rF:=fun _=>(([],.bool false):Ret)) (r:=(([],.bool true):Ret)) (fun c hc _ hp=>?_) (fun c x hc _ hp hx=>?_) (fun _=>?_)).res (by cases fnd (bdR l) 0 l.qu.length<;>rfl)
 .refine .to (st c hc) ?_;unfold bdR at hp;cases ho:bdO l c with
  | true=>exact .ret _
  | false=>rw[ho,Ts] at hp;rw[Af rfl];refine(Pz hc h2 h1 (x:=(([],.bool false):Ret)) fun e=>by rw[e] at hp;cases hp).res ?_;cases fnd (bdQ l c) 0 (l.qu.getD c []).length<;>rfl
 .refine .to (st c hc) ?_;unfold bdR at hp;rw[Bool.or_eq_false_iff] at hp;rw[Af hp.1];have:=Pz hc h2 h1 (x:=x) fun _=>hx
  cases hf:fnd (bdQ l c) 0 (l.qu.getD c []).length with
  | none=>rw[hf] at this;exact this
  | some i=>rw[hf] at hp;cases hp.2
 .refine .to (show Gz l (l.qu.length:Nat) _ _ _ _ _ _ _ _=_ from ?_) (.ret _);unfold Gz;rw[Af (Ar (by simp only[iN,TA];omega))]
end Go.Proofs.Ytedjkebooffjpaa
set_option maxHeartbeats 4000000
namespace Go.Proofs.Ytedjkebooffjpaa
def pd1St(q:Ad)(c:Int):Empty->St | x=>x.elim
def pd1Hd:Empty->Nat | x=>x.elim
def L4(q:Ad)(c:Int):Option (Empty⊕Ret):=gu (0<=c) <|el (q.cl) (c.toNat) fun(x7:Bool)=>some (.inr ([some (bK [AV.agg [UA (boL q.cl),UA (Uu iV q.bw),UA (Uu iV q.pe)]] 3)],bV x7))
def pd1Step(q:Ad)(c:Int):Empty->Option (Empty⊕Ret) | x=>x.elim
theorem pd1En_ok(q:Ad)(c:Int)(o:Empty⊕Ret)(h:L4 q c=some o):Arr UB Try.f138 1 (pd1St q c) pd1Hd (zB Try.f138) [] {n:=Try.f138.ntmps,fr:=AH 0 ([.int .i64 c,.ptr 0 0 0]),hp:=([some (bK [sgA q] 3)])} o:=Scr.ok h mix (.rn 0 [] [] [] [] s2 <|.gu fun a0=>.el fun x7 a1=>.rt [] [(7,bV x7)] [] [] [0] [] (aj (al (u2 (u2 (u2 (aj (k2 (aj a0 (Am (f:=bV) a1))) (u2 s2)))))) t3)) (by kernel_rfl)
theorem pd1_ct(q:Ad)(c:Int)(r:Ret)(h:Ax (pd1Step q c) (L4 q c) r):CT UB 138 ([some (bK [sgA q] 3)]) ([.int .i64 c,.ptr 0 0 0]) r.1 r.2:=
 CT.mach (fn:=Try.f138) (c:=zB Try.f138) (S:=pd1St q c) (hd:=pd1Hd) Try.func138 (by kernel_rfl) (nL rfl)
  (fun s o ho=>match s,ho with
   | x,_=>x.elim)
  (fun o ho=>pd1En_ok q c o ho) h
inductive ER where | l0 (v0:Int)
def Jy(q:Al)(c:Int):ER->St | .l0 v0=>St.mk 21 [(1,iv c),(2,AV.ptr 0 0 0),(5,iv v0)] [some (bK [AV.agg [UA (Uu iv q.ow),UA (gL q.qu)]] 2)]
def NH:ER->Nat | .l0 _=>0
def LF(q:Al)(c:Int):Option (ER⊕Ret):=some (.inl (.l0 ((0:Int))))
def FD(q:Al)(c v0:Int):Option (ER⊕Ret):=br (decide (v0<iN (gL q.qu).length)) (gu (0<=v0) <|el (q.qu) (v0.toNat) fun(x16:List Int)=>gu (x16.length<=9223372036854775807) <|br (Ay x16 c) (some (.inr ([],iV v0))) (some (.inl (.l0 (i64.wrap (v0+1)))))) (some (.inr ([],iV (-1))))
def at19Step(q:Al)(c:Int):ER->Option (ER⊕Ret) | .l0 v0=>FD q c v0
theorem Ra(q:Al)(c:Int)(o:ER⊕Ret)(h:LF q c=some o):Arr UB Try.f107 0 (Jy q c) NH (zB Try.f107) [] {n:=Try.f107.ntmps,fr:=AH 0 ([lkA q,.int .i64 c]),hp:=([])} o:=Scr.ok h mix (.lp [] [] [] [] [] [0] [1,2,5] (aj (ag t2 s2) t5)) (by kernel_rfl)
theorem Sv(q:Al)(c v0:Int)(o:ER⊕Ret)(h:FD q c v0=some o):Arr UB Try.f107 0 (Jy q c) NH (Aw Try.f107 0) (.rnd (Aw Try.f107 0)::AJ Try.f107 0) (Jy q c (.l0 v0)) o:=Scr.ok h mix (.rn 0 [] [] [] [] (al (u2 (u2 (u2 (u2 (al t3)))))) <|.br (fun a0=>.gu fun a1=>.el fun x16 a2=>.gu fun a3=>have c0:=Fl x16 c a3;.rn 0 [21] [(16,lI x16)] [(19,hK c0 [] [])] [] (aj a0 (al (u2 (u2 (u2 (aj (k2 (aj a1 (Am (f:=lI) a2))) (u2 (u2 (al (ak (k3 (al (c0))))))))))))) <|.br (fun a4=>.rt [39] [] [] [] [] [] (aj (aj a4 (al (u2 s2))) t2)) (fun a4=>.lp [38] [] [] [] [] [0] [1,2,5] (aj (aj a4 (al (u2 (u2 s2)))) t5))) (fun a0=>.rt [20] [] [] [] [] [] (aj (aj a0 s2) t2))) (by kernel_rfl)
theorem at19_ct(q:Al)(c:Int)(r:Ret)(h:Ax (at19Step q c) (LF q c) r):CT UB 107 ([]) ([lkA q,.int .i64 c]) r.1 r.2:=
 CT.mach (fn:=Try.f107) (c:=zB Try.f107) (S:=Jy q c) (hd:=NH) Try.func107 (by kernel_rfl) (nL rfl)
  (fun s o ho=>match s,ho with
   | .l0 v0,ho=>Sv q c v0 o ho
  )
  (fun o ho=>Ra q c o ho) h
def dsS(g:List (List Int))(s:List Bool)(v goal:Nat):Int:=(AC g s goal g.length).getD v 0
def BC(g:List (List Int))(s:List Bool)(v goal:Nat):List Int:=JM g (AC g s goal g.length) v
structure Pth(g:List (List Int))(s:List Bool)(v goal:Nat)(p:List Int):Prop where
 len:(p.length:Int)=dsS g s v goal+1
 pos:0<p.length
 hd:p.getD 0 0=(v:Int)
 last:p.getD (p.length-1) 0=(goal:Int)
 rng:∀k,k<p.length->0<=p.getD k 0/\p.getD k 0<(g.length:Int)/\s.getD (p.getD k 0).toNat false=false
 edge:∀k,k+1<p.length->p.getD (k+1) 0∈g.getD (p.getD k 0).toNat []
 nv:∀k,0<k->k<p.length->p.getD k 0≠(v:Int)
theorem Gg{g:List (List Int)}{d:List Int}{a m k:Nat}(h:k<=m):(wkL g d a m).getD k 0=wkZ g d a k:=by unfold wkL;rw[Ty,TH,TW (by omega)];rfl
theorem Pk{g:List (List Int)}{s:List Bool}{v goal:Nat}(h:dsS g s v goal<0):BC g s v goal=[]:=by unfold BC JM;unfold dsS at h;rw[Tv h]
theorem KZ{g:List (List Int)}{s:List Bool}(hg:OkG g s){v goal:Nat}(hv:v<g.length)(hgo:goal<g.length)(h0:0<=dsS g s v goal):Pth g s v goal (BC g s v goal):=by
 have hD:=FG hg hgo;unfold dsS at h0;obtain⟨m,hm⟩:∃m:Nat,(AC g s goal g.length).getD v 0=(m:Int):=⟨((AC g s goal g.length).getD v 0).toNat,by omega⟩;have hgd:=shN hD hv h0;have hok:=J4 hg hgo hD hv hm hgd;have e:BC g s v goal=wkL g (AC g s goal g.length) v m:=by unfold BC JM;rw[Tw (by omega),hm,TG]
 have hl:=Jv g (AC g s goal g.length) v m;rw[e];have hop:∀k,k<=m->s.getD (wkZ g (AC g s goal g.length) v k).toNat false=false:=fun k hk=>by obtain⟨a,b,c⟩:=hok k hk;exact opnN hD (by omega) (by omega)
 refine⟨by unfold dsS;rw[hl,hm];omega,by omega,by rw[Gg (by omega)];rfl,?_,fun k hk=>?_,fun k hk=>?_,fun k h1 hk=>?_⟩
 .rw[hl,Th,Gg (TI _)];obtain⟨a,b,c⟩:=hok m (TI _);have:=JU hD (v:=(wkZ g (AC g s goal g.length) v m).toNat) (by omega) (by rw[c];omega);omega
 .rw[hl] at hk;rw[Gg (by omega)];obtain⟨a,b,_⟩:=hok k (by omega);exact⟨a,b,hop k (by omega)⟩
 .rw[hl] at hk;rw[Gg (by omega),Gg (by omega)];obtain⟨a,b,c⟩:=hok k (by omega);exact N1 hg hD (by omega) (by omega) hgd
 .rw[hl] at hk;rw[Gg (by omega)];obtain⟨a,b,c⟩:=hok k (by omega);intro e;rw[e,TG,hm] at c;omega
theorem P2{n:Aa}(hv:AB n){i j:Nat}{s t:Ao}(hs:n.ss[i]?=some s)(ht:n.ss[j]?=some t)(h:i<j):s.b+s.k<=t.b:=by have h1:=(hv.sb hs).2.2.2.2;have h2:=(hv.sb ht).2.2.2.2;have hj:=(Tz.1 ht).1;have hm:=Gs hv (i:=i+1) (j:=j) (by omega) (by omega);rw[Dm hs] at hm;omega
theorem plF_of{n:Aa}(hv:AB n){i:Nat}{s:Ao}(hs:n.ss[i]?=some s){c:Int}(h1:s.b<=c)(h2:c<s.b+s.k):plF n c=some i:=by
 cases hp:plF n c with
 | none=>exact absurd ⟨h1,h2⟩ (P0 hp hs)
 | some j=>
  obtain⟨t,ht,_,a,b,_⟩:=Il hp;rcases Nat.lt_trichotomy i j with h | h | h
  .have:=P2 hv hs ht h;omega
  .rw[h]
  .have:=P2 hv ht hs h;omega
theorem N7{n:Aa}(hv:AB n){c:Int}(h1:c<(n.bs.length:Int)):plF n c=none:=by
 cases hp:plF n c with
 | none=>rfl
 | some j=>
  obtain⟨t,ht,_,a,b,_⟩:=Il hp;have h:=(hv.sb ht).2.2.2.2;have hj:=(Tz.1 ht).1;have hm:=Gs hv (i:=0) (j:=j) (by omega) (by omega);have h0:Az n 0=(n.bs.length:Int):=by unfold Az;simp
  omega
theorem ME{n:Aa}(hv:AB n){x y:Int}(h0:0<=x)(h1:x<(AA n:Int))(h:y∈D6 n x):Dd n x y=true:=by unfold Dd nxO;rw[Tv (Qe hv h0 h1),Dj];exact h
theorem fol_slot{n:Aa}(hv:AB n){i:Nat}{s:Ao}(hs:n.ss[i]?=some s){c:Int}(h1:s.b<=c)(h2:c+1<s.b+s.k):Dd n c (c+1)=true:=by
 have hb:=hv.sb hs;have he:=hv.ends hs;refine ME hv (by omega) (by omega) ?_;unfold D6;rw[plF_of hv hs h1 (by omega)];have hg:n.ss.getD i s0=s:=by rw[Ty,hs];rfl
 simp only[hg];unfold ED;rw[Tw (by omega)];exact Tm.2 rfl
theorem NX{n:Aa}(hv:AB n){x:Int}(h0:0<=x)(h1:x<(n.bs.length:Int)){y:Int}(h:y∈n.nx.getD x.toNat []):Dd n x y=true:=by have hc:=hv.cel;refine ME hv h0 (by omega) ?_;unfold D6;rw[N7 hv h1];exact T3.2 (.inl h)
theorem fol_in{n:Aa}(hv:AB n){i:Nat}{s:Ao}(hs:n.ss[i]?=some s):Dd n s.i s.b=true:=by have g:=hv.goodT i s hs;have hi:=g.hi;have hc:=hv.cel;refine ME hv (by omega) (by omega) ?_;unfold D6;rw[N7 hv (by omega)];exact T3.2 (.inr (T4.2 ⟨s,List.mem_filter.2 ⟨TB hs,by simp⟩,rfl⟩))
def Chn(n:Aa):Int->List Int->Prop | _,[]=>True | c,x::l=>Dd n c x=true/\Chn n x l
def DT:Int->List Int->Int | c,[]=>c | _,x::l=>DT x l
theorem Chn.app{n:Aa}:∀{l m:List Int} {c:Int},Chn n c l->Chn n (DT c l) m->Chn n c (l++m) | [],_,_,_,h=>h | _::_,_,_,h,k=>⟨h.1,Chn.app h.2 k⟩
theorem Px:∀(l m:List Int) (c:Int),DT c (l++m)=DT (DT c l) m | [],_,_=>rfl | x::l,m,_=>Px l m x
theorem Chn.of{n:Aa}:∀{l:List Int} {c:Int},(∀k,k<l.length->Dd n ((c::l).getD k 0) (l.getD k 0)=true)->Chn n c l | [],_,_=>trivial | x::l,c,h=>⟨h 0 (by simp),Chn.of fun k hk=>h (k+1) (by simpa using hk)⟩
theorem Jn:∀(l:List Int) (c:Int),DT c l=(c::l).getD l.length 0 | [],_=>rfl | x::l,c=>Jn l x
theorem Chn.get{n:Aa}:∀{l:List Int} {c:Int},Chn n c l->∀k,k<l.length->Dd n ((c::l).getD k 0) (l.getD k 0)=true | [],_,_,k,hk=>absurd hk (Nat.not_lt_zero _) | x::l,c,h,0,_=>h.1 | x::l,c,h,k+1,hk=>Chn.get h.2 k (by simpa using hk)
def Aj(s:Ao)(j:Int):List Int:=(Uy (s.k-j).toNat).map fun i:Nat=>s.b+j+(i:Int)
theorem Es(s:Ao)(j:Int):(Aj s j).length=(s.k-j).toNat:=by unfold Aj;simp
theorem Qs{s:Ao}{j:Int}{i:Nat}(h:i<(s.k-j).toNat):(Aj s j).getD i 0=s.b+j+(i:Int):=by unfold Aj;rw[Ty,TH,TW h];rfl
theorem O9{s:Ao}{j x:Int}:x∈Aj s j↔s.b+j<=x/\x<s.b+s.k:=by
 unfold Aj;constructor
 .intro h;obtain⟨i,hi,rfl⟩:=T4.1 h;have:=Uo.1 hi;omega
 .intro h;exact T4.2 ⟨(x-s.b-j).toNat,Uo.2 (by omega),by omega⟩
theorem slt_chn{n:Aa}(hv:AB n){i:Nat}{s:Ao}(hs:n.ss[i]?=some s){j:Int}(h1:1<=j)(h2:j<=s.k):Chn n (s.b+j-1) (Aj s j)/\DT (s.b+j-1) (Aj s j)=ED s:=by
 have hl:=Es s j;have hget:∀k,k<=(s.k-j).toNat->((s.b+j-1)::Aj s j).getD k 0=s.b+j-1+(k:Int):=fun k hk=>by
  cases k with
  | zero=>simp
  | succ k=>show(Aj s j).getD k 0=_;rw[Qs (by omega)];omega
 refine⟨Chn.of fun k hk=>?_,?_⟩
 .rw[hl] at hk;rw[hget k (by omega),Qs hk];have:=fol_slot hv hs (c:=s.b+j-1+(k:Int)) (by omega) (by omega);rw[show s.b+j-1+(k:Int)+1=s.b+j+(k:Int) by omega] at this;exact this
 .rw[Jn,hl,hget _ (TI _)];unfold ED;omega
theorem slt_all{n:Aa}(hv:AB n){i:Nat}{s:Ao}(hs:n.ss[i]?=some s):Chn n s.i (Aj s 0)/\DT s.i (Aj s 0)=ED s:=by
 have hb:=hv.sb hs;have e:Aj s 0=s.b::Aj s 1:=by
  apply List.ext_getElem
  .rw[Ud,Es,Es];omega
  .intro k h1 h2;rw[Es] at h1;cases k with
   | zero=>unfold Aj;simp
   | succ k=>unfold Aj;simp;omega
 have h:=slt_chn hv hs (j:=1) (by omega) (by omega);rw[show s.b+1-1=s.b by omega] at h;rw[e];exact⟨⟨fol_in hv hs,h.1⟩,h.2⟩
theorem pth_chn{n:Aa}(hv:AB n){sh:List Bool}{v goal:Nat}{p:List Int}(h:Pth n.nx sh v goal p):Chn n (v:Int) p.tail/\DT (v:Int) p.tail=(goal:Int):=by
 have hl:=hv.nx;have hp:=h.pos;have e:p=(v:Int)::p.tail:=by
  cases p with
  | nil=>exact absurd hp (Nat.lt_irrefl _)
  | cons x r=>have:=h.hd;simp at this;rw[this];rfl
 have ht:p.tail.length=p.length-1:=List.length_tail
 have hg:∀k,p.tail.getD k 0=p.getD (k+1) 0:=fun k=>by conv=>rhs;rw[e]
                                                      rfl
 constructor
 .refine Chn.of fun k hk=>?_
  rw[<-e,hg];have hr:=h.rng k (by omega);rw[hl] at hr;have he:=h.edge k (by omega);exact NX hv hr.1 hr.2.1 he
 .rw[Jn,<-e,ht];exact h.last
theorem rngM{f:Nat->Int}{i:Nat}:(Uy (i+1)).map f=(Uy i).map f++[f i]:=by rw[Um,TM];rfl
def Bz(cl:List Bool)(l:List Int):Bool:=(fnd (fun i=>cl.getD (l.getD i 0).toNat true) 0 l.length).isNone
theorem pasB_iff{cl:List Bool}{l:List Int}:Bz cl l=true↔∀c∈l,cl.getD c.toNat true=false:=by
 unfold Bz;rw[Un];constructor
 .intro h c hc;obtain⟨i,hi,rfl⟩:=Ua.1 hc;have:=CC h i (TJ _) (by omega)
  rwa [Ty (l:=l),Tx hi] at this
 .intro h;exact HO fun i _ hi=>h _ (EM (show i<l.length by omega))
theorem pd1_c(q:Ad)(c:Int)(hc:0<=c/\c<(q.cl.length:Int)):CT UB 138 [some (Blk.mk [sgA q] 3 true true none)] [.int .i64 c,.ptr 0 0 0] [some (Blk.mk [sgA q] 3 true true none)] (.bool (q.cl.getD c.toNat true)):=by refine pd1_ct q c ([_],_) (.val ?_);unfold L4;rw[Ab hc.1,AF (AP true (show c.toNat<q.cl.length by omega))];rfl
def atZ(qu:List (List Int))(r:Int):Int:=match fnd (fun i=>Ay (qu.getD i []) r) 0 qu.length with | some i=>(i:Int) | none=> -1
theorem On(ow:List Int)(qu:List (List Int))(r:Int)(h1:qu.length<=1000)(h2:∀r∈qu,r.length<=1000):CT UB 107 [] [lkA ⟨ow,qu⟩,.int .i64 r] [] (.int .i64 (atZ qu r)):=by
 refine at19_ct ⟨ow,qu⟩ r ([],_) ?_;unfold LF atZ;have hg:∀i,i<qu.length->(qu.getD i []).length<=1000:=fun i hi=>h2 _ (by rw[Ty,Tx hi];exact T5 _)
 refine(Kg (fun i=>ER.l0 (i:Int)) qu.length (fun i=>Ay (qu.getD i []) r) (rF:=fun i=>(([],.int .i64 (i:Int)):Ret)) (r:=([],.int .i64 (-1))) (fun i hi hp=>?_) (fun i x hi hp hx=>?_) (fun _=>?_)).res (by cases fnd (fun i=>Ay (qu.getD i []) r) 0 qu.length<;>rfl)
 .have:=hg i hi;refine .to (show FD ⟨ow,qu⟩ r i=_ from ?_) (.ret _);unfold FD;simp only;rw[show (gL qu).length=(Uu lI qu).length from rfl,BB [] hi,Ab (by omega),An hp]
 .have:=hg i hi;refine .to (show FD ⟨ow,qu⟩ r i=_ from ?_) hx;unfold FD;simp only;rw[show (gL qu).length=(Uu lI qu).length from rfl,BB [] hi,Ab (by omega),Af hp,zW i (by omega)]
 .refine .to (show FD ⟨ow,qu⟩ r qu.length=_ from ?_) (.ret _);unfold FD;simp only;rw[show (gL qu).length=(Uu lI qu).length from rfl,C3]
def lg1St(l:List Bool)(d c:Int)(x:Ao)(q:Ad):Empty->St | x=>x.elim
def lg1Hd:Empty->Nat | x=>x.elim
def LK(l:List Bool)(d c:Int)(x:Ao)(q:Ad):Option (Empty⊕Ret):=gu (0<=c) <|el l (c.toNat) fun(x9:Bool)=>br (!x9) (some (.inr ([some (bK [UA (boL l)] 1),some (bK [iV d] 1),some (bK [AV.agg [AV.str x.nm,bV x.dep,iV x.i,iV x.o,iV x.k,iV x.b]] 6),some (bK [AV.agg [UA (boL q.cl),UA (Uu iV q.bw),UA (Uu iV q.pe)]] 3)],bV true))) (br (c==d) (some (.inr ([some (bK [UA (boL l)] 1),some (bK [iV d] 1),some (bK [AV.agg [AV.str x.nm,bV x.dep,iV x.i,iV x.o,iV x.k,iV x.b]] 6),some (bK [AV.agg [UA (boL q.cl),UA (Uu iV q.bw),UA (Uu iV q.pe)]] 3)],bV true))) (br (c==x.i) (el (q.cl) (c.toNat) fun(x26:Bool)=>some (.inr ([some (bK [UA (boL l)] 1),some (bK [iV d] 1),some (bK [AV.agg [AV.str x.nm,bV x.dep,iV x.i,iV x.o,iV x.k,iV x.b]] 6),some (bK [AV.agg [UA (boL q.cl),UA (Uu iV q.bw),UA (Uu iV q.pe)]] 3)],bV !x26))) (some (.inr ([some (bK [UA (boL l)] 1),some (bK [iV d] 1),some (bK [AV.agg [AV.str x.nm,bV x.dep,iV x.i,iV x.o,iV x.k,iV x.b]] 6),some (bK [AV.agg [UA (boL q.cl),UA (Uu iV q.bw),UA (Uu iV q.pe)]] 3)],bV false)))))
def lg1Step(l:List Bool)(d c:Int)(x:Ao)(q:Ad):Empty->Option (Empty⊕Ret) | x=>x.elim
theorem lg1En_ok(l:List Bool)(d c:Int)(x:Ao)(q:Ad)(o:Empty⊕Ret)(h:LK l d c x q=some o):Arr UB Try.f66 4 (lg1St l d c x q) lg1Hd (zB Try.f66) [] {n:=Try.f66.ntmps,fr:=AH 0 ([.int .i64 c,.ptr 0 0 0,.ptr 1 0 0,.ptr 2 0 0,.ptr 3 0 0]),hp:=([some (bK [.lst (boL l)] 1),some (bK [.int .i64 d] 1),some (bK [sA x] 6),some (bK [sgA q] 3)])} o:=Scr.ok h mix (.rn 0 [] [] [] [] s2 <|.gu fun a0=>.el fun x9 a1=>.br (fun a2=>.rt [25] [(9,bV x9)] [] [] [0,1,2,3] [] (aj (al (u2 (u2 (aj (k2 (aj a0 (Am (f:=bV) a1))) (u2 (u2 (u2 (aj a2 (aj a2 (aj a2 (ag a2 (u2 (k2 (k5 (k5 (aj t3 s2)))))))))))))))) t6)) (fun a2=>.br (fun a3=>.rt [24,35] [(9,bV x9)] [] [] [0,1,2,3] [] (aj (al (u2 (u2 (aj (k2 (aj a0 (Am (f:=bV) a1))) (u2 (u2 (u2 (ag a2 (ag a2 (aj (aj a2 t3) (ag a2 (u2 (aj a3 (aj a3 (aj a3 (aj a3 (aj a3 (ak (k5 (aj a3 (ag a3 s2))))))))))))))))))))) t6)) (fun a3=>.br (fun a4=>.el fun x26 a5=>.rt [24,34,45] [(9,bV x9),(26,bV x26)] [] [] [0,1,2,3] [] (aj (al (u2 (u2 (aj (k2 (aj a0 (Am (f:=bV) a1))) (u2 (u2 (u2 (ag a2 (ag a2 (aj (aj a2 t3) (ag a2 (u2 (ag a3 (ag a3 (ag a3 (aj (aj a3 t3) (ag a3 (ag a4 (ag a4 (ag a4 (aj (aj a4 (k2 (aj a0 (Am (f:=bV) a5)))) (ag a4 (ag a4 (aj (aj a3 (aj a4 t2)) (ag a3 s2))))))))))))))))))))))))) t6)) (fun a4=>.rt [24,34,44] [(9,bV x9)] [] [] [0,1,2,3] [] (aj (al (u2 (u2 (aj (k2 (aj a0 (Am (f:=bV) a1))) (u2 (u2 (u2 (ag a2 (ag a2 (aj (aj a2 t3) (ag a2 (u2 (ag a3 (ag a3 (ag a3 (aj (aj a3 t3) (ag a3 (aj a4 (aj a4 (aj a4 (aj a4 (aj a4 (aj a4 (aj (aj a3 (aj a4 t2)) (ag a3 s2))))))))))))))))))))))))) t6))))) (by kernel_rfl)
theorem lg1_ct(l:List Bool)(d c:Int)(x:Ao)(q:Ad)(r:Ret)(h:Ax (lg1Step l d c x q) (LK l d c x q) r):CT UB 66 ([some (bK [.lst (boL l)] 1),some (bK [.int .i64 d] 1),some (bK [sA x] 6),some (bK [sgA q] 3)]) ([.int .i64 c,.ptr 0 0 0,.ptr 1 0 0,.ptr 2 0 0,.ptr 3 0 0]) r.1 r.2:=
 CT.mach (fn:=Try.f66) (c:=zB Try.f66) (S:=lg1St l d c x q) (hd:=lg1Hd) Try.func66 (by kernel_rfl) (nL rfl)
  (fun s o ho=>match s,ho with
   | x,_=>x.elim)
  (fun o ho=>lg1En_ok l d c x q o ho) h
def lg2St(d c:Int)(q:Ad):Empty->St | x=>x.elim
def lg2Hd:Empty->Nat | x=>x.elim
def LH(d c:Int)(q:Ad):Option (Empty⊕Ret):=gu (0<=c) <|el (q.cl) (c.toNat) fun(x8:Bool)=>br (!x8) (some (.inr ([some (bK [AV.agg [UA (boL q.cl),UA (Uu iV q.bw),UA (Uu iV q.pe)]] 3),some (bK [iV d] 1)],bV true))) (some (.inr ([some (bK [AV.agg [UA (boL q.cl),UA (Uu iV q.bw),UA (Uu iV q.pe)]] 3),some (bK [iV d] 1)],bV (c==d))))
def lg2Step(d c:Int)(q:Ad):Empty->Option (Empty⊕Ret) | x=>x.elim
theorem lg2En_ok(d c:Int)(q:Ad)(o:Empty⊕Ret)(h:LH d c q=some o):Arr UB Try.f67 2 (lg2St d c q) lg2Hd (zB Try.f67) [] {n:=Try.f67.ntmps,fr:=AH 0 ([.int .i64 c,.ptr 0 0 0,.ptr 1 0 0]),hp:=([some (bK [sgA q] 3),some (bK [.int .i64 d] 1)])} o:=Scr.ok h mix (.rn 0 [] [] [] [] s2 <|.gu fun a0=>.el fun x8 a1=>.br (fun a2=>.rt [23] [(8,bV x8)] [] [] [0,1] [] (aj (al (u2 (u2 (u2 (aj (k2 (aj a0 (Am (f:=bV) a1))) (u2 (u2 (u2 (aj a2 (aj a2 (aj a2 (ag a2 s2)))))))))))) t4)) (fun a2=>.rt [22] [(8,bV x8)] [] [] [0,1] [] (aj (al (u2 (u2 (u2 (aj (k2 (aj a0 (Am (f:=bV) a1))) (u2 (u2 (u2 (ag a2 (ag a2 (aj (aj a2 t3) (ag a2 s2)))))))))))) t4))) (by kernel_rfl)
theorem lg2_ct(d c:Int)(q:Ad)(r:Ret)(h:Ax (lg2Step d c q) (LH d c q) r):CT UB 67 ([some (bK [sgA q] 3),some (bK [.int .i64 d] 1)]) ([.int .i64 c,.ptr 0 0 0,.ptr 1 0 0]) r.1 r.2:=
 CT.mach (fn:=Try.f67) (c:=zB Try.f67) (S:=lg2St d c q) (hd:=lg2Hd) Try.func67 (by kernel_rfl) (nL rfl)
  (fun s o ho=>match s,ho with
   | x,_=>x.elim)
  (fun o ho=>lg2En_ok d c q o ho) h
def dt2St(l:List Bool)(d c:Int)(x:Ao)(q:Ad):Empty->St | x=>x.elim
def dt2Hd:Empty->Nat | x=>x.elim
def M2(l:List Bool)(d c:Int)(x:Ao)(q:Ad):Option (Empty⊕Ret):=br (c != d) (gu (0<=c) <|el l (c.toNat) fun(x13:Bool)=>br (!x13) (some (.inr ([some (bK [iV d] 1),some (bK [UA (boL l)] 1),some (bK [AV.agg [AV.str x.nm,bV x.dep,iV x.i,iV x.o,iV x.k,iV x.b]] 6),some (bK [AV.agg [UA (boL q.cl),UA (Uu iV q.bw),UA (Uu iV q.pe)]] 3)],bV true))) (br (c==x.i) (el (q.cl) (c.toNat) fun(x25:Bool)=>some (.inr ([some (bK [iV d] 1),some (bK [UA (boL l)] 1),some (bK [AV.agg [AV.str x.nm,bV x.dep,iV x.i,iV x.o,iV x.k,iV x.b]] 6),some (bK [AV.agg [UA (boL q.cl),UA (Uu iV q.bw),UA (Uu iV q.pe)]] 3)],bV !x25))) (some (.inr ([some (bK [iV d] 1),some (bK [UA (boL l)] 1),some (bK [AV.agg [AV.str x.nm,bV x.dep,iV x.i,iV x.o,iV x.k,iV x.b]] 6),some (bK [AV.agg [UA (boL q.cl),UA (Uu iV q.bw),UA (Uu iV q.pe)]] 3)],bV false))))) (some (.inr ([some (bK [iV d] 1),some (bK [UA (boL l)] 1),some (bK [AV.agg [AV.str x.nm,bV x.dep,iV x.i,iV x.o,iV x.k,iV x.b]] 6),some (bK [AV.agg [UA (boL q.cl),UA (Uu iV q.bw),UA (Uu iV q.pe)]] 3)],bV false)))
def dt2Step(l:List Bool)(d c:Int)(x:Ao)(q:Ad):Empty->Option (Empty⊕Ret) | x=>x.elim
theorem dt2En_ok(l:List Bool)(d c:Int)(x:Ao)(q:Ad)(o:Empty⊕Ret)(h:M2 l d c x q=some o):Arr UB Try.f90 4 (dt2St l d c x q) dt2Hd (zB Try.f90) [] {n:=Try.f90.ntmps,fr:=AH 0 ([.int .i64 c,.ptr 0 0 0,.ptr 1 0 0,.ptr 2 0 0,.ptr 3 0 0]),hp:=([some (bK [.int .i64 d] 1),some (bK [.lst (boL l)] 1),some (bK [sA x] 6),some (bK [sgA q] 3)])} o:=Scr.ok h mix (.rn 0 [] [] [] [] s2 <|.br (fun a0=>.gu fun a1=>.el fun x13 a2=>.br (fun a3=>.rt [21,33] [(13,bV x13)] [] [] [0,1,2,3] [] (aj (al (u2 (u2 (aj t3 (u2 (ag a0 (ag a0 (aj (aj a0 (k2 (aj a1 (Am (f:=bV) a2)))) (ag a0 (ag a0 (ag a0 (aj a3 (aj a3 (aj a3 (aj a3 (aj a3 (ak (k5 (aj a3 (aj (aj a0 (aj a3 t2)) (ag a0 s2))))))))))))))))))))) t6)) (fun a3=>.br (fun a4=>.el fun x25 a5=>.rt [21,32,43] [(13,bV x13),(25,bV x25)] [] [] [0,1,2,3] [] (aj (al (u2 (u2 (aj t3 (u2 (ag a0 (ag a0 (aj (aj a0 (k2 (aj a1 (Am (f:=bV) a2)))) (ag a0 (ag a0 (ag a0 (ag a3 (ag a3 (ag a3 (aj (aj a3 t3) (ag a3 (ag a4 (ag a4 (ag a4 (aj (aj a4 (k2 (aj a1 (Am (f:=bV) a5)))) (ag a4 (ag a4 (aj (aj a3 (aj a4 t2)) (aj (aj a0 (aj a3 t2)) (ag a0 s2))))))))))))))))))))))))) t6)) (fun a4=>.rt [21,32,42] [(13,bV x13)] [] [] [0,1,2,3] [] (aj (al (u2 (u2 (aj t3 (u2 (ag a0 (ag a0 (aj (aj a0 (k2 (aj a1 (Am (f:=bV) a2)))) (ag a0 (ag a0 (ag a0 (ag a3 (ag a3 (ag a3 (aj (aj a3 t3) (ag a3 (aj a4 (aj a4 (aj a4 (aj a4 (aj a4 (aj a4 (aj (aj a3 (aj a4 t2)) (aj (aj a0 (aj a3 t2)) (ag a0 s2))))))))))))))))))))))))) t6)))) (fun a0=>.rt [20] [] [] [] [0,1,2,3] [] (aj (al (u2 (u2 (aj t3 (u2 (aj a0 (aj a0 (aj a0 (aj a0 (aj a0 (aj a0 (k2 (k5 (k5 (aj a0 (ag a0 s2)))))))))))))))) t6))) (by kernel_rfl)
theorem dt2_ct(l:List Bool)(d c:Int)(x:Ao)(q:Ad)(r:Ret)(h:Ax (dt2Step l d c x q) (M2 l d c x q) r):CT UB 90 ([some (bK [.int .i64 d] 1),some (bK [.lst (boL l)] 1),some (bK [sA x] 6),some (bK [sgA q] 3)]) ([.int .i64 c,.ptr 0 0 0,.ptr 1 0 0,.ptr 2 0 0,.ptr 3 0 0]) r.1 r.2:=
 CT.mach (fn:=Try.f90) (c:=zB Try.f90) (S:=dt2St l d c x q) (hd:=dt2Hd) Try.func90 (by kernel_rfl) (nL rfl)
  (fun s o ho=>match s,ho with
   | x,_=>x.elim)
  (fun o ho=>dt2En_ok l d c x q o ho) h
def dt1St(n:Aa)(c:Int):Empty->St | x=>x.elim
def dt1Hd:Empty->Nat | x=>x.elim
def Nd(n:Aa)(c:Int):Option (Empty⊕Ret):=br (decide (0<=c)) (some (.inr ([some (bK [AV.agg [UA (Uu bA n.bs),UA (gL n.nx),UA (Uu sA n.ss),UA (Uu iV n.rs),iV n.q,iV n.a,iV n.d,iV n.p]] 8)],bV (decide (c<iN (Uu bA n.bs).length))))) (some (.inr ([some (bK [AV.agg [UA (Uu bA n.bs),UA (gL n.nx),UA (Uu sA n.ss),UA (Uu iV n.rs),iV n.q,iV n.a,iV n.d,iV n.p]] 8)],bV false)))
def dt1Step(n:Aa)(c:Int):Empty->Option (Empty⊕Ret) | x=>x.elim
theorem dt1En_ok(n:Aa)(c:Int)(o:Empty⊕Ret)(h:Nd n c=some o):Arr UB Try.f89 1 (dt1St n c) dt1Hd (zB Try.f89) [] {n:=Try.f89.ntmps,fr:=AH 0 ([.int .i64 c,.ptr 0 0 0]),hp:=([some (bK [Ai n] 8)])} o:=Scr.ok h mix (.rn 0 [] [] [] [] s2 <|.br (fun a0=>.rt [13] [] [] [] [0] [] (aj (al (u2 (u2 (u2 (ag a0 (ag a0 (ag a0 (ag a0 (aj (aj a0 t3) (ag a0 s2)))))))))) t3)) (fun a0=>.rt [12] [] [] [] [0] [] (aj (al (u2 (u2 (u2 (aj a0 (aj a0 (aj a0 (aj a0 (aj a0 (ag a0 s2)))))))))) t3))) (by kernel_rfl)
theorem dt1_ct(n:Aa)(c:Int)(r:Ret)(h:Ax (dt1Step n c) (Nd n c) r):CT UB 89 ([some (bK [Ai n] 8)]) ([.int .i64 c,.ptr 0 0 0]) r.1 r.2:=
 CT.mach (fn:=Try.f89) (c:=zB Try.f89) (S:=dt1St n c) (hd:=dt1Hd) Try.func89 (by kernel_rfl) (nL rfl)
  (fun s o ho=>match s,ho with
   | x,_=>x.elim)
  (fun o ho=>dt1En_ok n c o ho) h
def plcSt(n:Aa)(c:Int):Empty->St | x=>x.elim
def plcHd:Empty->Nat | x=>x.elim
def Lx(n:Aa)(c:Int):Option (Empty⊕Ret):=gu (Rows n.nx) <|br (ckE n c != 0) (some (.inr ([],AV.tup [iV 0,iV 0,iV (ckE n c)]))) (gu (AB n) <|gu (-1000<=c/\c<=1000) <|some (.inr ([],AV.tup [iV (plI n c),iV (plJ n c),iV 0])))
def plcStep(n:Aa)(c:Int):Empty->Option (Empty⊕Ret) | x=>x.elim
theorem plcEn_ok(n:Aa)(c:Int)(o:Empty⊕Ret)(h:Lx n c=some o):Arr UB Try.f62 0 (plcSt n c) plcHd (zB Try.f62) [] {n:=Try.f62.ntmps,fr:=AH 0 ([Ai n,.int .i64 c]),hp:=([])} o:=Scr.ok h mix (.rn 0 [] [] [] [] (al (u2 t4)) <|.gu fun a0=>have c0:=ck_c n c a0;.rn 1 [] [] [(12,hK c0 [] [])] [] (aj (u2 (u2 (aj (k2 (aj t9 (ak (al (c0))))) s2))) (al (u2 s2))) <|.br (fun a1=>.rt [29] [] [] [] [] [] (aj (aj a1 (al (u2 (k2 s2)))) (al t4))) (fun a1=>.gu fun a2=>.gu fun a3=>have c1:=Ou a2 c a3;.rt [28] [] [(19,hK c1 [] [])] [] [] [] (aj (aj a1 (aj (u2 (u2 (aj (k2 (aj t9 (ak (al (c1))))) (u2 (u2 (u2 (u2 s2))))))) (al (u2 (u2 (u2 (u2 t2))))))) (al t4)))) (by kernel_rfl)
theorem plc_ct(n:Aa)(c:Int)(r:Ret)(h:Ax (plcStep n c) (Lx n c) r):CT UB 62 ([]) ([Ai n,.int .i64 c]) r.1 r.2:=
 CT.mach (fn:=Try.f62) (c:=zB Try.f62) (S:=plcSt n c) (hd:=plcHd) Try.func62 (by kernel_rfl) (nL rfl)
  (fun s o ho=>match s,ho with
   | x,_=>x.elim)
  (fun o ho=>plcEn_ok n c o ho) h
def hdSt(n:Aa)(c:Int):Empty->St | x=>x.elim
def hdHd:Empty->Nat | x=>x.elim
def hdEn(n:Aa)(c:Int):Option (Empty⊕Ret):=gu (Rows n.nx) <|br (csE n c != 0) (some (.inr ([],AV.tup [iV 0,iV (csE n c)]))) (gu (0<=c) <|el (n.ss) (c.toNat) fun(x16:Ao)=>el (n.ss) (c.toNat) fun(x22:Ao)=>some (.inr ([],AV.tup [iV (i64.wrap (i64.wrap (x16.b+x22.k)-1)),iV 0])))
def hdStep(n:Aa)(c:Int):Empty->Option (Empty⊕Ret) | x=>x.elim
theorem hdEn_ok(n:Aa)(c:Int)(o:Empty⊕Ret)(h:hdEn n c=some o):Arr UB Try.f37 0 (hdSt n c) hdHd (zB Try.f37) [] {n:=Try.f37.ntmps,fr:=AH 0 ([Ai n,.int .i64 c]),hp:=([])} o:=Scr.ok h mix (.rn 0 [] [] [] [] (al (u2 t3)) <|.gu fun a0=>have c0:=RK a0 (c);.rn 1 [] [] [(9,hK c0 [] [])] [] (aj (u2 (u2 (aj (k2 (aj t9 (ak (al (c0))))) s2))) (al (u2 s2))) <|.br (fun a1=>.rt [23] [] [] [] [] [] (aj (aj a1 (al (u2 (ak s2)))) (al t3))) (fun a1=>.gu fun a2=>.el fun x16 a3=>.el fun x22 a4=>.rt [22] [(16,sA x16),(22,sA x22)] [] [] [] [] (aj (aj a1 (al (u2 (u2 (u2 (aj (k2 (aj a2 (Am (f:=sA) a3))) (u2 (u2 (u2 (u2 (u2 (aj (k2 (aj a2 (Am (f:=sA) a4))) (u2 (u2 (aj t3 (u2 (u2 t2))))))))))))))))) (al t3)))) (by kernel_rfl)
theorem hd_ct(n:Aa)(c:Int)(r:Ret)(h:Ax (hdStep n c) (hdEn n c) r):CT UB 37 ([]) ([Ai n,.int .i64 c]) r.1 r.2:=
 CT.mach (fn:=Try.f37) (c:=zB Try.f37) (S:=hdSt n c) (hd:=hdHd) Try.func37 (by kernel_rfl) (nL rfl)
  (fun s o ho=>match s,ho with
   | x,_=>x.elim)
  (fun o ho=>hdEn_ok n c o ho) h
theorem Rx{P:Program}{o:Oper}{ev:Operand->AV}{h:Hp}{nb:Nat}{t t' e:TypeId}{x y:Operand}(ho:o.op = .binOp .eql t x y t')(hu:P.underlying t=some (.slice e))(hx:ev x = .lst [])(hy:ev y = .nils):
  Kl P o ev h nb (fun R=>∃b,R={v:=.bool b}):=by
 intro φ A w a K Q hA hv hh hn k;have h1:=hv x;rw[hx] at h1;have h2:=hv y;rw[hy] at h2;have h2:=h2.nils_inv;have hs:∃ad c,a.eval x = .slice ad 0 c:=by
  rcases h1.lst_inv with ⟨_,ad,he⟩ | ⟨r,o',cap,z,g,he,_⟩
  .exact⟨ad,0,he⟩
  .exact⟨_,cap,he⟩
 obtain⟨ad,c,he⟩:=hs;have key:∃b,(execOp a.eval o).run P w = .ok (.value (.bool b)) w:=by
  have hg:(eqGuard .eql t x y (.slice ad 0 c) (.slice none 0 0)).run P w = .ok () w:=by unfold eqGuard;split<;>simp_all
  have hr:∃b,(Op.equal t (.slice ad 0 c) (.slice none 0 0)).run P w = .ok b w:=by
   have key:∀d,∃b,(Op.equalIn (d+1) t (.slice ad 0 c) (.slice none 0 0)).run P w = .ok b w:=by
    intro d;cases ad with
    | none=>exact⟨true,by simp[Op.equalIn,run_underlying hu]⟩
    | some ad=>exact⟨false,by simp[Op.equalIn,run_underlying hu]⟩
   exact key 9999
  obtain⟨b,hr⟩:=hr;refine⟨b,?_⟩;simp only[execOp,ho,he,h2,Sem.run_bind,hg,Result.andThen_ok,binOp,hr];rfl
 obtain⟨b,hb⟩:=key;have hv1:Au P o ev h nb {v:=.bool b}->True:=fun _=>trivial
 unfold Oper.wp;rw[hb];refine k {v:=.bool b} _ w φ ⟨b,rfl⟩ ⟨BU.refl _ w,fun _ _=>rfl,fun b hb=>hn b (by simpa using hb),fun b r z hb h=>?_,fun b b' r z z' hb _ h _=>?_,.imm _ _ (.bool _),fun b blk hm=>by simp at hm,fun blk hm=>by simp at hm,?_,?_⟩
 .rw[hn b hb] at h;cases h
 .rw[hn b hb] at h;cases h
 .intro b blk hm;simp at hm
 .intro b blk hm;simp at hm
theorem cl55_e:CT UB 55 [] [.lst []] [some (Blk.mk [] 1 true true none)] (.sl 0 0 0):=by
 refine CT.of Try.func55 (show Try.f55.body=some (zB Try.f55) from by kernel_rfl) (nL rfl) ?_;refine T.seq ?_;refine T.ops (st':=?st1) ?steps1 ?post1
 case steps1=>refine .av (.nils) rfl rfl rfl (by kernel_rfl) ?_;exact .nil _
 show T UB 0 _ _ _;refine T.seq (T.seq ?_);refine T.opsN (.val (v:=.lst []) (noG rfl) rfl (nL rfl) (HE (hint:=.no) (R:={v:=.lst []}) (p:=True) (by kernel_rfl) trivial).1 (.one (S:=fun R=>∃b,R={v:=.bool b}) (noG rfl) (Rx (e:=4) rfl (by kernel_rfl) rfl rfl) (fun R hR=>?_) (fun R hR=>?_)))
 .obtain⟨b,rfl⟩:=hR;exact⟨OpR.fits_value _ _,fun b hb=>by simp at hb,fun d hd=>by cases hd;exact nL rfl⟩
 obtain⟨b,rfl⟩:=hR;refine .nil ?_;cases b with
 | true=>
  refine T.cond_true rfl (T.seq ?_);refine T.ops (st':=?st2) ?steps2 ?post2
  case steps2=>refine .av (.nils) rfl rfl rfl (by kernel_rfl) ?_;exact .nil _
  refine T.ret ?_;refine⟨.inr rfl,.nils,⟨Try.f55.ntmps,[(0,.sl 0 0 0)],[some (Blk.mk [] 1 true true none)]⟩,rfl,Ren.less rfl (TJ _) (fun s=>?_) (fun b blk hb=>?_),rfl,rfl,(nL rfl)⟩
  .cases s with
   | zero=>exact .nilS _ _
   | succ s=>exact .refl _
  .cases b with
   | zero=>simp[nth] at hb;subst hb;exact .inr ⟨TI _,rfl,rfl,rfl,rfl⟩
   | succ b=>simp[nth] at hb
 | false=>
  refine T.cond_false rfl (T.skip ?_);refine T.seq ?_;refine T.ops (st':=?st3) ?steps3 ?post3
  case steps3=>refine .new (v:=.sl 0 0 0) (blk:=Blk.mk [] 1 true true none) rfl rfl (nL rfl) (HE (hint:=.no) (R:={v:=.sl 0 0 0,new:=[Blk.mk [] 1 true true none]}) (p:=True) (by kernel_rfl) trivial).1 ?_;refine .av (.lst []) rfl rfl rfl (by kernel_rfl) ?_;refine .move (v:=.sl 1 0 0) (b:=0) (blk:=Blk.mk [] 1 true true none) rfl rfl (nL rfl) rfl rfl (TJ _) (HE (hint:=.no) (R:={v:=.sl 1 0 0,dead:=[0],new:=[Blk.mk [] 1 true true none]}) (p:=0=0/\DN (nth [some (Blk.mk [] 1 true true none)]) 1 (.lst [])/\0+0<=9223372036854775807/\(0+0) * 1<=140737488355328) (by kernel_rfl) ⟨rfl,(fun e he=>by cases he),(by omega),(by omega)⟩).1 ?_;refine .av (.sl 1 0 0) rfl rfl rfl (by kernel_rfl) ?_;exact .nil _
  refine T.ret ?_;exact⟨.inr rfl,.sl 1 0 0,⟨Try.f55.ntmps,[(0,.sl 0 0 0)],[some (Blk.mk [] 1 true true none)]⟩,rfl,Ren.of (p:=True/\True/\True) [1] [] [0] (by kernel_rfl) ⟨trivial,trivial,trivial⟩ rfl rfl rfl,rfl,rfl,(nL rfl)⟩
def rpV(c m:Nat):List Int:=Uv m (-1)++Uv (c-m) 0
theorem GJ{c m:Nat}(h:m<=c):(rpV c m).length=c:=by unfold rpV;simp;omega
inductive Dk where | l0 (v0:Int) | l1 (v0:Int)
def Hx(n:Aa)(q:Ad):Dk->St | .l0 v0=>St.mk 101 [(2,AV.ptr 0 0 0),(3,AV.ptr 1 0 0),(42,UA (Uu iv q.bw)),(43,iv (iN (Uu iv q.bw).length)),(44,iv v0)] [some (bK [Ai n] 8),some (bK [AV.agg [UA (boL q.cl),UA (Uu iv q.bw),UA (Uu iv q.pe)]] 3)] | .l1 v0=>St.mk 101 [(2,AV.ptr 0 0 0),(3,AV.ptr 1 0 0),(69,UA (Uu iv q.pe)),(70,iv (iN (Uu iv q.pe).length)),(71,iv v0)] [some (bK [Ai n] 8),some (bK [AV.agg [UA (boL q.cl),UA (Uu iv q.bw),UA (Uu iv q.pe)]] 3)]
def Jo:Dk->Nat | .l0 _=>0 | .l1 _=>1
def L5(n:Aa)(q:Ad):Option (Dk⊕Ret):=gu (Rows n.nx) <|br (Jh n != 0) (some (.inr ([],bV false))) (br (iN (boL q.cl).length != H1 n) (some (.inr ([],bV false))) (br (iN (Uu iV q.bw).length != H1 n) (some (.inr ([],bV false))) (br (decide (iN (Uu bA n.bs).length<iN (Uu iV q.pe).length)) (some (.inr ([],bV false))) (some (.inl (.l0 ((0:Int))))))))
def FF(n:Aa)(q:Ad)(v0:Int):Option (Dk⊕Ret):=br (decide (v0<iN (Uu iV q.bw).length)) (gu (0<=v0) <|el (q.bw) (v0.toNat) fun(x47:Int)=>br (decide (x47 < -1)) (some (.inr ([],bV false))) (br (decide (8<=x47)) (some (.inr ([],bV false))) (br (decide (0<=x47)) (el (q.cl) (v0.toNat) fun(x62:Bool)=>br (!x62) (some (.inr ([],bV false))) (some (.inl (.l0 (i64.wrap (v0+1)))))) (some (.inl (.l0 (i64.wrap (v0+1)))))))) (some (.inl (.l1 ((0:Int)))))
def FN(n:Aa)(q:Ad)(v0:Int):Option (Dk⊕Ret):=br (decide (v0<iN (Uu iV q.pe).length)) (gu (0<=v0) <|el (q.pe) (v0.toNat) fun(x74:Int)=>br (decide (x74<0)) (some (.inr ([],bV false))) (br (decide (iN (Uu bA n.bs).length<=x74)) (some (.inr ([],bV false))) (gu (0<=x74) <|el (q.cl) (x74.toNat) fun(x89:Bool)=>br x89 (some (.inr ([],bV false))) (gu (∀(e:AV),e∈Uu iV q.pe->e.cells.length=1) <|gu (v0<=iN (Uu iV q.pe).length) <|gu ((List.take (v0.toNat-Uz 0) (List.drop (Uz 0) q.pe)).length<=9223372036854775807) <|br (Ay (List.take (v0.toNat-Uz 0) (List.drop (Uz 0) q.pe)) x74) (some (.inr ([],bV false))) (some (.inl (.l1 (i64.wrap (v0+1))))))))) (some (.inr ([],bV true)))
def svaStep(n:Aa)(q:Ad):Dk->Option (Dk⊕Ret) | .l0 v0=>FF n q v0 | .l1 v0=>FN n q v0
theorem svaEn_ok(n:Aa)(q:Ad)(o:Dk⊕Ret)(h:L5 n q=some o):Arr UB Try.f25 0 (Hx n q) Jo (zB Try.f25) [] {n:=Try.f25.ntmps,fr:=AH 0 ([Ai n,sgA q]),hp:=([])} o:=Scr.ok h mix (.rn 0 [] [] [] [] (al (u2 (u2 t2))) <|.gu fun a0=>have c0:=cnt_c a0;.rn 0 [] [] [(13,hK c0 [] [])] [] (al (u2 (aj (ak (aj t9 (al (c0)))) (u2 (u2 (u2 (u2 s2))))))) <|.br (fun a1=>.rt [37] [] [] [] [] [] (aj (aj (u2 (u2 (u2 (aj a1 (aj a1 (aj a1 (aj a1 (aj a1 (ag a1 (u2 (k5 (aj t3 (u2 (k2 (k5 (al t3)))))))))))))))) (ak s2)) t2)) (fun a1=>.br (fun a2=>.rt [36,51] [] [] [] [] [] (aj (aj (u2 (u2 (u2 (ag a1 (ag a1 (ag a1 (ag a1 (aj (aj a1 t3) (ag a1 (u2 (aj a2 (aj a2 (aj a2 (aj a2 (aj a2 (ag a2 (u2 (k2 (k5 (al t3)))))))))))))))))))) (ak s2)) t2)) (fun a2=>.br (fun a3=>.rt [36,50,65] [] [] [] [] [] (aj (aj (u2 (u2 (u2 (ag a1 (ag a1 (ag a1 (ag a1 (aj (aj a1 t3) (ag a1 (u2 (ag a2 (ag a2 (ag a2 (ag a2 (aj (aj a2 t3) (ag a2 (u2 (aj a3 (aj a3 (aj a3 (aj a3 (aj a3 (aj a3 (aj a3 (al (aj a3 t2)))))))))))))))))))))))))) (ak s2)) t2)) (fun a3=>.rn 0 [36,50,64] [] [] [] (al (u2 (u2 (u2 (ag a1 (ag a1 (ag a1 (ag a1 (aj (aj a1 t3) (ag a1 (u2 (ag a2 (ag a2 (ag a2 (ag a2 (aj (aj a2 t3) (ag a2 (u2 (ag a3 (ag a3 (ag a3 (ag a3 (ag a3 (ag a3 (aj (aj a3 t3) (al (aj a3 t2))))))))))))))))))))))))))) <|.br (fun a4=>.rt [36,50,64,81] [] [] [] [] [] (aj (aj a4 s2) t2)) (fun a4=>.lp [36,50,64,80] [] [] [] [] [0,1] [2,3,42,43,44] (aj (aj a4 (al (u2 (u2 (u2 t2))))) t8)))))) (by kernel_rfl)
theorem svaS0_ok(n:Aa)(q:Ad)(v0:Int)(o:Dk⊕Ret)(h:FF n q v0=some o):Arr UB Try.f25 0 (Hx n q) Jo (Aw Try.f25 0) (.rnd (Aw Try.f25 0)::AJ Try.f25 0) (Hx n q (.l0 v0)) o:=Scr.ok h mix (.rn 0 [] [] [] [] (al (al t3)) <|.br (fun a0=>.gu fun a1=>.el fun x47 a2=>.rn 0 [91] [(47,iv x47)] [] [] (aj a0 (al (u2 (aj (k2 (aj a1 (Am (f:=iv) a2))) (u2 (u2 s2)))))) <|.br (fun a3=>.rt [103] [] [] [] [] [] (aj (aj (u2 (u2 (u2 (aj a3 (aj a3 (ag a3 (u2 (k5 (k5 (al t3)))))))))) (ak s2)) t2)) (fun a3=>.br (fun a4=>.rt [102,111] [] [] [] [] [] (aj (aj (u2 (u2 (u2 (ag a3 (ag a3 (ag a3 (u2 (aj a4 (aj a4 (aj a4 (ak (k5 (aj a4 (al (aj a4 t2))))))))))))))) (ak s2)) t2)) (fun a4=>.br (fun a5=>.el fun x62 a6=>.rn 0 [102,110,117] [(62,bV x62)] [] [] (al (u2 (u2 (u2 (ag a3 (ag a3 (ag a3 (u2 (ag a4 (ag a4 (ag a4 (ag a5 (ag a5 (ag a5 (aj (aj a5 (k2 (aj a1 (Am (f:=bV) a6)))) (ag a5 (ag a5 (aj (aj a4 (aj a5 t2)) (al (aj a4 t2)))))))))))))))))))) <|.br (fun a7=>.rt [102,110,117,133] [] [] [] [] [] (aj (aj a7 s2) t2)) (fun a7=>.lp [102,110,117,132] [] [] [] [] [0,1] [2,3,42,43,44] (aj (aj a7 (al (u2 s2))) t8))) (fun a5=>.lp [102,110,116] [] [] [] [] [0,1] [2,3,42,43,44] (aj (aj (u2 (u2 (u2 (ag a3 (ag a3 (ag a3 (u2 (ag a4 (ag a4 (ag a4 (aj a5 (aj a5 (aj a5 (aj a5 (aj a5 (aj a5 (aj (aj a4 (aj a5 t2)) (al (aj a4 t2))))))))))))))))))) (ak (al (u2 s2)))) t8))))) (fun a0=>.lp [90] [] [] [] [] [0,1] [2,3,69,70,71] (aj (aj a0 (al (u2 (u2 (u2 t2))))) t8))) (by kernel_rfl)
theorem svaS1_ok(n:Aa)(q:Ad)(v0:Int)(o:Dk⊕Ret)(h:FN n q v0=some o):Arr UB Try.f25 0 (Hx n q) Jo (Aw Try.f25 1) (.rnd (Aw Try.f25 1)::AJ Try.f25 1) (Hx n q (.l1 v0)) o:=Scr.ok h mix (.rn 0 [] [] [] [] (al (al t3)) <|.br (fun a0=>.gu fun a1=>.el fun x74 a2=>.rn 0 [145] [(74,iv x74)] [] [] (aj a0 (al (u2 (aj (k2 (aj a1 (Am (f:=iv) a2))) (u2 (u2 s2)))))) <|.br (fun a3=>.rt [157] [] [] [] [] [] (aj (aj (u2 (u2 (u2 (aj a3 (aj a3 (aj a3 (aj a3 (aj a3 (ag a3 (u2 (k5 (aj t3 (u2 (ak (k5 (al t3)))))))))))))))) (ak s2)) t2)) (fun a3=>.br (fun a4=>.rt [156,171] [] [] [] [] [] (aj (aj (u2 (u2 (u2 (ag a3 (ag a3 (ag a3 (ag a3 (aj (aj a3 t3) (ag a3 (u2 (aj a4 (aj a4 (aj a4 (aj a4 (aj a4 (ag a4 (u2 (ak (k5 (al t3)))))))))))))))))))) (ak s2)) t2)) (fun a4=>.gu fun a5=>.el fun x89 a6=>.br (fun a7=>.rt [156,170,185] [(89,bV x89)] [] [] [] [] (aj (aj (u2 (u2 (u2 (ag a3 (ag a3 (ag a3 (ag a3 (aj (aj a3 t3) (ag a3 (u2 (ag a4 (ag a4 (ag a4 (aj (aj a4 (k2 (aj a5 (Am (f:=bV) a6)))) (ag a4 (ag a4 (u2 (aj a7 (aj a7 (aj a7 (aj a7 (aj a7 (aj a7 (al (aj a7 t2))))))))))))))))))))))))) (ak s2)) t2)) (fun a7=>.gu fun a8=>.gu fun a9=>.gu fun a10=>have c0:=con_c (List.take (v0.toNat-Uz 0) (List.drop (Uz 0) q.pe)) x74 a10;.rn 0 [156,170,184] [(89,bV x89)] [(98,hK c0 [] [])] [] (al (u2 (u2 (u2 (ag a3 (ag a3 (ag a3 (ag a3 (aj (aj a3 t3) (ag a3 (u2 (ag a4 (ag a4 (ag a4 (aj (aj a4 (k2 (aj a5 (Am (f:=bV) a6)))) (ag a4 (ag a4 (u2 (ag a7 (ag a7 (ag a7 (aj (aj a7 (k2 (aj a8 (aj (Int.le_refl 0) (aj a1 (aj a9 (show iN (Uu iv q.pe).length<=iN (Uu iv q.pe).length by omega))))))) (ag a7 (aj (aj a7 (ak (k3 (al (show CT UB 47 [] [UA (List.take (v0.toNat-Uz 0) (List.drop (Uz 0) (Uu iv q.pe))),iv x74] [] (bV (Ay (List.take (v0.toNat-Uz 0) (List.drop (Uz 0) q.pe)) x74)) from CT.eqs (c0) (by simp[gL,boL,lI,sA,bA]<;>rfl) (by simp[gL,boL,lI,sA,bA]<;>rfl)))))) (al (aj a7 t2)))))))))))))))))))))))))) <|.br (fun a11=>.rt [156,170,184,199] [] [] [] [] [] (aj (aj a11 s2) t2)) (fun a11=>.lp [156,170,184,198] [] [] [] [] [0,1] [2,3,69,70,71] (aj (aj a11 (al (u2 s2))) t8)))))) (fun a0=>.rt [144] [] [] [] [] [] (aj (aj a0 s2) t2))) (by kernel_rfl)
theorem sva_ct(n:Aa)(q:Ad)(r:Ret)(h:Ax (svaStep n q) (L5 n q) r):CT UB 25 ([]) ([Ai n,sgA q]) r.1 r.2:=
 CT.mach (fn:=Try.f25) (c:=zB Try.f25) (S:=Hx n q) (hd:=Jo) Try.func25 (by kernel_rfl) (nL rfl)
  (fun s o ho=>match s,ho with
   | .l0 v0,ho=>svaS0_ok n q v0 o ho
   | .l1 v0,ho=>svaS1_ok n q v0 o ho
  )
  (fun o ho=>svaEn_ok n q o ho) h
def Qz(n:Aa)(q:Ad):Empty->St | x=>x.elim
def Oa:Empty->Nat | x=>x.elim
def Nl(n:Aa)(q:Ad):Option (Empty⊕Ret):=gu (Rows n.nx) <|br (AZ n) (gu (AB n) <|some (.inr ([],bV (Gk n q)))) (some (.inr ([],bV false)))
def r20vStep(n:Aa)(q:Ad):Empty->Option (Empty⊕Ret) | x=>x.elim
theorem R9(n:Aa)(q:Ad)(o:Empty⊕Ret)(h:Nl n q=some o):Arr UB Try.f75 0 (Qz n q) Oa (zB Try.f75) [] {n:=Try.f75.ntmps,fr:=AH 0 ([Ai n,sgA q]),hp:=([])} o:=Scr.ok h mix (.rn 0 [] [] [] [] (al (u2 (u2 t2))) <|.gu fun a0=>.br (fun a1=>.gu fun a2=>have c0:=Kb a0;have c1:=fo_c q a2;.rt [15] [] [(6,hK c0 [] []),(10,hK c1 [] [])] [] [] [] (aj (al (u2 (aj (ak (aj t9 (al (c0)))) (u2 (ag a1 (ag a1 (aj (aj a1 (k2 (aj t9 (aj t4 (al (c1)))))) (ag a1 s2)))))))) t2)) (fun a1=>have c0:=Kb a0;.rt [14] [] [(6,hK c0 [] [])] [] [] [] (aj (al (u2 (aj (ak (aj t9 (al (c0)))) (u2 (aj a1 (aj a1 (aj a1 (ag a1 s2)))))))) t2))) (by kernel_rfl)
theorem r20v_ct(n:Aa)(q:Ad)(r:Ret)(h:Ax (r20vStep n q) (Nl n q) r):CT UB 75 ([]) ([Ai n,sgA q]) r.1 r.2:=
 CT.mach (fn:=Try.f75) (c:=zB Try.f75) (S:=Qz n q) (hd:=Oa) Try.func75 (by kernel_rfl) (nL rfl)
  (fun s o ho=>match s,ho with
   | x,_=>x.elim)
  (fun o ho=>R9 n q o ho) h
def clbSt(l:List Bool):Empty->St | x=>x.elim
def clbHd:Empty->Nat | x=>x.elim
def K3(l:List Bool):Option (Empty⊕Ret):=gu (boL l=[]->False) <|gu (∀(e:AV),e∈boL l->e.cells.length=1) <|gu (0+(boL l).length<=9223372036854775807) <|gu ((0+(boL l).length) * 1<=140737488355328) <|some (.inr ([some (bK ([]++boL l) 1)],AV.sl 0 0 (0+(boL l).length)))
def clbStep(l:List Bool):Empty->Option (Empty⊕Ret) | x=>x.elim
theorem clbEn_ok(l:List Bool)(o:Empty⊕Ret)(h:K3 l=some o):Arr UB Try.f55 0 (clbSt l) clbHd (zB Try.f55) [] {n:=Try.f55.ntmps,fr:=AH 0 ([.lst (boL l)]),hp:=([])} o:=Scr.ok h mix (.rn 0 [] [] [] [] s2 <|.gu fun a0=>.rn 0 [] [] [] [] (al (u2 (al (ak a0)))) <|.gu fun a1=>.gu fun a2=>.gu fun a3=>.rt [] [] [] [] [1] [] (aj (ak (al (ak (u2 (aj (k2 (aj (show nat_lit 0=nat_lit 0 from rfl) (aj a1 (aj a2 a3)))) s2))))) t3)) (by kernel_rfl)
theorem clb_ct(l:List Bool)(r:Ret)(h:Ax (clbStep l) (K3 l) r):CT UB 55 ([]) ([.lst (boL l)]) r.1 r.2:=
 CT.mach (fn:=Try.f55) (c:=zB Try.f55) (S:=clbSt l) (hd:=clbHd) Try.func55 (by kernel_rfl) (nL rfl)
  (fun s o ho=>match s,ho with
   | x,_=>x.elim)
  (fun o ho=>clbEn_ok l o ho) h
inductive EP where | l0 (v0:Int) (v1:List Int)
def Fb(q:Ad)(w:Int):EP->St | .l0 v0 v1=>St.mk 39 [(1,iv w),(2,AV.ptr 0 0 0),(4,AV.ptr 1 0 0),(5,AV.ptr 2 0 0),(6,iv v0)] [some (bK [AV.agg [UA (boL q.cl),UA (Uu iv q.bw),UA (Uu iv q.pe)]] 3),some (bK [AV.agg [AV.nils,AV.nils,AV.nils]] 3),some (Blk.mk [AV.agg [AV.sl 3 0 (boL q.cl).length,AV.sl 4 0 q.bw.length,AV.sl 5 0 v1.length]] 3 false true none),some (bK (boL q.cl) 1),some (bK (Uu iv q.bw) 1),some (bK (Uu iv v1) 1)]
def Ld:EP->Nat | .l0 _ _=>0
def NC(q:Ad)(w:Int):Option (EP⊕Ret):=gu (∀(e:AV),e∈boL q.cl->e.cells.length=1) <|gu ((boL q.cl).length<=9223372036854775807) <|gu ((boL q.cl).length * 1<=140737488355328) <|gu (∀(e:AV),e∈Uu iV q.bw->e.cells.length=1) <|gu ((Uu iV q.bw).length<=9223372036854775807) <|gu ((Uu iV q.bw).length * 8<=140737488355328) <|some (.inl (.l0 ((0:Int)) ([])))
def HG(q:Ad)(w v0:Int)(v1:List Int):Option (EP⊕Ret):=br (decide (v0<iN (Uu iV q.pe).length)) (gu (0<=v0) <|el (q.pe) (v0.toNat) fun(x24:Int)=>br (x24 != w) (el (q.pe) (v0.toNat) fun(x33:Int)=>gu ((Uu iV v1).length+[iV x33].length<=9223372036854775807) <|gu (((Uu iV v1).length+[iV x33].length) * 8<=140737488355328) <|some (.inl (.l0 (i64.wrap (v0+1)) (v1++[x33])))) (some (.inl (.l0 (i64.wrap (v0+1)) v1)))) (some (.inr ([some (bK (boL q.cl) 1),some (bK (Uu iV q.bw) 1),some (bK (Uu iV v1) 1)],AV.agg [AV.sl 0 0 (boL q.cl).length,AV.sl 1 0 q.bw.length,AV.sl 2 0 v1.length])))
def rcpStep(q:Ad)(w:Int):EP->Option (EP⊕Ret) | .l0 v0 v1=>HG q w v0 v1
theorem rcpEn_ok(q:Ad)(w:Int)(o:EP⊕Ret)(h:NC q w=some o):Arr UB Try.f106 0 (Fb q w) Ld (zB Try.f106) [] {n:=Try.f106.ntmps,fr:=AH 0 ([sgA q,.int .i64 w]),hp:=([])} o:=Scr.ok h mix (.rn 0 [] [] [] [] (al (u2 t2)) <|.gu fun a0=>.gu fun a1=>.gu fun a2=>.gu fun a3=>.gu fun a4=>.gu fun a5=>.lq [] [] [] [] [(3005,1)] [0,1,4,2,3,5] [1,2,4,5,6] (up [] [(2,[AV.agg [AV.sl 3 0 (boL q.cl).length,AV.sl 4 0 (Uu iv q.bw).length,AV.sl 5 0 0]])] (Fb q w (.l0 ((0:Int)) ([])))) (aj (aj (u2 (u2 (aj (ak (aj a0 (aj a1 a2))) (u2 (u2 (aj (ak (aj a3 (aj a4 a5))) (aj t3 (ak (al (k2 n11)))))))))) s2) (k2 (k5 (aj (al t4) t4)))) (by simp[up,upF,upV,upH,upB,Fb,gL,boL,lI])) (by kernel_rfl)
theorem rcpS0_ok(q:Ad)(w v0:Int)(v1:List Int)(o:EP⊕Ret)(h:HG q w v0 v1=some o):Arr UB Try.f106 0 (Fb q w) Ld (Aw Try.f106 0) (.rnd (Aw Try.f106 0)::AJ Try.f106 0) (Fb q w (.l0 v0 v1)) o:=Scr.ok h mix (.rn 0 [] [] [] [] (al (u2 (u2 (u2 (u2 (al t3)))))) <|.br (fun a0=>.gu fun a1=>.el fun x24 a2=>.rn 0 [37] [(24,iv x24)] [] [] (aj a0 (al (u2 (u2 (u2 (aj (k2 (aj a1 (Am (f:=iv) a2))) (u2 (u2 (al t3))))))))) <|.br (fun a3=>.el fun x33 a4=>.gu fun a5=>.gu fun a6=>.lq [55] [(33,iv x33)] [] [] [] [0,1,2,3,4,7] [1,2,4,5,6] (up [] [(2,[AV.agg [AV.sl 3 0 (boL q.cl).length,AV.sl 4 0 q.bw.length,AV.sl 5 0 ((Uu iv v1).length+[iv x33].length)]]),(5,Uu iv v1++[iv x33])] (Fb q w (.l0 (i64.wrap (v0+1)) (v1++[x33])))) (aj (aj a3 (aj (u2 (u2 (u2 (u2 (u2 (aj (k2 (aj a1 (Am (f:=iv) a4))) (u2 (u2 (aj (k2 (aj (show(Uu iv v1).length=v1.length by simp) (aj (aj (show nat_lit 1=nat_lit 1 from rfl) (show 1<=[iv x33].length by simp)) (aj a5 a6)))) (u2 (al t3))))))))))) (al (u2 (u2 s2))))) (k2 (k5 (aj (al t4) t4)))) (by simp[up,upF,upV,upH,upB,Fb,gL,boL,lI])) (fun a3=>.lp [54] [] [] [] [] [0,1,2,3,4,5] [1,2,4,5,6] (aj (aj a3 (al (u2 (u2 s2)))) (k2 (k5 (aj (al t4) t4)))))) (fun a0=>.rt [36] [] [] [] [3,4,5] [] (aj (aj a0 (al (u2 (al (k2 n11))))) (aj t4 t4)))) (by kernel_rfl)
theorem rcp_ct(q:Ad)(w:Int)(r:Ret)(h:Ax (rcpStep q w) (NC q w) r):CT UB 106 ([]) ([sgA q,.int .i64 w]) r.1 r.2:=
 CT.mach (fn:=Try.f106) (c:=zB Try.f106) (S:=Fb q w) (hd:=Ld) Try.func106 (by kernel_rfl) (nL rfl)
  (fun s o ho=>match s,ho with
   | .l0 v0 v1,ho=>rcpS0_ok q w v0 v1 o ho
  )
  (fun o ho=>rcpEn_ok q w o ho) h
inductive EK where | l0 (v0:Int) (v1:List Int)
def Fs(q:Int):EK->St | .l0 v0 v1=>St.mk 28 [(0,iv q),(2,AV.ptr 0 0 0),(4,AV.ptr 1 0 0),(5,iv v0)] [some (bK [AV.agg [AV.nils,AV.nils]] 2),some (Blk.mk [AV.agg [AV.sl 2 0 v1.length,AV.sl 3 0 q.toNat]] 2 false true none),some (bK (Uu iv v1) 1),some (bK (Uv q.toNat AV.nils) 1)]
def L2:EK->Nat | .l0 _ _=>0
def Ll(q:Int):Option (EK⊕Ret):=br (decide (q<0)) (some (.inr ([],AV.tup [AV.agg [AV.nils,AV.nils],iV 19]))) (br (decide (48<q)) (some (.inr ([],AV.tup [AV.agg [AV.nils,AV.nils],iV 19]))) (gu (0<=q) <|gu (8 * q<=281474976710656) <|gu (q<=9223372036854775807) <|gu (24 * q<=281474976710656) <|some (.inl (.l0 ((0:Int)) (Uv q.toNat 0)))))
def HK(q v0:Int)(v1:List Int):Option (EK⊕Ret):=br (decide (v0<q)) (gu (0<=v0) <|gu (v0<iN v1.length) <|gu ((0+v0.toNat).succ.le (Uu iV v1).length) <|some (.inl (.l0 (i64.wrap (v0+1)) (v1.set (0+v0.toNat) (-1))))) (some (.inr ([],AV.tup [AV.agg [UA (Uu iV v1),UA (Uv q.toNat AV.nils)],iV 0])))
def n19Step(q:Int):EK->Option (EK⊕Ret) | .l0 v0 v1=>HK q v0 v1
theorem n19En_ok(q:Int)(o:EK⊕Ret)(h:Ll q=some o):Arr UB Try.f17 0 (Fs q) L2 (zB Try.f17) [] {n:=Try.f17.ntmps,fr:=AH 0 ([.int .i64 q]),hp:=([])} o:=Scr.ok h mix (.rn 0 [] [] [] [] (al t3) <|.br (fun a0=>.rt [17] [] [] [] [] [] (aj (aj (u2 (u2 (u2 (aj a0 (aj a0 (al (aj a0 t2))))))) (ak (al (ak (aj (k2 n11) t2))))) (al (aj t3 t2)))) (fun a0=>.rn 0 [16] [] [] [] (al (u2 (u2 (u2 (ag a0 (ag a0 (al (aj a0 t2)))))))) <|.br (fun a1=>.rt [16,23] [] [] [] [] [] (aj (aj a1 (al (ak (aj (k2 n11) t2)))) (al (aj t3 t2)))) (fun a1=>.gu fun a2=>.gu fun a3=>.gu fun a4=>.gu fun a5=>.lq [16,22] [(16,AV.tup [])] [] [] [] [0,3,1,2] [0,2,4,5] (up [] [(1,[AV.agg [AV.sl 2 0 q.toNat,AV.sl 3 0 q.toNat]]),(2,Uv q.toNat (iv 0))] (Fs q (.l0 ((0:Int)) (Uv q.toNat 0)))) (aj (aj a1 (aj (u2 (aj (k2 (aj a2 (aj (show q<=q by omega) (aj a3 a4)))) (u2 (aj (k2 (aj a2 (aj (show q<=q by omega) (aj a5 a4)))) (aj t3 (ak (al (k2 n11)))))))) s2)) (k5 (aj (al t3) t3))) (by simp[up,upF,upV,upH,upB,Fs,gL,boL,lI])))) (by kernel_rfl)
theorem n19S0_ok(q v0:Int)(v1:List Int)(o:EK⊕Ret)(h:HK q v0 v1=some o):Arr UB Try.f17 0 (Fs q) L2 (Aw Try.f17 0) (.rnd (Aw Try.f17 0)::AJ Try.f17 0) (Fs q (.l0 v0 v1)) o:=Scr.ok h mix (.rn 0 [] [] [] [] (al (u2 (u2 (al t3)))) <|.br (fun a0=>.gu fun a1=>.gu fun a2=>.gu fun a3=>.lq [41] [] [] [] [] [0,1,2,3] [0,2,4,5] (up [] [(1,[AV.agg [AV.sl 2 0 v1.length,AV.sl 3 0 q.toNat]]),(2,(Uu iv v1).set (0+v0.toNat) (iv (-1)))] (Fs q (.l0 (i64.wrap (v0+1)) (v1.set (0+v0.toNat) (-1))))) (aj (aj a0 (aj (u2 (u2 (u2 (aj (k2 (aj a1 a2)) (al (ak a3)))))) (al (u2 (u2 s2))))) (k5 (aj (al t3) t3))) (by simp[up,upF,upV,upH,upB,Fs,gL,boL,lI])) (fun a0=>.rt [40] [] [] [] [] [2,3] (aj (aj a0 (al (u2 (aj (k2 n11) t2)))) (al (aj (aj (show v1.length=(Uu iv v1).length by simp) (al (show q.toNat=(Uv q.toNat AV.nils).length by simp))) t2))))) (by kernel_rfl)
theorem n19_ct(q:Int)(r:Ret)(h:Ax (n19Step q) (Ll q) r):CT UB 17 ([]) ([.int .i64 q]) r.1 r.2:=
 CT.mach (fn:=Try.f17) (c:=zB Try.f17) (S:=Fs q) (hd:=L2) Try.func17 (by kernel_rfl) (nL rfl)
  (fun s o ho=>match s,ho with
   | .l0 v0 v1,ho=>n19S0_ok q v0 v1 o ho
  )
  (fun o ho=>n19En_ok q o ho) h
inductive Ez where | l0 (v0:Int) (v1:List (List Int))
def Ft(q:Al):Ez->St | .l0 v0 v1=>St.mk 28 [(1,AV.ptr 0 0 0),(2,AV.ptr 1 0 0),(3,AV.ptr 2 0 0),(4,iv v0)] [some (bK [AV.agg [UA (Uu iv q.ow),UA (gL q.qu)]] 2),some (bK [AV.agg [AV.nils,AV.nils]] 2),some (Blk.mk [AV.agg [AV.sl 3 0 q.ow.length,AV.sl 4 0 v1.length]] 2 false true none),some (bK (Uu iv q.ow) 1),some (bK (Uu lI v1) 1)]
def Mg:Ez->Nat | .l0 _ _=>0
def M0(q:Al):Option (Ez⊕Ret):=gu (∀(e:AV),e∈Uu iV q.ow->e.cells.length=1) <|gu ((Uu iV q.ow).length<=9223372036854775807) <|gu ((Uu iV q.ow).length * 8<=140737488355328) <|some (.inl (.l0 ((0:Int)) ([])))
def HH(q:Al)(v0:Int)(v1:List (List Int)):Option (Ez⊕Ret):=br (decide (v0<iN (gL q.qu).length)) (gu (0<=v0) <|el (q.qu) (v0.toNat) fun(x21:List Int)=>gu (∀(e:AV),e∈Uu iV x21->e.cells.length=1) <|gu ((Uu iV x21).length<=9223372036854775807) <|gu ((Uu iV x21).length * 8<=140737488355328) <|gu ((Uu lI v1).length+[UA (Uu iV x21)].length<=9223372036854775807) <|gu (((Uu lI v1).length+[UA (Uu iV x21)].length) * 24<=140737488355328) <|some (.inl (.l0 (i64.wrap (v0+1)) (v1++[x21])))) (some (.inr ([some (bK (Uu iV q.ow) 1),some (bK (Uu lI v1) 1)],AV.agg [AV.sl 0 0 q.ow.length,AV.sl 1 0 v1.length])))
def c19Step(q:Al):Ez->Option (Ez⊕Ret) | .l0 v0 v1=>HH q v0 v1
theorem c19En_ok(q:Al)(o:Ez⊕Ret)(h:M0 q=some o):Arr UB Try.f50 0 (Ft q) Mg (zB Try.f50) [] {n:=Try.f50.ntmps,fr:=AH 0 ([lkA q]),hp:=([])} o:=Scr.ok h mix (.rn 0 [] [] [] [] (al (u2 t2)) <|.gu fun a0=>.gu fun a1=>.gu fun a2=>.lq [] [] [] [] [(2003,1)] [0,1,3,2,4] [1,2,3,4] (up [] [(2,[AV.agg [AV.sl 3 0 (Uu iv q.ow).length,AV.sl 4 0 0]])] (Ft q (.l0 ((0:Int)) ([])))) (aj (aj (u2 (u2 (aj (ak (aj a0 (aj a1 a2))) (u2 (ak (al (k2 n11))))))) s2) (ak (k5 (aj (al t3) t3)))) (by simp[up,upF,upV,upH,upB,Ft,gL,boL,lI])) (by kernel_rfl)
theorem c19S0_ok(q:Al)(v0:Int)(v1:List (List Int))(o:Ez⊕Ret)(h:HH q v0 v1=some o):Arr UB Try.f50 0 (Ft q) Mg (Aw Try.f50 0) (.rnd (Aw Try.f50 0)::AJ Try.f50 0) (Ft q (.l0 v0 v1)) o:=Scr.ok h mix (.rn 0 [] [] [] [] (al (u2 (u2 (u2 (u2 (al t3)))))) <|.br (fun a0=>.gu fun a1=>.el fun x21 a2=>.gu fun a3=>.gu fun a4=>.gu fun a5=>.gu fun a6=>.gu fun a7=>.lq [27] [(21,lI x21),(23,UA [])] [] [] [] [0,1,2,3,6] [1,2,3,4] (up [] [(2,[AV.agg [AV.sl 3 0 q.ow.length,AV.sl 4 0 ((Uu lI v1).length+[UA (Uu iv x21)].length)]]),(4,Uu lI v1++[UA (Uu iv x21)])] (Ft q (.l0 (i64.wrap (v0+1)) (v1++[x21])))) (aj (aj a0 (aj (u2 (u2 (u2 (u2 (u2 (aj (k2 (aj a1 (Am (f:=lI) a2))) (u2 (aj (ak (aj (aj a3 (aj a4 a5)) (show(Uu iv x21).length=(Uu iv x21).length from rfl))) (u2 (aj (k2 (aj (show(Uu lI v1).length=v1.length by simp) (aj (aj (show nat_lit 1=nat_lit 1 from rfl) (show 1<=[UA (Uu iv x21)].length by simp)) (aj a6 a7)))) (u2 (al t3)))))))))))) (al (u2 (u2 s2))))) (ak (k5 (aj (al t3) t3)))) (by simp[up,upF,upV,upH,upB,Ft,gL,boL,lI])) (fun a0=>.rt [26] [] [] [] [3,4] [] (aj (aj a0 (al (u2 (al (k2 n11))))) (aj t3 t3)))) (by kernel_rfl)
theorem c19_ct(q:Al)(r:Ret)(h:Ax (c19Step q) (M0 q) r):CT UB 50 ([]) ([lkA q]) r.1 r.2:=
 CT.mach (fn:=Try.f50) (c:=zB Try.f50) (S:=Ft q) (hd:=Mg) Try.func50 (by kernel_rfl) (nL rfl)
  (fun s o ho=>match s,ho with
   | .l0 v0 v1,ho=>c19S0_ok q v0 v1 o ho
  )
  (fun o ho=>c19En_ok q o ho) h
def wo(l:List Int)(x:Int):List Int:=l.filter (fun y=>y != x)
theorem M8{l:List Int}{x:Int}{i:Nat}(h:i<l.length):wo (l.take (i+1)) x=wo (l.take i) x++(if (l.getD i 0 != x)=true then [l.getD i 0] else []):=by unfold wo;rw[List.take_add_one,AP 0 h,List.filter_append];congr 1;show List.filter _ [l.getD i 0]=_;rw[List.filter_cons];rfl
theorem NY(l:List Int)(x:Int):(wo l x).length<=l.length:=List.length_filter_le _ _
theorem rcp_c(cl:List Bool)(bw pe:List Int)(w:Int)(h1:cl.length<=1000000)(h2:bw.length<=1000000)(h3:pe.length<=1000000):
  CT UB 106 [] [sgA ⟨cl,bw,pe⟩,.int .i64 w] [some (Blk.mk (boL cl) 1 true true none),some (Blk.mk (bw.map (AV.int .i64)) 1 true true none),some (Blk.mk ((wo pe w).map (AV.int .i64)) 1 true true none)] (.agg [.sl 0 0 (boL cl).length,.sl 1 0 bw.length,.sl 2 0 (wo pe w).length]):=by
 refine rcp_ct ⟨cl,bw,pe⟩ w ([_,_,_],_) ?_;have hL:=CB cl;unfold NC;rw[Ab (LI _),Ab (by rw[hL];show cl.length<=_;omega),Ab (by rw[hL];show cl.length * 1<=_;omega),Ab (B4 _),Ab (by rw[TA];show bw.length<=_;omega),Ab (by rw[TA];show bw.length * 8<=_;omega)];refine CH (fun i=>EP.l0 (i:Int) (wo (pe.take i) w)) pe.length (fun i hi h=>?_) ?_
 .refine .to (show HG ⟨cl,bw,pe⟩ w i _=_ from ?_) h;have hw:=NY (pe.take i) w;rw[T1] at hw;unfold HG;simp only;rw[BB 0 hi,M8 hi];cases hx:pe.getD i 0 != w with
  | false=>rw[Af rfl,Tw (by simp),List.append_nil,zW i (by omega)]
  | true=>rw[An rfl,elG 0 hi,Ab (by simp only[TA,Ud,Ue];omega),Ab (by simp only[TA,Ud,Ue];omega),Tv rfl,zW i (by omega)]
 .refine .to (show HG ⟨cl,bw,pe⟩ w pe.length _=_ from ?_) (.ret _);unfold HG;simp only;rw[C3,List.take_length]
theorem clb_c(l:List Bool)(hl:l.length<=1000000):CT UB 55 [] [.lst (boL l)] [some (Blk.mk (boL l) 1 true true none)] (.sl 0 0 (boL l).length):=by
 have hL:=CB l;by_cases h:l=[]
 .subst h;exact cl55_e
 refine clb_ct l ([_],_) (.val ?_);unfold K3;rw[Ab (fun e=>h (by unfold boL at e;exact List.map_eq_nil_iff.1 e)),Ab (LI _),Ab (by omega),Ab (by omega),List.nil_append,TP]
theorem sva_c{n:Aa}(cl:List Bool)(bw pe:List Int)(hrw:Rows n.nx):CT UB 25 [] [Ai n,sgA ⟨cl,bw,pe⟩] [] (.bool (BP n ⟨cl,bw,pe⟩)):=by
 generalize hs:(⟨cl,bw,pe⟩:Ad)=s;refine sva_ct n s ([],_) ?_;unfold L5 BP Jh H1;rw[Ab hrw];cases hv:AZ n with
 | false=>exact .ret _
 | true=>
 have hv:=Cy.1 hv;obtain⟨h48,hnb⟩:=Gu hv;unfold Gk;rw[Tv rfl,Tv rfl,Af (by rfl),CB,TA,TA,TA,Bool.true_and];by_cases h1:s.cl.length=AA n
 case neg=>rw[An (Ul.2 (by simp only[iN];omega)),Ar h1];exact .ret _
 rw[Af (by rw[h1];simp),AD h1,Bool.true_and];by_cases h2:s.bw.length=AA n
 case neg=>rw[An (Ul.2 (by simp only[iN];omega)),Ar h2];exact .ret _
 rw[Af (by rw[h2];simp),AD h2,Bool.true_and];by_cases h3:n.bs.length<s.pe.length
 .rw[An (AD (by simp only[iN];omega))];have:(fnd (bdP n.bs.length s) 0 s.pe.length).isNone=false:=by
   cases hf:fnd (bdP n.bs.length s) 0 s.pe.length with
   | some i=>rfl
   | none=>
    have:=L0 (nb:=n.bs.length) (s:=s) (TI _) fun j hj=>CC hf j (TJ _) (by omega)
    omega
  rw[this,Bool.and_false];exact .ret _
 rw[Af (Ar (by simp only[iN];omega))];refine(Fm (fun i=>Dk.l0 (i:Int)) s.bw.length (bdW s) (rF:=fun _=>(([],.bool false):Ret)) (r:=([],.bool (fnd (bdP n.bs.length s) 0 s.pe.length).isNone)) (fun i hi _ hp=>?_) (fun i x hi _ hp hx=>?_) (fun _=>?_)).res (by cases fnd (bdW s) 0 s.bw.length<;>rfl)
 .refine .to (show FF n s i=_ from ?_) (.ret _);unfold FF;unfold bdW at hp;rw[BB 0 hi];cases hd1:decide (s.bw.getD i 0 < -1) with
  | true=>rw[An rfl]
  | false=>
   rw[hd1,Ts] at hp;rw[Af rfl];cases hd2:decide (8<=s.bw.getD i 0) with
   | true=>rw[An rfl]
   | false=>rw[hd2,Ts,TF] at hp;rw[Af rfl,An hp.1,elG true (show i<s.cl.length by omega),An hp.2]
 .refine .to (show FF n s i=_ from ?_) hx;unfold FF;unfold bdW at hp;simp only[Bool.or_eq_false_iff] at hp;rw[BB 0 hi,Af hp.1,Af hp.2.1,zW i (by omega)];cases h0:decide (0<=s.bw.getD i 0) with
  | false=>rw[Af rfl]
  | true=>have hq:=hp.2.2;rw[h0,Bool.true_and] at hq;rw[An rfl,elG true (show i<s.cl.length by omega),Af hq]
 .refine .to (show FF n s s.bw.length=_ from ?_) ?_ (y:=some (.inl (.l1 ((0:Nat):Int))))
  .unfold FF;rw[C3];rfl
  refine(Fm (fun i=>Dk.l1 (i:Int)) s.pe.length (bdP n.bs.length s) (rF:=fun _=>(([],.bool false):Ret)) (r:=([],.bool true)) (fun i hi hj hp=>?_) (fun i x hi hj hp hx=>?_) (fun _=>?_)).res (by cases fnd (bdP n.bs.length s) 0 s.pe.length<;>rfl)
  .refine .to (show FN n s i=_ from ?_) (.ret _);unfold FN;unfold bdP at hp;rw[BB 0 hi];by_cases hd1:s.pe.getD i 0<0
   .rw[An (AD hd1)]
   rw[Ar hd1,Ts] at hp;rw[Af (Ar hd1)];by_cases hd2:(n.bs.length:Int)<=s.pe.getD i 0
   .rw[An (AD (by rw[TA];exact hd2))]
   rw[Ar hd2,Ts] at hp;rw[Af (Ar (by rw[TA];exact hd2)),Ab (by omega),AF (AP true (show(s.pe.getD i 0).toNat<s.cl.length by omega))];cases hd3:s.cl.getD (s.pe.getD i 0).toNat true with
   | true=>rw[An rfl]
   | false=>rw[hd3,Ts] at hp;rw[Af rfl,Ab (B4 _),Ab (by simp only[iN,TA];omega),JZ,Ab (by rw[T1];omega),An hp]
  .refine .to (show FN n s i=_ from ?_) hx;unfold FN;unfold bdP at hp;simp only[Bool.or_eq_false_iff,decide_eq_false_iff_not] at hp;rw[BB 0 hi,Af (Ar hp.1),Af (Ar (by rw[TA];exact hp.2.1)),Ab (by omega),AF (AP true (show(s.pe.getD i 0).toNat<s.cl.length by omega)),Af hp.2.2.1,Ab (B4 _),Ab (by simp only[iN,TA];omega),JZ,Ab (by rw[T1];omega),Af hp.2.2.2,zW i (by omega)]
  .refine .to (show FN n s s.pe.length=_ from ?_) (.ret _);unfold FN;rw[C3]
theorem r20v_c{n:Aa}(cl:List Bool)(bw pe:List Int)(hrw:Rows n.nx):CT UB 75 [] [Ai n,sgA ⟨cl,bw,pe⟩] [] (.bool (BP n ⟨cl,bw,pe⟩)):=by
 refine r20v_ct n ⟨cl,bw,pe⟩ ([],_) (.val ?_);unfold Nl BP;rw[Ab hrw];cases hv:AZ n with
 | false=>rfl
 | true=>rw[An rfl,Ab (Cy.1 hv)];rfl
def nsO(n:Aa):Ad:=⟨Uv (AA n) false,Uv (AA n) (-1),[]⟩
def nsE(n:Aa):Int:=if AZ n=true then 0 else 20
def nsS(n:Aa):Ad:=if AZ n=true then nsO n else ⟨[],[],[]⟩
theorem rep_bo(k:Nat):Uv k (AV.bool false)=boL (Uv k false):=by unfold boL;rw[List.map_replicate]
theorem OZ{c i:Nat}(h:i<c):(rpV c i).set (0+i) (-1)=rpV c (i+1):=by
 obtain⟨d,hd⟩:∃d,c-i=d+1:=⟨c-i-1,by omega⟩;have hd2:c-(i+1)=d:=by omega
 unfold rpV;rw[hd,hd2,TP,List.replicate_succ,List.set_append_right _ _ (by simp)];simp only[TV,Tg,List.set_cons_zero];rw[List.replicate_succ',List.append_assoc];rfl
theorem rpV_0(c:Nat):rpV c 0=Uv c 0:=by unfold rpV;simp
theorem rpV_c(c:Nat):rpV c c=Uv c (-1):=by unfold rpV;simp
theorem PF{n:Aa}(hrw:Rows n.nx):CT UB 31 [] [Ai n] [] (.tup [sgA (nsS n),.int .i64 (nsE n)]):=by
 have h:=r20n_ct n;unfold LC at h;unfold nsS nsE;cases hv:AZ n with
 | false=>rw[hv] at h;exact CT.w2 (h ([],_) (.val (by rw[Ab hrw];rfl)))
 | true=>
  have hvn:=Cy.1 hv;have h48:=Gu hvn;rw[hv] at h;have k:=CT.w2 (h ([],.tup [.agg [.lst (Uv (AA n) (AV.bool false)),.lst (Uu (AV.int .i64) (Uv (AA n) (-1))),.nils],.int .i64 0]) (by
   rw[Ab hrw,Af (by rfl),Ab hvn,Ab (by simp only[iN];omega),Ab (by simp only[iN];omega),Ab (by simp only[iN];omega)];rw[show (Uv (iN (AA n)).toNat (0:Int))=rpV (AA n) 0 from(rpV_0 _).symm];refine CH (fun i=>EJ.l0 (i:Int) (rpV (AA n) i)) (AA n) (fun i hi hx=>?_) ?_
   .refine .to (show Hn n i (rpV (AA n) i)=_ from ?_) hx;unfold Hn;rw[An (AD (by simp only[iN,GJ (Nat.le_of_lt hi)];omega)),Ab (by omega),Ab (by simp only[iN,GJ (Nat.le_of_lt hi)];omega),Ab (show Nat.le _ _ from(by rw[TA,GJ (Nat.le_of_lt hi)];show 0+(i:Int).toNat+1<=_;omega)),TG,OZ hi,zW i (by omega)]
   .refine .to (show Hn n (AA n:Nat) (rpV (AA n) (AA n))=_ from ?_) (.ret _);unfold Hn;rw[Af (Ar (by simp only[iN,GJ (TI _)];omega)),rpV_c];rfl))
  rw[rep_bo] at k;exact k
theorem RT.lwk{A:Nat->Prop}{w:World}{es:List AV}{v:Value}(h:RT A w (.lst es) v):RT A w (.lst (es.map wkq)) v:=by
 cases h with
 | lnil a=>exact .lnil a
 | lst _ r o cap z g hcap hA hz h1 hc hh=>
  have hl:(es.map wkq).length=es.length:=TA ..;have hcl:∀e:AV,(wkq e).cells.length=e.cells.length:=fun e=>by cases e<;>rfl
  have key:∀{e c:AV},c∈(wkq e).cells->∃c',c'∈e.cells/\(c=c'\/(c' = .nils/\c = .lst [])):=fun {e c} hc=>by
   cases e with
   | nils=>exact⟨.nils,Tm.2 rfl,.inr ⟨rfl,Tm.1 hc⟩⟩
   | _=>exact⟨c,hc,.inl rfl⟩
  rw[<-hl];refine .lst _ r o cap z g (by rw[hl];exact hcap) (fun hn=>hA fun e=>hn (by rw[e];rfl)) (fun e he=>?_) (fun e he c hcm=>?_) (fun i j hi hj=>hc i j (by rw[<-hl];exact hi) hj) fun i j e c he hj=>?_
  .obtain⟨e0,he0,rfl⟩:=T4.1 he;rw[hcl];exact hz e0 he0
  .obtain⟨e0,he0,rfl⟩:=T4.1 he;obtain⟨c',hc',h | ⟨_,h⟩⟩:=key hcm
   .rw[h];exact h1 e0 he0 c' hc'
   .rw[h];rfl
  .rw[TH] at he;obtain⟨e0,he0,rfl⟩:=Option.map_eq_some_iff.1 he;by_cases hn:e0 = .nils
   .subst hn;match j,hj with
    | 0,hj=>
     cases hj;have:=hh i 0 .nils .nils he0 rfl;have e:g i 0 = .slice none 0 0:=by {generalize g i 0=x at this;cases this;rfl}
     rw[e];exact .lnil none
   .have e:wkq e0=e0:=by cases e0<;>first | rfl | exact absurd rfl hn
    rw[e] at hj;exact hh i j e0 c he0 hj
theorem VR.lwk{φ:Phi}{A:Nat->Prop}{w:World}{a b:AV}{es:List AV}{v:Value}(h:VR φ A w (.tup [.agg [a,.lst es],b]) v):VR φ A w (.tup [.agg [a,.lst (es.map wkq)],b]) v:=by
 obtain⟨us,rfl,hl,hh⟩:=h.tup_inv;refine .tup _ us (by simpa using hl) fun i c u hc hu=>?_
 match i,hc with
 | 0,hc=>
  cases hc;obtain⟨vs,rfl,hl2,h2⟩:=(hh 0 _ u rfl hu).agg_inv;refine .agg _ vs (by simpa using hl2) fun j d x hd hx=>?_
  match j,hd with
  | 0,hd=>cases hd;exact h2 0 _ x rfl hx
  | 1,hd=>
   cases hd;have:=h2 1 _ x rfl hx;cases this with
   | imm _ _ h=>exact .imm _ _ (RT.lwk h)
  | j+2,hd=>simp at hd
 | 1,hc=>cases hc;exact hh 1 _ u rfl hu
 | i+2,hc=>simp at hc
def nlS(q:Int):Al:=if 0<=q/\q<=48 then ⟨Uv q.toNat (-1),Uv q.toNat []⟩ else ⟨[],[]⟩
def nlE(q:Int):Int:=if 0<=q/\q<=48 then 0 else 19
theorem n19_c(q:Int):CT UB 17 [] [.int .i64 q] [] (.tup [lkA (nlS q),.int .i64 (nlE q)]):=by
 have h:=n19_ct q;unfold Ll at h;unfold nlS nlE;by_cases h0:q<0
 .rw[Tw (by omega),Tw (by omega)];exact CT.w2 (h ([],_) (.val (by rw[An (AD h0)])))
 by_cases h1:48<q
 .rw[Tw (by omega),Tw (by omega)];exact CT.w2 (h ([],_) (.val (by rw[Af (Ar h0),An (AD h1)])))
 rw[Tv (by omega),Tv (by omega)];obtain⟨c,rfl⟩:∃c:Nat,q=(c:Int):=⟨q.toNat,by omega⟩;have k:=(h ([],.tup [.agg [.lst (Uu (AV.int .i64) (Uv c (-1))),.lst (Uv c .nils)],.int .i64 0]) (by
  rw[Af (Ar h0),Af (Ar h1),Ab (by omega),Ab (by omega),Ab (by omega),Ab (by omega),TG,<-rpV_0];refine CH (fun i=>EK.l0 (i:Int) (rpV c i)) c (fun i hi hx=>?_) ?_
  .refine .to (show HK (c:Int) i (rpV c i)=_ from ?_) hx;unfold HK;rw[An (AD (by omega)),Ab (by omega),Ab (by simp only[iN,GJ (Nat.le_of_lt hi)];omega),Ab (show Nat.le _ _ from(by rw[TA,GJ (Nat.le_of_lt hi)];show 0+(i:Int).toNat+1<=_;omega)),TG,OZ hi,zW i (by omega)]
  .refine .to (show HK (c:Int) (c:Nat) (rpV c c)=_ from ?_) (.ret _);unfold HK;rw[Af (Ar (by omega)),rpV_c,TG])).less fun _ _ _ _ h=>VR.lwk h
 have e:Uu wkq (Uv c AV.nils)=gL (Uv c []):=by unfold gL;rw[List.map_replicate,List.map_replicate];rfl
 rw[e] at k;exact k
theorem O6{g:List (List Int)}{i:Nat}(h:i<g.length):g.take (i+1)=g.take i++[g.getD i []]:=by rw[List.take_add_one,AP [] h];rfl
theorem c19_c(ow:List Int)(qu:List (List Int))(h1:ow.length<=1000)(h2:qu.length<=1000)(h3:∀r∈qu,r.length<=1000):
  CT UB 50 [] [lkA ⟨ow,qu⟩] [some (Blk.mk (ow.map (AV.int .i64)) 1 true true none),some (Blk.mk (gL qu) 1 true true none)] (.agg [.sl 0 0 ow.length,.sl 1 0 qu.length]):=by
 refine c19_ct ⟨ow,qu⟩ ([_,_],_) ?_;unfold M0;rw[Ab (B4 _),Ab (by rw[TA];show ow.length<=_;omega),Ab (by rw[TA];show ow.length * 8<=_;omega)];refine CH (fun i=>Ez.l0 (i:Int) (qu.take i)) qu.length (fun i hi hx=>?_) ?_
 .refine .to (show HH ⟨ow,qu⟩ i (qu.take i)=_ from ?_) hx;have hr:=h3 (qu.getD i []) (by rw[Ty,Tx hi];exact T5 _);unfold HH;simp only;rw[show (gL qu).length=(Uu lI qu).length from rfl,BB [] hi,Ab (B4 _),Ab (by rw[TA];omega),Ab (by rw[TA];omega),Ab (by simp only[TA,T1,Ud,Ue];omega),Ab (by simp only[TA,T1,Ud,Ue];omega),O6 hi,zW i (by omega)]
 .refine .to (show HH ⟨ow,qu⟩ qu.length (qu.take qu.length)=_ from ?_) (.ret _);unfold HH;simp only;rw[show (gL qu).length=(Uu lI qu).length from rfl,C3,List.take_length];rfl
structure Dl(l:List Int)(w:Int)(v:List Int)(i j:Nat):Prop where
 len:v.length=l.length
 ij:i<=j
 jl:j<=l.length
 kep:v.take i=wo (l.take j) w
 rst:v.drop j=l.drop j
theorem wo_none{l:List Int}{w:Int}(h:w∉l):wo l w=l:=by unfold wo;exact List.filter_eq_self.2 fun x hx=>Ul.2 fun e=>h (e ▸ hx)
theorem N9{v l:List Int}{j:Nat}(h:v.drop j=l.drop j):v.getD j 0=l.getD j 0/\v.drop (j+1)=l.drop (j+1):=by
 constructor
 .have:=congrArg (fun x=>x.getD 0 0) h;simpa [Ty,Ti] using this
 .have:=congrArg (List.drop 1) h
  rwa [List.drop_drop,List.drop_drop] at this
theorem Dl.skip{l:List Int}{w:Int}{v:List Int}{i j:Nat}(h:Dl l w v i j)(hj:j<l.length)(he:l.getD j 0=w):Dl l w v i (j+1):=by refine⟨h.len,Nat.le_succ_of_le h.ij,hj,?_,(N9 h.rst).2⟩;rw[M8 hj,Tw (by rw[he];simp),List.append_nil];exact h.kep
theorem Dl.keep{l:List Int}{w:Int}{v:List Int}{i j:Nat}(h:Dl l w v i j)(hj:j<l.length)(he:l.getD j 0≠w):Dl l w (v.set (0+i) (l.getD j 0)) (i+1) (j+1):=by
 have hij:=h.ij;have hl:=h.len;refine⟨by rw[T6];exact hl,by omega,hj,?_,?_⟩
 .rw[M8 hj,Tv (Ul.2 he),<-h.kep,TP,List.take_add_one,List.take_set_of_le (TI _),Ur,Tv rfl,Tv (by omega)];rfl
 .rw[TP,List.drop_set,Tv (by omega)];exact(N9 h.rst).2
theorem I6{α:Type}{l:List α}{i j:Nat}{v d:α}:(l.set i v).getD j d=if i=j/\j<l.length then v else l.getD j d:=by
 rw[Ty,Ur,Ty];by_cases h:i=j
 .subst h;by_cases hl:i<l.length
  .rw[Tv rfl,Tv hl,Tv ⟨rfl,hl⟩];rfl
  .rw[Tv rfl,Tw hl,Tw (fun e=>hl e.2),TX (by omega)]
 .rw[Tw h,Tw (fun e=>h e.1)]
theorem getR{α:Type}{n i:Nat}{v d:α}(h:i<n):(Uv n v).getD i d=v:=by rw[Ty,TZ,Tv h];rfl
def Ga(n:Aa):Ad:=⟨Uv (AA n) false,Uv (AA n) (-1),[]⟩
def anS(s:Ad)(x:Int):Ad:=⟨s.cl,s.bw,s.pe++[x]⟩
def clS(s:Ad)(c r:Int):Ad:=⟨s.cl.set c.toNat true,if s.cl.getD c.toNat true=true then s.bw else s.bw.set c.toNat r,wo s.pe c⟩
theorem wo_mem{l:List Int}{x y:Int}:y∈wo l x↔y∈l/\y≠x:=by unfold wo;rw[List.mem_filter,Ul]
theorem PR(n:Aa):BF n (Ga n):=by
 refine⟨TV ..,TV ..,fun i hi=>?_,fun b hb=>(by cases hb),List.Pairwise.nil⟩;have hi:i<AA n:=by have:(Ga n).bw.length=AA n:=TV ..;omega
 show -1<=(Uv (AA n) (-1:Int)).getD i 0/\_;rw[show (Ga n).bw=Uv (AA n) (-1:Int) from rfl,getR hi];omega
theorem anS_ok{n:Aa}{s:Ad}{x:Int}(h:BF n s)(hx:0<=x/\x<(n.bs.length:Int))(hc:s.cl.getD x.toNat true=false)(hp:x∉s.pe):BF n (anS s x):=by
 refine⟨h.lc,h.lb,h.bw,fun b hb=>?_,QV h.nd hp⟩;rcases T3.1 hb with hb | hb
 .exact h.pb b hb
 .rw[Tm.1 hb];exact⟨hx.1,hx.2,hc⟩
theorem wo_nd{l:List Int}(x:Int)(h:l.Nodup):(wo l x).Nodup:=h.sublist List.filter_sublist
theorem clS_ok{n:Aa}{s:Ad}{c r:Int}(h:BF n s)(hc:0<=c/\c<(AA n:Int))(hr : -1<=r/\r<8):BF n (clS s c r):=by
 have lc:=h.lc;have lb:=h.lb;refine⟨by show(s.cl.set _ _).length=_;rw[T6,lc],by show(if _ then s.bw else s.bw.set _ _).length=_;split<;>simp[lb],fun i hi=>?_,fun b hb=>?_,wo_nd c h.nd⟩
 .show -1<=(if _ then s.bw else s.bw.set _ _).getD i 0/\(if _ then s.bw else s.bw.set _ _).getD i 0<8/\(0<=(if _ then s.bw else s.bw.set _ _).getD i 0->(s.cl.set c.toNat true).getD i true=true);have hi:i<s.bw.length:=by have:(clS s c r).bw.length=s.bw.length:=(by show(if _ then s.bw else s.bw.set _ _).length=_;split<;>simp);omega
  have hb:=h.bw i hi;have e:(s.cl.set c.toNat true).getD i true=if c.toNat=i/\i<s.cl.length then true else s.cl.getD i true:=I6
  rw[e];split
  .refine⟨hb.1,hb.2.1,fun h0=>?_⟩;split
   .rfl
   .exact hb.2.2 h0
  .rw[I6];split
   .rename_i h1;exact⟨hr.1,hr.2,fun _=>by rw[Tv ⟨h1.1,by omega⟩]⟩
   .refine⟨hb.1,hb.2.1,fun h0=>?_⟩;split
    .rfl
    .exact hb.2.2 h0
 .obtain⟨h1,h2⟩:=wo_mem.1 hb;have:=h.pb b h1;refine⟨this.1,this.2.1,?_⟩;show(s.cl.set c.toNat true).getD b.toNat true=false;rw[I6,Tw (by omega)];exact this.2.2
def shP(n:Aa)(s:Ad)(blk goal:Int):List Bool:=(Uy n.bs.length).map fun b:Nat=> !(!((Bb s).getD b true)||((b:Int)==blk||((b:Int)==goal&&!(s.cl.getD b true))))
def shQ(n:Aa)(s:Ad)(blk:Int):List Bool:=(Uy n.bs.length).map fun b:Nat=> !(!(s.cl.getD b true)||(b:Int)==blk)
theorem PA{x:Nat}:∀{l:List Int} {c:List Bool},(l.foldl (fun c b=>c.set b.toNat true) c).getD x true=false->c.getD x true=false:=by
 intro l;induction l with
 | nil=>intro c h;exact h
 | cons y l ih=>
  intro c h;have:=ih h;rw[I6] at this;split at this
  .cases this
  .exact this
theorem Pg{f:Nat->Bool}{m x:Nat}{d:Bool}(h:x<m):((Uy m).map f).getD x d=f x:=by rw[Ty,TH,TW h];rfl
theorem ND(n:Aa)(s:Ad)(a b:Int):(shP n s a b).length=n.bs.length:=by unfold shP;simp
theorem Lb(n:Aa)(s:Ad)(a:Int):(shQ n s a).length=n.bs.length:=by unfold shQ;simp
theorem okg{n:Aa}(hv:AB n)(hrw:Rows n.nx){s:List Bool}(hs:s.length=n.bs.length):OkG n.nx s/\Asc n.nx:=by obtain⟨hg,ha⟩:=IV hrw hv.chk;have hl:=hv.nx;exact⟨⟨hg.len,hg.row,by omega⟩,ha⟩
def AR(n:Aa)(s:Ad)(blk goal:Int):List Int:=if BC n.nx (shP n s blk goal) blk.toNat goal.toNat=[] then BC n.nx (shQ n s blk) blk.toNat goal.toNat else BC n.nx (shP n s blk goal) blk.toNat goal.toNat
theorem MB{n:Aa}(hv:AB n)(hrw:Rows n.nx){sh:List Bool}(hl:sh.length=n.bs.length){a b:Nat}(ha:a<n.bs.length)(hb:b<n.bs.length):BC n.nx sh a b=[]\/(0<=dsS n.nx sh a b/\Pth n.nx sh a b (BC n.nx sh a b)):=by
 have hn:=hv.nx;obtain⟨hg,_⟩:=okg hv hrw hl;cases Int.lt_or_le (dsS n.nx sh a b) 0 with
 | inl h=>exact .inl (Pk h)
 | inr h=>exact .inr ⟨h,KZ hg (by omega) (by omega) h⟩
theorem legP_ok{n:Aa}(hv:AB n)(hrw:Rows n.nx){s:Ad}{blk goal:Int}(hb:0<=blk/\blk<(n.bs.length:Int))(hg:0<=goal/\goal<(n.bs.length:Int))(hne:AR n s blk goal≠[]):
  ∃sh,Pth n.nx sh blk.toNat goal.toNat (AR n s blk goal)/\∀x∈(AR n s blk goal).tail,0<=x/\x<(n.bs.length:Int)/\x≠blk/\s.cl.getD x.toNat true=false:=by
 have hn:=hv.nx;have key:∀sh:List Bool,Pth n.nx sh blk.toNat goal.toNat (AR n s blk goal)->(∀b:Nat,b<n.bs.length->(b:Int)≠blk->sh.getD b false=false->s.cl.getD b true=false)->∃sh,Pth n.nx sh blk.toNat goal.toNat (AR n s blk goal)/\∀x∈(AR n s blk goal).tail,0<=x/\x<(n.bs.length:Int)/\x≠blk/\s.cl.getD x.toNat true=false:=by
  intro sh hp ho;refine⟨sh,hp,fun x hx=>?_⟩;obtain⟨i,hi,rfl⟩:=Ua.1 hx;rw[List.length_tail] at hi;have e:(AR n s blk goal).tail[i]=(AR n s blk goal).getD (i+1) 0:=by rw[List.getElem_tail,Ty,Tx (show i+1<(AR n s blk goal).length by omega)];rfl
  rw[e];obtain⟨r1,r2,r3⟩:=hp.rng (i+1) (by omega);have r4:=hp.nv (i+1) (by omega) (by omega);rw[hn] at r2;have r5:(AR n s blk goal).getD (i+1) 0≠blk:=by omega
  exact⟨r1,r2,r5,ho _ (by omega) (by omega) r3⟩
 have hP:=MB hv hrw (ND n s blk goal) (a:=blk.toNat) (b:=goal.toNat) (by omega) (by omega);have hQ:=MB hv hrw (Lb n s blk) (a:=blk.toNat) (b:=goal.toNat) (by omega) (by omega);by_cases h:BC n.nx (shP n s blk goal) blk.toNat goal.toNat=[]
 .have e:AR n s blk goal=BC n.nx (shQ n s blk) blk.toNat goal.toNat:=by unfold AR;rw[Tv h]
  refine key (shQ n s blk) ?_ fun b hb hne ho=>?_
  .rw[e];exact(hQ.resolve_left fun h2=>hne (e.trans h2)).2
  .unfold shQ at ho;rw[Pg hb] at ho;have:((b:Int)==blk)=false:=by simpa using hne
   rw[this] at ho;simpa using ho
 .have e:AR n s blk goal=BC n.nx (shP n s blk goal) blk.toNat goal.toNat:=by unfold AR;rw[Tw h]
  refine key (shP n s blk goal) ?_ fun b hb hne ho=>?_
  .rw[e];exact(hP.resolve_left h).2
  .unfold shP at ho;rw[Pg hb] at ho;have:((b:Int)==blk)=false:=by simpa using hne
   rw[this] at ho;cases hc:s.cl.getD b true with
   | false=>rfl
   | true=>
    have hsl:(Bb s).getD b true=true:=by
     cases h2:(Bb s).getD b true with
     | true=>rfl
     | false=>exfalso;exact absurd (PA h2) (by rw[hc];simp)
    rw[hc,hsl] at ho;simp at ho
def Cw(n:Aa)(s:Ad)(c sp:Int):Option (List Int):=match plF n c with
 | some i=>if (i:Int)=sp then some (Aj (n.ss.getD i s0) (c-(n.ss.getD i s0).b+1))
  else if AR n s (n.ss.getD i s0).o (n.ss.getD sp.toNat s0).i=[] then none
  else some (Aj (n.ss.getD i s0) (c-(n.ss.getD i s0).b+1)++([(n.ss.getD i s0).o]++((AR n s (n.ss.getD i s0).o (n.ss.getD sp.toNat s0).i).tail++Aj (n.ss.getD sp.toNat s0) 0)))
 | none=>if AR n s c (n.ss.getD sp.toNat s0).i=[] then none else some ((AR n s c (n.ss.getD sp.toNat s0).i).tail++Aj (n.ss.getD sp.toNat s0) 0)
def D2(n:Aa)(s:Ad)(c sp:Int):List Int×Bool:=match Cw n s c sp with
 | some l=>if Bz s.cl l=true then (l,true) else ([],false)
 | none=>([],false)
def Gi(n:Aa)(s:Ad)(c sp:Int):Int:=if BP n s=true then (if (0<=c/\c<(AA n:Int))/\0<=sp/\sp<(n.ss.length:Int) then 0 else 19) else 20
theorem Is{n:Aa}(hv:AB n){i:Nat}{t:Ao}(ht:n.ss[i]?=some t){j:Int}(hj:0<=j):∀x∈Aj t j,0<=x/\x<(AA n:Int):=fun x hx=>by have:=O9.1 hx;have he:=hv.ends ht;have hb:=hv.sb ht;omega
theorem legR_rng{n:Aa}(hv:AB n)(hrw:Rows n.nx){s:Ad}{c sp:Int}(hc:0<=c/\c<(AA n:Int))(hsp:0<=sp/\sp<(n.ss.length:Int)){l:List Int}(h:Cw n s c sp=some l):
  ∀x∈l,0<=x/\x<(AA n:Int):=by
 have hs:=AP s0 (show sp.toNat<n.ss.length by omega);have ge:=hv.goodT _ _ hs;have gi:=ge.hi;have hce:=hv.cel;have hpt:∀{blk:Int},(0<=blk/\blk<(n.bs.length:Int))->AR n s blk (n.ss.getD sp.toNat s0).i≠[]->∀x∈(AR n s blk (n.ss.getD sp.toNat s0).i).tail,0<=x/\x<(AA n:Int):=fun hb hne x hx=>by obtain⟨sh,_,h⟩:=legP_ok hv hrw hb (by omega) hne;have:=h x hx;omega
 unfold Cw at h;cases hp:plF n c with
 | none=>
  have hb:=JY hv hc.1 hc.2 hp;rw[hp] at h;simp only at h;split at h
  .cases h
  .rename_i hne;cases h;intro x hx;rcases T3.1 hx with hx | hx
   .exact hpt ⟨hc.1,hb⟩ hne x hx
   .exact Is hv hs (Int.le_refl _) x hx
 | some i=>
  obtain⟨t,ht,hg,h1,h2,hil⟩:=Il hp;have gt:=hv.goodT _ _ ht;have go:=gt.ho;rw[hp] at h;simp only[hg] at h;split at h
  .cases h;exact Is hv ht (by omega)
  .split at h
   .cases h
   .rename_i hne;cases h;intro x hx;rcases T3.1 hx with hx | hx
    .exact Is hv ht (by omega) x hx
    rcases T3.1 hx with hx | hx
    .rw[Tm.1 hx];omega
    rcases T3.1 hx with hx | hx
    .exact hpt (by omega) hne x hx
    .exact Is hv hs (Int.le_refl _) x hx
theorem legS_ok{n:Aa}{s:Ad}{c sp:Int}:((D2 n s c sp).2=true->Cw n s c sp=some (D2 n s c sp).1/\Bz s.cl (D2 n s c sp).1=true)/\((D2 n s c sp).2=false->(D2 n s c sp).1=[]):=by
 unfold D2;cases Cw n s c sp with
 | none=>exact⟨fun h=>(by cases h),fun _=>rfl⟩
 | some l=>
  simp only;split
  .rename_i h;exact⟨fun _=>⟨rfl,h⟩,fun h=>(by cases h)⟩
  .exact⟨fun h=>(by cases h),fun _=>rfl⟩
def dtH(n:Aa)(s:Ad)(blk goal:Int):List Bool:=(Uy n.bs.length).map fun b:Nat=> !(!((b:Int)==blk)&&(!((Bb s).getD b true)||((b:Int)==goal&&!(s.cl.getD b true))))
theorem Ff(n:Aa)(s:Ad)(a b:Int):(dtH n s a b).length=n.bs.length:=by unfold dtH;simp
def dtD(n:Aa)(s:Ad)(blk goal c:Int):Int:=dsS n.nx (dtH n s blk goal) c.toNat goal.toNat
def dtX(l:Al)(s:Ad)(wanted c:Int):Bool:=(c==wanted)||((Bb s).getD c.toNat true||((l.ow.getD c.toNat 0 != -1)||decide (0<(l.qu.getD c.toNat []).length)))
def dtI(n:Aa)(s:Ad)(l:Al)(blk wanted goal:Int):Nat->Int | 0=> -1 | k+1=>if dtX l s wanted ((n.nx.getD blk.toNat []).getD k 0)=true then dtI n s l blk wanted goal k else if dtD n s blk goal ((n.nx.getD blk.toNat []).getD k 0)<0 then dtI n s l blk wanted goal k else if dtI n s l blk wanted goal k<0\/dtD n s blk goal ((n.nx.getD blk.toNat []).getD k 0)<dtD n s blk goal (dtI n s l blk wanted goal k) then (n.nx.getD blk.toNat []).getD k 0 else dtI n s l blk wanted goal k
theorem Ha{n:Aa}{s:Ad}{l:Al}{blk wanted goal:Int}:∀k,k<=(n.nx.getD blk.toNat []).length->dtI n s l blk wanted goal k = -1\/(dtI n s l blk wanted goal k∈n.nx.getD blk.toNat []/\dtX l s wanted (dtI n s l blk wanted goal k)=false/\0<=dtD n s blk goal (dtI n s l blk wanted goal k)):=by
 intro k;induction k with
 | zero=>intro _;exact .inl rfl
 | succ k ih=>
  intro hk;have hi:=ih (by omega);unfold dtI;split
  .exact hi
  .rename_i h1;split
   .exact hi
   .rename_i h2;split
    .exact .inr ⟨EM (by omega),by simpa using h1,by omega⟩
    .exact hi
def dtB(n:Aa)(s:Ad)(l:Al)(blk wanted goal:Int):Int:=dtI n s l blk wanted goal (n.nx.getD blk.toNat []).length
def dtP(n:Aa)(s:Ad)(blk goal c:Int):List Int:=BC n.nx (dtH n s blk goal) c.toNat goal.toNat
def dtR(n:Aa)(s:Ad)(l:Al)(blk wanted sp:Int):Option (List Int):=if dtB n s l blk wanted (n.ss.getD sp.toNat s0).i<0 then none else some (dtP n s blk (n.ss.getD sp.toNat s0).i (dtB n s l blk wanted (n.ss.getD sp.toNat s0).i)++Aj (n.ss.getD sp.toNat s0) 0)
def dtS(n:Aa)(s:Ad)(l:Al)(blk wanted sp:Int):List Int×Bool:=match dtR n s l blk wanted sp with
 | some x=>if Bz s.cl x=true then (x,true) else ([],false)
 | none=>([],false)
def dtE(n:Aa)(s:Ad)(l:Al)(blk wanted sp:Int):Int:=if BP n s=true/\BZ l=true/\l.ow.length=s.cl.length then (if (0<=blk/\blk<(n.bs.length:Int))/\(0<=wanted/\wanted<(n.bs.length:Int))/\0<=sp/\sp<(n.ss.length:Int) then 0 else 19) else 20
theorem Lz{n:Aa}(hv:AB n)(hrw:Rows n.nx){s:Ad}{blk goal c:Int}(hc:0<=c/\c<(n.bs.length:Int))(hg:0<=goal/\goal<(n.bs.length:Int))(h:0<=dtD n s blk goal c):
  Pth n.nx (dtH n s blk goal) c.toNat goal.toNat (dtP n s blk goal c)/\∀x∈dtP n s blk goal c,0<=x/\x<(n.bs.length:Int)/\x≠blk/\s.cl.getD x.toNat true=false:=by
 have hn:=hv.nx;have hp:=KZ (okg hv hrw (Ff n s blk goal)).1 (v:=c.toNat) (goal:=goal.toNat) (by omega) (by omega) h;refine⟨hp,fun x hx=>?_⟩;obtain⟨i,hi,rfl⟩:=Ua.1 hx;obtain⟨r1,r2,r3⟩:=hp.rng i hi;have e:(BC n.nx (dtH n s blk goal) c.toNat goal.toNat).getD i 0=(dtP n s blk goal c)[i]:=by show(dtP n s blk goal c).getD i 0=_;rw[Ty,Tx hi];rfl
 rw[e] at r1 r2 r3;generalize (dtP n s blk goal c)[i]=x at *;rw[hn] at r2;unfold dtH at r3;have hx:x.toNat<n.bs.length:=by omega
 rw[Ty,TH,TW hx] at r3;simp only[Option.map_some,Option.getD_some,Bool.not_eq_false',TF,Uj,T8,T9] at r3;refine⟨r1,r2,by omega,?_⟩;rcases r3.2 with h | h
 .exact PA h
 .exact h.2
theorem Nf{n:Aa}(hv:AB n)(hrw:Rows n.nx){s:Ad}{l:Al}{blk wanted sp:Int}(hb:0<=blk/\blk<(n.bs.length:Int))(hsp:0<=sp/\sp<(n.ss.length:Int)){x:List Int}(h:dtR n s l blk wanted sp=some x):
  ∃(c:Int) (r:List Int),x=c::r/\0<=c/\c<(n.bs.length:Int)/\dtX l s wanted c=false/\blk∉x/\Chn n blk x/\DT blk x=ED (n.ss.getD sp.toNat s0)/\∀y∈x,0<=y/\y<(AA n:Int):=by
 have hs:=AP s0 (show sp.toNat<n.ss.length by omega);have gi:=(hv.goodT _ _ hs).hi;have hce:=hv.cel;unfold dtR at h;split at h
 .cases h
 .rename_i hneg;cases h;rcases Ha (n:=n) (s:=s) (l:=l) (blk:=blk) (wanted:=wanted) (goal:=(n.ss.getD sp.toNat s0).i) (n.nx.getD blk.toNat []).length (TI _) with h | ⟨h1,h2,h3⟩
  .unfold dtB at hneg;omega
  .have hc:=(hv.lanes hrw (show blk.toNat<n.bs.length by omega)).1 _ h1;unfold dtB at *;generalize dtI n s l blk wanted (n.ss.getD sp.toNat s0).i (n.nx.getD blk.toNat []).length=c at *;obtain⟨hp,hx⟩:=Lz hv hrw (s:=s) (blk:=blk) hc (goal:=(n.ss.getD sp.toNat s0).i) (by omega) h3;obtain⟨p1,p2⟩:=pth_chn hv hp;obtain⟨q1,q2⟩:=slt_all hv hs;rw[T0 hc.1] at p1 p2;rw[T0 (by omega)] at p2;have e:dtP n s blk (n.ss.getD sp.toNat s0).i c=c::(dtP n s blk (n.ss.getD sp.toNat s0).i c).tail:=by
    have hpos:=hp.pos;have hhd:=hp.hd;cases hq:dtP n s blk (n.ss.getD sp.toNat s0).i c with
    | nil=>rw[hq] at hpos;exact absurd hpos (Nat.lt_irrefl _)
    | cons y r=>rw[hq] at hhd;simp at hhd;rw[List.tail_cons];congr 1;omega
   have hlane:Dd n blk c=true:=NX hv hb.1 hb.2 h1;refine⟨c,(dtP n s blk (n.ss.getD sp.toNat s0).i c).tail++Aj (n.ss.getD sp.toNat s0) 0,by rw[<-List.cons_append,<-e],hc.1,hc.2,h2,fun hm=>?_,?_,?_,fun y hy=>?_⟩
   .rcases T3.1 hm with hm | hm
    .exact(hx _ hm).2.2.1 rfl
    .have:=O9.1 hm;have hsb:=(hv.sb hs).2.2.2.2;have hm:=Gs hv (i:=0) (j:=sp.toNat) (by omega) (by omega);have h0:Az n 0=(n.bs.length:Int):=by unfold Az;simp
     omega
   .rw[e,List.cons_append];exact⟨hlane,p1.app (by rw[p2];exact q1)⟩
   .rw[e,List.cons_append];show DT c _=_;rw[Px,p2];exact q2
   .rcases T3.1 hy with hm | hm
    .have:=hx _ hm;omega
    .exact Is hv hs (Int.le_refl _) y hm
theorem Ot{n:Aa}{s:Ad}{l:Al}{blk wanted sp:Int}:((dtS n s l blk wanted sp).2=true->dtR n s l blk wanted sp=some (dtS n s l blk wanted sp).1/\Bz s.cl (dtS n s l blk wanted sp).1=true)/\((dtS n s l blk wanted sp).2=false->(dtS n s l blk wanted sp).1=[]):=by
 unfold dtS;cases dtR n s l blk wanted sp with
 | none=>exact⟨fun h=>(by cases h),fun _=>rfl⟩
 | some x=>
  simp only;split
  .rename_i h;exact⟨fun _=>⟨rfl,h⟩,fun h=>(by cases h)⟩
  .exact⟨fun h=>(by cases h),fun _=>rfl⟩
def Iu(cl:List Bool)(l:List Int):Int:=match fnd (fun i=>cl.getD (l.getD i 0).toNat true) 0 l.length with | some i=>(i:Int) | none=> -1
theorem pasZ_b(cl:List Bool)(l:List Int):decide (0<=Iu cl l)=!(Bz cl l):=by
 unfold Iu Bz;cases fnd (fun i=>cl.getD (l.getD i 0).toNat true) 0 l.length with
 | none=>rfl
 | some i=>simp
theorem lg1_c(l:List Bool)(d c:Int)(x:Ao)(q:Ad)(hc:0<=c/\c<(l.length:Int)/\c<(q.cl.length:Int)):CT UB 66 [some (Blk.mk [.lst (boL l)] 1 true true none),some (Blk.mk [.int .i64 d] 1 true true none),some (Blk.mk [sA x] 6 true true none),some (Blk.mk [sgA q] 3 true true none)] [.int .i64 c,.ptr 0 0 0,.ptr 1 0 0,.ptr 2 0 0,.ptr 3 0 0] [some (Blk.mk [.lst (boL l)] 1 true true none),some (Blk.mk [.int .i64 d] 1 true true none),some (Blk.mk [sA x] 6 true true none),some (Blk.mk [sgA q] 3 true true none)] (.bool (!(l.getD c.toNat true)||(c==d||(c==x.i&&!(q.cl.getD c.toNat true))))):=by refine lg1_ct l d c x q ([_,_,_,_],_) (.val ?_);unfold LK;rw[Ab hc.1,AF (AP true (show c.toNat<l.length by omega)),AF (AP true (show c.toNat<q.cl.length by omega))];cases l.getD c.toNat true<;>cases c==d<;>cases c==x.i<;>rfl
theorem lg2_c(d c:Int)(q:Ad)(hc:0<=c/\c<(q.cl.length:Int)):CT UB 67 [some (Blk.mk [sgA q] 3 true true none),some (Blk.mk [.int .i64 d] 1 true true none)] [.int .i64 c,.ptr 0 0 0,.ptr 1 0 0] [some (Blk.mk [sgA q] 3 true true none),some (Blk.mk [.int .i64 d] 1 true true none)] (.bool (!(q.cl.getD c.toNat true)||c==d)):=by refine lg2_ct d c q ([_,_],_) (.val ?_);unfold LH;rw[Ab hc.1,AF (AP true (show c.toNat<q.cl.length by omega))];cases q.cl.getD c.toNat true<;>rfl
theorem dt2_c(l:List Bool)(d c:Int)(x:Ao)(q:Ad)(hc:0<=c/\c<(l.length:Int)/\c<(q.cl.length:Int)):CT UB 90 [some (Blk.mk [.int .i64 d] 1 true true none),some (Blk.mk [.lst (boL l)] 1 true true none),some (Blk.mk [sA x] 6 true true none),some (Blk.mk [sgA q] 3 true true none)] [.int .i64 c,.ptr 0 0 0,.ptr 1 0 0,.ptr 2 0 0,.ptr 3 0 0] [some (Blk.mk [.int .i64 d] 1 true true none),some (Blk.mk [.lst (boL l)] 1 true true none),some (Blk.mk [sA x] 6 true true none),some (Blk.mk [sgA q] 3 true true none)] (.bool (!(c==d)&&(!(l.getD c.toNat true)||(c==x.i&&!(q.cl.getD c.toNat true))))):=by refine dt2_ct l d c x q ([_,_,_,_],_) (.val ?_);unfold M2;rw[Ab hc.1,AF (AP true (show c.toNat<l.length by omega)),AF (AP true (show c.toNat<q.cl.length by omega))];have e:(c != d)=!(c==d):=rfl;rw[e];cases l.getD c.toNat true<;>cases c==d<;>cases c==x.i<;>rfl
theorem CO(n:Aa)(c:Int):CT UB 89 [some (Blk.mk [Ai n] 8 true true none)] [.int .i64 c,.ptr 0 0 0] [some (Blk.mk [Ai n] 8 true true none)] (.bool (decide (0<=c)&&decide (c<(n.bs.length:Int)))):=by refine dt1_ct n c ([_],_) (.val ?_);unfold Nd;rw[TA];cases decide (0<=c)<;>rfl
def plO(n:Aa)(c:Int):Int:=if ckE n c=0 then plI n c else 0
def pjO(n:Aa)(c:Int):Int:=if ckE n c=0 then plJ n c else 0
theorem plc_c{n:Aa}(c:Int)(hrw:Rows n.nx):CT UB 62 [] [Ai n,.int .i64 c] [] (.tup [.int .i64 (plO n c),.int .i64 (pjO n c),.int .i64 (ckE n c)]):=by
 refine plc_ct n c ([],_) (.val ?_);unfold Lx plO pjO;rw[Ab hrw];by_cases h:ckE n c=0
 .obtain⟨hv,h0,h1⟩:=K5 h;have:=hv.cel;rw[Af (by rw[h];rfl),Ab hv,Ab (by omega),Tv h,Tv h,h]
 .rw[An (Ul.2 h),Tw h,Tw h]
def hdO(n:Aa)(sp:Int):Int:=if csE n sp=0 then ED (n.ss.getD sp.toNat s0) else 0
theorem hd_c{n:Aa}(sp:Int)(hrw:Rows n.nx):CT UB 37 [] [Ai n,.int .i64 sp] [] (.tup [.int .i64 (hdO n sp),.int .i64 (csE n sp)]):=by
 refine hd_ct n sp ([],_) (.val ?_);unfold hdEn hdO;rw[Ab hrw];by_cases h:csE n sp=0
 .have hx:AB n/\0<=sp/\sp<(n.ss.length:Int):=by
   unfold csE at h;split at h
   .rename_i hv;split at h
    .cases h
    .exact⟨Cy.1 hv,by omega,by omega⟩
   .cases h
  obtain⟨hv,h0,h1⟩:=hx;have hs:=AP s0 (show sp.toNat<n.ss.length by omega);have hb:=hv.sb hs;rw[Af (by rw[h];rfl),Ab h0,AF hs,AF hs,Tv h,h,C0 (x:=(n.ss.getD sp.toNat s0).b+(n.ss.getD sp.toNat s0).k) (by omega) (by omega),C0 (by omega) (by omega)];rfl
 .rw[An (Ul.2 h),Tw h]
theorem dis_c{g:List (List Int)}{s:List Bool}(w:Int)(hg:OkG g s)(hw:0<=w/\w<(g.length:Int)):CT UB 71 [] [.lst (gL g),.lst (boL s),.int .i64 w] [] (lI (AC g s w.toNat g.length)):=by have:=QM hg w.toNat (by omega);rw[T0 hw.1] at this;exact this
theorem hop_c{g:List (List Int)}{d:List Int}(v:Int)(hg:OkG g (Uv g.length false))(hd:d.length=g.length)(hsm:Dz d)(hv:0<=v/\v<(g.length:Int)):CT UB 139 [] [.lst (gL g),lI d,.int .i64 v] [] (.int .i64 (B2 g d v.toNat)):=by have:=hop_ct hg d hd hsm v.toNat (by omega);rw[T0 hv.1] at this;exact this
theorem chkp_c{g:List (List Int)}(s:List Bool)(v w:Int)(hrw:Rows g):CT UB 70 [] [.lst (gL g),.lst (boL s),.int .i64 v,.int .i64 w] [] (.int .i64 (C2 g s v w)):=Rd hrw v w
inductive EO where | l0 (v0:List Int) (v1 v2:Int)
def G0(g:List (List Int))(l:List Bool)(p q:Int):EO->St | .l0 v0 v1 v2=>St.mk 52 [(0,UA (gL g)),(11,UA (Uu iv (AC g l q.toNat g.length))),(12,AV.sl 0 0 v0.length),(35,iv v1),(36,iv v2)] [some (bK (Uu iv v0) 1)]
def Mj:EO->Nat | .l0 _ _ _=>0
def Nb(g:List (List Int))(l:List Bool)(p q:Int):Option (EO⊕Ret):=gu (Rows g) <|br (C2 g l p q != 0) (some (.inr ([],AV.tup [AV.nils,iV (C2 g l p q)]))) (gu (OkG g l) <|gu (0<=q/\q<iN g.length) <|gu (0<=p) <|el (AC g l q.toNat g.length) (p.toNat) fun(x27:Int)=>br (decide (x27<0)) (some (.inr ([],AV.tup [AV.nils,iV 0]))) (el (AC g l q.toNat g.length) (p.toNat) fun(x34:Int)=>some (.inl (.l0 ([p]) x34 ((0:Int))))))
def GS(g:List (List Int))(l:List Bool)(p q:Int)(v0:List Int)(v1 v2:Int):Option (EO⊕Ret):=br (decide (v2<v1)) (gu (0<=i64.wrap (iN v0.length-1)) <|gu (i64.wrap (iN v0.length-1)<iN v0.length) <|el v0 (0+(i64.wrap (iN v0.length-1)).toNat) fun(x46:Int)=>gu (OkG g (Uv g.length false)) <|gu ((AC g l q.toNat g.length).length=g.length) <|gu (Dz (AC g l q.toNat g.length)) <|gu (0<=x46/\x46<iN g.length) <|gu ((Uu iV v0).length+[iV (B2 g (AC g l q.toNat g.length) x46.toNat)].length<=9223372036854775807) <|gu (((Uu iV v0).length+[iV (B2 g (AC g l q.toNat g.length) x46.toNat)].length) * 8<=140737488355328) <|some (.inl (.l0 (v0++[B2 g (AC g l q.toNat g.length) x46.toNat]) v1 (i64.wrap (v2+1))))) (some (.inr ([some (bK (Uu iV v0) 1)],AV.tup [AV.sl 0 0 v0.length,iV 0])))
def ptkStep(g:List (List Int))(l:List Bool)(p q:Int):EO->Option (EO⊕Ret) | .l0 v0 v1 v2=>GS g l p q v0 v1 v2
theorem ptkEn_ok(g:List (List Int))(l:List Bool)(p q:Int)(o:EO⊕Ret)(h:Nb g l p q=some o):Arr UB Try.f111 0 (G0 g l p q) Mj (zB Try.f111) [] {n:=Try.f111.ntmps,fr:=AH 0 ([.lst (gL g),.lst (boL l),.int .i64 p,.int .i64 q]),hp:=([])} o:=Scr.ok h mix (.rn 0 [] [] [] [] (al t3) <|.gu fun a0=>have c0:=chkp_c l p q a0;.rn 1 [] [] [(17,hK c0 [] [])] [] (aj (u2 (u2 (u2 (u2 (aj (k3 (k5 (al (c0)))) s2))))) (al (u2 s2))) <|.br (fun a1=>.rt [39] [] [] [] [] [] (aj (aj a1 (al (u2 (ak s2)))) (al t3))) (fun a1=>.gu fun a2=>.gu fun a3=>have c1:=dis_c q a2 a3;.rn 0 [38] [] [(24,hK c1 [] [])] [] (aj a1 (al (u2 (u2 (u2 (aj (ak (k5 (al (c1)))) s2)))))) <|.gu fun a4=>.el fun x27 a5=>.rn 0 [] [(27,iv x27)] [] [] (al (u2 (u2 (aj (k2 (aj a4 (Am (f:=iv) a5))) (u2 s2))))) <|.br (fun a6=>.rt [59] [] [] [] [] [] (aj (aj a6 (al t3)) (al t3))) (fun a6=>.rn 0 [58] [] [] [] (aj a6 (al (u2 (u2 s2)))) <|.el fun x34 a7=>.lp [] [(34,iv x34)] [] [] [] [0] [0,11,12,35,36] (aj (al (u2 (u2 (aj (k2 (aj a4 (Am (f:=iv) a7))) (u2 t2))))) t7)))) (by kernel_rfl)
theorem ptkS0_ok(g:List (List Int))(l:List Bool)(p q:Int)(v0:List Int)(v1 v2:Int)(o:EO⊕Ret)(h:GS g l p q v0 v1 v2=some o):Arr UB Try.f111 0 (G0 g l p q) Mj (Aw Try.f111 0) (.rnd (Aw Try.f111 0)::AJ Try.f111 0) (G0 g l p q (.l0 v0 v1 v2)) o:=Scr.ok h mix (.rn 0 [] [] [] [] (al (al t3)) <|.br (fun a0=>.gu fun a1=>.gu fun a2=>.el fun x46 a3=>.gu fun a4=>.gu fun a5=>.gu fun a6=>.gu fun a7=>.gu fun a8=>.gu fun a9=>have c0:=hop_c x46 a4 a5 a6 a7;.lq [75] [(46,iv x46)] [(47,hK c0 [] [])] [] [] [2] [0,11,12,35,36] (up [(12,AV.sl 0 0 ((Uu iv v0).length+[iv (B2 g (AC g l q.toNat g.length) x46.toNat)].length))] [(0,Uu iv v0++[iv (B2 g (AC g l q.toNat g.length) x46.toNat)])] (G0 g l p q (.l0 (v0++[B2 g (AC g l q.toNat g.length) x46.toNat]) v1 (i64.wrap (v2+1))))) (aj (aj a0 (aj (u2 (u2 (u2 (u2 (u2 (u2 (u2 (aj (k2 (aj a1 a2)) (aj (ak (Am (f:=iv) a3)) (aj (ak (k5 (al (c0)))) (u2 (aj (k2 (aj (show(Uu iv v0).length=v0.length by simp) (aj (aj (show nat_lit 1=nat_lit 1 from rfl) (show 1<=[iv (B2 g (AC g l q.toNat g.length) x46.toNat)].length by simp)) (aj a8 a9)))) s2)))))))))))) (al (u2 s2)))) t7) (by simp[up,upF,upV,upH,upB,G0,gL,boL,lI])) (fun a0=>.rt [74] [] [] [] [0] [] (aj (aj a0 (al (u2 (u2 t2)))) (aj t3 t2)))) (by kernel_rfl)
theorem ptk_ct(g:List (List Int))(l:List Bool)(p q:Int)(r:Ret)(h:Ax (ptkStep g l p q) (Nb g l p q) r):CT UB 111 ([]) ([.lst (gL g),.lst (boL l),.int .i64 p,.int .i64 q]) r.1 r.2:=
 CT.mach (fn:=Try.f111) (c:=zB Try.f111) (S:=G0 g l p q) (hd:=Mj) Try.func111 (by kernel_rfl) (nL rfl)
  (fun s o ho=>match s,ho with
   | .l0 v0 v1 v2,ho=>ptkS0_ok g l p q v0 v1 v2 o ho
  )
  (fun o ho=>ptkEn_ok g l p q o ho) h
theorem pthK{g:List (List Int)}(l:List Bool)(p q:Int)(hrw:Rows g):CT UB 111 [] [.lst (gL g),.lst (boL l),.int .i64 p,.int .i64 q] [some (Blk.mk ((Ah g l p q).1.map (AV.int .i64)) 1 true true none)] (.tup [.sl 0 0 (Ah g l p q).1.length,.int .i64 (Ah g l p q).2]):=by
 have k:=ptk_ct g l p q;unfold Nb at k;by_cases h:C2 g l p q=0
 case neg=>
  have e:Ah g l p q=([],C2 g l p q):=by unfold Ah;rw[Tw h]
  rw[e];exact OG (hout:=[]) 1 (k ([],_) (.val (by rw[Ab hrw,An (Ul.2 h)])))
 obtain⟨hg,_,⟨h0,h1⟩,⟨h2,h3⟩⟩:=chk_ok hrw h;have hD:=FG hg (goal:=q.toNat) (by omega);have hdl:=hD.len;have hbd:=hD.bnd p.toNat (by omega);have hgl:=hg.len;have hel:=AP 0 (show p.toNat<(AC g l q.toNat g.length).length by omega);by_cases hn:(AC g l q.toNat g.length).getD p.toNat 0<0
 .have e:Ah g l p q=([],0):=by unfold Ah;rw[Tv h,Tv hn]
  rw[e];exact OG (hout:=[]) 1 (k ([],_) (.val (by rw[Ab hrw,h,Af (by rfl),Ab hg,Ab ⟨h2,h3⟩,Ab h0,AF hel,An (AD hn)])))
 obtain⟨m,hm⟩:∃m:Nat,(AC g l q.toNat g.length).getD p.toNat 0=(m:Int):=⟨((AC g l q.toNat g.length).getD p.toNat 0).toNat,by omega⟩;have e:Ah g l p q=(wkL g (AC g l q.toNat g.length) p.toNat m,0):=by unfold Ah;rw[Tv h,Tw hn,hm,TG]
 have hok:=J4 hg (goal:=q.toNat) (by omega) hD (by omega) hm (shN (a:=p.toNat) hD (by omega) (by omega));have hg0:OkG g (Uv g.length false):=⟨hg.len,hg.row,by simp⟩;have hsm:=Pb g l q.toNat g.length (by omega);rw[e];refine k ([_],_) ?_;rw[Ab hrw,h,Af (by rfl),Ab hg,Ab ⟨h2,h3⟩,Ab h0,AF hel,Af (Ar hn),AF hel,hm];have e0:([p]:List Int)=wkL g (AC g l q.toNat g.length) p.toNat 0:=by unfold wkL;show [p]=[wkZ g _ p.toNat 0];rw[wkZ];congr 1;omega
 rw[e0];refine CH (fun i=>EO.l0 (wkL g (AC g l q.toNat g.length) p.toNat i) (m:Int) (i:Int)) m (fun i hi hx=>?_) ?_
 .refine .to (show GS g l p q _ _ _=_ from ?_) hx;have hl:=Jv g (AC g l q.toNat g.length) p.toNat i;obtain⟨a1,a2,_⟩:=hok i (by omega);have hw:i64.wrap (iN (wkL g (AC g l q.toNat g.length) p.toNat i).length-1)=(i:Int):=by rw[hl,C0 (by simp only[iN];omega) (by simp only[iN];omega)];simp only[iN];omega
  have hgt:(wkL g (AC g l q.toNat g.length) p.toNat i)[0+i]?=some (wkZ g (AC g l q.toNat g.length) p.toNat i):=by rw[TP,AP 0 (show i<_ by omega),Gg (TI _)]
  unfold GS;rw[An (AD (by omega)),hw,Ab (by omega),Ab (by simp only[iN];omega),TG,AF hgt,Ab hg0,Ab hdl,Ab hsm,Ab ⟨a1,a2⟩,Ab (by simp only[TA,Ud,Ue];omega),Ab (by simp only[TA,Ud,Ue];omega),PI,zW i (by omega)];rfl
 .refine .to (show GS g l p q _ _ _=_ from ?_) (.ret _);unfold GS;rw[Af (Ar (by omega))]
inductive EL where | l0 (v0:List Bool) (v1:Int)
def FP(n:Aa)(l:List Bool)(d a g:Int)(x:Ao)(q:Ad):EL->St | .l0 v0 v1=>St.mk 40 [(1,AV.fn 66 [AV.ptr 0 0 0,AV.ptr 1 0 0,AV.ptr 2 0 0,AV.ptr 3 0 0]),(2,iv a),(3,iv g),(4,AV.ptr 4 0 0),(9,AV.sl 5 0 v0.length),(18,iv (iN (Uu bA n.bs).length)),(19,iv v1)] [some (bK [UA (boL l)] 1),some (bK [iv d] 1),some (bK [sA x] 6),some (bK [AV.agg [UA (boL q.cl),UA (Uu iv q.bw),UA (Uu iv q.pe)]] 3),some (bK [Ai n] 8),some (bK (Uu bV v0) 1)]
def L9:EL->Nat | .l0 _ _=>0
def MC(n:Aa)(l:List Bool)(d a g:Int)(x:Ao)(q:Ad):Option (EL⊕Ret):=gu (1 * iN (Uu bA n.bs).length<=281474976710656) <|gu (iN (Uu bA n.bs).length<=9223372036854775807) <|some (.inl (.l0 (Uv (Uu bA n.bs).length false) ((0:Int))))
def He(n:Aa)(l:List Bool)(d a g:Int)(x:Ao)(q:Ad)(v0:List Bool)(v1:Int):Option (EL⊕Ret):=br (decide (v1<iN (Uu bA n.bs).length)) (gu (0<=v1/\v1<iN l.length/\v1<iN q.cl.length) <|gu (0<=v1) <|gu (v1<iN v0.length) <|gu ((0+v1.toNat).succ.le (Uu bV v0).length) <|some (.inl (.l0 (v0.set (0+v1.toNat) !(!l.getD v1.toNat true||(v1==d||v1==x.i&&!q.cl.getD v1.toNat true))) (i64.wrap (v1+1))))) (gu (Rows n.nx) <|gu (∀(blk:Blk),blk∈[bK (Uu iV (Ah n.nx v0 a g).fst) 1]->B9 blk) <|some (.inr ([some (bK [UA (boL l)] 1),some (bK [iV d] 1),some (bK [AV.agg [AV.str x.nm,bV x.dep,iV x.i,iV x.o,iV x.k,iV x.b]] 6),some (bK [AV.agg [UA (boL q.cl),UA (Uu iV q.bw),UA (Uu iV q.pe)]] 3)],UA (Uu iV (Ah n.nx v0 a g).fst))))
def paAStep(n:Aa)(l:List Bool)(d a g:Int)(x:Ao)(q:Ad):EL->Option (EL⊕Ret) | .l0 v0 v1=>He n l d a g x q v0 v1
theorem paAEn_ok(n:Aa)(l:List Bool)(d a g:Int)(x:Ao)(q:Ad)(o:EL⊕Ret)(h:MC n l d a g x q=some o):Arr UB Try.f65 4 (FP n l d a g x q) L9 (zB Try.f65) [] {n:=Try.f65.ntmps,fr:=AH 0 ([Ai n,.fn 66 [.ptr 0 0 0,.ptr 1 0 0,.ptr 2 0 0,.ptr 3 0 0],.int .i64 a,.int .i64 g]),hp:=([some (bK [.lst (boL l)] 1),some (bK [.int .i64 d] 1),some (bK [sA x] 6),some (bK [sgA q] 3)])} o:=Scr.ok h mix (.rn 0 [] [] [] [] (al (u2 t2)) <|.gu fun a0=>.gu fun a1=>.lq [] [] [] [] [] [0,1,2,3,4,5] [1,2,3,4,9,18,19] (up [(9,AV.sl 5 0 (Uu bA n.bs).length)] [(5,Uv (Uu bA n.bs).length (bV false))] (FP n l d a g x q (.l0 (Uv (Uu bA n.bs).length false) ((0:Int))))) (aj (aj (u2 (u2 (u2 (aj (k2 (aj (show 0<=iN (Uu bA n.bs).length from(Int.natCast_nonneg _)) (aj (show iN (Uu bA n.bs).length<=iN (Uu bA n.bs).length by omega) (aj a0 a1)))) s2)))) (al (u2 (u2 t2)))) (aj t5 (ak (k3 t9)))) (by simp[up,upF,upV,upH,upB,FP,gL,boL,lI,sA,bA])) (by kernel_rfl)
theorem paAS0_ok(n:Aa)(l:List Bool)(d a g:Int)(x:Ao)(q:Ad)(v0:List Bool)(v1:Int)(o:EL⊕Ret)(h:He n l d a g x q v0 v1=some o):Arr UB Try.f65 4 (FP n l d a g x q) L9 (Aw Try.f65 0) (.rnd (Aw Try.f65 0)::AJ Try.f65 0) (FP n l d a g x q (.l0 v0 v1)) o:=Scr.ok h mix (.rn 0 [] [] [] [] (al (al t3)) <|.br (fun a0=>.rn 0 [41] [] [] [] (aj a0 (al (u2 s2))) <|.gu fun a1=>.gu fun a2=>.gu fun a3=>.gu fun a4=>have c0:=lg1_c l d v1 x q a1;.lq [] [] [(26,hK c0 [0,1,2,3] [])] [] [] [0,1,2,3,4,5] [1,2,3,4,9,18,19] (up [(9,AV.sl 5 0 v0.length)] [(5,(Uu bV v0).set (0+v1.toNat) (bV !(!l.getD v1.toNat true||(v1==d||v1==x.i&&!q.cl.getD v1.toNat true))))] (FP n l d a g x q (.l0 (v0.set (0+v1.toNat) !(!l.getD v1.toNat true||(v1==d||v1==x.i&&!q.cl.getD v1.toNat true))) (i64.wrap (v1+1))))) (aj (aj (u2 (u2 (u2 (u2 (aj (ak (k5 (k5 (al (c0))))) (u2 (aj (k2 (aj a2 a3)) (al (k2 a4))))))))) (al (u2 s2))) (aj t5 (ak (k3 t9)))) (by simp[up,upF,upV,upH,upB,FP,gL,boL,lI,sA,bA])) (fun a0=>.gu fun a1=>.gu fun a2=>have c0:=pthK v0 a g a1;.rt [40] [] [(36,hK c0 [] [5])] [] [0,1,2,3] [6] (aj (aj a0 (aj (u2 (u2 (u2 (u2 (u2 (aj (k5 (aj (show v0.length=(Uu bV v0).length by simp) (k2 (aj (c0) a2)))) (u2 (u2 (u2 (u2 s2)))))))))) (al (u2 s2)))) (aj (show(Ah n.nx v0 a g).fst.length=(Uu iv (Ah n.nx v0 a g).fst).length by simp) t5)))) (by kernel_rfl)
theorem paA_ct(n:Aa)(l:List Bool)(d a g:Int)(x:Ao)(q:Ad)(r:Ret)(h:Ax (paAStep n l d a g x q) (MC n l d a g x q) r):CT UB 65 ([some (bK [.lst (boL l)] 1),some (bK [.int .i64 d] 1),some (bK [sA x] 6),some (bK [sgA q] 3)]) ([Ai n,.fn 66 [.ptr 0 0 0,.ptr 1 0 0,.ptr 2 0 0,.ptr 3 0 0],.int .i64 a,.int .i64 g]) r.1 r.2:=
 CT.mach (fn:=Try.f65) (c:=zB Try.f65) (S:=FP n l d a g x q) (hd:=L9) Try.func65 (by kernel_rfl) (nL rfl)
  (fun s o ho=>match s,ho with
   | .l0 v0 v1,ho=>paAS0_ok n l d a g x q v0 v1 o ho
  )
  (fun o ho=>paAEn_ok n l d a g x q o ho) h
inductive EG where | l0 (v0:List Bool) (v1:Int)
def FQ(n:Aa)(d a g:Int)(q:Ad):EG->St | .l0 v0 v1=>St.mk 40 [(1,AV.fn 67 [AV.ptr 0 0 0,AV.ptr 1 0 0]),(2,iv a),(3,iv g),(4,AV.ptr 2 0 0),(9,AV.sl 3 0 v0.length),(18,iv (iN (Uu bA n.bs).length)),(19,iv v1)] [some (bK [AV.agg [UA (boL q.cl),UA (Uu iv q.bw),UA (Uu iv q.pe)]] 3),some (bK [iv d] 1),some (bK [Ai n] 8),some (bK (Uu bV v0) 1)]
def Lp:EG->Nat | .l0 _ _=>0
def Mr(n:Aa)(d a g:Int)(q:Ad):Option (EG⊕Ret):=gu (1 * iN (Uu bA n.bs).length<=281474976710656) <|gu (iN (Uu bA n.bs).length<=9223372036854775807) <|some (.inl (.l0 (Uv (Uu bA n.bs).length false) ((0:Int))))
def GW(n:Aa)(d a g:Int)(q:Ad)(v0:List Bool)(v1:Int):Option (EG⊕Ret):=br (decide (v1<iN (Uu bA n.bs).length)) (gu (0<=v1/\v1<iN q.cl.length) <|gu (0<=v1) <|gu (v1<iN v0.length) <|gu ((0+v1.toNat).succ.le (Uu bV v0).length) <|some (.inl (.l0 (v0.set (0+v1.toNat) !(!q.cl.getD v1.toNat true||v1==d)) (i64.wrap (v1+1))))) (gu (Rows n.nx) <|gu (∀(blk:Blk),blk∈[bK (Uu iV (Ah n.nx v0 a g).fst) 1]->B9 blk) <|some (.inr ([some (bK [AV.agg [UA (boL q.cl),UA (Uu iV q.bw),UA (Uu iV q.pe)]] 3),some (bK [iV d] 1)],UA (Uu iV (Ah n.nx v0 a g).fst))))
def paBStep(n:Aa)(d a g:Int)(q:Ad):EG->Option (EG⊕Ret) | .l0 v0 v1=>GW n d a g q v0 v1
theorem paBEn_ok(n:Aa)(d a g:Int)(q:Ad)(o:EG⊕Ret)(h:Mr n d a g q=some o):Arr UB Try.f65 2 (FQ n d a g q) Lp (zB Try.f65) [] {n:=Try.f65.ntmps,fr:=AH 0 ([Ai n,.fn 67 [.ptr 0 0 0,.ptr 1 0 0],.int .i64 a,.int .i64 g]),hp:=([some (bK [sgA q] 3),some (bK [.int .i64 d] 1)])} o:=Scr.ok h mix (.rn 0 [] [] [] [] (al (u2 t2)) <|.gu fun a0=>.gu fun a1=>.lq [] [] [] [] [] [0,1,2,3] [1,2,3,4,9,18,19] (up [(9,AV.sl 3 0 (Uu bA n.bs).length)] [(3,Uv (Uu bA n.bs).length (bV false))] (FQ n d a g q (.l0 (Uv (Uu bA n.bs).length false) ((0:Int))))) (aj (aj (u2 (u2 (u2 (aj (k2 (aj (show 0<=iN (Uu bA n.bs).length from(Int.natCast_nonneg _)) (aj (show iN (Uu bA n.bs).length<=iN (Uu bA n.bs).length by omega) (aj a0 a1)))) s2)))) (al (u2 (u2 t2)))) (aj t3 (k2 t9))) (by simp[up,upF,upV,upH,upB,FQ,gL,boL,lI,sA,bA])) (by kernel_rfl)
theorem paBS0_ok(n:Aa)(d a g:Int)(q:Ad)(v0:List Bool)(v1:Int)(o:EG⊕Ret)(h:GW n d a g q v0 v1=some o):Arr UB Try.f65 2 (FQ n d a g q) Lp (Aw Try.f65 0) (.rnd (Aw Try.f65 0)::AJ Try.f65 0) (FQ n d a g q (.l0 v0 v1)) o:=Scr.ok h mix (.rn 0 [] [] [] [] (al (al t3)) <|.br (fun a0=>.rn 0 [41] [] [] [] (aj a0 (al (u2 s2))) <|.gu fun a1=>.gu fun a2=>.gu fun a3=>.gu fun a4=>have c0:=lg2_c d v1 q a1;.lq [] [] [(26,hK c0 [0,1] [])] [] [] [0,1,2,3] [1,2,3,4,9,18,19] (up [(9,AV.sl 3 0 v0.length)] [(3,(Uu bV v0).set (0+v1.toNat) (bV !(!q.cl.getD v1.toNat true||v1==d)))] (FQ n d a g q (.l0 (v0.set (0+v1.toNat) !(!q.cl.getD v1.toNat true||v1==d)) (i64.wrap (v1+1))))) (aj (aj (u2 (u2 (u2 (u2 (aj (k2 (k5 (al (c0)))) (u2 (aj (k2 (aj a2 a3)) (al (k2 a4))))))))) (al (u2 s2))) (aj t3 (k2 t9))) (by simp[up,upF,upV,upH,upB,FQ,gL,boL,lI,sA,bA])) (fun a0=>.gu fun a1=>.gu fun a2=>have c0:=pthK v0 a g a1;.rt [40] [] [(36,hK c0 [] [3])] [] [0,1] [4] (aj (aj a0 (aj (u2 (u2 (u2 (u2 (u2 (aj (k5 (aj (show v0.length=(Uu bV v0).length by simp) (k2 (aj (c0) a2)))) (u2 (u2 (u2 (u2 s2)))))))))) (al (u2 s2)))) (aj (show(Ah n.nx v0 a g).fst.length=(Uu iv (Ah n.nx v0 a g).fst).length by simp) t3)))) (by kernel_rfl)
theorem paB_ct(n:Aa)(d a g:Int)(q:Ad)(r:Ret)(h:Ax (paBStep n d a g q) (Mr n d a g q) r):CT UB 65 ([some (bK [sgA q] 3),some (bK [.int .i64 d] 1)]) ([Ai n,.fn 67 [.ptr 0 0 0,.ptr 1 0 0],.int .i64 a,.int .i64 g]) r.1 r.2:=
 CT.mach (fn:=Try.f65) (c:=zB Try.f65) (S:=FQ n d a g q) (hd:=Lp) Try.func65 (by kernel_rfl) (nL rfl)
  (fun s o ho=>match s,ho with
   | .l0 v0 v1,ho=>paBS0_ok n d a g q v0 v1 o ho
  )
  (fun o ho=>paBEn_ok n d a g q o ho) h
inductive EH where | l0 (v0:List Bool) (v1:Int)
def FC(n:Aa)(l:List Bool)(d a g:Int)(x:Ao)(q:Ad):EH->St | .l0 v0 v1=>St.mk 40 [(1,AV.fn 90 [AV.ptr 0 0 0,AV.ptr 1 0 0,AV.ptr 2 0 0,AV.ptr 3 0 0]),(2,iv a),(3,iv g),(4,AV.ptr 4 0 0),(9,AV.sl 5 0 v0.length),(18,iv (iN (Uu bA n.bs).length)),(19,iv v1)] [some (bK [iv d] 1),some (bK [UA (boL l)] 1),some (bK [sA x] 6),some (bK [AV.agg [UA (boL q.cl),UA (Uu iv q.bw),UA (Uu iv q.pe)]] 3),some (bK [Ai n] 8),some (bK (Uu bV v0) 1)]
def LD:EH->Nat | .l0 _ _=>0
def Mc(n:Aa)(l:List Bool)(d a g:Int)(x:Ao)(q:Ad):Option (EH⊕Ret):=gu (1 * iN (Uu bA n.bs).length<=281474976710656) <|gu (iN (Uu bA n.bs).length<=9223372036854775807) <|some (.inl (.l0 (Uv (Uu bA n.bs).length false) ((0:Int))))
def GY(n:Aa)(l:List Bool)(d a g:Int)(x:Ao)(q:Ad)(v0:List Bool)(v1:Int):Option (EH⊕Ret):=br (decide (v1<iN (Uu bA n.bs).length)) (gu (0<=v1/\v1<iN l.length/\v1<iN q.cl.length) <|gu (0<=v1) <|gu (v1<iN v0.length) <|gu ((0+v1.toNat).succ.le (Uu bV v0).length) <|some (.inl (.l0 (v0.set (0+v1.toNat) !(!v1==d&&(!l.getD v1.toNat true||v1==x.i&&!q.cl.getD v1.toNat true))) (i64.wrap (v1+1))))) (gu (Rows n.nx) <|gu (∀(blk:Blk),blk∈[bK (Uu iV (Ah n.nx v0 a g).fst) 1]->B9 blk) <|some (.inr ([some (bK [iV d] 1),some (bK [UA (boL l)] 1),some (bK [AV.agg [AV.str x.nm,bV x.dep,iV x.i,iV x.o,iV x.k,iV x.b]] 6),some (bK [AV.agg [UA (boL q.cl),UA (Uu iV q.bw),UA (Uu iV q.pe)]] 3)],UA (Uu iV (Ah n.nx v0 a g).fst))))
def paDStep(n:Aa)(l:List Bool)(d a g:Int)(x:Ao)(q:Ad):EH->Option (EH⊕Ret) | .l0 v0 v1=>GY n l d a g x q v0 v1
theorem paDEn_ok(n:Aa)(l:List Bool)(d a g:Int)(x:Ao)(q:Ad)(o:EH⊕Ret)(h:Mc n l d a g x q=some o):Arr UB Try.f65 4 (FC n l d a g x q) LD (zB Try.f65) [] {n:=Try.f65.ntmps,fr:=AH 0 ([Ai n,.fn 90 [.ptr 0 0 0,.ptr 1 0 0,.ptr 2 0 0,.ptr 3 0 0],.int .i64 a,.int .i64 g]),hp:=([some (bK [.int .i64 d] 1),some (bK [.lst (boL l)] 1),some (bK [sA x] 6),some (bK [sgA q] 3)])} o:=Scr.ok h mix (.rn 0 [] [] [] [] (al (u2 t2)) <|.gu fun a0=>.gu fun a1=>.lq [] [] [] [] [] [0,1,2,3,4,5] [1,2,3,4,9,18,19] (up [(9,AV.sl 5 0 (Uu bA n.bs).length)] [(5,Uv (Uu bA n.bs).length (bV false))] (FC n l d a g x q (.l0 (Uv (Uu bA n.bs).length false) ((0:Int))))) (aj (aj (u2 (u2 (u2 (aj (k2 (aj (show 0<=iN (Uu bA n.bs).length from(Int.natCast_nonneg _)) (aj (show iN (Uu bA n.bs).length<=iN (Uu bA n.bs).length by omega) (aj a0 a1)))) s2)))) (al (u2 (u2 t2)))) (aj t5 (ak (k3 t9)))) (by simp[up,upF,upV,upH,upB,FC,gL,boL,lI,sA,bA])) (by kernel_rfl)
theorem paDS0_ok(n:Aa)(l:List Bool)(d a g:Int)(x:Ao)(q:Ad)(v0:List Bool)(v1:Int)(o:EH⊕Ret)(h:GY n l d a g x q v0 v1=some o):Arr UB Try.f65 4 (FC n l d a g x q) LD (Aw Try.f65 0) (.rnd (Aw Try.f65 0)::AJ Try.f65 0) (FC n l d a g x q (.l0 v0 v1)) o:=Scr.ok h mix (.rn 0 [] [] [] [] (al (al t3)) <|.br (fun a0=>.rn 0 [41] [] [] [] (aj a0 (al (u2 s2))) <|.gu fun a1=>.gu fun a2=>.gu fun a3=>.gu fun a4=>have c0:=dt2_c l d v1 x q a1;.lq [] [] [(26,hK c0 [0,1,2,3] [])] [] [] [0,1,2,3,4,5] [1,2,3,4,9,18,19] (up [(9,AV.sl 5 0 v0.length)] [(5,(Uu bV v0).set (0+v1.toNat) (bV !(!v1==d&&(!l.getD v1.toNat true||v1==x.i&&!q.cl.getD v1.toNat true))))] (FC n l d a g x q (.l0 (v0.set (0+v1.toNat) !(!v1==d&&(!l.getD v1.toNat true||v1==x.i&&!q.cl.getD v1.toNat true))) (i64.wrap (v1+1))))) (aj (aj (u2 (u2 (u2 (u2 (aj (ak (k5 (k5 (al (c0))))) (u2 (aj (k2 (aj a2 a3)) (al (k2 a4))))))))) (al (u2 s2))) (aj t5 (ak (k3 t9)))) (by simp[up,upF,upV,upH,upB,FC,gL,boL,lI,sA,bA])) (fun a0=>.gu fun a1=>.gu fun a2=>have c0:=pthK v0 a g a1;.rt [40] [] [(36,hK c0 [] [5])] [] [0,1,2,3] [6] (aj (aj a0 (aj (u2 (u2 (u2 (u2 (u2 (aj (k5 (aj (show v0.length=(Uu bV v0).length by simp) (k2 (aj (c0) a2)))) (u2 (u2 (u2 (u2 s2)))))))))) (al (u2 s2)))) (aj (show(Ah n.nx v0 a g).fst.length=(Uu iv (Ah n.nx v0 a g).fst).length by simp) t5)))) (by kernel_rfl)
theorem paD_ct(n:Aa)(l:List Bool)(d a g:Int)(x:Ao)(q:Ad)(r:Ret)(h:Ax (paDStep n l d a g x q) (Mc n l d a g x q) r):CT UB 65 ([some (bK [.int .i64 d] 1),some (bK [.lst (boL l)] 1),some (bK [sA x] 6),some (bK [sgA q] 3)]) ([Ai n,.fn 90 [.ptr 0 0 0,.ptr 1 0 0,.ptr 2 0 0,.ptr 3 0 0],.int .i64 a,.int .i64 g]) r.1 r.2:=
 CT.mach (fn:=Try.f65) (c:=zB Try.f65) (S:=FC n l d a g x q) (hd:=LD) Try.func65 (by kernel_rfl) (nL rfl)
  (fun s o ho=>match s,ho with
   | .l0 v0 v1,ho=>paDS0_ok n l d a g x q v0 v1 o ho
  )
  (fun o ho=>paDEn_ok n l d a g x q o ho) h
def bmV(f:Nat->Bool)(c i:Nat):List Bool:=(Uy i).map f++Uv (c-i) false
theorem Mk{f:Nat->Bool}{c i:Nat}(h:i<=c):(bmV f c i).length=c:=by unfold bmV;simp;omega
theorem NA{f:Nat->Bool}{c i:Nat}(h:i<c):(bmV f c i).set (0+i) (f i)=bmV f c (i+1):=by
 obtain⟨d,hd⟩:∃d,c-i=d+1:=⟨c-i-1,by omega⟩;have hd2:c-(i+1)=d:=by omega
 unfold bmV;rw[hd,hd2,TP,List.replicate_succ,List.set_append_right _ _ (by simp)];simp only[TA,Ug,Tg,List.set_cons_zero];rw[Um,TM,List.append_assoc];rfl
theorem M9(f:Nat->Bool)(c:Nat):bmV f c 0=Uv c false:=by unfold bmV;simp
theorem KW(f:Nat->Bool)(c:Nat):bmV f c c=(Uy c).map f:=by unfold bmV;simp
def shG(nb:Nat)(l cl:List Bool)(d goal:Int):List Bool:=(Uy nb).map fun b:Nat=> !(!(l.getD b true)||((b:Int)==d||((b:Int)==goal&&!(cl.getD b true))))
def shW(nb:Nat)(cl:List Bool)(d:Int):List Bool:=(Uy nb).map fun b:Nat=> !(!(cl.getD b true)||(b:Int)==d)
def shV(nb:Nat)(l cl:List Bool)(d goal:Int):List Bool:=(Uy nb).map fun b:Nat=> !(!((b:Int)==d)&&(!(l.getD b true)||((b:Int)==goal&&!(cl.getD b true))))
theorem IZ(l:List Int):∀(blk:Blk),blk∈[Blk.mk (Uu (AV.int .i64) l) 1 true true none]->B9 blk:=fun blk hb=>by rw[Tm.1 hb];intro e he c hc;obtain⟨x,_,rfl⟩:=T4.1 he;rw[Tm.1 hc];rfl
theorem paA_c(n:Aa)(l:List Bool)(d a g:Int)(x:Ao)(q:Ad)(hrw:Rows n.nx)(hn:n.bs.length<=1000/\n.bs.length<=l.length/\n.bs.length<=q.cl.length):
  CT UB 65 [some (Blk.mk [.lst (boL l)] 1 true true none),some (Blk.mk [.int .i64 d] 1 true true none),some (Blk.mk [sA x] 6 true true none),some (Blk.mk [sgA q] 3 true true none)] [Ai n,.fn 66 [.ptr 0 0 0,.ptr 1 0 0,.ptr 2 0 0,.ptr 3 0 0],.int .i64 a,.int .i64 g] [some (Blk.mk [.lst (boL l)] 1 true true none),some (Blk.mk [.int .i64 d] 1 true true none),some (Blk.mk [sA x] 6 true true none),some (Blk.mk [sgA q] 3 true true none)] (lI (Ah n.nx (shG n.bs.length l q.cl d x.i) a g).1):=by
 refine paA_ct n l d a g x q ([_,_,_,_],_) ?_;obtain⟨n1,n2,n3⟩:=hn;unfold MC;have hb:(Uu bA n.bs).length=n.bs.length:=TA ..;rw[hb,Ab (by simp only[iN];omega),Ab (by simp only[iN];omega)];rw[<-M9 (fun b:Nat=> !(!(l.getD b true)||((b:Int)==d||((b:Int)==x.i&&!(q.cl.getD b true)))))];refine CH (fun i=>EL.l0 (bmV (fun b:Nat=> !(!(l.getD b true)||((b:Int)==d||((b:Int)==x.i&&!(q.cl.getD b true))))) n.bs.length i) (i:Int)) n.bs.length (fun i hi hx=>?_) ?_
 .refine .to (show He n l d a g x q _ _=_ from ?_) hx;unfold He;have hl:=Mk (f:=fun b:Nat=> !(!(l.getD b true)||((b:Int)==d||((b:Int)==x.i&&!(q.cl.getD b true))))) (Nat.le_of_lt hi);rw[hb,An (AD (by simp only[iN];omega)),Ab (by simp only[iN];omega),Ab (by omega),Ab (by simp only[iN,hl];omega),Ab (show Nat.le _ _ from(by rw[TA,hl];show 0+(i:Int).toNat+1<=_;omega)),TG,NA (f:=fun b:Nat=> !(!(l.getD b true)||((b:Int)==d||((b:Int)==x.i&&!(q.cl.getD b true))))) hi,zW i (by omega)]
 .refine .to (show He n l d a g x q _ _=_ from ?_) (.ret _);unfold He;rw[hb,Af (Ar (by simp only[iN];omega)),Ab hrw,Ab (IZ _),KW];rfl
theorem paB_c(n:Aa)(d a g:Int)(q:Ad)(hrw:Rows n.nx)(hn:n.bs.length<=1000/\n.bs.length<=q.cl.length):
  CT UB 65 [some (Blk.mk [sgA q] 3 true true none),some (Blk.mk [.int .i64 d] 1 true true none)] [Ai n,.fn 67 [.ptr 0 0 0,.ptr 1 0 0],.int .i64 a,.int .i64 g] [some (Blk.mk [sgA q] 3 true true none),some (Blk.mk [.int .i64 d] 1 true true none)] (lI (Ah n.nx (shW n.bs.length q.cl d) a g).1):=by
 refine paB_ct n d a g q ([_,_],_) ?_;obtain⟨n1,n3⟩:=hn;unfold Mr;have hb:(Uu bA n.bs).length=n.bs.length:=TA ..;rw[hb,Ab (by simp only[iN];omega),Ab (by simp only[iN];omega)];rw[<-M9 (fun b:Nat=> !(!(q.cl.getD b true)||(b:Int)==d))];refine CH (fun i=>EG.l0 (bmV (fun b:Nat=> !(!(q.cl.getD b true)||(b:Int)==d)) n.bs.length i) (i:Int)) n.bs.length (fun i hi hx=>?_) ?_
 .refine .to (show GW n d a g q _ _=_ from ?_) hx;unfold GW;have hl:=Mk (f:=fun b:Nat=> !(!(q.cl.getD b true)||(b:Int)==d)) (Nat.le_of_lt hi);rw[hb,An (AD (by simp only[iN];omega)),Ab (by simp only[iN];omega),Ab (by omega),Ab (by simp only[iN,hl];omega),Ab (show Nat.le _ _ from(by rw[TA,hl];show 0+(i:Int).toNat+1<=_;omega)),TG,NA (f:=fun b:Nat=> !(!(q.cl.getD b true)||(b:Int)==d)) hi,zW i (by omega)]
 .refine .to (show GW n d a g q _ _=_ from ?_) (.ret _);unfold GW;rw[hb,Af (Ar (by simp only[iN];omega)),Ab hrw,Ab (IZ _),KW];rfl
theorem KK(n:Aa)(l:List Bool)(d a g:Int)(x:Ao)(q:Ad)(hrw:Rows n.nx)(hn:n.bs.length<=1000/\n.bs.length<=l.length/\n.bs.length<=q.cl.length):
  CT UB 65 [some (Blk.mk [.int .i64 d] 1 true true none),some (Blk.mk [.lst (boL l)] 1 true true none),some (Blk.mk [sA x] 6 true true none),some (Blk.mk [sgA q] 3 true true none)] [Ai n,.fn 90 [.ptr 0 0 0,.ptr 1 0 0,.ptr 2 0 0,.ptr 3 0 0],.int .i64 a,.int .i64 g] [some (Blk.mk [.int .i64 d] 1 true true none),some (Blk.mk [.lst (boL l)] 1 true true none),some (Blk.mk [sA x] 6 true true none),some (Blk.mk [sgA q] 3 true true none)] (lI (Ah n.nx (shV n.bs.length l q.cl d x.i) a g).1):=by
 refine paD_ct n l d a g x q ([_,_,_,_],_) ?_;obtain⟨n1,n2,n3⟩:=hn;unfold Mc;have hb:(Uu bA n.bs).length=n.bs.length:=TA ..;rw[hb,Ab (by simp only[iN];omega),Ab (by simp only[iN];omega)];rw[<-M9 (fun b:Nat=> !(!((b:Int)==d)&&(!(l.getD b true)||((b:Int)==x.i&&!(q.cl.getD b true)))))];refine CH (fun i=>EH.l0 (bmV (fun b:Nat=> !(!((b:Int)==d)&&(!(l.getD b true)||((b:Int)==x.i&&!(q.cl.getD b true))))) n.bs.length i) (i:Int)) n.bs.length (fun i hi hx=>?_) ?_
 .refine .to (show GY n l d a g x q _ _=_ from ?_) hx;unfold GY;have hl:=Mk (f:=fun b:Nat=> !(!((b:Int)==d)&&(!(l.getD b true)||((b:Int)==x.i&&!(q.cl.getD b true))))) (Nat.le_of_lt hi);rw[hb,An (AD (by simp only[iN];omega)),Ab (by simp only[iN];omega),Ab (by omega),Ab (by simp only[iN,hl];omega),Ab (show Nat.le _ _ from(by rw[TA,hl];show 0+(i:Int).toNat+1<=_;omega)),TG,NA (f:=fun b:Nat=> !(!((b:Int)==d)&&(!(l.getD b true)||((b:Int)==x.i&&!(q.cl.getD b true))))) hi,zW i (by omega)]
 .refine .to (show GY n l d a g x q _ _=_ from ?_) (.ret _);unfold GY;rw[hb,Af (Ar (by simp only[iN];omega)),Ab hrw,Ab (IZ _),KW];rfl
def grwSt(z:Int):Empty->St | x=>x.elim
def grwHd:Empty->Nat | x=>x.elim
def JD(z:Int):Option (Empty⊕Ret):=br (decide (z<0)) (none) (br (decide (0<i64.wrap (z-0))) (gu (0<i64.wrap (z-0)) <|gu (i64.wrap (z-0)<=9223372036854775807) <|gu ((i64.wrap (z-0)).toNat * 8<=140737488355328) <|some (.inr ([some (bK (Uv (i64.wrap (z-0)).toNat (iV 0)) 1)],AV.sl 0 0 0))) (some (.inr ([],AV.nils))))
def grwStep(z:Int):Empty->Option (Empty⊕Ret) | x=>x.elim
theorem grwEn_ok(z:Int)(o:Empty⊕Ret)(h:JD z=some o):Arr UB Try.f112 0 (grwSt z) grwHd (zB Try.f112) [] {n:=Try.f112.ntmps,fr:=AH 0 ([.nils,.int .i64 z]),hp:=([])} o:=Scr.ok h mix (.rn 1 [] [] [] [] (u2 (al (u2 s2))) <|.br (fun a0=>.no) (fun a0=>.rn 1 [12] [] [] [] (aj a0 (aj (u2 (u2 (u2 (u2 (u2 (aj t3 (aj t3 s2))))))) (al (u2 s2)))) <|.br (fun a1=>.gu fun a2=>.gu fun a3=>.gu fun a4=>.rt [33] [] [] [] [0] [] (aj (aj a1 (aj (u2 (u2 (u2 (aj t3 (u2 (aj (k2 (aj a2 (aj a3 a4))) (u2 (u2 (aj (k2 (aj (Int.le_refl 0) (aj (Int.le_refl 0) (aj (show 0<=iN (i64.wrap (z-0)).toNat from(Int.natCast_nonneg _)) (show iN (i64.wrap (z-0)).toNat<=iN (i64.wrap (z-0)).toNat by omega))))) s2))))))))) (al (u2 s2)))) t3)) (fun a1=>.rt [32] [] [] [] [] [] (aj (aj a1 (al (u2 s2))) t2)))) (by kernel_rfl)
theorem Ov(z:Int)(r:Ret)(h:Ax (grwStep z) (JD z) r):CT UB 112 ([]) ([.nils,.int .i64 z]) r.1 r.2:=
 CT.mach (fn:=Try.f112) (c:=zB Try.f112) (S:=grwSt z) (hd:=grwHd) Try.func112 (by kernel_rfl) (nL rfl)
  (fun s o ho=>match s,ho with
   | x,_=>x.elim)
  (fun o ho=>grwEn_ok z o ho) h
inductive DB where | l0 (v0:Int) (v1:List Int)
def HF(x:Ao)(k:Int):DB->St | .l0 v0 v1=>St.mk 20 [(1,iv v0),(2,AV.ptr 0 0 0),(5,AV.sl 1 0 v1.length)] [some (bK [sA x] 6),some (bK (Uu iv v1) 1)]
def Nx:DB->Nat | .l0 _ _=>0
def M6(x:Ao)(k:Int):Option (DB⊕Ret):=some (.inl (.l0 k ([])))
def Gy(x:Ao)(k v0:Int)(v1:List Int):Option (DB⊕Ret):=br (decide (v0<x.k)) (gu ((Uu iV v1).length+[iV (i64.wrap (x.b+v0))].length<=9223372036854775807) <|gu (((Uu iV v1).length+[iV (i64.wrap (x.b+v0))].length) * 8<=140737488355328) <|some (.inl (.l0 (i64.wrap (v0+1)) (v1++[i64.wrap (x.b+v0)])))) (some (.inr ([some (bK (Uu iV v1) 1)],AV.sl 0 0 v1.length)))
def slkStep(x:Ao)(k:Int):DB->Option (DB⊕Ret) | .l0 v0 v1=>Gy x k v0 v1
theorem slkEn_ok(x:Ao)(k:Int)(o:DB⊕Ret)(h:M6 x k=some o):Arr UB Try.f63 0 (HF x k) Nx (zB Try.f63) [] {n:=Try.f63.ntmps,fr:=AH 0 ([sA x,.int .i64 k]),hp:=([])} o:=Scr.ok h mix (.lp [] [] [] [] [(5,1)] [0,1] [1,2,5] (aj (ag t2 s2) t6)) (by kernel_rfl)
theorem slkS0_ok(x:Ao)(k v0:Int)(v1:List Int)(o:DB⊕Ret)(h:Gy x k v0 v1=some o):Arr UB Try.f63 0 (HF x k) Nx (Aw Try.f63 0) (.rnd (Aw Try.f63 0)::AJ Try.f63 0) (HF x k (.l0 v0 v1)) o:=Scr.ok h mix (.rn 0 [] [] [] [] (al (u2 (u2 (u2 (al t3))))) <|.br (fun a0=>.gu fun a1=>.gu fun a2=>.lq [19] [] [] [] [] [0,3] [1,2,5] (up [(5,AV.sl 1 0 ((Uu iv v1).length+[iv (i64.wrap (x.b+v0))].length))] [(1,Uu iv v1++[iv (i64.wrap (x.b+v0))])] (HF x k (.l0 (i64.wrap (v0+1)) (v1++[i64.wrap (x.b+v0)])))) (aj (aj a0 (aj (u2 (u2 (u2 (u2 (aj t3 (u2 (aj (k2 (aj (show(Uu iv v1).length=v1.length by simp) (aj (aj (show nat_lit 1=nat_lit 1 from rfl) (show 1<=[iv (i64.wrap (x.b+v0))].length by simp)) (aj a1 a2)))) s2))))))) (al (u2 (u2 s2))))) t6) (by simp[up,upF,upV,upH,upB,HF,gL,boL,lI,sA])) (fun a0=>.rt [18] [] [] [] [1] [] (aj (aj a0 (al (u2 s2))) t3))) (by kernel_rfl)
theorem slk_ct(x:Ao)(k:Int)(r:Ret)(h:Ax (slkStep x k) (M6 x k) r):CT UB 63 ([]) ([sA x,.int .i64 k]) r.1 r.2:=
 CT.mach (fn:=Try.f63) (c:=zB Try.f63) (S:=HF x k) (hd:=Nx) Try.func63 (by kernel_rfl) (nL rfl)
  (fun s o ho=>match s,ho with
   | .l0 v0 v1,ho=>slkS0_ok x k v0 v1 o ho
  )
  (fun o ho=>slkEn_ok x k o ho) h
theorem CT.virt{f:FuncId}{hin hout:List (Option Blk)}{args:List AV}(z:Nat)(h:CT UB f hin args hout .nils):CT UB f hin args (hout++[some (Blk.mk [] z true true none)]) (.sl hout.length 0 0):=by
 intro φ A w vs h1 h2 h3 h4 h5;refine(h φ A w vs h1 h2 h3 h4 h5).mono fun e w' ⟨v,φ',he,C⟩=>⟨v,φ',he,?_⟩
 have hnone:φ' hout.length=none:=C.out _ (TI _);have hmut:∀r,Mut φ' (nth (hout++[some (Blk.mk [] z true true none)])) r->Mut φ' (nth hout) r:=by
  rintro r ⟨b,blk',z',g1,g2,g3⟩
  rcases Fg g1 with g | ⟨rfl,rfl⟩
  .exact⟨b,blk',z',g,g2,g3⟩
  .rw[hnone] at g3;cases g3
 have hok:∀r,Ok A w.heap.size φ' (nth hout) w' r->Ok A w.heap.size φ' (nth (hout++[some (Blk.mk [] z true true none)])) w' r:=fun r ⟨g1,g2,g3⟩=>⟨g1,g2,fun h=>g3 (hmut r h)⟩
 have brm:∀{b:Nat} {blk:Blk},BR φ' (Ok A w.heap.size φ' (nth hout) w') w' b blk->BR φ' (Ok A w.heap.size φ' (nth (hout++[some (Blk.mk [] z true true none)])) w') w' b blk:=by
  rintro b blk (h1 | ⟨r,cs,T,h1,h2,h3,h5⟩ | h1)
  .exact .inl h1
  .refine .inr (.inl ⟨r,cs,T,h1,h2,h3,fun i e he=>⟨(h5 i e he).1,fun j c hc=>?_⟩⟩);obtain⟨g3,v,g4,g5⟩:=(h5 i e he).2 j c hc;exact⟨g3,v,g4,g5.mono (fun _ _ h=>h) hok (fun _ _=>rfl) (fun _=>TI _)⟩
  .exact .inr (.inr h1)
 have hlen:(hout++[some (Blk.mk [] z true true none)]).length=hout.length+1:=by simp
 have hs:∀b r z',(nth (hout++[some (Blk.mk [] z true true none)]) b).isSome=true->φ' b=some (r,z')->(nth hout b).isSome=true:=by
  intro b r z' g1 g2;obtain⟨blk',g⟩:=Option.isSome_iff_exists.1 g1;rcases Fg g with g | ⟨rfl,_⟩
  .rw[g];rfl
  .rw[hnone] at g2;cases g2
 refine⟨C.par,C.keep,fun r hr=>C.mutd r (hmut r hr),⟨fun b blk' hb'=>?_,fun b blk' hb' hf=>?_,fun b b' r z1 z2 g1 g2 g3 g4=>C.heap.inj b b' r z1 z2 (hs b r z1 g1 g3) (hs b' r z2 g2 g4) g3 g4⟩,?_,fun b hb'=>C.out b (by rw[hlen] at hb';omega),by have:=C.len;rw[hlen];omega,C.own⟩
 .rcases Fg hb' with g | ⟨rfl,rfl⟩
  .exact brm (C.heap.blk b blk' g)
  .exact .inl ⟨rfl,hnone,rfl,rfl⟩
 .rcases Fg hb' with g | ⟨rfl,rfl⟩
  .exact C.heap.flat b blk' g hf
  .intro e he;cases he
 .have:=C.val;rw[this.nils_inv];exact .slnil _ 0 none
theorem Cg.nought{es:List AV}{z:Nat}{fl:Bool}:Cg (Blk.mk es z fl true none) (Blk.mk [] z true true none):=⟨rfl,fun _=>rfl,rfl,TJ _,fun i e h=>(by simp at h),fun _ e he=>(by cases he),fun _=>rfl⟩
theorem Pw(n:Int)(h0:0<=n/\n<=10000000000):CT UB 112 [] [.nils,.int .i64 n] [some (Blk.mk [] 1 true true none)] (.sl 0 0 0):=by
 obtain⟨h0,h1⟩:=h0;have hw:i64.wrap (n-0)=n:=by rw[Int.sub_zero];exact C0 (by omega) (by omega)
 by_cases hp:0<n
 .refine CT.lessOut (hout:=[some (Blk.mk (Uv (i64.wrap (n-0)).toNat (AV.int i64 0)) 1 true true none)]) ?_ rfl fun b blk' hb=>?_
  .refine Ov n ([_],.sl 0 0 0) (.val ?_);unfold JD;rw[Af (Ar (by omega)),hw,An (AD hp),Ab hp,Ab (by omega),Ab (by omega)]
  .match b,hb with
   | 0,hb=>cases hb;exact⟨_,rfl,Cg.nought,rfl⟩
 .have e:n=0:=by omega
  subst e;refine CT.virt 1 (hout:=[]) ?_;refine Ov 0 ([],.nils) (.val ?_);unfold JD;rw[Af (by rfl),hw,Af (by rfl)]
theorem Fi(x:Ao)(k:Int)(hk:0<=k/\k<=1000)(hb:0<=x.b/\x.b<=1000)(hx:x.k<=1000):CT UB 63 [] [sA x,.int .i64 k] [some (Blk.mk ((Aj x k).map (AV.int .i64)) 1 true true none)] (.sl 0 0 (Aj x k).length):=by
 refine slk_ct x k ([_],_) ?_;unfold M6;have e0:(some (.inl (DB.l0 (k+((0:Nat):Int)) ((Uy 0).map fun i:Nat=>x.b+k+(i:Int)))):Option (DB⊕Ret))=some (.inl (.l0 k [])):=by simp
 rw[<-e0];refine CH (fun i=>DB.l0 (k+(i:Int)) ((Uy i).map fun i:Nat=>x.b+k+(i:Int))) (x.k-k).toNat (fun i hi hx=>?_) ?_
 .refine .to (show Gy x k _ _=_ from ?_) hx;unfold Gy;have w1:i64.wrap (x.b+(k+(i:Int)))=x.b+k+(i:Int):=by rw[C0 (by omega) (by omega)];omega
  have w2:i64.wrap (k+(i:Int)+1)=k+((i+1:Nat):Int):=by rw[C0 (by omega) (by omega)];omega
  rw[An (AD (by omega)),Ab (by simp only[TA,Ug,Ud,Ue];omega),Ab (by simp only[TA,Ug,Ud,Ue];omega),w1,w2,rngM]
 .refine .to (show Gy x k _ _=_ from ?_) (.ret _);unfold Gy;rw[Af (Ar (by omega))];rfl
inductive Eo where | l0 (v0:Int)
def Kk(q:Ad)(l:List Int)(z:Nat):Eo->St | .l0 v0=>St.mk 19 [(0,AV.sl 0 0 z),(1,AV.fn 138 [AV.ptr 1 0 0]),(7,iv (iN z)),(8,iv v0)] [some (bK (Uu iv l) 1),some (bK [AV.agg [UA (boL q.cl),UA (Uu iv q.bw),UA (Uu iv q.pe)]] 3)]
def Mz:Eo->Nat | .l0 _=>0
def Ms(q:Ad)(l:List Int)(z:Nat):Option (Eo⊕Ret):=some (.inl (.l0 ((0:Int))))
def EY(q:Ad)(l:List Int)(z:Nat)(v0:Int):Option (Eo⊕Ret):=br (decide (v0<iN z)) (gu (0<=v0) <|gu (v0<iN z) <|el l (0+v0.toNat) fun(x15:Int)=>gu (0<=x15/\x15<iN q.cl.length) <|br (q.cl.getD x15.toNat true) (some (.inr ([some (bK (Uu iV l) 1),some (bK [AV.agg [UA (boL q.cl),UA (Uu iV q.bw),UA (Uu iV q.pe)]] 3)],iV v0))) (some (.inl (.l0 (i64.wrap (v0+1)))))) (some (.inr ([some (bK (Uu iV l) 1),some (bK [AV.agg [UA (boL q.cl),UA (Uu iV q.bw),UA (Uu iV q.pe)]] 3)],iV (-1))))
def ixlStep(q:Ad)(l:List Int)(z:Nat):Eo->Option (Eo⊕Ret) | .l0 v0=>EY q l z v0
theorem ixlEn_ok(q:Ad)(l:List Int)(z:Nat)(o:Eo⊕Ret)(h:Ms q l z=some o):Arr UB Try.f133 2 (Kk q l z) Mz (zB Try.f133) [] {n:=Try.f133.ntmps,fr:=AH 0 ([.sl 0 0 z,.fn 138 [.ptr 1 0 0]]),hp:=([some (bK (l.map (AV.int .i64)) 1),some (bK [sgA q] 3)])} o:=Scr.ok h mix (.lp [] [] [] [] [] [0,1] [0,1,7,8] (aj (u2 (al (u2 (u2 t2)))) (ak (u2 t5)))) (by kernel_rfl)
theorem ixlS0_ok(q:Ad)(l:List Int)(z:Nat)(v0:Int)(o:Eo⊕Ret)(h:EY q l z v0=some o):Arr UB Try.f133 2 (Kk q l z) Mz (Aw Try.f133 0) (.rnd (Aw Try.f133 0)::AJ Try.f133 0) (Kk q l z (.l0 v0)) o:=Scr.ok h mix (.rn 0 [] [] [] [] (al (al t3)) <|.br (fun a0=>.rn 0 [19] [] [] [] (aj a0 (al (u2 s2))) <|.gu fun a1=>.gu fun a2=>.el fun x15 a3=>.gu fun a4=>have c0:=pd1_c q x15 a4;.rn 0 [] [(15,iv x15)] [(16,hK c0 [1] [])] [] (al (u2 (u2 (u2 (aj (k2 (aj a1 a2)) (aj (ak (Am (f:=iv) a3)) (al (k5 (al (c0)))))))))) <|.br (fun a5=>.rt [33] [] [] [] [0,1] [] (aj (aj a5 (al (u2 s2))) t4)) (fun a5=>.lp [32] [] [] [] [] [0,1] [0,1,7,8] (aj (aj a5 (al (u2 s2))) (ak (u2 t5))))) (fun a0=>.rt [18] [] [] [] [0,1] [] (aj (aj a0 s2) t4))) (by kernel_rfl)
theorem ixl_ct(q:Ad)(l:List Int)(z:Nat)(r:Ret)(h:Ax (ixlStep q l z) (Ms q l z) r):CT UB 133 ([some (bK (l.map (AV.int .i64)) 1),some (bK [sgA q] 3)]) ([.sl 0 0 z,.fn 138 [.ptr 1 0 0]]) r.1 r.2:=
 CT.mach (fn:=Try.f133) (c:=zB Try.f133) (S:=Kk q l z) (hd:=Mz) Try.func133 (by kernel_rfl) (nL rfl)
  (fun s o ho=>match s,ho with
   | .l0 v0,ho=>ixlS0_ok q l z v0 o ho
  )
  (fun o ho=>ixlEn_ok q l z o ho) h
theorem ixl_c(q:Ad)(l:List Int)(z:Nat)(hz:z=l.length)(hl:l.length<=1000000)(hr:∀c∈l,0<=c/\c<(q.cl.length:Int)):CT UB 133 [some (Blk.mk (l.map (AV.int .i64)) 1 true true none),some (Blk.mk [sgA q] 3 true true none)] [.sl 0 0 z,.fn 138 [.ptr 1 0 0]] [some (Blk.mk (l.map (AV.int .i64)) 1 true true none),some (Blk.mk [sgA q] 3 true true none)] (.int .i64 (Iu q.cl l)):=by
 subst hz;refine ixl_ct q l l.length ([_,_],_) ?_;unfold Ms Iu;refine(Kg (fun i=>Eo.l0 (i:Int)) l.length (fun i=>q.cl.getD (l.getD i 0).toNat true) (rF:=fun i=>(([some (Blk.mk (l.map (AV.int .i64)) 1 true true none),some (Blk.mk [sgA q] 3 true true none)],.int .i64 (i:Int)):Ret)) (r:=([some (Blk.mk (l.map (AV.int .i64)) 1 true true none),some (Blk.mk [sgA q] 3 true true none)],.int .i64 (-1))) (fun i hi hp=>?_) (fun i x hi hp hx=>?_) (fun _=>?_)).res (by cases fnd (fun i=>q.cl.getD (l.getD i 0).toNat true) 0 l.length<;>rfl)
 .have hm:=hr _ (EM hi);refine .to (show EY q l l.length i=_ from ?_) (.ret _);unfold EY;rw[An (AD (by simp only[iN];omega)),Ab (by omega),Ab (by simp only[iN];omega),TP,elG 0 hi,Ab hm,An hp];rfl
 .have hm:=hr _ (EM hi);refine .to (show EY q l l.length i=_ from ?_) hx;unfold EY;rw[An (AD (by simp only[iN];omega)),Ab (by omega),Ab (by simp only[iN];omega),TP,elG 0 hi,Ab hm,Af hp,zW i (by omega)]
 .refine .to (show EY q l l.length l.length=_ from ?_) (.ret _);unfold EY;rw[Af (Ar (by simp only[iN];omega))];rfl
def cflSt(q:Ad)(l:List Int)(z:Nat):Empty->St | x=>x.elim
def cflHd:Empty->Nat | x=>x.elim
def M1(q:Ad)(l:List Int)(z:Nat):Option (Empty⊕Ret):=gu (z=l.length) <|gu (l.length<=1000000) <|gu (∀(c:Int),c∈l->0<=c/\c<iN q.cl.length) <|some (.inr ([some (bK (Uu iV l) 1),some (bK [AV.agg [UA (boL q.cl),UA (Uu iV q.bw),UA (Uu iV q.pe)]] 3)],bV (decide (0<=Iu q.cl l))))
def cflStep(q:Ad)(l:List Int)(z:Nat):Empty->Option (Empty⊕Ret) | x=>x.elim
theorem cflEn_ok(q:Ad)(l:List Int)(z:Nat)(o:Empty⊕Ret)(h:M1 q l z=some o):Arr UB Try.f137 2 (cflSt q l z) cflHd (zB Try.f137) [] {n:=Try.f137.ntmps,fr:=AH 0 ([.sl 0 0 z,.fn 138 [.ptr 1 0 0]]),hp:=([some (bK (l.map (AV.int .i64)) 1),some (bK [sgA q] 3)])} o:=Scr.ok h mix (.rn 0 [] [] [] [] s2 <|.gu fun a0=>.gu fun a1=>.gu fun a2=>have c0:=ixl_c q l z a0 a1 a2;.rt [] [] [(7,hK c0 [0,1] [])] [] [0,1] [] (aj (al (u2 (u2 (aj (k3 (u2 (k2 (al (c0))))) (u2 s2))))) t4)) (by kernel_rfl)
theorem cfl_ct(q:Ad)(l:List Int)(z:Nat)(r:Ret)(h:Ax (cflStep q l z) (M1 q l z) r):CT UB 137 ([some (bK (l.map (AV.int .i64)) 1),some (bK [sgA q] 3)]) ([.sl 0 0 z,.fn 138 [.ptr 1 0 0]]) r.1 r.2:=
 CT.mach (fn:=Try.f137) (c:=zB Try.f137) (S:=cflSt q l z) (hd:=cflHd) Try.func137 (by kernel_rfl) (nL rfl)
  (fun s o ho=>match s,ho with
   | x,_=>x.elim)
  (fun o ho=>cflEn_ok q l z o ho) h
theorem cfl_c(q:Ad)(l:List Int)(z:Nat)(hz:z=l.length)(hl:l.length<=1000000)(hr:∀c∈l,0<=c/\c<(q.cl.length:Int)):CT UB 137 [some (Blk.mk (l.map (AV.int .i64)) 1 true true none),some (Blk.mk [sgA q] 3 true true none)] [.sl 0 0 z,.fn 138 [.ptr 1 0 0]] [some (Blk.mk (l.map (AV.int .i64)) 1 true true none),some (Blk.mk [sgA q] 3 true true none)] (.bool (!(Bz q.cl l))):=by refine cfl_ct q l z ([_,_],_) (.val ?_);unfold M1;rw[Ab hz,Ab hl,Ab hr,pasZ_b];rfl
def palSt(q:Ad)(l:List Int)(z:Nat):Empty->St | x=>x.elim
def palHd:Empty->Nat | x=>x.elim
def Np(q:Ad)(l:List Int)(z:Nat):Option (Empty⊕Ret):=gu (z=l.length) <|gu (l.length<=1000000) <|gu (∀(c:Int),c∈l->0<=c/\c<iN q.cl.length) <|some (.inr ([some (bK (Uu iV l) 1)],bV !!Bz q.cl l))
def palStep(q:Ad)(l:List Int)(z:Nat):Empty->Option (Empty⊕Ret) | x=>x.elim
theorem palEn_ok(q:Ad)(l:List Int)(z:Nat)(o:Empty⊕Ret)(h:Np q l z=some o):Arr UB Try.f110 1 (palSt q l z) palHd (zB Try.f110) [] {n:=Try.f110.ntmps,fr:=AH 0 ([sgA q,.sl 0 0 z]),hp:=([some (bK (l.map (AV.int .i64)) 1)])} o:=Scr.ok h mix (.rn 0 [] [] [] [] (al (u2 t2)) <|.gu fun a0=>.gu fun a1=>.gu fun a2=>have c0:=cfl_c q l z a0 a1 a2;.rt [] [] [(7,hK c0 [0,1] [])] [] [0] [] (aj (al (u2 (u2 (aj (k3 (u2 (k2 (al (c0))))) (u2 s2))))) t3)) (by kernel_rfl)
theorem pal_ct(q:Ad)(l:List Int)(z:Nat)(r:Ret)(h:Ax (palStep q l z) (Np q l z) r):CT UB 110 ([some (bK (l.map (AV.int .i64)) 1)]) ([sgA q,.sl 0 0 z]) r.1 r.2:=
 CT.mach (fn:=Try.f110) (c:=zB Try.f110) (S:=palSt q l z) (hd:=palHd) Try.func110 (by kernel_rfl) (nL rfl)
  (fun s o ho=>match s,ho with
   | x,_=>x.elim)
  (fun o ho=>palEn_ok q l z o ho) h
theorem pal_c(q:Ad)(l:List Int)(z:Nat)(hz:z=l.length)(hl:l.length<=1000000)(hr:∀c∈l,0<=c/\c<(q.cl.length:Int)):CT UB 110 [some (Blk.mk (l.map (AV.int .i64)) 1 true true none)] [sgA q,.sl 0 0 z] [some (Blk.mk (l.map (AV.int .i64)) 1 true true none)] (.bool (Bz q.cl l)):=by refine pal_ct q l z ([_],_) (.val ?_);unfold Np;rw[Ab hz,Ab hl,Ab hr,Bool.not_not]
def rskSt(q:Ad)(l:List Int)(z:Nat):Empty->St | x=>x.elim
def rskHd:Empty->Nat | x=>x.elim
def Jx(q:Ad)(l:List Int)(z:Nat):Option (Empty⊕Ret):=gu (z=l.length) <|gu (l.length<=1000000) <|gu (∀(c:Int),c∈l->0<=c/\c<iN q.cl.length) <|br (!Bz q.cl l) (some (.inr ([some (bK (Uu iV l) 1)],AV.tup [AV.nils,bV false,iV 0]))) (some (.inr ([some (bK (Uu iV l) 1)],AV.tup [AV.sl 0 0 z,bV true,iV 0])))
def rskStep(q:Ad)(l:List Int)(z:Nat):Empty->Option (Empty⊕Ret) | x=>x.elim
theorem rskEn_ok(q:Ad)(l:List Int)(z:Nat)(o:Empty⊕Ret)(h:Jx q l z=some o):Arr UB Try.f64 1 (rskSt q l z) rskHd (zB Try.f64) [] {n:=Try.f64.ntmps,fr:=AH 0 ([sgA q,.sl 0 0 z]),hp:=([some (bK (l.map (AV.int .i64)) 1)])} o:=Scr.ok h mix (.rn 0 [] [] [] [] (al (u2 t4)) <|.gu fun a0=>.gu fun a1=>.gu fun a2=>have c0:=pal_c q l z a0 a1 a2;.rn 0 [] [] [(9,hK c0 [0] [])] [] (al (u2 (u2 (aj (k2 (aj t4 (k2 (al (c0))))) s2)))) <|.br (fun a3=>.rt [21] [] [] [] [0] [] (aj (aj a3 (al t4)) (aj t4 t2))) (fun a3=>.rt [20] [] [] [] [0] [] (aj (aj a3 (al (u2 (u2 t3)))) (aj t4 t2)))) (by kernel_rfl)
theorem P5(q:Ad)(l:List Int)(z:Nat)(r:Ret)(h:Ax (rskStep q l z) (Jx q l z) r):CT UB 64 ([some (bK (l.map (AV.int .i64)) 1)]) ([sgA q,.sl 0 0 z]) r.1 r.2:=
 CT.mach (fn:=Try.f64) (c:=zB Try.f64) (S:=rskSt q l z) (hd:=rskHd) Try.func64 (by kernel_rfl) (nL rfl)
  (fun s o ho=>match s,ho with
   | x,_=>x.elim)
  (fun o ho=>rskEn_ok q l z o ho) h
inductive D5 where | l0 (v0 v1:Int) | l1 (v0:List Int) (v1:Int)
def E7(l y z:List Int):D5->St | .l0 v0 v1=>St.mk 36 [(0,AV.sl 0 0 3),(3,iv v0),(9,AV.sl 0 0 3),(10,iv 3),(11,iv v1)] [some (bK [UA (Uu iv l),UA (Uu iv y),UA (Uu iv z)] 1)] | .l1 v0 v1=>St.mk 36 [(6,AV.sl 1 0 v0.length),(25,AV.sl 0 0 3),(26,iv 3),(27,iv v1)] [some (bK [UA (Uu iv l),UA (Uu iv y),UA (Uu iv z)] 1),some (bK (Uu iv v0) 1)]
def JI:D5->Nat | .l0 _ _=>0 | .l1 _ _=>1
def L3(l y z:List Int):Option (D5⊕Ret):=some (.inl (.l0 ((0:Int)) ((0:Int))))
def Ee(l y z:List Int)(v0 v1:Int):Option (D5⊕Ret):=br (decide (v1<3)) (gu (0<=v1) <|gu (v1<3) <|el ([l,y,z]) (0+v1.toNat) fun(x14:List Int)=>br (decide (i64.wrap (v0+iN (Uu iV x14).length)<0)) (none) (some (.inl (.l0 (i64.wrap (v0+iN (Uu iV x14).length)) (i64.wrap (v1+1)))))) (gu (0<=v0/\v0<=10000000000) <|some (.inl (.l1 ([]) ((0:Int)))))
def El(l y z:List Int)(v0:List Int)(v1:Int):Option (D5⊕Ret):=br (decide (v1<3)) (gu (0<=v1) <|gu (v1<3) <|el ([l,y,z]) (0+v1.toNat) fun(x30:List Int)=>gu (∀(e:AV),e∈Uu iV x30->e.cells.length=1) <|gu ((Uu iV v0).length+(Uu iV x30).length<=9223372036854775807) <|gu (((Uu iV v0).length+(Uu iV x30).length) * 8<=140737488355328) <|some (.inl (.l1 (v0++x30) (i64.wrap (v1+1))))) (some (.inr ([some (bK [UA (Uu iV l),UA (Uu iV y),UA (Uu iV z)] 1),some (bK (Uu iV v0) 1)],AV.sl 1 0 v0.length)))
def cc3Step(l y z:List Int):D5->Option (D5⊕Ret) | .l0 v0 v1=>Ee l y z v0 v1 | .l1 v0 v1=>El l y z v0 v1
theorem cc3En_ok(l y z:List Int)(o:D5⊕Ret)(h:L3 l y z=some o):Arr UB Try.f68 1 (E7 l y z) JI (zB Try.f68) [] {n:=Try.f68.ntmps,fr:=AH 0 ([.sl 0 0 3]),hp:=([some (bK [lI l,lI y,lI z] 1)])} o:=Scr.ok h mix (.lp [] [] [] [] [] [0] [0,3,9,10,11] (aj (u2 (u2 (al (u2 (u2 t2))))) t7)) (by kernel_rfl)
theorem cc3S0_ok(l y z:List Int)(v0 v1:Int)(o:D5⊕Ret)(h:Ee l y z v0 v1=some o):Arr UB Try.f68 1 (E7 l y z) JI (Aw Try.f68 0) (.rnd (Aw Try.f68 0)::AJ Try.f68 0) (E7 l y z (.l0 v0 v1)) o:=Scr.ok h mix (.rn 0 [] [] [] [] (al (al t3)) <|.br (fun a0=>.gu fun a1=>.gu fun a2=>.el fun x14 a3=>.rn 2 [25] [(14,lI x14)] [] [] (aj a0 (aj (aj (k2 (aj a1 a2)) (aj (ak (Am (f:=lI) a3)) s2)) (aj (u2 (u2 (u2 (aj t3 s2)))) (al (u2 s2))))) <|.br (fun a4=>.no) (fun a4=>.lp [40] [] [] [] [] [0] [0,3,9,10,11] (aj (aj a4 (al (u2 s2))) t7))) (fun a0=>.gu fun a1=>have c0:=Pw v0 a1;.lp [24] [] [(24,hK c0 [] [])] [] [] [0,1] [6,25,26,27] (aj (aj a0 (aj (u2 (aj (k3 (al (c0))) s2)) (al (u2 (u2 t2))))) t7))) (by kernel_rfl)
theorem cc3S1_ok(l y z:List Int)(v0:List Int)(v1:Int)(o:D5⊕Ret)(h:El l y z v0 v1=some o):Arr UB Try.f68 1 (E7 l y z) JI (Aw Try.f68 1) (.rnd (Aw Try.f68 1)::AJ Try.f68 1) (E7 l y z (.l1 v0 v1)) o:=Scr.ok h mix (.rn 0 [] [] [] [] (al (al t3)) <|.br (fun a0=>.gu fun a1=>.gu fun a2=>.el fun x30 a3=>.rn 0 [57] [(30,lI x30)] [] [] (aj a0 (al (aj (k2 (aj a1 a2)) (aj (ak (Am (f:=lI) a3)) s2)))) <|.gu fun a4=>.gu fun a5=>.gu fun a6=>.lq [] [] [] [] [] [0,2] [6,25,26,27] (up [(6,AV.sl 1 0 ((Uu iv v0).length+(Uu iv x30).length))] [(1,Uu iv v0++Uu iv x30)] (E7 l y z (.l1 (v0++x30) (i64.wrap (v1+1))))) (aj (aj (u2 (u2 (aj (k2 (aj (show(Uu iv v0).length=v0.length by simp) (aj a4 (aj a5 a6)))) s2))) (al (u2 s2))) t7) (by simp[up,upF,upV,upH,upB,E7,gL,boL,lI])) (fun a0=>.rt [56] [] [] [] [0,1] [] (aj (aj a0 (al (u2 s2))) t4))) (by kernel_rfl)
theorem cc3_ct(l y z:List Int)(r:Ret)(h:Ax (cc3Step l y z) (L3 l y z) r):CT UB 68 ([some (bK [lI l,lI y,lI z] 1)]) ([.sl 0 0 3]) r.1 r.2:=
 CT.mach (fn:=Try.f68) (c:=zB Try.f68) (S:=E7 l y z) (hd:=JI) Try.func68 (by kernel_rfl) (nL rfl)
  (fun s o ho=>match s,ho with
   | .l0 v0 v1,ho=>cc3S0_ok l y z v0 v1 o ho
   | .l1 v0 v1,ho=>cc3S1_ok l y z v0 v1 o ho
  )
  (fun o ho=>cc3En_ok l y z o ho) h
inductive DX where | l0 (v0 v1:Int) | l1 (v0:List Int) (v1:Int)
def Fy(y z:List Int):DX->St | .l0 v0 v1=>St.mk 36 [(0,AV.sl 0 0 2),(3,iv v0),(9,AV.sl 0 0 2),(10,iv 2),(11,iv v1)] [some (bK [UA (Uu iv y),UA (Uu iv z)] 1)] | .l1 v0 v1=>St.mk 36 [(6,AV.sl 1 0 v0.length),(25,AV.sl 0 0 2),(26,iv 2),(27,iv v1)] [some (bK [UA (Uu iv y),UA (Uu iv z)] 1),some (bK (Uu iv v0) 1)]
def Jk:DX->Nat | .l0 _ _=>0 | .l1 _ _=>1
def K7(y z:List Int):Option (DX⊕Ret):=some (.inl (.l0 ((0:Int)) ((0:Int))))
def E8(y z:List Int)(v0 v1:Int):Option (DX⊕Ret):=br (decide (v1<2)) (gu (0<=v1) <|gu (v1<2) <|el ([y,z]) (0+v1.toNat) fun(x14:List Int)=>br (decide (i64.wrap (v0+iN (Uu iV x14).length)<0)) (none) (some (.inl (.l0 (i64.wrap (v0+iN (Uu iV x14).length)) (i64.wrap (v1+1)))))) (gu (0<=v0/\v0<=10000000000) <|some (.inl (.l1 ([]) ((0:Int)))))
def Fe(y z:List Int)(v0:List Int)(v1:Int):Option (DX⊕Ret):=br (decide (v1<2)) (gu (0<=v1) <|gu (v1<2) <|el ([y,z]) (0+v1.toNat) fun(x30:List Int)=>gu (∀(e:AV),e∈Uu iV x30->e.cells.length=1) <|gu ((Uu iV v0).length+(Uu iV x30).length<=9223372036854775807) <|gu (((Uu iV v0).length+(Uu iV x30).length) * 8<=140737488355328) <|some (.inl (.l1 (v0++x30) (i64.wrap (v1+1))))) (some (.inr ([some (bK [UA (Uu iV y),UA (Uu iV z)] 1),some (bK (Uu iV v0) 1)],AV.sl 1 0 v0.length)))
def cc2Step(y z:List Int):DX->Option (DX⊕Ret) | .l0 v0 v1=>E8 y z v0 v1 | .l1 v0 v1=>Fe y z v0 v1
theorem cc2En_ok(y z:List Int)(o:DX⊕Ret)(h:K7 y z=some o):Arr UB Try.f68 1 (Fy y z) Jk (zB Try.f68) [] {n:=Try.f68.ntmps,fr:=AH 0 ([.sl 0 0 2]),hp:=([some (bK [lI y,lI z] 1)])} o:=Scr.ok h mix (.lp [] [] [] [] [] [0] [0,3,9,10,11] (aj (u2 (u2 (al (u2 (u2 t2))))) t7)) (by kernel_rfl)
theorem cc2S0_ok(y z:List Int)(v0 v1:Int)(o:DX⊕Ret)(h:E8 y z v0 v1=some o):Arr UB Try.f68 1 (Fy y z) Jk (Aw Try.f68 0) (.rnd (Aw Try.f68 0)::AJ Try.f68 0) (Fy y z (.l0 v0 v1)) o:=Scr.ok h mix (.rn 0 [] [] [] [] (al (al t3)) <|.br (fun a0=>.gu fun a1=>.gu fun a2=>.el fun x14 a3=>.rn 2 [25] [(14,lI x14)] [] [] (aj a0 (aj (aj (k2 (aj a1 a2)) (aj (ak (Am (f:=lI) a3)) s2)) (aj (u2 (u2 (u2 (aj t3 s2)))) (al (u2 s2))))) <|.br (fun a4=>.no) (fun a4=>.lp [40] [] [] [] [] [0] [0,3,9,10,11] (aj (aj a4 (al (u2 s2))) t7))) (fun a0=>.gu fun a1=>have c0:=Pw v0 a1;.lp [24] [] [(24,hK c0 [] [])] [] [] [0,1] [6,25,26,27] (aj (aj a0 (aj (u2 (aj (k3 (al (c0))) s2)) (al (u2 (u2 t2))))) t7))) (by kernel_rfl)
theorem cc2S1_ok(y z:List Int)(v0:List Int)(v1:Int)(o:DX⊕Ret)(h:Fe y z v0 v1=some o):Arr UB Try.f68 1 (Fy y z) Jk (Aw Try.f68 1) (.rnd (Aw Try.f68 1)::AJ Try.f68 1) (Fy y z (.l1 v0 v1)) o:=Scr.ok h mix (.rn 0 [] [] [] [] (al (al t3)) <|.br (fun a0=>.gu fun a1=>.gu fun a2=>.el fun x30 a3=>.rn 0 [57] [(30,lI x30)] [] [] (aj a0 (al (aj (k2 (aj a1 a2)) (aj (ak (Am (f:=lI) a3)) s2)))) <|.gu fun a4=>.gu fun a5=>.gu fun a6=>.lq [] [] [] [] [] [0,2] [6,25,26,27] (up [(6,AV.sl 1 0 ((Uu iv v0).length+(Uu iv x30).length))] [(1,Uu iv v0++Uu iv x30)] (Fy y z (.l1 (v0++x30) (i64.wrap (v1+1))))) (aj (aj (u2 (u2 (aj (k2 (aj (show(Uu iv v0).length=v0.length by simp) (aj a4 (aj a5 a6)))) s2))) (al (u2 s2))) t7) (by simp[up,upF,upV,upH,upB,Fy,gL,boL,lI])) (fun a0=>.rt [56] [] [] [] [0,1] [] (aj (aj a0 (al (u2 s2))) t4))) (by kernel_rfl)
theorem cc2_ct(y z:List Int)(r:Ret)(h:Ax (cc2Step y z) (K7 y z) r):CT UB 68 ([some (bK [lI y,lI z] 1)]) ([.sl 0 0 2]) r.1 r.2:=
 CT.mach (fn:=Try.f68) (c:=zB Try.f68) (S:=Fy y z) (hd:=Jk) Try.func68 (by kernel_rfl) (nL rfl)
  (fun s o ho=>match s,ho with
   | .l0 v0 v1,ho=>cc2S0_ok y z v0 v1 o ho
   | .l1 v0 v1,ho=>cc2S1_ok y z v0 v1 o ho
  )
  (fun o ho=>cc2En_ok y z o ho) h
theorem G2(q:Ad)(l:List Int)(z:Nat)(hz:z=l.length)(hl:l.length<=1000000)(hr:∀c∈l,0<=c/\c<(q.cl.length:Int))(hp:Bz q.cl l=true):CT UB 64 [some (Blk.mk (l.map (AV.int .i64)) 1 true true none)] [sgA q,.sl 0 0 z] [some (Blk.mk (l.map (AV.int .i64)) 1 true true none)] (.tup [.sl 0 0 z,.bool true,.int .i64 0]):=by refine P5 q l z ([_],_) (.val ?_);unfold Jx;rw[Ab hz,Ab hl,Ab hr,hp,Af (by rfl)]
theorem rsF_c(q:Ad)(l:List Int)(z:Nat)(hz:z=l.length)(hl:l.length<=1000000)(hr:∀c∈l,0<=c/\c<(q.cl.length:Int))(hp:Bz q.cl l=false):CT UB 64 [some (Blk.mk (l.map (AV.int .i64)) 1 true true none)] [sgA q,.sl 0 0 z] [some (Blk.mk (l.map (AV.int .i64)) 1 true true none)] (.tup [.nils,.bool false,.int .i64 0]):=by refine P5 q l z ([_],_) (.val ?_);unfold Jx;rw[Ab hz,Ab hl,Ab hr,hp,An (by rfl)]
theorem JE(l y z:List Int)(hl:(l++y++z).length<=1000000):CT UB 68 [some (Blk.mk [lI l,lI y,lI z] 1 true true none)] [.sl 0 0 3] [some (Blk.mk [.any,.any,.any] 1 true true none),some (Blk.mk ((l++y++z).map (AV.int .i64)) 1 true true none)] (.sl 1 0 (l++y++z).length):=by
 simp only[TU] at hl;obtain⟨h1,h2,h3⟩:l.length<=1000000/\y.length<=1000000/\z.length<=1000000:=⟨by omega,by omega,by omega⟩;refine CT.lessOut (hout:=[some (Blk.mk [lI l,lI y,lI z] 1 true true none),some (Blk.mk ((l++y++z).map (AV.int .i64)) 1 true true none)]) ?_ rfl fun b blk' hb=>?_
 .refine cc3_ct l y z ([_,_],_) ?_;unfold L3;have w1:i64.wrap (0+iN (Uu (AV.int i64) l).length)=(l.length:Int):=by rw[Int.zero_add,C0]<;>simp only[iN,TA]<;>omega
  have w2:i64.wrap ((l.length:Int)+iN (Uu (AV.int i64) y).length)=((l.length+y.length:Nat):Int):=by rw[C0]<;>simp only[iN,TA]<;>omega
  have w5:i64.wrap (((l.length+y.length:Nat):Int)+iN (Uu (AV.int i64) z).length)=((l.length+y.length+z.length:Nat):Int):=by rw[C0]<;>simp only[iN,TA]<;>omega
  have w3:i64.wrap (0+1)=1:=by decide
  have w4:i64.wrap (1+1)=2:=by decide
  have w6:i64.wrap (2+1)=3:=by decide
  refine .to (show Ee l y z 0 0=some (.inl (.l0 (l.length:Int) 1)) from ?_) (.to (show Ee l y z _ 1=some (.inl (.l0 ((l.length+y.length:Nat):Int) 2)) from ?_) (.to (show Ee l y z _ 2=some (.inl (.l0 ((l.length+y.length+z.length:Nat):Int) 3)) from ?_) (.to (show Ee l y z _ 3=some (.inl (.l1 [] 0)) from ?_) (.to (show El l y z [] 0=some (.inl (.l1 l 1)) from ?_) (.to (show El l y z l 1=some (.inl (.l1 (l++y) 2)) from ?_) (.to (show El l y z (l++y) 2=some (.inl (.l1 (l++y++z) 3)) from ?_) (.to (show El l y z (l++y++z) 3=_ from ?_) (.ret _))))))))
  .unfold Ee;rw[An (AD (by omega)),Ab (by omega),Ab (by omega),AF (show [l,y,z][0+Uz 0]?=some l from rfl),w1,Af (Ar (by omega)),w3]
  .unfold Ee;rw[An (AD (by omega)),Ab (by omega),Ab (by omega),AF (show [l,y,z][0+Uz 1]?=some y from rfl),w2,Af (Ar (by omega)),w4]
  .unfold Ee;rw[An (AD (by omega)),Ab (by omega),Ab (by omega),AF (show [l,y,z][0+Uz 2]?=some z from rfl),w5,Af (Ar (by omega)),w6]
  .unfold Ee;rw[Af (Ar (by omega)),Ab (by omega)]
  .unfold El;rw[An (AD (by omega)),Ab (by omega),Ab (by omega),AF (show [l,y,z][0+Uz 0]?=some l from rfl),Ab (B4 _),Ab (by simp only[TA,Ue];omega),Ab (by simp only[TA,Ue];omega),w3,List.nil_append]
  .unfold El;rw[An (AD (by omega)),Ab (by omega),Ab (by omega),AF (show [l,y,z][0+Uz 1]?=some y from rfl),Ab (B4 _),Ab (by simp only[TA];omega),Ab (by simp only[TA];omega),w4]
  .unfold El;rw[An (AD (by omega)),Ab (by omega),Ab (by omega),AF (show [l,y,z][0+Uz 2]?=some z from rfl),Ab (B4 _),Ab (by simp only[TA,TU];omega),Ab (by simp only[TA,TU];omega),w6]
  .unfold El;rw[Af (Ar (by omega))];rfl
 .match b,hb with
  | 0,hb=>cases hb;exact⟨_,rfl,⟨rfl,fun _=>rfl,rfl,TI _,fun i e he=>(by
    match i,he with
    | 0,he=>cases he;exact⟨_,rfl,rfl,fun j c hc=>(by match j,hc with | 0,hc=>cases hc;exact⟨_,rfl,Bj.any rfl⟩)⟩
    | 1,he=>cases he;exact⟨_,rfl,rfl,fun j c hc=>(by match j,hc with | 0,hc=>cases hc;exact⟨_,rfl,Bj.any rfl⟩)⟩
    | 2,he=>cases he;exact⟨_,rfl,rfl,fun j c hc=>(by match j,hc with | 0,hc=>cases hc;exact⟨_,rfl,Bj.any rfl⟩)⟩),fun _ e he=>(by simp only[T2,List.not_mem_nil,or_false] at he;rcases he with rfl | rfl | rfl<;>intro c hc<;>rw[Tm.1 hc]<;>rfl),fun e=>(by cases e)⟩,rfl⟩
  | 1,hb=>cases hb;exact⟨_,rfl,Cg.refl (fun _ e he=>by obtain⟨x,_,rfl⟩:=T4.1 he;intro c hc;rw[Tm.1 hc];rfl),rfl⟩
  | b+2,hb=>simp[nth] at hb
theorem cc2_c(y z:List Int)(hl:(y++z).length<=1000000):CT UB 68 [some (Blk.mk [lI y,lI z] 1 true true none)] [.sl 0 0 2] [some (Blk.mk [.any,.any] 1 true true none),some (Blk.mk ((y++z).map (AV.int .i64)) 1 true true none)] (.sl 1 0 (y++z).length):=by
 simp only[TU] at hl;obtain⟨hy,hz⟩:y.length<=1000000/\z.length<=1000000:=⟨by omega,by omega⟩;refine CT.lessOut (hout:=[some (Blk.mk [lI y,lI z] 1 true true none),some (Blk.mk ((y++z).map (AV.int .i64)) 1 true true none)]) ?_ rfl fun b blk' hb=>?_
 .refine cc2_ct y z ([_,_],_) ?_;unfold K7;have w1:i64.wrap (0+iN (Uu (AV.int i64) y).length)=(y.length:Int):=by rw[Int.zero_add,C0]<;>simp only[iN,TA]<;>omega
  have w2:i64.wrap ((y.length:Int)+iN (Uu (AV.int i64) z).length)=((y.length+z.length:Nat):Int):=by rw[C0]<;>simp only[iN,TA]<;>omega
  have w3:i64.wrap (0+1)=1:=by decide
  have w4:i64.wrap (1+1)=2:=by decide
  refine .to (show E8 y z 0 0=some (.inl (.l0 (y.length:Int) 1)) from ?_) (.to (show E8 y z _ 1=some (.inl (.l0 ((y.length+z.length:Nat):Int) 2)) from ?_) (.to (show E8 y z _ 2=some (.inl (.l1 [] 0)) from ?_) (.to (show Fe y z [] 0=some (.inl (.l1 y 1)) from ?_) (.to (show Fe y z y 1=some (.inl (.l1 (y++z) 2)) from ?_) (.to (show Fe y z (y++z) 2=_ from ?_) (.ret _))))))
  .unfold E8;rw[An (AD (by omega)),Ab (by omega),Ab (by omega),AF (show [y,z][0+Uz 0]?=some y from rfl),w1,Af (Ar (by omega)),w3]
  .unfold E8;rw[An (AD (by omega)),Ab (by omega),Ab (by omega),AF (show [y,z][0+Uz 1]?=some z from rfl),w2,Af (Ar (by omega)),w4]
  .unfold E8;rw[Af (Ar (by omega)),Ab (by omega)]
  .unfold Fe;rw[An (AD (by omega)),Ab (by omega),Ab (by omega),AF (show [y,z][0+Uz 0]?=some y from rfl),Ab (B4 _),Ab (by simp only[TA,Ue];omega),Ab (by simp only[TA,Ue];omega),w3,List.nil_append]
  .unfold Fe;rw[An (AD (by omega)),Ab (by omega),Ab (by omega),AF (show [y,z][0+Uz 1]?=some z from rfl),Ab (B4 _),Ab (by simp only[TA];omega),Ab (by simp only[TA];omega),w4]
  .unfold Fe;rw[Af (Ar (by omega))];rfl
 .match b,hb with
  | 0,hb=>cases hb;exact⟨_,rfl,⟨rfl,fun _=>rfl,rfl,TI _,fun i e he=>(by
    match i,he with
    | 0,he=>cases he;exact⟨_,rfl,rfl,fun j c hc=>(by match j,hc with | 0,hc=>cases hc;exact⟨_,rfl,Bj.any rfl⟩)⟩
    | 1,he=>cases he;exact⟨_,rfl,rfl,fun j c hc=>(by match j,hc with | 0,hc=>cases hc;exact⟨_,rfl,Bj.any rfl⟩)⟩),fun _ e he=>(by simp only[T2,List.not_mem_nil,or_false] at he;rcases he with rfl | rfl<;>intro c hc<;>rw[Tm.1 hc]<;>rfl),fun e=>(by cases e)⟩,rfl⟩
  | 1,hb=>cases hb;exact⟨_,rfl,Cg.refl (fun _ e he=>by obtain⟨x,_,rfl⟩:=T4.1 he;intro c hc;rw[Tm.1 hc];rfl),rfl⟩
  | b+2,hb=>simp[nth] at hb
inductive Ep where | l0 (v0:Int) (v1:List Bool)
def GE(n:Aa)(q:Ad):Ep->St | .l0 v0 v1=>St.mk 28 [(6,AV.sl 0 0 (boL q.cl).length),(17,UA (Uu iv q.pe)),(18,iv (iN (Uu iv q.pe).length)),(19,iv v0)] [some (bK (Uu bV v1) 1)]
def Lv:Ep->Nat | .l0 _ _=>0
def NG(n:Aa)(q:Ad):Option (Ep⊕Ret):=gu (Rows n.nx) <|br (!BP n q) (some (.inr ([],AV.tup [AV.nils,iV 20]))) (gu (q.cl.length<=1000000) <|some (.inl (.l0 ((0:Int)) (q.cl))))
def Gp(n:Aa)(q:Ad)(v0:Int)(v1:List Bool):Option (Ep⊕Ret):=br (decide (v0<iN (Uu iV q.pe).length)) (gu (0<=v0) <|el (q.pe) (v0.toNat) fun(x21:Int)=>gu (0<=x21) <|gu (x21<iN (boL q.cl).length) <|gu ((0+x21.toNat).succ.le (Uu bV v1).length) <|some (.inl (.l0 (i64.wrap (v0+1)) (v1.set (0+x21.toNat) true)))) (gu ((boL q.cl).length=(Uu bV v1).length) <|some (.inr ([],AV.tup [UA (Uu bV v1),iV 0])))
def sshStep(n:Aa)(q:Ad):Ep->Option (Ep⊕Ret) | .l0 v0 v1=>Gp n q v0 v1
theorem sshEn_ok(n:Aa)(q:Ad)(o:Ep⊕Ret)(h:NG n q=some o):Arr UB Try.f24 0 (GE n q) Lv (zB Try.f24) [] {n:=Try.f24.ntmps,fr:=AH 0 ([Ai n,sgA q]),hp:=([])} o:=Scr.ok h mix (.rn 0 [] [] [] [] (al (u2 (u2 t3))) <|.gu fun a0=>have c0:=sva_c (q.cl) (q.bw) (q.pe) a0;.rn 0 [] [] [(11,hK c0 [] [])] [] (al (u2 (u2 (aj (k2 (aj t9 (aj t4 (al (c0))))) s2)))) <|.br (fun a1=>.rt [25] [] [] [] [] [] (aj (aj a1 (al t3)) (al t3))) (fun a1=>.gu fun a2=>have c1:=clb_c (q.cl) a2;.lp [24] [] [(15,hK c1 [] [])] [] [] [2] [6,17,18,19] (aj (aj a1 (aj (u2 (u2 (aj (k2 (al (c1))) s2))) (al (u2 (u2 (u2 t2)))))) t6))) (by kernel_rfl)
theorem sshS0_ok(n:Aa)(q:Ad)(v0:Int)(v1:List Bool)(o:Ep⊕Ret)(h:Gp n q v0 v1=some o):Arr UB Try.f24 0 (GE n q) Lv (Aw Try.f24 0) (.rnd (Aw Try.f24 0)::AJ Try.f24 0) (GE n q (.l0 v0 v1)) o:=Scr.ok h mix (.rn 0 [] [] [] [] (al (al t3)) <|.br (fun a0=>.gu fun a1=>.el fun x21 a2=>.rn 0 [41] [(21,iv x21)] [] [] (aj a0 (al (aj (k2 (aj a1 (Am (f:=iv) a2))) (u2 s2)))) <|.gu fun a3=>.gu fun a4=>.gu fun a5=>.lq [] [] [] [] [] [0] [6,17,18,19] (up [] [(0,(Uu bV v1).set (0+x21.toNat) (bV true))] (GE n q (.l0 (i64.wrap (v0+1)) (v1.set (0+x21.toNat) true)))) (aj (aj (u2 (u2 (aj (k2 (aj a3 a4)) (al (ak a5))))) (al (u2 s2))) t6) (by simp[up,upF,upV,upH,upB,GE,gL,boL,lI,sA,bA])) (fun a0=>.rn 0 [40] [] [] [] (aj a0 (al (u2 (u2 t2)))) <|.gu fun a1=>.rt [] [] [] [] [] [0] (ak (al (aj a1 t2))))) (by kernel_rfl)
theorem ssh_ct(n:Aa)(q:Ad)(r:Ret)(h:Ax (sshStep n q) (NG n q) r):CT UB 24 ([]) ([Ai n,sgA q]) r.1 r.2:=
 CT.mach (fn:=Try.f24) (c:=zB Try.f24) (S:=GE n q) (hd:=Lv) Try.func24 (by kernel_rfl) (nL rfl)
  (fun s o ho=>match s,ho with
   | .l0 v0 v1,ho=>sshS0_ok n q v0 v1 o ho
  )
  (fun o ho=>sshEn_ok n q o ho) h
def NI(n:Aa)(q:Ad)(c:Int):Empty->St | x=>x.elim
def PC:Empty->Nat | x=>x.elim
def LY(n:Aa)(q:Ad)(c:Int):Option (Empty⊕Ret):=gu (Rows n.nx) <|br (!BP n q) (some (.inr ([],AV.tup [AV.agg [AV.nils,AV.nils,AV.nils],iV 20]))) (br (decide (c<0)) (some (.inr ([],AV.tup [AV.agg [AV.nils,AV.nils,AV.nils],iV 19]))) (br (decide (iN (Uu bA n.bs).length<=c)) (some (.inr ([],AV.tup [AV.agg [AV.nils,AV.nils,AV.nils],iV 19]))) (gu (q.cl.length<=1000000) <|gu (q.pe.length<=1000000) <|gu (∀(b:Int),b∈q.pe->0<=b/\b<iN q.cl.length) <|gu (0<=c) <|el (Bb q) (c.toNat) fun(x26:Bool)=>br x26 (some (.inr ([],AV.tup [AV.agg [AV.nils,AV.nils,AV.nils],iV 24]))) (gu (q.bw.length<=1000000) <|gu ((Uu iV (wo q.pe (-1))).length+[iV c].length<=9223372036854775807) <|gu (((Uu iV (wo q.pe (-1))).length+[iV c].length) * 8<=140737488355328) <|some (.inr ([],AV.tup [AV.agg [UA (boL q.cl),UA (Uu iV q.bw),UA (Uu iV (wo q.pe (-1))++[iV c])],iV 0]))))))
def rannStep(n:Aa)(q:Ad)(c:Int):Empty->Option (Empty⊕Ret) | x=>x.elim
theorem Sf(n:Aa)(q:Ad)(c:Int)(o:Empty⊕Ret)(h:LY n q c=some o):Arr UB Try.f59 0 (NI n q c) PC (zB Try.f59) [] {n:=Try.f59.ntmps,fr:=AH 0 ([Ai n,sgA q,.int .i64 c]),hp:=([])} o:=Scr.ok h mix (.rn 0 [] [] [] [] (al (u2 (u2 t3))) <|.gu fun a0=>have c0:=r20v_c (q.cl) (q.bw) (q.pe) a0;.rn 0 [] [] [(10,hK c0 [] [])] [] (al (u2 (u2 (aj (k2 (aj t9 (aj t4 (al (c0))))) s2)))) <|.br (fun a1=>.rt [23] [] [] [] [] [] (aj (aj a1 (al (ak (aj (k2 n11) t2)))) (al (aj t4 t2)))) (fun a1=>.br (fun a2=>.rt [22,31] [] [] [] [] [] (aj (aj a1 (aj (u2 (u2 (u2 (aj a2 (aj a2 (aj a2 (aj a2 (aj a2 (al (aj a2 t2)))))))))) (ak (al (ak (aj (k2 n11) t2)))))) (al (aj t4 t2)))) (fun a2=>.rn 0 [22,30] [] [] [] (aj a1 (al (u2 (u2 (u2 (ag a2 (ag a2 (ag a2 (ag a2 (aj (aj a2 t3) (al (aj a2 t2)))))))))))) <|.br (fun a3=>.rt [30,43] [] [] [] [] [] (aj (aj a3 (al (ak (aj (k2 n11) t2)))) (al (aj t4 t2)))) (fun a3=>.gu fun a4=>.gu fun a5=>.gu fun a6=>.gu fun a7=>.el fun x26 a8=>have c1:=cel_c q a4 a5 a6;.rn 0 [30,42] [(26,bV x26)] [(24,hK c1 [] [])] [] (aj a3 (al (u2 (aj (ak (aj t4 (al (c1)))) (u2 (aj (k2 (aj a7 (Am (f:=bV) a8))) s2)))))) <|.br (fun a9=>.rt [30,55] [] [] [] [] [] (aj (aj a9 (al (ak (aj (k2 n11) t2)))) (al (aj t4 t2)))) (fun a9=>.gu fun a10=>have c2:=rcp_c (q.cl) (q.bw) (q.pe) (-1) a4 a10 a5;.rn 0 [30,54] [] [(30,hK c2 [] [])] [] (aj a9 (al (u2 (aj (ak (aj t4 (ak (al (c2))))) (al (k2 (show Nat.le 1 [AV.agg [UA (boL q.cl),UA (Uu iv q.bw),UA (Uu iv q.pe)]].length from(nL rfl)))))))) <|.gu fun a11=>.gu fun a12=>.rt [30] [] [] [] [] [3,4,7] (aj (aj (u2 (u2 (u2 (u2 (aj (k2 (aj (show(Uu iv (wo q.pe (-1))).length=(wo q.pe (-1)).length by simp) (aj (aj (show nat_lit 1=nat_lit 1 from rfl) (show 1<=[iv c].length by simp)) (aj a11 a12)))) (u2 (al t3))))))) (al (u2 (aj (k2 n11) t2)))) (al (aj (aj (show(boL q.cl).length=(boL q.cl).length from rfl) (aj (show q.bw.length=(Uu iv q.bw).length by simp) (al (show(Uu iv (wo q.pe (-1))).length+[iv c].length=(Uu iv (wo q.pe (-1))++[iv c]).length by simp)))) t2)))))))) (by kernel_rfl)
theorem rann_ct(n:Aa)(q:Ad)(c:Int)(r:Ret)(h:Ax (rannStep n q c) (LY n q c) r):CT UB 59 ([]) ([Ai n,sgA q,.int .i64 c]) r.1 r.2:=
 CT.mach (fn:=Try.f59) (c:=zB Try.f59) (S:=NI n q c) (hd:=PC) Try.func59 (by kernel_rfl) (nL rfl)
  (fun s o ho=>match s,ho with
   | x,_=>x.elim)
  (fun o ho=>Sf n q c o ho) h
def Pa(q:Ad)(c d:Int):Empty->St | x=>x.elim
def PM:Empty->Nat | x=>x.elim
def MH(q:Ad)(c d:Int):Option (Empty⊕Ret):=gu (q.cl.length<=1000000) <|gu (q.bw.length<=1000000) <|gu (q.pe.length<=1000000) <|gu (0<=c) <|gu (c<iN (boL q.cl).length) <|el (q.cl) (0+c.toNat) fun(x14:Bool)=>br (!x14) (gu ((0+c.toNat).succ.le (boL q.cl).length) <|gu (c<iN q.bw.length) <|gu ((0+c.toNat).succ.le (Uu iV q.bw).length) <|some (.inr ([],AV.agg [UA ((boL q.cl).set (0+c.toNat) (bV true)),UA ((Uu iV q.bw).set (0+c.toNat) (iV d)),UA (Uu iV (wo q.pe c))]))) (some (.inr ([],AV.agg [UA (boL q.cl),UA (Uu iV q.bw),UA (Uu iV (wo q.pe c))])))
def rshsStep(q:Ad)(c d:Int):Empty->Option (Empty⊕Ret) | x=>x.elim
theorem Rm(q:Ad)(c d:Int)(o:Empty⊕Ret)(h:MH q c d=some o):Arr UB Try.f60 0 (Pa q c d) PM (zB Try.f60) [] {n:=Try.f60.ntmps,fr:=AH 0 ([sgA q,.int .i64 c,.int .i64 d]),hp:=([])} o:=Scr.ok h mix (.rn 0 [] [] [] [] (al (u2 t2)) <|.gu fun a0=>.gu fun a1=>.gu fun a2=>have c0:=rcp_c (q.cl) (q.bw) (q.pe) c a0 a1 a2;.rn 0 [] [] [(9,hK c0 [] [])] [] (al (u2 (u2 (aj (k2 (aj t4 (ak (al (c0))))) (al (k2 (show Nat.le 1 [AV.agg [UA (boL q.cl),UA (Uu iv q.bw),UA (Uu iv q.pe)]].length from(nL rfl)))))))) <|.gu fun a3=>.gu fun a4=>.el fun x14 a5=>.rn 0 [] [(14,bV x14)] [] [] (al (u2 (u2 (u2 (aj (k2 (aj a3 a4)) (aj (ak (Am (f:=bV) a5)) s2)))))) <|.br (fun a6=>.gu fun a7=>.gu fun a8=>.gu fun a9=>.rt [31] [] [] [] [] [2,3,4] (aj (aj a6 (aj (u2 (u2 (u2 (u2 (u2 (u2 (u2 (aj (k2 (aj a3 a4)) (aj (ak a7) (aj (k2 (aj a3 a8)) (al (k2 a9)))))))))))) (al (u2 (al (k2 n11)))))) (al (aj (show(boL q.cl).length=((boL q.cl).set (0+c.toNat) (bV true)).length by simp) (aj (show q.bw.length=((Uu iv q.bw).set (0+c.toNat) (iv d)).length by simp) (al (show(wo q.pe c).length=(Uu iv (wo q.pe c)).length by simp))))))) (fun a6=>.rt [30] [] [] [] [] [2,3,4] (aj (aj a6 (al (u2 (al (k2 n11))))) (al (aj (show(boL q.cl).length=(boL q.cl).length from rfl) (aj (show q.bw.length=(Uu iv q.bw).length by simp) (al (show(wo q.pe c).length=(Uu iv (wo q.pe c)).length by simp)))))))) (by kernel_rfl)
theorem rshs_ct(q:Ad)(c d:Int)(r:Ret)(h:Ax (rshsStep q c d) (MH q c d) r):CT UB 60 ([]) ([sgA q,.int .i64 c,.int .i64 d]) r.1 r.2:=
 CT.mach (fn:=Try.f60) (c:=zB Try.f60) (S:=Pa q c d) (hd:=PM) Try.func60 (by kernel_rfl) (nL rfl)
  (fun s o ho=>match s,ho with
   | x,_=>x.elim)
  (fun o ho=>Rm q c d o ho) h
def k19St(q:Al)(c d:Int):Empty->St | x=>x.elim
def k19Hd:Empty->Nat | x=>x.elim
def Nh(q:Al)(c d:Int):Option (Empty⊕Ret):=br (!BZ q) (some (.inr ([],iV 20))) (br (decide (c<0)) (some (.inr ([],iV 19))) (br (decide (8<=c)) (some (.inr ([],iV 19))) (br (decide (d<0)) (some (.inr ([],iV 19))) (br (decide (iN (Uu iV q.ow).length<=d)) (some (.inr ([],iV 19))) (some (.inr ([],iV 0)))))))
def k19Step(q:Al)(c d:Int):Empty->Option (Empty⊕Ret) | x=>x.elim
theorem k19En_ok(q:Al)(c d:Int)(o:Empty⊕Ret)(h:Nh q c d=some o):Arr UB Try.f49 0 (k19St q c d) k19Hd (zB Try.f49) [] {n:=Try.f49.ntmps,fr:=AH 0 ([lkA q,.int .i64 c,.int .i64 d]),hp:=([])} o:=Scr.ok h mix (have c0:=rlv_c (q);.rn 1 [] [] [(8,hK c0 [] [])] [] (ag t2 (al (u2 (aj (ak (aj t3 (al (c0)))) s2)))) <|.br (fun a0=>.rt [19] [] [] [] [] [] (aj (aj a0 s2) t2)) (fun a0=>.br (fun a1=>.rt [18,25] [] [] [] [] [] (aj (aj a0 (aj (u2 (u2 (u2 (aj a1 (aj a1 (ag a1 (u2 (k2 (aj t3 (u2 (k5 (al t3)))))))))))) (ak s2))) t2)) (fun a1=>.br (fun a2=>.rt [18,24,33] [] [] [] [] [] (aj (aj a0 (aj (u2 (u2 (u2 (ag a1 (ag a1 (ag a1 (u2 (aj a2 (aj a2 (ag a2 (u2 (k5 (al t3))))))))))))) (ak s2))) t2)) (fun a2=>.br (fun a3=>.rt [18,24,32,41] [] [] [] [] [] (aj (aj a0 (aj (u2 (u2 (u2 (ag a1 (ag a1 (ag a1 (u2 (ag a2 (ag a2 (ag a2 (u2 (aj a3 (aj a3 (aj a3 (aj a3 (aj a3 (al (aj a3 t2)))))))))))))))))) (ak s2))) t2)) (fun a3=>.rn 0 [18,24,32,40] [] [] [] (aj a0 (al (u2 (u2 (u2 (ag a1 (ag a1 (ag a1 (u2 (ag a2 (ag a2 (ag a2 (u2 (ag a3 (ag a3 (ag a3 (ag a3 (aj (aj a3 t3) (al (aj a3 t2)))))))))))))))))))) <|.br (fun a4=>.rt [24,32,40,53] [] [] [] [] [] (aj (aj a4 s2) t2)) (fun a4=>.rt [24,32,40,52] [] [] [] [] [] (aj (aj a4 s2) t2))))))) (by kernel_rfl)
theorem k19_ct(q:Al)(c d:Int)(r:Ret)(h:Ax (k19Step q c d) (Nh q c d) r):CT UB 49 ([]) ([lkA q,.int .i64 c,.int .i64 d]) r.1 r.2:=
 CT.mach (fn:=Try.f49) (c:=zB Try.f49) (S:=k19St q c d) (hd:=k19Hd) Try.func49 (by kernel_rfl) (nL rfl)
  (fun s o ho=>match s,ho with
   | x,_=>x.elim)
  (fun o ho=>k19En_ok q c d o ho) h
def shE(n:Aa)(s:Ad):Int:=if BP n s=true then 0 else 20
def shO(n:Aa)(s:Ad):List Bool:=if BP n s=true then Bb s else []
theorem E6{n:Aa}{s:Ad}(h:BP n s=true):AB n/\BF n s/\s.cl.length<=48/\s.bw.length<=48/\s.pe.length<=48/\n.bs.length<=s.cl.length/\∀b∈s.pe,0<=b/\b<(s.cl.length:Int):=by obtain⟨hv,h⟩:=OS.1 h;have hc:=Gu hv;have lc:=h.lc;have lb:=h.lb;have pl:=h.pl;exact⟨hv,h,by omega,by omega,by omega,by omega,fun b hb=>by have:=h.pb b hb;omega⟩
theorem Ni{n:Aa}(cl:List Bool)(bw pe:List Int)(hrw:Rows n.nx):CT UB 24 [] [Ai n,sgA ⟨cl,bw,pe⟩] [] (.tup [.lst (boL (shO n ⟨cl,bw,pe⟩)),.int .i64 (shE n ⟨cl,bw,pe⟩)]):=by
 generalize hs:(⟨cl,bw,pe⟩:Ad)=s;have k:=ssh_ct n s;unfold NG at k;unfold shO shE;cases h:BP n s with
 | false=>rw[h] at k;exact CT.w2 (k ([],_) (.val (by rw[Ab hrw];rfl)))
 | true=>
  obtain⟨hv,hS,l1,l2,l3,l4,l5⟩:=E6 h;rw[h] at k;refine k ([],_) ?_;rw[Ab hrw,Af (by rfl),Ab (by omega)];refine PE (L:=fun i b=>Ep.l0 (i:Int) b) (f:=fun c b=>c.set b.toNat true) (l:=s.pe) s.cl (fun i x hx h=>?_) ?_
  .have hlen:=LP (s.pe.take i) s.cl;have h2:=l5 x (TB hx);have hi:=(Tz.1 hx).1;have hL:=CB s.cl;generalize (s.pe.take i).foldl (fun c b=>c.set b.toNat true) s.cl=c at *;refine .to (show Gp n s i c=_ from ?_) h;unfold Gp;rw[rngS hx,Ab h2.1,Ab (by simp only[iN];omega),Ab (show Nat.le _ _ from(by simp only[TA];show 0+x.toNat+1<=_;omega)),zW i (by omega),TP]
  .refine .to (show Gp n s s.pe.length (Bb s)=_ from ?_) (.ret _);unfold Gp;rw[C3,Ab (by rw[CB,TA,D7])];rfl
def anE(n:Aa)(s:Ad)(x:Int):Int:=if BP n s=true then (if 0<=x/\x<(n.bs.length:Int) then (if (Bb s).getD x.toNat true=true then 24 else 0) else 19) else 20
def anO(n:Aa)(s:Ad)(x:Int):Ad:=if anE n s x=0 then anS s x else ⟨[],[],[]⟩
theorem anE_ok{n:Aa}{s:Ad}{x:Int}(h:anE n s x=0):BP n s=true/\(0<=x/\x<(n.bs.length:Int))/\(Bb s).getD x.toNat true=false:=by
 unfold anE at h;split at h
 .rename_i h1;split at h
  .rename_i h2;split at h
   .cases h
   .rename_i h3;exact⟨h1,h2,by simpa using h3⟩
  .cases h
 .cases h
theorem wo_neg{n:Aa}{s:Ad}(h:BF n s):wo s.pe (-1)=s.pe:=wo_none fun hm=>by have:=h.pb _ hm;omega
theorem rann_c{n:Aa}(cl:List Bool)(bw pe:List Int)(x:Int)(hrw:Rows n.nx):CT UB 59 [] [Ai n,sgA ⟨cl,bw,pe⟩,.int .i64 x] [] (.tup [sgA (anO n ⟨cl,bw,pe⟩ x),.int .i64 (anE n ⟨cl,bw,pe⟩ x)]):=by
 generalize hs:(⟨cl,bw,pe⟩:Ad)=s;have k:=rann_ct n s x;unfold LY at k;unfold anO;have hbad:anE n s x≠0->(.tup [sgA (if anE n s x=0 then anS s x else ⟨[],[],[]⟩),.int .i64 (anE n s x)]:AV)=wk2 (.tup [.agg [.nils,.nils,.nils],.int .i64 (anE n s x)]):=fun h=>by rw[Tw h];rfl
 unfold anE at hbad ⊢
 cases h:BP n s with
 | false=>rw[h] at k hbad;rw[hbad (by simp)];exact CT.w2 (k ([],_) (.val (by rw[Ab hrw];rfl)))
 | true=>
 obtain⟨hv,hS,l1,l2,l3,l4,l5⟩:=E6 h;rw[h] at k hbad;simp only[Tv] at hbad ⊢
 by_cases h0:0<=x/\x<(n.bs.length:Int)
 case neg=>
  rw[Tw h0] at hbad ⊢
  rw[hbad (by decide)];refine CT.w2 (k ([],_) (.val ?_));rw[Ab hrw,Af (by rfl)];by_cases h1:x<0
  .rw[An (AD h1)]
  .rw[Af (Ar h1),An (AD (by rw[TA];simp only[iN];omega))]
 rw[Tv h0] at hbad ⊢
 have hsl:=D7 s;have hgx:=AP true (show x.toNat<(Bb s).length by omega);cases hx:(Bb s).getD x.toNat true with
 | true=>rw[hx,Tv rfl] at hbad;simp only[Tv];rw[hbad (by decide)];refine CT.w2 (k ([],_) (.val ?_));rw[Ab hrw,Af (by rfl),Af (Ar (by omega)),Af (Ar (by rw[TA];simp only[iN];omega)),Ab (by omega),Ab (by omega),Ab l5,Ab h0.1,AF hgx,hx,An rfl]
 | false=>
  have e:(.tup [sgA (anS s x),.int .i64 0]:AV) = .tup [.agg [.lst (boL s.cl),.lst (Uu (AV.int .i64) s.bw),.lst (Uu (AV.int .i64) (wo s.pe (-1))++[.int .i64 x])],.int .i64 0]:=by rw[wo_neg hS];unfold anS sgA lI;rw[TM];rfl
  have e2:(if (if false=true then (24:Int) else 0)=0 then anS s x else ⟨[],[],[]⟩)=anS s x:=rfl;have e3:(if false=true then (24:Int) else 0)=0:=rfl;rw[e2,e3,e];refine k ([],_) (.val ?_);have hw:=NY s.pe (-1);rw[Ab hrw,Af (by rfl),Af (Ar (by omega)),Af (Ar (by rw[TA];simp only[iN];omega)),Ab (by omega),Ab (by omega),Ab l5,Ab h0.1,AF hgx,hx,Af rfl,Ab (by omega),Ab (by simp only[TA,Ud,Ue];omega),Ab (by simp only[TA,Ud,Ue];omega)]
theorem set_same{l:List Bool}{i:Nat}{v:Bool}(h:l.getD i true=v)(hi:i<l.length):l.set i v=l:=by
 apply List.ext_getElem?;intro j;rw[Ur];split
 .rename_i e;subst e;rw[Tx hi];rw[Ty,Tx hi] at h;exact congrArg some h.symm
 .rfl
theorem rshs_c(cl:List Bool)(bw pe:List Int)(c d:Int)(h1:cl.length<=1000000)(h2:bw.length<=1000000)(h3:pe.length<=1000000)(hc:0<=c)(hc1:c<(cl.length:Int))(hc2:c<(bw.length:Int)):
  CT UB 60 [] [sgA ⟨cl,bw,pe⟩,.int .i64 c,.int .i64 d] [] (sgA (clS ⟨cl,bw,pe⟩ c d)):=by
 refine rshs_ct ⟨cl,bw,pe⟩ c d ([],_) (.val ?_);have hL:=CB cl;unfold MH;simp only;rw[Ab h1,Ab h2,Ab h3,Ab hc,Ab (by simp only[iN];omega),TP,AF (AP true (show c.toNat<cl.length by omega))];unfold clS;simp only;cases h:cl.getD c.toNat true with
 | false=>rw[An (by rfl),Ab (show Nat.le _ _ from(show c.toNat+1<=_ by omega)),Ab hc2,Ab (show Nat.le _ _ from(by rw[TA];show c.toNat+1<=_;omega)),Tw (by simp)];unfold lI boL;rw[Uq,Uq]
 | true=>rw[Af (by rfl),Tv rfl,set_same h (by omega)];rfl
def k9E(l:Al)(c d:Int):Int:=if BZ l=true then (if 0<=c/\c<8/\0<=d/\d<(l.ow.length:Int) then 0 else 19) else 20
theorem k19_c(ow:List Int)(qu:List (List Int))(c d:Int):CT UB 49 [] [lkA ⟨ow,qu⟩,.int .i64 c,.int .i64 d] [] (.int .i64 (k9E ⟨ow,qu⟩ c d)):=by
 refine k19_ct ⟨ow,qu⟩ c d ([],_) (.val ?_);unfold Nh k9E;simp only;cases h:BZ ⟨ow,qu⟩ with
 | false=>rfl
 | true=>
  rw[Af (by rfl),Tv rfl,TA];by_cases h0:c<0
  .rw[An (AD h0),Tw (by omega)]
  by_cases h1:8<=c
  .rw[Af (Ar h0),An (AD h1),Tw (by omega)]
  by_cases h2:d<0
  .rw[Af (Ar h0),Af (Ar h1),An (AD h2),Tw (by omega)]
  by_cases h3:(ow.length:Int)<=d
  .rw[Af (Ar h0),Af (Ar h1),Af (Ar h2),An (AD h3),Tw (by omega)]
  .rw[Af (Ar h0),Af (Ar h1),Af (Ar h2),Af (Ar h3),Tv (by omega)]
end Go.Proofs.Ytedjkebooffjpaa

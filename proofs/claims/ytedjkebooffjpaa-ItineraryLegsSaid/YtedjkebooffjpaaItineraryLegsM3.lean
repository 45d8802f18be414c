/- Parts of the proof:AxMc,AxSc,Nm1p,CutCp,NextCp,Rt1p,RtE,Rt2p,RtF,RtG,RtH,Rt3p,RtK,Rt4p,RtL,RtM,RtX,Rt5p,RtT,Rt6p,RtS,Rt7p,RtN,RtO,Rt8p,RtP,RtR,RtQ,Rt11p,RtA,Rt13p,RtC. -/
import Derived.Scope
import Derived.Test.YtedjkebooffjpaaProg
import Derived.KernelRfl
import Derived.Test.YtedjkebooffjpaaItineraryLegsM2
noncomputable section
set_option linter.unusedVariables false
set_option linter.unusedSimpArgs false
open Go.IntKind (i64 u64)
open List renaming map->Uq,replicate->Ur,range->Uu
open Go.AX.AV renaming lst->Uw
open Go.Proofs.Try renaming prog->Ux
namespace Go.AX
variable {P:Program}
inductive Ks where | code (c:Code) | blk (id:Nat) | rnd (c:Code) | scp
def TS(P:Program)(m:Nat)(post:Exit->St->Prop):List Ks->Exit->St->Prop
 | [],e,st=>post e st
 | .code c::k,e,st=>match e with
  | .normal=>T P m c st (TS P m post k)
  | e=>TS P m post k e st
 | .blk id::k,e,st=>Ea id (TS P m post k) e st
 | .rnd c::k,e,st=>match e with
  | .normal=>TL P m c st (TS P m post k)
  | e=>TS P m post k e st
 | .scp::k,e,st=>match e with
  | .goto _=>False
  | e=>TS P m post k e st
inductive DJ where | done (e:Exit) | loop (c:Code) (k:List Ks)
def H4(p:Prop):Option (DJ×St×Prop)->Option (DJ×St×Prop) | some (o,s,q)=>some (o,s,p/\q) | none=>none
theorem T.label{m l:Nat}{st:St}{post:Exit->St->Prop}(h:post .normal st):T P m (.label l) st post:=fun _ _ φ _ w hm hr=>wp_label ⟨φ,st,h,hr,hm,.refl m φ st.h w⟩
theorem T.scope{m:Nat}{c:Code}{st:St}{post:Exit->St->Prop}(h:T P m c st (fun e s=>match e with | .goto _=>False | e=>post e s)):T P m (.scope c) st post:=by intro A0 n0 φ a w hm hr;refine wp_scope_straight (wp_mono (h A0 n0 φ a w hm hr) fun e a' w' hq=>?_);obtain⟨φ',st',h1,h2⟩:=hq;cases e<;>first | exact h1.elim | exact⟨φ',st',h1,h2⟩
theorem nth_lt0{α:Type}{l:List (Option α)}{b:Nat}{x:α}(h:nth l b=some x):b<l.length:=by
 induction l generalizing b with
 | nil=>simp[nth] at h
 | cons y r ih=>cases b with
  | zero=>simp
  | succ b=>have:=ih (b:=b) (by simpa [nth] using h);simp;omega
def flats(m id:Nat):List (Nat×Nat)->St->Option St
 | [],st=>some st
 | (r,b)::l,st=>match Nat.beq r id with
  | false=>flats m id l st
  | true=>match Nat.ble m b&&I2 st.hp&&MD st.hp b with
   | true=>flats m id l (EV b st)
   | false=>none
theorem Ren.flats{m id:Nat}:∀{l:List (Nat×Nat)} {st st':St},flats m id l st=some st'->Ren m st st'
 | [],st,st',h=>by cases h;exact .refl _ _
 | (r,b)::l,st,st',h=>by
  simp only[Go.AX.flats] at h;split at h
  .exact Ren.flats h
  .split at h
   .rename_i hc;simp only[TC] at hc;exact(Ren.flat m b st (TV hc.1.1) hc.1.2 hc.2).trans (Ren.flats h)
   .cases h
def dropA:List (Nat×Bool)->Nat->List (Nat×Bool)
 | [],_=>[]
 | (k,v)::r,s=>match Nat.beq k s with | true=>r | false=>(k,v)::dropA r s
def KK(H:HT)(s:Nat):HT:={H with dec:=dropA H.dec s}
def setB(x:Operand)(v:Bool)(st:St):St:=match x with
 | .tmp s=>{n:=st.n,fr:=(s,.bool v)::st.fr,hp:=st.hp}
 | _=>st
theorem Ren.setB{m:Nat}{x:Operand}{v:Bool}{st:St}(h:st.ev x = .bool v):Ren m st (setB x v st):=by
 cases x with
 | tmp s=>
  refine Ren.less rfl (TF _) (fun t=>?_) fun b blk' hb=>.inl ⟨nth_lt0 hb,blk',hb,.inl rfl⟩
  simp only[Go.AX.setB,Ao];cases hq:Nat.beq s t with
  | true=>have:=TB hq;subst this;have h':Ao st.fr s = .bool v:=h;rw[h'];exact .refl _
  | false=>exact .refl _
 | _=>exact .refl _ _
def gm(P:Program)(F:List (Nat×Nat))(m:Nat):Nat->HT->Code⊕Exit->List Ks->St->Option (DJ×St×Prop)
 | 0,_,_,_,_=>none
 | n+1,H,.inl c,k,st=>match c with
  | .seq a b=>gm P F m n H (.inl a) (.code b::k) st
  | .block id c=>gm P F m n H (.inl c) (.blk id::k) st
  | .region id ops dr=>match flats m id F st with
   | some st0=>match H5 P H m ops dr st0 with
    | some (st',p)=>H4 p (gm P F m n H (.inr .normal) k st')
    | none=>none
   | none=>none
  | .cond x c d=>match st.ev x with
   | .bool b=>match (gd H (C4 x) b).1 with
    | true=>H4 (gd H (C4 x) b).2 (gm P F m n (KK H (C4 x)) (.inl c) k (setB x true st))
    | false=>H4 (gd H (C4 x) b).2 (gm P F m n (KK H (C4 x)) (.inl d) k (setB x false st))
   | _=>none
  | .skip=>gm P F m n H (.inr .normal) k st
  | .ret=>gm P F m n H (.inr .ret) k st
  | .exit id=>gm P F m n H (.inr (.exit id)) k st
  | .loop c=>some (.loop c k,st,True)
  | .scope c=>gm P F m n H (.inl c) (.scp::k) st
  | .label _=>gm P F m n H (.inr .normal) k st
  | _=>none
 | n+1,H,.inr e,k,st=>match k with
  | []=>some (.done e,st,True)
  | .code c::k=>match e with
   | .normal=>gm P F m n H (.inl c) k st
   | e=>gm P F m n H (.inr e) k st
  | .blk id::k=>gm P F m n H (.inr (HD id e)) k st
  | .rnd c::k=>match e with
   | .normal=>some (.loop c k,st,True)
   | e=>gm P F m n H (.inr e) k st
  | .scp::k=>match e with
   | .goto _=>none
   | e=>gm P F m n H (.inr e) k st
def RestM(P:Program)(m:Nat)(post:Exit->St->Prop)(st:St):DJ->Prop | .done e=>post e st | .loop c k=>TL P m c st (TS P m post k)
theorem KY{F:List (Nat×Nat)}{m:Nat}{post:Exit->St->Prop}(hmix:P.follows .mixedOrders=true):∀(n:Nat) (H:HT) (c:Code⊕Exit) (k:List Ks) (st:St) (o:DJ) (st':St) (p:Prop),
  gm P F m n H c k st=some (o,st',p)->p->RestM P m post st' o->match c with
   | .inl c=>T P m c st (TS P m post k)
   | .inr e=>TS P m post k e st:=by
 have hcj:∀{p:Prop} {x:Option (DJ×St×Prop)} {o:DJ} {st':St} {q:Prop},H4 p x=some (o,st',q)->∃q',x=some (o,st',q')/\q=(p/\q'):=by
  intro p x o st' q h;unfold H4 at h;split at h
  .cases h;exact⟨_,rfl,rfl⟩
  .cases h
 intro n;induction n with
 | zero=>intro H c k st o st' p h;simp[gm] at h
 | succ n ih=>
  intro H c k st o st' p h hp hrest;cases c with
  | inl c=>
   cases c<;>simp only[gm] at h
   case seq a b=>refine T.seq ((ih _ _ _ _ _ _ _ h hp hrest).mono fun e s hs=>?_);cases e<;>exact hs
   case block id c=>refine T.block ((ih _ _ _ _ _ _ _ h hp hrest).mono fun e s hs=>?_);exact hs
   case region id ops dr=>
    split at h
    .rename_i st0 h0;split at h
     .rename_i st1 p1 h1;obtain⟨q,h2,rfl⟩:=hcj h;exact T.ren (Ren.flats h0) (T.region hmix h1 hp.1 (ih _ _ _ _ _ _ _ h2 hp.2 hrest))
     .cases h
    .cases h
   case cond x c d=>
    split at h
    .rename_i b hb;split at h
     .rename_i hg;obtain⟨q,h2,rfl⟩:=hcj h;have hev:st.ev x = .bool true:=by rw[hb,EJ hp.1,hg]
      exact T.cond_true hev (T.ren (Ren.setB hev) (ih _ _ _ _ _ _ _ h2 hp.2 hrest))
     .rename_i hg;obtain⟨q,h2,rfl⟩:=hcj h;have hev:st.ev x = .bool false:=by rw[hb,EJ hp.1,hg]
      exact T.cond_false hev (T.ren (Ren.setB hev) (ih _ _ _ _ _ _ _ h2 hp.2 hrest))
    .cases h
   case skip=>exact T.skip (ih _ _ _ _ _ _ _ h hp hrest)
   case ret=>exact T.ret (ih _ _ _ _ _ _ _ h hp hrest)
   case exit id=>exact T.exit (ih _ _ _ _ _ _ _ h hp hrest)
   case loop c=>cases h;exact T.of_TL hrest
   case scope c=>refine T.scope ((ih _ _ _ _ _ _ _ h hp hrest).mono fun e s hs=>?_);cases e<;>exact hs
   case label l=>exact T.label (ih _ _ _ _ _ _ _ h hp hrest)
   all_goals cases h
  | inr e=>
   cases k with
   | nil=>simp only[gm] at h;cases h;exact hrest
   | cons x k=>
    cases x with
    | code c=>
     cases e<;>simp only[gm] at h
     case normal=>exact ih _ _ _ _ _ _ _ h hp hrest
     all_goals exact ih _ _ _ _ _ _ _ h hp hrest
    | rnd c=>
     cases e<;>simp only[gm] at h
     case normal=>cases h;exact hrest
     all_goals exact ih _ _ _ _ _ _ _ h hp hrest
    | scp=>
     cases e<;>simp only[gm] at h
     case goto l=>cases h
     all_goals exact ih _ _ _ _ _ _ _ h hp hrest
    | blk id=>
     simp only[gm] at h;have:=ih _ _ _ _ _ _ _ h hp hrest;cases e<;>simp only[HD] at this
     case exit id'=>
      show Ea id _ _ _;simp only[Ea];split at this
      .rename_i hb;rw[Ts (TB hb)];exact this
      .rename_i hb;rw[Tt (fun e=>by rw[e,Nat.beq_refl] at hb;cases hb)];exact this
     all_goals exact this
def Et:Code->List Ks->List (Code×List Ks) | .seq a b,k=>Et a (.code b::k)++Et b k | .block id c,k=>Et c (.blk id::k) | .cond _ c d,k=>Et c k++Et d k | .loop c,k=>(c,k)::Et c (.rnd c::k) | .scope c,k=>Et c (.scp::k) | _,_=>[]
def Av(fn:Func)(i:Nat):Code:=match (Et (zB fn) [])[i]? with | some x=>x.1 | none=>.skip
def AK(fn:Func)(i:Nat):List Ks:=match (Et (zB fn) [])[i]? with | some x=>x.2 | none=>[]
theorem TL.ren{m:Nat}{c:Code}{st st':St}{post:Exit->St->Prop}(h:Ren m st st')(ht:TL P m c st' post):TL P m c st post:=fun A0 n0 φ a w hm hr b k cs=>by obtain⟨φ1,h1,h2,h3⟩:=h A0 n0 φ a w hm hr;obtain⟨e,a',w',hq,harr⟩:=ht A0 n0 φ1 a w h2 h1 b k cs;exact⟨e,a',w',hq.trans h3,harr⟩
inductive Aq {σ ρ:Type} (step:σ->Option (σ⊕ρ)):Option (σ⊕ρ)->ρ->Prop | ret (r:ρ):Aq step (some (.inr r)) r | go (s:σ) (r:ρ) (h:Aq step (step s) r):Aq step (some (.inl s)) r
abbrev Ret:=List (Option Blk)×AV
def Arr{σ:Type}(P:Program)(fn:Func)(m:Nat)(S:σ->St)(hd:σ->Nat)(c:Code)(k:List Ks)(st:St):σ⊕Ret->Prop | .inl s=>∀post:Exit->St->Prop,(∀st',Ren m st' (S s)->TL P m (Av fn (hd s)) st' (TS P m post (AK fn (hd s))))->T P m c st (TS P m post k) | .inr r=>T P m c st (TS P m (Fin P fn m r.1 r.2) k)
def MOk{σ:Type}(P:Program)(fn:Func)(m:Nat)(S:σ->St)(hd:σ->Nat)(r:Ret):Option (σ⊕Ret)->Prop | some (.inl s)=>∀st',Ren m st' (S s)->TL P m (Av fn (hd s)) st' (TS P m (Fin P fn m r.1 r.2) (AK fn (hd s))) | some (.inr q)=>q=r | none=>False
theorem mach{σ:Type}{fn:Func}{m:Nat}{S:σ->St}{hd:σ->Nat}{step:σ->Option (σ⊕Ret)}
  (hs:∀s o,step s=some o->Arr P fn m S hd (Av fn (hd s)) (.rnd (Av fn (hd s))::AK fn (hd s)) (S s) o) {x:Option (σ⊕Ret)} {r:Ret} (h:Aq step x r):
  MOk P fn m S hd r x:=by
 induction h with
 | ret r=>rfl
 | go s r h ih=>
  intro st' hren;refine TL.ren hren (TL.round ?_);generalize ho:step s=x at ih;cases x with
  | none=>exact ih.elim
  | some o=>
   have ha:=hs s o ho;have key:T P m (Av fn (hd s)) (S s) (TS P m (Fin P fn m r.1 r.2) (.rnd (Av fn (hd s))::AK fn (hd s))):=by
    cases o with
    | inl s'=>exact ha _ ih
    | inr q=>have e:q=r:=ih
             subst e;exact ha
   refine key.mono fun e s2 h2=>?_
   cases e<;>exact h2
theorem CT.mach{σ:Type}{f:FuncId}{fn:Func}{c:Code}{hin:List (Option Blk)}{args:List AV}{S:σ->St}{hd:σ->Nat}{step:σ->Option (σ⊕Ret)}{en:Option (σ⊕Ret)}{r:Ret}
  (hf:P.funcs[f]?=some fn) (hb:fn.body=some c) (hn:args.length<=fn.ntmps)
  (hs:∀s o,step s=some o->Arr P fn hin.length S hd (Av fn (hd s)) (.rnd (Av fn (hd s))::AK fn (hd s)) (S s) o)
  (he:∀o,en=some o->Arr P fn hin.length S hd c [] {n:=fn.ntmps,fr:=AI 0 args,hp:=hin} o) (h:Aq step en r):CT P f hin args r.1 r.2:=by
 refine CT.of hf hb hn ?_;have hm:=Go.AX.mach hs h;clear h;cases en with
 | none=>exact hm.elim
 | some o=>
  cases o with
  | inl s=>exact he _ rfl _ hm
  | inr q=>have e:q=r:=hm
           subst e;exact he _ rfl
def KF:List AV->Nat->AV | [],_=>.unk | x::_,0=>x | _::r,j+1=>KF r j
def setA:List AV->Nat->AV->List AV | [],_,_=>[] | _::r,0,v=>v::r | x::r,j+1,v=>x::setA r j v
def Dh:List (Option Blk)->Nat->Blk->List (Option Blk) | [],_,_=>[] | _::r,0,v=>some v::r | x::r,j+1,v=>x::Dh r j v
def virtC(t j z:Nat)(st:St):Option St:=match Ao st.fr t with
 | .ptr b _ _=>match nth st.hp b with
  | some blk=>match blk.es with
   | [.agg cs]=>match KF cs j with
    | .nils=>match z with
     | 1000=>some {n:=st.n,fr:=st.fr,hp:=Dh st.hp b {blk with es:=[.agg (setA cs j (.lst []))],flat:=false}}
     | z=>some {n:=st.n,fr:=st.fr,hp:=Dh st.hp b {blk with es:=[.agg (setA cs j (.sl st.hp.length 0 0))],flat:=false}++[some {es:=[],z}]}
    | _=>none
   | _=>none
  | none=>none
 | _=>none
def virt1(s z:Nat)(st:St):Option St:=match Nat.ble 1000 s with
 | true=>virtC (s % 1000) (s / 1000-1) z st
 | false=>match Ao st.fr s with
  | .nils=>match z with
   | 1000=>some {n:=st.n,fr:=(s,.lst [])::st.fr,hp:=st.hp}
   | z=>some {n:=st.n,fr:=(s,.sl st.hp.length 0 0)::st.fr,hp:=st.hp++[some {es:=[],z}]}
  | _=>none
def virtL:List (Nat×Nat)->St->Option St
 | [],st=>some st
 | (s,z)::r,st=>match virt1 s z st with
  | some st'=>virtL r st'
  | none=>none
theorem JF{α:Type}:∀(l:List (Option α)) (x:Option α) (b:Nat),nth (l++[x]) b=if b<l.length then nth l b else if b=l.length then x else none | [],x,0=>by simp[nth] | [],x,b+1=>by simp[nth] | y::r,x,0=>by simp[nth] | y::r,x,b+1=>by simp[nth,JF r x b]
theorem JQ{α:Type}{l:List (Option α)}{b:Nat}{x:α}(h:nth l b=some x):b<l.length:=by
 induction l generalizing b with
 | nil=>simp[nth] at h
 | cons y r ih=>cases b with
  | zero=>simp
  | succ b=>have:=ih (b:=b) (by simpa [nth] using h);simp;omega
theorem Se{cs:List AV}{j:Nat}{v:AV}(h:KF cs j=v)(hv:v≠.unk):cs[j]?=some v:=by
 induction cs generalizing j with
 | nil=>exact absurd h.symm hv
 | cons x r ih=>cases j with
  | zero=>exact congrArg some h
  | succ j=>exact ih h
theorem setA_len(cs:List AV)(j:Nat)(v:AV):(setA cs j v).length=cs.length:=by
 induction cs generalizing j with
 | nil=>rfl
 | cons x r ih=>cases j with
  | zero=>rfl
  | succ j=>simp[setA,ih]
theorem setA_get{cs:List AV}{j i:Nat}{v c:AV}(h:(setA cs j v)[i]?=some c):(i=j/\c=v)\/cs[i]?=some c:=by
 induction cs generalizing j i with
 | nil=>simp[setA] at h
 | cons x r ih=>cases j with
  | zero=>cases i with
   | zero=>left;simp[setA] at h;exact⟨rfl,h.symm⟩
   | succ i=>right;simpa [setA] using h
  | succ j=>cases i with
   | zero=>right;simpa [setA] using h
   | succ i=>
    rcases ih (i:=i) (j:=j) (by simpa [setA] using h) with ⟨rfl,rfl⟩ | h
    .exact .inl ⟨rfl,rfl⟩
    .right;simpa using h
theorem MO(l:List (Option Blk))(b:Nat)(x:Blk):(Dh l b x).length=l.length:=by
 induction l generalizing b with
 | nil=>rfl
 | cons y r ih=>cases b with
  | zero=>rfl
  | succ b=>simp[Dh,ih]
theorem setH_get{l:List (Option Blk)}{b i:Nat}{x y:Blk}(h:nth (Dh l b x) i=some y):(i=b/\y=x)\/nth l i=some y:=by
 induction l generalizing b i with
 | nil=>simp[Dh,nth] at h
 | cons z r ih=>cases b with
  | zero=>cases i with
   | zero=>left;simp[Dh,nth] at h;exact⟨rfl,h.symm⟩
   | succ i=>right;simpa [Dh,nth] using h
  | succ b=>cases i with
   | zero=>right;simpa [Dh,nth] using h
   | succ i=>
    rcases ih (i:=i) (b:=b) (by simpa [Dh,nth] using h) with ⟨rfl,rfl⟩ | h
    .exact .inl ⟨rfl,rfl⟩
    .right;simpa [nth] using h
theorem Ca.setA{blk:Blk}{cs:List AV}{j:Nat}{v:AV}(he:blk.es=[.agg cs])(h:KF cs j = .nils)(hl:Bj .nils v):Ca blk {blk with es:=[.agg (setA cs j v)],flat:=false}:=by
 refine⟨rfl,id,rfl,by rw[he];exact TF _,fun i e' h'=>?_,fun h=>(by cases h),fun h0=>(by rw[he] at h0)⟩;cases i with
 | succ i=>simp at h'
 | zero=>
  simp at h';subst h';refine⟨.agg cs,by rw[he];rfl,setA_len cs j v,fun i c' hc=>?_⟩;rcases setA_get hc with ⟨rfl,rfl⟩ | hc
  .exact⟨.nils,Se h (by intro e;cases e),hl⟩
  .exact⟨c',hc,.refl _⟩
theorem Ren.virtC{m t j z:Nat}{st st':St}(h:virtC t j z st=some st'):Ren m st st':=by
 unfold Go.AX.virtC at h;split at h
 case h_2=>cases h
 rename_i b i0 j0 hl;split at h
 case h_2=>cases h
 rename_i blk hb;split at h
 case h_2=>cases h
 rename_i cs he;split at h
 case h_2=>cases h
 rename_i hn;have old:∀{b':Nat} {blk':Blk} {v:AV},Bj .nils v->nth (Dh st.hp b {blk with es:=[.agg (setA cs j v)],flat:=false}) b'=some blk'->(b'<st.hp.length/\∃blk,nth st.hp b'=some blk/\((blk'=blk)\/Ca blk blk')):=fun hv h=>by
  rcases setH_get h with ⟨rfl,rfl⟩ | h
  .exact⟨JQ hb,blk,hb,.inr (Ca.setA he hn hv)⟩
  .exact⟨JQ h,_,h,.inl rfl⟩
 split at h
 .cases h;exact Ren.less rfl (by simp[MO]) (fun t=>.refl _) fun b' blk' hb'=>.inl (old .nilL hb')
 cases h;refine Ren.less rfl (by simp[MO]) (fun t=>.refl _) fun b' blk' hb'=>?_
 simp only[JF,MO] at hb';split at hb'
 .exact .inl (old (.nilS _ _) hb')
 .split at hb'
  .rename_i he;cases hb';exact .inr ⟨by omega,rfl,rfl,rfl,rfl⟩
  .cases hb'
theorem Ren.virt1{m s z:Nat}{st st':St}(h:virt1 s z st=some st'):Ren m st st':=by
 unfold Go.AX.virt1 at h;split at h
 .exact Ren.virtC h
 split at h
 case h_2=>cases h
 rename_i hl;split at h
 .cases h;refine Ren.less rfl (by simp) (fun t=>?_) fun b blk' hb=>.inl ⟨JQ hb,blk',hb,.inl rfl⟩
  simp only[Ao];cases hbq:Nat.beq s t with
  | true=>have:=TB hbq;subst this;rw[hl];exact .nilL
  | false=>exact .refl _
 cases h;refine Ren.less rfl (by simp) (fun t=>?_) fun b blk' hb=>?_
 .simp only[Ao];cases hbq:Nat.beq s t with
  | true=>have:=TB hbq;subst this;rw[hl];exact .nilS _ _
  | false=>exact .refl _
 .simp only[JF] at hb;split at hb
  .rename_i hlt;exact .inl ⟨hlt,blk',hb,.inl rfl⟩
  .rename_i hge;split at hb
   .rename_i he;cases hb;exact .inr ⟨by omega,rfl,rfl,rfl,rfl⟩
   .cases hb
theorem Ren.virtL{m:Nat}:∀{l:List (Nat×Nat)} {st st':St},virtL l st=some st'->Ren m st st'
 | [],st,st',h=>by cases h;exact .refl _ _
 | (s,z)::r,st,st',h=>by
  simp only[Go.AX.virtL] at h;split at h
  .rename_i st1 h1;exact(Ren.virt1 h1).trans (Ren.virtL h)
  .cases h
def Iu(P:Program)(fn:Func)(m:Nat)(σ fz:List Nat):Option (DJ×St×Prop)->Option (List (Option Blk)×AV×Prop)
 | some (.done e,st,p)=>match Hk e&&Nat.blt 0 st.n,GC P fn st with
  | true,some v=>match FF m σ fz,St.ren {st with fr:=[(0,v)]} σ fz [0] with
   | true,some (s,q)=>some (s.hp,Ao s.fr 0,p/\q)
   | _,_=>none
  | _,_=>none
 | _=>none
def Fp(m:Nat)(vl:List (Nat×Nat))(σ fz vars:List Nat):Option (DJ×St×Prop)->Option (Code×List Ks×St×Prop)
 | some (.loop c k,st,p)=>match virtL vl st with
  | some st1=>match FF m σ fz,st1.ren σ fz vars with
   | true,some (s,q)=>some (c,k,s,p/\q)
   | _,_=>none
  | none=>none
 | _=>none
def callsL(l:List (Nat×AN)):Nat->FuncId->List AV->List (Option Blk)->AN:=fun d _ _ _=>match F3 l d with | some h=>h | none=>.no
theorem CT.eqs{f:FuncId}{hin hin' hout:List (Option Blk)}{args args':List AV}{res:AV}(h:CT P f hin args hout res)(e1:hin'=hin)(e2:args'=args):CT P f hin' args' hout res:=by subst e1;subst e2;exact h
def hT(dec:List (Nat×Bool))(els:List (Nat×AV))(calls:List (Nat×AN)):HT:={dec,els,calls:=callsL calls}
theorem I9{α:Type}{f:α->AV}{l:List α}{es:List AV}{i:Nat}{x:α}(h:l[i]?=some x)(e:l.map f=es):es[i]?=some (f x):=by rw[<-e,TE,h];rfl
theorem Ar{α:Type}{f:α->AV}{l:List α}{i:Nat}{x:α}(h:l[i]?=some x):(l.map f)[i]?=some (f x):=by rw[TE,h];rfl
def br{α:Type}(b:Bool)(x y:Option α):Option α:=match b with | true=>x | false=>y
theorem Mw{α:Type}{b:Bool}{x y:Option α}{o:α}(h:br b x y=some o):(b=true/\x=some o)\/(b=false/\y=some o):=by
 cases b
 .exact .inr ⟨rfl,h⟩
 .exact .inl ⟨rfl,h⟩
theorem Ak{α:Type}{b:Bool}{x y:Option α}(h:b=true):br b x y=x:=by subst h;rfl
theorem Ae{α:Type}{b:Bool}{x y:Option α}(h:b=false):br b x y=y:=by subst h;rfl
open Classical in
def gu{α:Type}(p:Prop)(x:Option α):Option α:=if p then x else none
theorem L2{α:Type}{p:Prop}{x:Option α}{o:α}(h:gu p x=some o):p/\x=some o:=by
 unfold gu at h;split at h
 .rename_i hp;exact⟨hp,h⟩
 .cases h
theorem Aa{α:Type}{p:Prop}{x:Option α}(h:p):gu p x=x:=by unfold gu;rw[Ts h]
def el{α β:Type}(l:List α)(i:Nat)(f:α->Option β):Option β:=match l[i]? with | some x=>f x | none=>none
theorem MZ{α β:Type}{l:List α}{i:Nat}{f:α->Option β}{o:β}(h:el l i f=some o):∃x,l[i]?=some x/\f x=some o:=by
 unfold el at h;split at h
 .rename_i x hx;exact⟨x,hx,h⟩
 .cases h
theorem AH{α β:Type}{l:List α}{i:Nat}{f:α->Option β}{x:α}(h:l[i]?=some x):el l i f=f x:=by unfold el;rw[h]
def F8(P:Program)(m:Nat)(post:Exit->St->Prop)(c:Code⊕Exit)(k:List Ks)(st:St):Prop:=match c with
 | .inl c=>T P m c st (TS P m post k)
 | .inr e=>TS P m post k e st
def Iv(p:Prop):Option ((Code⊕Exit)×List Ks×St×Prop)->Option ((Code⊕Exit)×List Ks×St×Prop) | some (c,k,s,q)=>some (c,k,s,p/\q) | none=>none
def gk(P:Program)(F:List (Nat×Nat))(m:Nat):Nat->Nat->HT->Code⊕Exit->List Ks->St->Option ((Code⊕Exit)×List Ks×St×Prop)
 | 0,_,_,_,_,_=>none
 | n+1,K,H,.inl c,k,st=>match c with
  | .seq a b=>gk P F m n K H (.inl a) (.code b::k) st
  | .block id c=>gk P F m n K H (.inl c) (.blk id::k) st
  | .region id ops dr=>match flats m id F st with
   | some st0=>match H5 P H m ops dr st0 with
    | some (st',p)=>match K with
     | 0=>some (.inr .normal,k,st',p/\True)
     | K+1=>Iv p (gk P F m n K H (.inr .normal) k st')
    | none=>none
   | none=>none
  | .cond x c d=>match st.ev x with
   | .bool b=>match (gd H (C4 x) b).1 with
    | true=>Iv (gd H (C4 x) b).2 (gk P F m n K (KK H (C4 x)) (.inl c) k (setB x true st))
    | false=>Iv (gd H (C4 x) b).2 (gk P F m n K (KK H (C4 x)) (.inl d) k (setB x false st))
   | _=>none
  | .skip=>gk P F m n K H (.inr .normal) k st
  | .ret=>gk P F m n K H (.inr .ret) k st
  | .exit id=>gk P F m n K H (.inr (.exit id)) k st
  | .scope c=>gk P F m n K H (.inl c) (.scp::k) st
  | .label _=>gk P F m n K H (.inr .normal) k st
  | _=>none
 | n+1,K,H,.inr e,k,st=>match k with
  | []=>none
  | .code c::k=>match e with
   | .normal=>gk P F m n K H (.inl c) k st
   | e=>gk P F m n K H (.inr e) k st
  | .blk id::k=>gk P F m n K H (.inr (HD id e)) k st
  | .rnd c::k=>match e with
   | .normal=>none
   | e=>gk P F m n K H (.inr e) k st
  | .scp::k=>match e with
   | .goto _=>none
   | e=>gk P F m n K H (.inr e) k st
theorem Mu{p:Prop}{x:Option ((Code⊕Exit)×List Ks×St×Prop)}{c:Code⊕Exit}{k:List Ks}{st:St}{q:Prop}(h:Iv p x=some (c,k,st,q)):∃q',x=some (c,k,st,q')/\q=(p/\q'):=by
 unfold Iv at h;split at h
 .cases h;exact⟨_,rfl,rfl⟩
 .cases h
theorem E1{F:List (Nat×Nat)}{m:Nat}{post:Exit->St->Prop}(hmix:P.follows .mixedOrders=true):∀(n K:Nat) (H:HT) (c:Code⊕Exit) (k:List Ks) (st:St) (c':Code⊕Exit) (k':List Ks) (st':St) (p:Prop),
  gk P F m n K H c k st=some (c',k',st',p)->p->F8 P m post c' k' st'->F8 P m post c k st:=by
 intro n;induction n with
 | zero=>intro K H c k st c' k' st' p h;simp[gk] at h
 | succ n ih=>
  intro K H c k st c' k' st' p h hp hrest;cases c with
  | inl c=>
   cases c<;>simp only[gk] at h
   case seq a b=>refine T.seq (T.mono (ih _ _ _ _ _ _ _ _ _ h hp hrest) fun e s hs=>?_);cases e<;>exact hs
   case block id c=>refine T.block (T.mono (ih _ _ _ _ _ _ _ _ _ h hp hrest) fun e s hs=>?_);exact hs
   case region id ops dr=>
    split at h
    .rename_i st0 h0;split at h
     .rename_i st1 p1 h1;split at h
      .cases h;exact T.ren (Ren.flats h0) (T.region hmix h1 hp.1 hrest)
      .obtain⟨q,h2,rfl⟩:=Mu h;exact T.ren (Ren.flats h0) (T.region hmix h1 hp.1 (ih _ _ _ _ _ _ _ _ _ h2 hp.2 hrest))
     .cases h
    .cases h
   case cond x c d=>
    split at h
    .rename_i b hb;split at h
     .rename_i hg;obtain⟨q,h2,rfl⟩:=Mu h;have hev:st.ev x = .bool true:=by rw[hb,EJ hp.1,hg]
      exact T.cond_true hev (T.ren (Ren.setB hev) (ih _ _ _ _ _ _ _ _ _ h2 hp.2 hrest))
     .rename_i hg;obtain⟨q,h2,rfl⟩:=Mu h;have hev:st.ev x = .bool false:=by rw[hb,EJ hp.1,hg]
      exact T.cond_false hev (T.ren (Ren.setB hev) (ih _ _ _ _ _ _ _ _ _ h2 hp.2 hrest))
    .cases h
   case skip=>(have:=ih _ _ _ _ _ _ _ _ _ h hp hrest;exact T.skip this)
   case ret=>exact T.ret (ih _ _ _ _ _ _ _ _ _ h hp hrest)
   case exit id=>exact T.exit (ih _ _ _ _ _ _ _ _ _ h hp hrest)
   case scope c=>refine T.scope (T.mono (ih _ _ _ _ _ _ _ _ _ h hp hrest) fun e s hs=>?_);cases e<;>exact hs
   case label l=>exact T.label (ih _ _ _ _ _ _ _ _ _ h hp hrest)
   all_goals cases h
  | inr e=>
   cases k with
   | nil=>simp only[gk] at h;cases h
   | cons x k=>
    cases x with
    | code c=>
     cases e<;>simp only[gk] at h
     case normal=>(have:=ih _ _ _ _ _ _ _ _ _ h hp hrest;exact this)
     all_goals (have:=ih _ _ _ _ _ _ _ _ _ h hp hrest;exact this)
    | rnd c=>
     cases e<;>simp only[gk] at h
     case normal=>cases h
     all_goals (have:=ih _ _ _ _ _ _ _ _ _ h hp hrest;exact this)
    | scp=>
     cases e<;>simp only[gk] at h
     case goto l=>cases h
     all_goals (have:=ih _ _ _ _ _ _ _ _ _ h hp hrest;exact this)
    | blk id=>
     simp only[gk] at h;have:=ih _ _ _ _ _ _ _ _ _ h hp hrest;cases e<;>simp only[HD] at this
     case exit id'=>
      show TS P m post (.blk id::k) _ st;show Ea id _ _ _;simp only[Ea];split at this
      .rename_i hb;rw[Ts (TB hb)];exact this
      .rename_i hb;rw[Tt (fun e=>by rw[e,Nat.beq_refl] at hb;cases hb)];exact this
     all_goals exact this
def Cx{σ:Type}(P:Program)(fn:Func)(m:Nat)(S:σ->St)(hd:σ->Nat)(c:Code⊕Exit)(k:List Ks)(st:St):σ⊕Ret->Prop | .inl s=>∀post:Exit->St->Prop,(∀st',Ren m st' (S s)->TL P m (Av fn (hd s)) st' (TS P m post (AK fn (hd s))))->F8 P m post c k st | .inr r=>F8 P m (Fin P fn m r.1 r.2) c k st
theorem Cx.loop{σ:Type}{fn:Func}{S:σ->St}{hd:σ->Nat}{H:HT}{F:List (Nat×Nat)}{m n:Nat}{c:Code⊕Exit}{k:List Ks}{st:St}{s:σ}{p:Prop}{vl:List (Nat×Nat)}{sg fz vars:List Nat}(hmix:P.follows .mixedOrders=true)
  (h:Fp m vl sg fz vars (gm P F m n H c k st)=some (Av fn (hd s),AK fn (hd s),S s,p)) (hp:p):Cx P fn m S hd c k st (.inl s):=by
 intro post hk;unfold Fp at h;split at h
 case h_2=>cases h
 rename_i c' k' st1 q hg;split at h
 case h_2=>cases h
 rename_i st2 hv;split at h
 .rename_i s' q' h1 h2;simp only[Ta,Ti] at h;obtain⟨rfl,rfl,rfl,rfl⟩:=h;exact KY hmix n H c k st _ _ _ hg hp.1 (hk _ ((Ren.virtL hv).trans (GQ h1 h2 hp.2)))
 .cases h
theorem Cx.ret{σ:Type}{fn:Func}{S:σ->St}{hd:σ->Nat}{H:HT}{F:List (Nat×Nat)}{m n:Nat}{c:Code⊕Exit}{k:List Ks}{st:St}{r:Ret}{p:Prop}{sg fz:List Nat}(hmix:P.follows .mixedOrders=true)
  (h:Iu P fn m sg fz (gm P F m n H c k st)=some (r.1,r.2,p)) (hp:p):Cx P fn m S hd c k st (.inr r):=by
 show F8 P m (Fin P fn m r.1 r.2) c k st;unfold Iu at h;split at h
 case h_2=>cases h
 rename_i e st1 q hg;split at h
 case h_2=>cases h
 rename_i v h1 h2;split at h
 case h_2=>cases h
 rename_i s q' h3 h4;simp only[Ta,Ti] at h;obtain⟨e1,e2,rfl⟩:=h;simp only[TC] at h1;refine KY hmix n H c k st _ _ _ hg hp.1 ⟨?_,v,s,h2,GQ h3 h4 hp.2,e1,e2,TV h1.2⟩;cases e<;>simp[Hk] at h1<;>simp
inductive Raw:Type 1 where | br (b:Bool) (x:b=true->Raw) (y:b=false->Raw) | gu (p:Prop) (x:p->Raw) | el {β:Type} (l:List β) (i:Nat) (x:(v:β)->l[i]?=some v->Raw) | rn (p:Prop) (x:Raw) | lp (x:Option (Code×List Ks×St×Prop)) | rt (x:Option (List (Option Blk)×AV×Prop)) | no
inductive Scr {σ:Type} (S:σ->St):Option (σ⊕Ret)->Type 1 where | br {X Y:Option (σ⊕Ret)} {b:Bool} (x:b=true->Scr S X) (y:b=false->Scr S Y):Scr S (Go.AX.br b X Y) | gu {X:Option (σ⊕Ret)} {p:Prop} (x:p->Scr S X):Scr S (Go.AX.gu p X) | el {β:Type} {F:β->Option (σ⊕Ret)} {l:List β} {i:Nat} (x:(v:β)->l[i]?=some v->Scr S (F v)):Scr S (Go.AX.el l i F) | rn {X:Option (σ⊕Ret)} (K:Nat) (d:List Nat) (e:List (Nat×AV)) (cl:List (Nat×AN)) (F:List (Nat×Nat)) {p:Prop} (hp:p) (x:Scr S X):Scr S X | lp (d:List Nat) (e:List (Nat×AV)) (cl:List (Nat×AN)) (F vl:List (Nat×Nat)) (sg vars:List Nat) {s:σ} {p:Prop} (hp:p):Scr S (some (.inl s)) | lq (d:List Nat) (e:List (Nat×AV)) (cl:List (Nat×AN)) (F vl:List (Nat×Nat)) (sg vars:List Nat) {s:σ} (s':St) {p:Prop} (hp:p) (h:s'=S s):Scr S (some (.inl s)) | rt (d:List Nat) (e:List (Nat×AV)) (cl:List (Nat×AN)) (F:List (Nat×Nat)) (sg fz:List Nat) {r:Ret} {p:Prop} (hp:p):Scr S (some (.inr r)) | no:Scr S none
abbrev Cfg:=Code⊕Exit->List Ks->St->Raw
def rnR(f:Code⊕Exit->List Ks->St->Raw):Option ((Code⊕Exit)×List Ks×St×Prop)->Raw | some (c,k,st,p)=>.rn p (f c k st) | none=>.no
def Scr.go{σ:Type}{S:σ->St}(P:Program)(fn:Func)(m:Nat){X:Option (σ⊕Ret)}(t:Scr S X):Cfg:=Scr.rec (motive:=fun _ _=>Cfg) (fun {_ _ b} _ _ ix iy c k st=>Raw.br b (fun h=>ix h c k st) (fun h=>iy h c k st)) (fun {_ p} _ ix c k st=>Raw.gu p (fun h=>ix h c k st)) (fun {_ _ l i} _ ix c k st=>Raw.el l i (fun v h=>ix v h c k st)) (fun K d e cl F _ _ _ ix c k st=>rnR ix (gk P F m 4000 K (hT (ds d) e cl) c k st)) (fun d e cl F vl sg vars _ _ _ c k st=>Raw.lp (Fp m vl sg [] vars (gm P F m 4000 (hT (ds d) e cl) c k st))) (fun d e cl F vl sg vars _ _ _ _ _ c k st=>Raw.lp (Fp m vl sg [] vars (gm P F m 4000 (hT (ds d) e cl) c k st))) (fun d e cl F sg fz _ _ _ c k st=>Raw.rt (Iu P fn m sg fz (gm P F m 4000 (hT (ds d) e cl) c k st))) (fun _ _ _=>Raw.no) t
def Scr.er{σ:Type}{S:σ->St}(fn:Func)(hd:σ->Nat){X:Option (σ⊕Ret)}(t:Scr S X):Raw:=Scr.rec (motive:=fun _ _=>Raw) (fun {_ _ b} _ _ ix iy=>Raw.br b ix iy) (fun {_ p} _ ix=>Raw.gu p ix) (fun {_ _ l i} _ ix=>Raw.el l i ix) (fun _ _ _ _ _ p _ _ ix=>Raw.rn p ix) (fun _ _ _ _ _ _ _ s p _=>Raw.lp (some (Av fn (hd s),AK fn (hd s),S s,p))) (fun _ _ _ _ _ _ _ s s' p _ _=>Raw.lp (some (Av fn (hd s),AK fn (hd s),s',p))) (fun _ _ _ _ _ _ r p _=>Raw.rt (some (r.1,r.2,p))) Raw.no t
theorem Scr.sound{σ:Type}{S:σ->St}{fn:Func}{m:Nat}{hd:σ->Nat}(hmix:P.follows .mixedOrders=true){X:Option (σ⊕Ret)}(t:Scr S X):
  ∀c k st,t.go P fn m c k st=t.er fn hd->∀o,X=some o->Cx P fn m S hd c k st o:=by
 induction t with
 | br x y ix iy=>
  intro c k st h o ho;have h':=h;simp only[Scr.go,Scr.er,Raw.br.injEq,Tm,true_and] at h';rcases Mw ho with ⟨hb,ho⟩ | ⟨hb,ho⟩
  .exact ix hb c k st (congrFun h'.1 hb) o ho
  .exact iy hb c k st (congrFun h'.2 hb) o ho
 | gu x ix=>intro c k st h o ho;have h':=h;simp only[Scr.go,Scr.er,Raw.gu.injEq,Tm,true_and] at h';obtain⟨hp,ho⟩:=L2 ho;exact ix hp c k st (congrFun h' hp) o ho
 | el x ix=>intro c k st h o ho;have h':=h;simp only[Scr.go,Scr.er,Raw.el.injEq,Tm,true_and] at h';obtain⟨v,hv,ho⟩:=MZ ho;exact ix v hv c k st (congrFun (congrFun h' v) hv) o ho
 | rn K d e cl F hp x ix=>
  intro c k st h o ho;have h':rnR (fun c k st=>x.go P fn m c k st) (gk P F m 4000 K (hT (ds d) e cl) c k st)=Raw.rn _ (x.er fn hd):=h;generalize hg:gk P F m 4000 K (hT (ds d) e cl) c k st=y at h';cases y with
  | none=>simp[rnR] at h'
  | some y=>
   obtain⟨c',k',st',p'⟩:=y;simp only[rnR,Raw.rn.injEq] at h';have hp':p':=h'.1 ▸ hp;have hr:=ix c' k' st' h'.2 o ho;cases o with
   | inl s=>exact fun post hk=>E1 hmix _ _ _ _ _ _ _ _ _ _ hg hp' (hr post hk)
   | inr r=>exact E1 hmix _ _ _ _ _ _ _ _ _ _ hg hp' hr
 | lp d e cl F vl sg vars hp=>intro c k st h o ho;cases ho;have h':=h;simp only[Scr.go,Scr.er,Raw.lp.injEq] at h';exact Cx.loop hmix h' hp
 | lq d e cl F vl sg vars s' hp hs=>intro c k st h o ho;cases ho;have h':=h;simp only[Scr.go,Scr.er,Raw.lp.injEq] at h';subst hs;exact Cx.loop hmix h' hp
 | rt d e cl F sg fz hp=>intro c k st h o ho;cases ho;have h':=h;simp only[Scr.go,Scr.er,Raw.rt.injEq] at h';exact Cx.ret hmix h' hp
 | no=>intro c k st h o ho;cases ho
theorem Scr.ok{σ:Type}{S:σ->St}{fn:Func}{m:Nat}{hd:σ->Nat}{X:Option (σ⊕Ret)}{c:Code}{k:List Ks}{st:St}{o:σ⊕Ret}(ho:X=some o)(hmix:P.follows .mixedOrders=true)(t:Scr S X)
  (h:t.go P fn m (.inl c) k st=t.er fn hd):Arr P fn m S hd c k st o:=by
 have:=Scr.sound hmix t (.inl c) k st h o ho;cases o<;>exact this
def hK{f:FuncId}{hin hout:List (Option Blk)}{args:List AV}{res:AV}(_:CT P f hin args hout res)(sg fz:List Nat):AN:=.call sg fz (hout.filterMap id) res
def upV:List (Nat×AV)->Nat->AV->AV | [],_,v=>v | (t,w)::r,s,v=>if t=s then w else upV r s v
def upF(u:List (Nat×AV)):List (Nat×AV)->List (Nat×AV) | []=>[] | (s,v)::r=>(s,upV u s v)::upF u r
def upB:List (Nat×List AV)->Nat->List AV->List AV | [],_,v=>v | (t,w)::r,s,v=>if t=s then w else upB r s v
def upH(u:List (Nat×List AV)):Nat->List (Option Blk)->List (Option Blk) | _,[]=>[] | i,none::r=>none::upH u (i+1) r | i,some b::r=>some (.mk (upB u i b.es) b.z b.flat b.wr b.mp)::upH u (i+1) r
def up(u:List (Nat×AV))(w:List (Nat×List AV))(st:St):St:=.mk st.n (upF u st.fr) (upH w 0 st.hp)
end Go.AX
open Go Go.AX Go.Proofs
set_option maxRecDepth 100000
set_option maxHeartbeats 4000000
set_option linter.unusedVariables false
namespace Go.Proofs.Ytedjkebooffjpaa
structure QN where
 s:ByteArray
 c:Int
 i:Nat
 b:Bool
 b2:Bool
 x:Int
 y:Int
 z:Int
 u:Int
def cN(q:QN):Nat->FuncId->List AV->List (Option Blk)->AN:=fun dst f args hp=>match f with
 | 144=>.call [] [] [] (.bool q.b)
 | 146=>.call [] [] [] (.bool q.b)
 | 127=>.call [] [] [] (.bool q.b)
 | _=>.no
def eNm(q:QN):List (Nat×AV):=[(23,.int .u8 q.c)]
def HV(q:QN):St:={n:=Try.f144.ntmps,fr:=[(0,.int .u8 q.c)],hp:=[]}
def IA(q:QN):St:={n:=Try.f146.ntmps,fr:=[(0,.int .u8 q.c)],hp:=[]}
def st149(q:QN):St:={n:=Try.f127.ntmps,fr:=[(0,.int .i64 q.x),(1,.int .i64 q.y),(2,.int .i64 q.z)],hp:=[]}
def JX(q:QN):St:={n:=Try.f129.ntmps,fr:=[(0,.str q.s)],hp:=[]}
def C9(q:QN):St:={n:=Try.f129.ntmps,fr:=[(19,.lst (AU q.s)),(20,.int .i64 (AU q.s).length),(21,.int .i64 (iN q.i))],hp:=[]}
theorem let_0(q:QN)(h1:(decide (97<=q.c)=true))(h2:(decide (q.c<=122)=true)):GoP Ux (hU [11,19] (eNm q) (cN q)) 0 (zB Try.f144) (HV q) (Fin Ux Try.f144 0 [] (AV.bool true)):=zF (σ:=[]) (fz:=[]) (by kernel_rfl) (aj (u2 (al (u2 (u2 (u2 (ag h1 (ag h1 (ag h1 (u2 (aj h2 (aj h2 (aj h2 (k2 (aj h2 (ag h2 s2))))))))))))))) t2)
theorem let_1(q:QN)(h1:(decide (97<=q.c)=true))(h2:(decide (q.c<=122)=false))(h3:(decide (65<=q.c)=true)):GoP Ux (hU [11,18,25] (eNm q) (cN q)) 0 (zB Try.f144) (HV q) (Fin Ux Try.f144 0 [] (AV.bool (decide (q.c<=90)))):=zF (σ:=[]) (fz:=[]) (by kernel_rfl) (aj (u2 (al (u2 (u2 (u2 (ag h1 (ag h1 (ag h1 (u2 (ag h2 (ag h2 (ag h2 (ag h3 (ag h3 (aj (aj h2 (aj h3 t2)) (ag h2 s2)))))))))))))))) t2)
theorem let_2(q:QN)(h1:(decide (97<=q.c)=true))(h2:(decide (q.c<=122)=false))(h3:(decide (65<=q.c)=false)):GoP Ux (hU [11,18,24] (eNm q) (cN q)) 0 (zB Try.f144) (HV q) (Fin Ux Try.f144 0 [] (AV.bool false)):=zF (σ:=[]) (fz:=[]) (by kernel_rfl) (aj (u2 (al (u2 (u2 (u2 (ag h1 (ag h1 (ag h1 (u2 (ag h2 (ag h2 (ag h2 (aj h3 (aj h3 (aj (aj h2 (aj h3 t2)) (ag h2 s2)))))))))))))))) t2)
theorem let_3(q:QN)(h1:(decide (97<=q.c)=false))(h2:(decide (65<=q.c)=true)):GoP Ux (hU [10,25] (eNm q) (cN q)) 0 (zB Try.f144) (HV q) (Fin Ux Try.f144 0 [] (AV.bool (decide (q.c<=90)))):=zF (σ:=[]) (fz:=[]) (by kernel_rfl) (aj (u2 (al (u2 (u2 (u2 (aj h1 (aj h1 (ag h1 (u2 (aj t3 (aj t3 (aj t3 (ag h2 (ag h2 (aj (ak (aj h2 t2)) (aj t3 s2)))))))))))))))) t2)
theorem let_4(q:QN)(h1:(decide (97<=q.c)=false))(h2:(decide (65<=q.c)=false)):GoP Ux (hU [10,24] (eNm q) (cN q)) 0 (zB Try.f144) (HV q) (Fin Ux Try.f144 0 [] (AV.bool false)):=zF (σ:=[]) (fz:=[]) (by kernel_rfl) (aj (u2 (al (u2 (u2 (u2 (aj h1 (aj h1 (ag h1 (u2 (aj t3 (aj t3 (aj t3 (aj h2 (aj h2 (aj (ak (aj h2 t2)) (aj t3 s2)))))))))))))))) t2)
theorem rlet_0(q:QN)(h1:(decide (97<=q.c)=true))(h2:(decide (q.c<=122)=true)):GoP Ux (hU [11,19] (eNm q) (cN q)) 0 (zB Try.f146) (IA q) (Fin Ux Try.f146 0 [] (AV.bool true)):=zF (σ:=[]) (fz:=[]) (by kernel_rfl) (aj (u2 (al (u2 (u2 (u2 (ag h1 (ag h1 (ag h1 (u2 (aj h2 (aj h2 (aj h2 (k2 (aj h2 (ag h2 s2))))))))))))))) t2)
theorem rlet_1(q:QN)(h1:(decide (97<=q.c)=true))(h2:(decide (q.c<=122)=false))(h3:(decide (65<=q.c)=true)):GoP Ux (hU [11,18,25] (eNm q) (cN q)) 0 (zB Try.f146) (IA q) (Fin Ux Try.f146 0 [] (AV.bool (decide (q.c<=90)))):=zF (σ:=[]) (fz:=[]) (by kernel_rfl) (aj (u2 (al (u2 (u2 (u2 (ag h1 (ag h1 (ag h1 (u2 (ag h2 (ag h2 (ag h2 (ag h3 (ag h3 (aj (aj h2 (aj h3 t2)) (ag h2 s2)))))))))))))))) t2)
theorem rlet_2(q:QN)(h1:(decide (97<=q.c)=true))(h2:(decide (q.c<=122)=false))(h3:(decide (65<=q.c)=false)):GoP Ux (hU [11,18,24] (eNm q) (cN q)) 0 (zB Try.f146) (IA q) (Fin Ux Try.f146 0 [] (AV.bool false)):=zF (σ:=[]) (fz:=[]) (by kernel_rfl) (aj (u2 (al (u2 (u2 (u2 (ag h1 (ag h1 (ag h1 (u2 (ag h2 (ag h2 (ag h2 (aj h3 (aj h3 (aj (aj h2 (aj h3 t2)) (ag h2 s2)))))))))))))))) t2)
theorem rlet_3(q:QN)(h1:(decide (97<=q.c)=false))(h2:(decide (65<=q.c)=true)):GoP Ux (hU [10,25] (eNm q) (cN q)) 0 (zB Try.f146) (IA q) (Fin Ux Try.f146 0 [] (AV.bool (decide (q.c<=90)))):=zF (σ:=[]) (fz:=[]) (by kernel_rfl) (aj (u2 (al (u2 (u2 (u2 (aj h1 (aj h1 (ag h1 (u2 (aj t3 (aj t3 (aj t3 (ag h2 (ag h2 (aj (ak (aj h2 t2)) (aj t3 s2)))))))))))))))) t2)
theorem rlet_4(q:QN)(h1:(decide (97<=q.c)=false))(h2:(decide (65<=q.c)=false)):GoP Ux (hU [10,24] (eNm q) (cN q)) 0 (zB Try.f146) (IA q) (Fin Ux Try.f146 0 [] (AV.bool false)):=zF (σ:=[]) (fz:=[]) (by kernel_rfl) (aj (u2 (al (u2 (u2 (u2 (aj h1 (aj h1 (ag h1 (u2 (aj t3 (aj t3 (aj t3 (aj h2 (aj h2 (aj (ak (aj h2 t2)) (aj t3 s2)))))))))))))))) t2)
theorem wit_0(q:QN)(h1:(decide (q.y<=q.x)=true)):GoP Ux (hU [21] (eNm q) (cN q)) 0 (zB Try.f127) (st149 q) (Fin Ux Try.f127 0 [] (AV.bool (decide (q.x<=q.z)))):=zF (σ:=[]) (fz:=[]) (by kernel_rfl) (aj (u2 (al (u2 (u2 (aj t3 (u2 (ag h1 (ag h1 (aj (aj h1 t3) (ag h1 s2)))))))))) t2)
theorem wit_1(q:QN)(h1:(decide (q.y<=q.x)=false)):GoP Ux (hU [20] (eNm q) (cN q)) 0 (zB Try.f127) (st149 q) (Fin Ux Try.f127 0 [] (AV.bool false)):=zF (σ:=[]) (fz:=[]) (by kernel_rfl) (aj (u2 (al (u2 (u2 (aj t3 (u2 (aj h1 (aj h1 (aj h1 (ag h1 s2)))))))))) t2)
theorem nmi_0(q:QN)(h1:((q.s.toList==(ByteArray.mk #[]).toList)=true)):GoP Ux (hU [15] (eNm q) (cN q)) 0 (zB Try.f129) (JX q) (Fin Ux Try.f129 0 [] (AV.bool false)):=zF (σ:=[]) (fz:=[]) (by kernel_rfl) (aj (u2 (aj (u2 (u2 (u2 (aj h1 (aj h1 (aj h1 (ag h1 (u2 (ak (k3 (al t3))))))))))) (ak s2))) t2)
theorem nmi_1(q:QN)(h1:((q.s.toList==(ByteArray.mk #[]).toList)=false))(h2:(decide (12<iN q.s.size)=true)):GoP Ux (hU [14,25] (eNm q) (cN q)) 0 (zB Try.f129) (JX q) (Fin Ux Try.f129 0 [] (AV.bool false)):=zF (σ:=[]) (fz:=[]) (by kernel_rfl) (aj (u2 (aj (u2 (u2 (u2 (ag h1 (ag h1 (ag h1 (ag h1 (u2 (aj h2 (aj h2 (aj h2 (aj h2 (al (aj h2 t2)))))))))))))) (ak s2))) t2)
theorem nmi_2(q:QN)(h1:((q.s.toList==(ByteArray.mk #[]).toList)=false))(h2:(decide (12<iN q.s.size)=false))(h3:(0<iN q.s.size))(h4:(CT Ux 144 [] [AV.int IntKind.u8 (bAt q.s (Int.toNat 0))] [] (AV.bool q.b)))(h5:((!q.b)=true)):GoP Ux (hU [14,24,35] (eNm q) (cN q)) 0 (zB Try.f129) (JX q) (Fin Ux Try.f129 0 [] (AV.bool false)):=zF (σ:=[]) (fz:=[]) (by kernel_rfl) (aj (u2 (aj (u2 (u2 (u2 (ag h1 (ag h1 (ag h1 (ag h1 (u2 (ag h2 (aj (aj h2 (ak (aj (Int.le_refl 0) h3))) (aj (aj h2 (k2 (al h4))) (ag h2 (al (aj h2 t2)))))))))))))) (aj h5 s2))) t2)
theorem nmi_3(q:QN)(h1:((q.s.toList==(ByteArray.mk #[]).toList)=false))(h2:(decide (12<iN q.s.size)=false))(h3:(0<iN q.s.size))(h4:(CT Ux 144 [] [AV.int IntKind.u8 (bAt q.s (Int.toNat 0))] [] (AV.bool q.b)))(h5:((!q.b)=false)){post:Exit->St->Prop}(ht:T Ux 0 (.loop (zC (zB Try.f129) 0)) (St.mk 45 [(19,Uw (AU q.s)),(20,iv (iN (AU q.s).length)),(21,iv 0)] []) (TK Ux 0 post (zK (zB Try.f129) 0))):GoP Ux (hU [14,24,34] (eNm q) (cN q)) 0 (zB Try.f129) (JX q) post:=zR (σ:=[]) (fz:=[]) (vars:=[19,20,21]) (by kernel_rfl) (aj (u2 (aj (u2 (u2 (u2 (ag h1 (ag h1 (ag h1 (ag h1 (u2 (ag h2 (aj (aj h2 (ak (aj (Int.le_refl 0) h3))) (aj (aj h2 (k2 (al h4))) (ag h2 (al (aj h2 t2)))))))))))))) (aj h5 (al (u2 (u2 (u2 t2))))))) t4) ht
theorem nml_0(q:QN)(h1:(decide (iN q.i<iN (AU q.s).length)=true))(h2:(0<=iN q.i))(h3:((AU q.s)[(iN q.i).toNat]?=some (AV.int IntKind.u8 q.c)))(h4:(CT Ux 144 [] [AV.int IntKind.u8 q.c] [] (AV.bool q.b)))(h5:((!q.b)=true))(h6:(decide (q.c<48)=true))(h7:((q.c != 45)=true))(h8:((q.c != 95)=true)):GoO Ux (hU [45,57,63,81,87] (eNm q) (cN q)) 0 (zC (zB Try.f129) 0) (zK (zB Try.f129) 0) (C9 q) (Fin Ux Try.f129 0 [] (AV.bool false)):=zF (σ:=[]) (fz:=[]) (by kernel_rfl) (aj (al (aj (al t3) (aj h1 (aj (aj (k2 (aj h2 h3)) (u2 s2)) (aj (u2 (aj (k2 (al h4)) (u2 (u2 (ag h5 (ag h5 (ag h5 (aj h6 (aj h6 (aj (aj h5 (aj h6 t2)) (ag h5 (u2 (aj t3 (aj t3 (aj t3 (u2 (ag h7 (ag h7 (al (aj h7 t2)))))))))))))))))))) (aj h8 s2)))))) t2)
theorem nml_1(q:QN)(h1:(decide (iN q.i<iN (AU q.s).length)=true))(h2:(0<=iN q.i))(h3:((AU q.s)[(iN q.i).toNat]?=some (AV.int IntKind.u8 q.c)))(h4:(CT Ux 144 [] [AV.int IntKind.u8 q.c] [] (AV.bool q.b)))(h5:((!q.b)=true))(h6:(decide (q.c<48)=true))(h7:((q.c != 45)=true))(h8:((q.c != 95)=false)){post:Exit->St->Prop}{R:St->Prop}(hR:∀st,Ren 0 st (St.mk 45 [(19,Uw (AU q.s)),(20,iv (iN (AU q.s).length)),(21,iv (i64.wrap (iN q.i+1)))] [])->R st):GoP Ux (hU [45,57,63,81,86] (eNm q) (cN q)) 0 (zC (zB Try.f129) 0) (C9 q) (andThen R post):=zN (σ:=[]) (fz:=[]) (vars:=[19,20,21]) (by kernel_rfl) (aj (aj (al t3) (aj h1 (aj (aj (k2 (aj h2 h3)) (u2 s2)) (aj (u2 (aj (k2 (al h4)) (u2 (u2 (ag h5 (ag h5 (ag h5 (aj h6 (aj h6 (aj (aj h5 (aj h6 t2)) (ag h5 (u2 (aj t3 (aj t3 (aj t3 (u2 (ag h7 (ag h7 (al (aj h7 t2)))))))))))))))))))) (aj h8 (al (u2 s2))))))) t4) hR
theorem nml_2(q:QN)(h1:(decide (iN q.i<iN (AU q.s).length)=true))(h2:(0<=iN q.i))(h3:((AU q.s)[(iN q.i).toNat]?=some (AV.int IntKind.u8 q.c)))(h4:(CT Ux 144 [] [AV.int IntKind.u8 q.c] [] (AV.bool q.b)))(h5:((!q.b)=true))(h6:(decide (q.c<48)=true))(h7:((q.c != 45)=false)){post:Exit->St->Prop}{R:St->Prop}(hR:∀st,Ren 0 st (St.mk 45 [(19,Uw (AU q.s)),(20,iv (iN (AU q.s).length)),(21,iv (i64.wrap (iN q.i+1)))] [])->R st):GoP Ux (hU [45,57,63,80] (eNm q) (cN q)) 0 (zC (zB Try.f129) 0) (C9 q) (andThen R post):=zN (σ:=[]) (fz:=[]) (vars:=[19,20,21]) (by kernel_rfl) (aj (aj (al t3) (aj h1 (aj (aj (k2 (aj h2 h3)) (u2 s2)) (aj (u2 (aj (k2 (al h4)) (u2 (u2 (ag h5 (ag h5 (ag h5 (aj h6 (aj h6 (aj (aj h5 (aj h6 t2)) (ag h5 (u2 (aj t3 (aj t3 (aj t3 (u2 (aj h7 (aj h7 (al (aj h7 t2)))))))))))))))))))) (ak (al (u2 s2))))))) t4) hR
theorem nml_3(q:QN)(h1:(decide (iN q.i<iN (AU q.s).length)=true))(h2:(0<=iN q.i))(h3:((AU q.s)[(iN q.i).toNat]?=some (AV.int IntKind.u8 q.c)))(h4:(CT Ux 144 [] [AV.int IntKind.u8 q.c] [] (AV.bool q.b)))(h5:((!q.b)=true))(h6:(decide (q.c<48)=false))(h7:(decide (57<q.c)=true))(h8:((q.c != 45)=true))(h9:((q.c != 95)=true)):GoO Ux (hU [45,57,62,73,81,87] (eNm q) (cN q)) 0 (zC (zB Try.f129) 0) (zK (zB Try.f129) 0) (C9 q) (Fin Ux Try.f129 0 [] (AV.bool false)):=zF (σ:=[]) (fz:=[]) (by kernel_rfl) (aj (al (aj (al t3) (aj h1 (aj (aj (k2 (aj h2 h3)) (u2 s2)) (aj (u2 (aj (k2 (al h4)) (u2 (u2 (ag h5 (ag h5 (ag h5 (ag h6 (ag h6 (aj (aj h5 (aj h6 t2)) (ag h5 (u2 (ag h7 (ag h7 (ag h7 (u2 (ag h8 (ag h8 (al (aj h8 t2)))))))))))))))))))) (aj h9 s2)))))) t2)
theorem nml_4(q:QN)(h1:(decide (iN q.i<iN (AU q.s).length)=true))(h2:(0<=iN q.i))(h3:((AU q.s)[(iN q.i).toNat]?=some (AV.int IntKind.u8 q.c)))(h4:(CT Ux 144 [] [AV.int IntKind.u8 q.c] [] (AV.bool q.b)))(h5:((!q.b)=true))(h6:(decide (q.c<48)=false))(h7:(decide (57<q.c)=true))(h8:((q.c != 45)=true))(h9:((q.c != 95)=false)){post:Exit->St->Prop}{R:St->Prop}(hR:∀st,Ren 0 st (St.mk 45 [(19,Uw (AU q.s)),(20,iv (iN (AU q.s).length)),(21,iv (i64.wrap (iN q.i+1)))] [])->R st):GoP Ux (hU [45,57,62,73,81,86] (eNm q) (cN q)) 0 (zC (zB Try.f129) 0) (C9 q) (andThen R post):=zN (σ:=[]) (fz:=[]) (vars:=[19,20,21]) (by kernel_rfl) (aj (aj (al t3) (aj h1 (aj (aj (k2 (aj h2 h3)) (u2 s2)) (aj (u2 (aj (k2 (al h4)) (u2 (u2 (ag h5 (ag h5 (ag h5 (ag h6 (ag h6 (aj (aj h5 (aj h6 t2)) (ag h5 (u2 (ag h7 (ag h7 (ag h7 (u2 (ag h8 (ag h8 (al (aj h8 t2)))))))))))))))))))) (aj h9 (al (u2 s2))))))) t4) hR
theorem nml_5(q:QN)(h1:(decide (iN q.i<iN (AU q.s).length)=true))(h2:(0<=iN q.i))(h3:((AU q.s)[(iN q.i).toNat]?=some (AV.int IntKind.u8 q.c)))(h4:(CT Ux 144 [] [AV.int IntKind.u8 q.c] [] (AV.bool q.b)))(h5:((!q.b)=true))(h6:(decide (q.c<48)=false))(h7:(decide (57<q.c)=true))(h8:((q.c != 45)=false)){post:Exit->St->Prop}{R:St->Prop}(hR:∀st,Ren 0 st (St.mk 45 [(19,Uw (AU q.s)),(20,iv (iN (AU q.s).length)),(21,iv (i64.wrap (iN q.i+1)))] [])->R st):GoP Ux (hU [45,57,62,73,80] (eNm q) (cN q)) 0 (zC (zB Try.f129) 0) (C9 q) (andThen R post):=zN (σ:=[]) (fz:=[]) (vars:=[19,20,21]) (by kernel_rfl) (aj (aj (al t3) (aj h1 (aj (aj (k2 (aj h2 h3)) (u2 s2)) (aj (u2 (aj (k2 (al h4)) (u2 (u2 (ag h5 (ag h5 (ag h5 (ag h6 (ag h6 (aj (aj h5 (aj h6 t2)) (ag h5 (u2 (ag h7 (ag h7 (ag h7 (u2 (aj h8 (aj h8 (al (aj h8 t2)))))))))))))))))))) (ak (al (u2 s2))))))) t4) hR
theorem nml_6(q:QN)(h1:(decide (iN q.i<iN (AU q.s).length)=true))(h2:(0<=iN q.i))(h3:((AU q.s)[(iN q.i).toNat]?=some (AV.int IntKind.u8 q.c)))(h4:(CT Ux 144 [] [AV.int IntKind.u8 q.c] [] (AV.bool q.b)))(h5:((!q.b)=true))(h6:(decide (q.c<48)=false))(h7:(decide (57<q.c)=false)){post:Exit->St->Prop}{R:St->Prop}(hR:∀st,Ren 0 st (St.mk 45 [(19,Uw (AU q.s)),(20,iv (iN (AU q.s).length)),(21,iv (i64.wrap (iN q.i+1)))] [])->R st):GoP Ux (hU [45,57,62,72] (eNm q) (cN q)) 0 (zC (zB Try.f129) 0) (C9 q) (andThen R post):=zN (σ:=[]) (fz:=[]) (vars:=[19,20,21]) (by kernel_rfl) (aj (aj (al t3) (aj h1 (aj (aj (k2 (aj h2 h3)) (u2 s2)) (aj (u2 (aj (k2 (al h4)) (u2 (u2 (ag h5 (ag h5 (ag h5 (ag h6 (ag h6 (aj (aj h5 (aj h6 t2)) (ag h5 (u2 (aj h7 (aj h7 (ag h7 (u2 (k2 (al t3)))))))))))))))))) (ak (al (u2 s2))))))) t4) hR
theorem nml_7(q:QN)(h1:(decide (iN q.i<iN (AU q.s).length)=true))(h2:(0<=iN q.i))(h3:((AU q.s)[(iN q.i).toNat]?=some (AV.int IntKind.u8 q.c)))(h4:(CT Ux 144 [] [AV.int IntKind.u8 q.c] [] (AV.bool q.b)))(h5:((!q.b)=false)){post:Exit->St->Prop}{R:St->Prop}(hR:∀st,Ren 0 st (St.mk 45 [(19,Uw (AU q.s)),(20,iv (iN (AU q.s).length)),(21,iv (i64.wrap (iN q.i+1)))] [])->R st):GoP Ux (hU [45,56] (eNm q) (cN q)) 0 (zC (zB Try.f129) 0) (C9 q) (andThen R post):=zN (σ:=[]) (fz:=[]) (vars:=[19,20,21]) (by kernel_rfl) (aj (aj (al t3) (aj h1 (aj (aj (k2 (aj h2 h3)) (u2 s2)) (aj (u2 (aj (k2 (al h4)) (u2 (u2 (aj h5 (aj h5 (aj h5 (k2 (aj h5 (ag h5 (u2 (k2 (aj t3 (u2 (k2 (al t3)))))))))))))))) (ak (al (u2 s2))))))) t4) hR
theorem nml_8(q:QN)(h1:(decide (iN q.i<iN (AU q.s).length)=false)):GoO Ux (hU [44] (eNm q) (cN q)) 0 (zC (zB Try.f129) 0) (zK (zB Try.f129) 0) (C9 q) (Fin Ux Try.f129 0 [] (AV.bool true)):=zF (σ:=[]) (fz:=[]) (by kernel_rfl) (aj (aj (aj (al t3) (al h1)) s2) t2)
def Le(v n:Int):St:={n:=Try.f45.ntmps,fr:=AI 0 [.int .i64 v,.int .i64 n],hp:=[]}
def noC2(v n:Int):Nat->FuncId->List AV->List (Option Blk)->AN:=fun _ _ _ _=>.no
def noE2(v n:Int):List (Nat×AV):=[]
theorem cut_0(v n:Int)(h1:(decide (n<=1)=true)):GoP Ux (hU [13] (noE2 v n) (noC2 v n)) 0 (zB Try.f45) (Le v n) (Fin Ux Try.f45 0 [] (iv 0)):=zF (σ:=[]) (fz:=[]) (by kernel_rfl) (aj (u2 (aj (u2 s2) (aj h1 s2))) t2)
theorem cut_1(v n:Int)(h1:(decide (n<=1)=false))(h2:(n=0->False))(h3:(decide (v.tmod n<0)=true)):GoP Ux (hU [12,23] (noE2 v n) (noC2 v n)) 0 (zB Try.f45) (Le v n) (Fin Ux Try.f45 0 [] (iv (i64.wrap (v.tmod n+n)))):=zF (σ:=[]) (fz:=[]) (by kernel_rfl) (aj (u2 (aj (u2 s2) (aj h1 (aj (u2 (u2 (aj (k2 h2) s2))) (aj (u2 s2) (aj h3 (aj (u2 (u2 (aj t3 s2))) (al (u2 s2))))))))) t2)
theorem cut_2(v n:Int)(h1:(decide (n<=1)=false))(h2:(n=0->False))(h3:(decide (v.tmod n<0)=false)):GoP Ux (hU [12,22] (noE2 v n) (noC2 v n)) 0 (zB Try.f45) (Le v n) (Fin Ux Try.f45 0 [] (iv (v.tmod n))):=zF (σ:=[]) (fz:=[]) (by kernel_rfl) (aj (u2 (aj (u2 s2) (aj h1 (aj (u2 (u2 (aj (k2 h2) s2))) (aj (u2 s2) (aj h3 (al (u2 s2)))))))) t2)
def Es(v n:Int):Int:=if n<=1 then 0 else if v.tmod n<0 then i64.wrap (v.tmod n+n) else v.tmod n
theorem mix:Try.prog.follows .mixedOrders=true:=by kernel_rfl
theorem Ob(v n:Int):CT Ux 45 [] [.int .i64 v,.int .i64 n] [] (.int .i64 (Es v n)):=by
 have hb:Try.f45.body=some (zB Try.f45):=by kernel_rfl
 have hn:[AV.int .i64 v,.int .i64 n].length<=Try.f45.ntmps:=nL rfl;unfold Es;by_cases h1:n<=1
 .rw[Ts h1];exact CT.path mix Try.func45 hb hn (cut_0 v n (by simpa using h1))
 .rw[Tt h1];by_cases h2:v.tmod n<0
  .rw[Ts h2];exact CT.path mix Try.func45 hb hn (cut_1 v n (by simpa using h1) (by omega) (by simpa using h2))
  .rw[Tt h2];exact CT.path mix Try.func45 hb hn (cut_2 v n (by simpa using h1) (by omega) (by simpa using h2))
def lstI(l:List Int):AV:=.lst (l.map (AV.int .i64))
def Ag(L:List Int)(k:Nat):Blk:={es:=[.agg [lstI L,.int .i64 (k:Int)]],z:=2,flat:=true,wr:=true}
def PF(L:List Int)(k:Nat)(n:Int):St:={n:=42,fr:=AI 0 [.ptr 0 0 0,.int .i64 n],hp:=[some (Ag L k)]}
def cutHint(f:FuncId)(args:List AV):AN:=match f,args with
 | 45,[.int _ v,.int _ n]=>.call [] [] [] (.int .i64 (Es v n))
 | _,_=>.no
def cNext(L:List Int)(k:Nat)(n:Int):Nat->FuncId->List AV->List (Option Blk)->AN:=fun _ f args _=>cutHint f args
def eNext(L:List Int)(k:Nat)(n:Int):List (Nat×AV):=[(30,.int .i64 (L.getD k 0))]
theorem next_0(L:List Int)(k:Nat)(n:Int)(h1:(decide (iN k<iN (Uq iv L).length)=true))(h2:((Uq iv L)[k]?=some (iv (L.getD k 0))))(h3:(CT Ux 45 [] [iv (L.getD k 0),iv n] [] (iv (Es (L.getD k 0) n)))):GoP Ux (hU [43] (eNext L k n) (cNext L k n)) 1 (zB Try.f15) (PF L k n) (Fin Ux Try.f15 1 [some (Blk.mk [AV.agg [Uw (Uq iv L),iv (i64.wrap (iN k+1))]] 2 true true none)] (iv (Es (L.getD k 0) n))):=zF (σ:=[0]) (fz:=[]) (by kernel_rfl) (aj (u2 (aj (u2 (u2 (u2 (u2 (u2 (aj (ak (show((11:Int)=(0:Int)->False) by first | decide | exact S9 _)) s2)))))) (aj (u2 (u2 (u2 (u2 (u2 (u2 (u2 (u2 (u2 (al t3)))))))))) (aj h1 (aj (u2 (u2 (u2 (u2 (u2 (u2 (u2 (u2 (aj (k2 (aj (show(0<=iN k) from(Int.natCast_nonneg _)) h2)) (u2 s2)))))))))) (aj (u2 (u2 (u2 (u2 (u2 (u2 (u2 (al t3)))))))) (al (u2 (u2 (aj (ak (k3 (al h3))) s2)))))))))) t3)
theorem next_1(L:List Int)(k:Nat)(n:Int)(h1:(decide (iN k<iN (Uq iv L).length)=false))(h2:(CT Ux 45 [] [iv ((i64.wrap (iN k * 7)).tmod 11),iv n] [] (iv (Es ((i64.wrap (iN k * 7)).tmod 11) n)))):GoP Ux (hU [42] (eNext L k n) (cNext L k n)) 1 (zB Try.f15) (PF L k n) (Fin Ux Try.f15 1 [some (Blk.mk [AV.agg [Uw (Uq iv L),iv (i64.wrap (iN k+1))]] 2 true true none)] (iv (Es ((i64.wrap (iN k * 7)).tmod 11) n))):=zF (σ:=[0]) (fz:=[]) (by kernel_rfl) (aj (u2 (aj (u2 (u2 (u2 (u2 (u2 (aj (ak (show((11:Int)=(0:Int)->False) by first | decide | exact S9 _)) s2)))))) (aj (u2 (u2 (u2 (u2 (u2 (u2 (u2 (u2 (u2 (al t3)))))))))) (aj h1 (aj (u2 (u2 (u2 (u2 (u2 (u2 (u2 (al t3)))))))) (al (u2 (u2 (aj (ak (k3 (al h2))) s2))))))))) t3)
def Jw(L:List Int)(k:Nat):Int:=if k<L.length then L.getD k 0 else (i64.wrap ((k:Int) * 7)).tmod 11
def Ai(L:List Int)(k:Nat)(n:Int):Int:=Es (Jw L k) n
theorem zW(k:Nat)(h:k<9223372036854775807):i64.wrap ((k:Int)+1)=((k+1:Nat):Int):=by
 have:i64.wrap ((k:Int)+1)=(k:Int)+1:=by
  have e1:(2:Int) ^ i64.bits=18446744073709551616:=by decide
  have e2:(2:Int) ^ (i64.bits-1)=9223372036854775808:=by decide
  have e3:i64.signed=true:=by decide
  simp only[IntKind.wrap,e1,e2,e3,Bool.true_and,decide_eq_true_eq];split<;>omega
 rw[this];rfl
theorem A6(L:List Int)(k:Nat)(n:Int)(hk:k<9223372036854775807):CT Ux 15 [some (Ag L k)] [.ptr 0 0 0,.int .i64 n] [some (Ag L (k+1))] (.int .i64 (Ai L k n)):=by
 have hb:Try.f15.body=some (zB Try.f15):=by kernel_rfl
 have hn:[AV.ptr 0 0 0,.int .i64 n].length<=Try.f15.ntmps:=nL rfl;unfold Ai Jw;by_cases h:k<L.length
 .rw[Ts h];have:=next_0 L k n (by simpa [iN] using h) (by simp[iN,h]) (Ob _ _);simp only[iN,zW k hk] at this;exact CT.path mix Try.func15 hb hn this
 .rw[Tt h];have:=next_1 L k n (by simpa [iN] using h) (Ob _ _);simp only[iN,zW k hk] at this;exact CT.path mix Try.func15 hb hn this
def lI(l:List Int):AV:=.lst (l.map (AV.int .i64))
def gL(g:List (List Int)):List AV:=g.map lI
def boL(s:List Bool):List AV:=s.map AV.bool
def dB(d:List Int):Blk:={es:=d.map (AV.int .i64),z:=1}
structure QD where
 g:List (List Int)
 s:List Bool
 goal:Nat
 n:Nat
 d:List Int
 far:Nat
 v:Nat
 i:Nat
 r:List Int
 w:Nat
 b:Bool
 e:Int
def st28(q:QD):St:={n:=Try.f71.ntmps,fr:=[(0,.lst (gL q.g)),(1,.lst (boL q.s)),(2,.int .i64 (iN q.goal))],hp:=[]}
def GL(q:QD):St:={n:=Try.f71.ntmps,fr:=[(0,.lst (gL q.g)),(1,.lst (boL q.s)),(2,.int .i64 (iN q.goal)),(7,.int .i64 (iN q.n)),(8,.sl 0 0 q.n),(17,.int .i64 (iN q.n)),(18,.int .i64 (iN q.i))],hp:=[some (dB q.d)]}
def Jl(q:QD):St:={n:=Try.f71.ntmps,fr:=[(0,.lst (gL q.g)),(1,.lst (boL q.s)),(7,.int .i64 (iN q.n)),(8,.sl 0 0 q.n),(33,.int .i64 (iN q.n)),(34,.int .i64 (iN q.far))],hp:=[some (dB q.d)]}
def DU(q:QD):St:={n:=Try.f71.ntmps,fr:=[(0,.lst (gL q.g)),(1,.lst (boL q.s)),(7,.int .i64 (iN q.n)),(8,.sl 0 0 q.n),(10,.int .i64 (iN q.far)),(33,.int .i64 (iN q.n)),(34,.int .i64 (iN q.far)),(37,.int .i64 (iN q.n)),(38,.int .i64 (iN q.v))],hp:=[some (dB q.d)]}
def H3(q:QD):St:={n:=Try.f71.ntmps,fr:=[(0,.lst (gL q.g)),(1,.lst (boL q.s)),(7,.int .i64 (iN q.n)),(8,.sl 0 0 q.n),(10,.int .i64 (iN q.far)),(11,.int .i64 (iN q.v)),(33,.int .i64 (iN q.n)),(34,.int .i64 (iN q.far)),(37,.int .i64 (iN q.n)),(38,.int .i64 (iN q.v)),(56,.int .i64 (iN q.r.length)),(57,.int .i64 (iN q.i))],hp:=[some (dB q.d)]}
def cD(q:QD):Nat->FuncId->List AV->List (Option Blk)->AN:=fun _ _ _ _=>.no
def eD(q:QD):List (Nat×AV):=[(27,.bool q.b),(43,.bool q.b),(49,.int .i64 q.e),(54,lI q.r),(63,lI q.r),(66,.int .i64 (iN q.w)),(69,.int .i64 q.e)]
def eR(q:QD):List (Nat×AV):=[(26,.bool q.b),(46,.bool q.b),(52,.int .i64 q.e),(58,lI q.r),(67,lI q.r),(70,.int .i64 (iN q.w)),(73,.int .i64 q.e)]
def st30(q:QD):St:={n:=Try.f125.ntmps,fr:=[(0,.lst (gL q.g)),(1,.lst (boL q.s)),(2,.int .i64 (iN q.goal))],hp:=[]}
def Hc(q:QD):St:={n:=Try.f125.ntmps,fr:=[(0,.lst (gL q.g)),(1,.lst (boL q.s)),(2,.int .i64 (iN q.goal)),(7,.sl 0 0 q.n),(8,.int .i64 (iN q.i))],hp:=[some (dB q.d)]}
def JE(q:QD):St:={n:=Try.f125.ntmps,fr:=[(0,.lst (gL q.g)),(1,.lst (boL q.s)),(7,.sl 0 0 q.n),(9,.int .i64 (iN (q.far+1)))],hp:=[some (dB q.d)]}
def DX(q:QD):St:={n:=Try.f125.ntmps,fr:=[(0,.lst (gL q.g)),(1,.lst (boL q.s)),(7,.sl 0 0 q.n),(9,.int .i64 (iN (q.far+1))),(10,.int .i64 (iN q.v))],hp:=[some (dB q.d)]}
def HY(q:QD):St:={n:=Try.f125.ntmps,fr:=[(0,.lst (gL q.g)),(1,.lst (boL q.s)),(7,.sl 0 0 q.n),(9,.int .i64 (iN (q.far+1))),(10,.int .i64 (iN q.v)),(11,.int .i64 (iN q.i))],hp:=[some (dB q.d)]}
theorem di_0(q:QD)(h1:(iN (gL q.g).length<=iN (gL q.g).length))(h2:(8 * iN (gL q.g).length<=281474976710656))(h3:(iN (gL q.g).length<=9223372036854775807)){post:Exit->St->Prop}(ht:T Ux 0 (.loop (zC (zB Try.f71) 0)) (St.mk 81 [(0,Uw (gL q.g)),(1,Uw (boL q.s)),(2,iv (iN q.goal)),(7,iv (iN (gL q.g).length)),(8,AV.sl 0 0 (gL q.g).length),(17,iv (iN (gL q.g).length)),(18,iv 0)] [some (Blk.mk (Ur (gL q.g).length (iv 0)) 1 true true none)]) (TK Ux 0 post (zK (zB Try.f71) 0))):GoP Ux (hU [] (eD q) (cD q)) 0 (zB Try.f71) (st28 q) post:=zR (σ:=[0]) (fz:=[]) (vars:=[0,1,2,7,8,17,18]) (by kernel_rfl) (aj (u2 (aj (u2 (u2 s2)) (aj (u2 (aj (k2 (aj (show(0<=iN (gL q.g).length) from(Int.natCast_nonneg _)) (aj h1 (aj h2 h3)))) s2)) (al (u2 t2))))) t9) ht
theorem dfr_0(q:QD)(h1:(decide (iN q.i<iN q.n)=true))(h2:(0<=iN q.i))(h3:(iN q.i<iN q.n))(h4:((0+(iN q.i).toNat).succ.le (Uq iv q.d).length)){post:Exit->St->Prop}{R:St->Prop}(hR:∀st,Ren 0 st (St.mk 81 [(0,Uw (gL q.g)),(1,Uw (boL q.s)),(2,iv (iN q.goal)),(7,iv (iN q.n)),(8,AV.sl 0 0 q.n),(17,iv (iN q.n)),(18,iv (i64.wrap (iN q.i+1)))] [some (Blk.mk ((Uq iv q.d).set (0+(iN q.i).toNat) (iv (-1))) 1 true true none)])->R st):GoP Ux (hU [39] (eD q) (cD q)) 0 (zC (zB Try.f71) 0) (GL q) (andThen R post):=zN (σ:=[0]) (fz:=[]) (vars:=[0,1,2,7,8,17,18]) (by kernel_rfl) (aj (aj (al t3) (aj h1 (aj (u2 s2) (aj (u2 (u2 (aj (k2 (aj h2 h3)) (al (ak h4))))) (al (u2 s2)))))) t9) hR
theorem dfs_0(q:QD)(h1:(decide (iN q.i<iN q.n)=false))(h2:(0<=iN q.goal))(h3:((boL q.s)[(iN q.goal).toNat]?=some (AV.bool q.b)))(h4:(q.b=true))(h5:(q.n=(Uq iv q.d).length)):GoO Ux (hU [38,57] (eD q) (cD q)) 0 (zC (zB Try.f71) 0) (zK (zB Try.f71) 0) (GL q) (Fin Ux Try.f71 0 [] (Uw (Uq iv q.d))):=zF (σ:=[]) (fz:=[0]) (by kernel_rfl) (aj (aj (aj (al t3) (al h1)) (aj (u2 (u2 (aj (k2 (aj h2 h3)) s2))) (aj h4 (al (u2 s2))))) (al h5))
theorem dfx_0(q:QD)(h1:(decide (iN q.i<iN q.n)=false))(h2:(0<=iN q.goal))(h3:((boL q.s)[(iN q.goal).toNat]?=some (AV.bool q.b)))(h4:(q.b=false))(h5:(iN q.goal<iN q.n))(h6:((0+(iN q.goal).toNat).succ.le (Uq iv q.d).length)){post:Exit->St->Prop}(ht:T Ux 0 (.loop (zC (zB Try.f71) 1)) (St.mk 81 [(0,Uw (gL q.g)),(1,Uw (boL q.s)),(7,iv (iN q.n)),(8,AV.sl 0 0 q.n),(33,iv (iN q.n)),(34,iv 0)] [some (Blk.mk ((Uq iv q.d).set (0+(iN q.goal).toNat) (iv 0)) 1 true true none)]) (TK Ux 0 post (zK (zB Try.f71) 1))):GoO Ux (hU [38,56] (eD q) (cD q)) 0 (zC (zB Try.f71) 0) (zK (zB Try.f71) 0) (GL q) post:=zR (σ:=[0]) (fz:=[]) (vars:=[0,1,7,8,33,34]) (by kernel_rfl) (aj (aj (aj (al t3) (al h1)) (aj (u2 (u2 (aj (k2 (aj h2 h3)) s2))) (aj h4 (aj (u2 (u2 (aj (k2 (aj h2 h5)) (al (ak h6))))) (al (u2 t2)))))) t8) ht
theorem dax_0(q:QD)(h1:(decide (iN q.far<iN q.n)=false))(h2:(q.n=(Uq iv q.d).length)):GoO Ux (hU [70] (eD q) (cD q)) 0 (zC (zB Try.f71) 1) (zK (zB Try.f71) 1) (Jl q) (Fin Ux Try.f71 0 [] (Uw (Uq iv q.d))):=zF (σ:=[]) (fz:=[0]) (by kernel_rfl) (aj (aj (aj (al t3) (al h1)) (al (u2 s2))) (al h2))
theorem dai_0(q:QD)(h1:(decide (iN q.far<iN q.n)=true)){post:Exit->St->Prop}(ht:T Ux 0 (.loop (zC (zC (zB Try.f71) 1) 0)) (St.mk 81 [(0,Uw (gL q.g)),(1,Uw (boL q.s)),(7,iv (iN q.n)),(8,AV.sl 0 0 q.n),(10,iv (iN q.far)),(33,iv (iN q.n)),(34,iv (iN q.far)),(37,iv (iN q.n)),(38,iv 0)] [some (Blk.mk (Uq iv q.d) 1 true true none)]) (TK Ux 0 post (zK (zC (zB Try.f71) 1) 0))):GoP Ux (hU [71] (eD q) (cD q)) 0 (zC (zB Try.f71) 1) (Jl q) post:=zR (σ:=[0]) (fz:=[]) (vars:=[0,1,7,8,10,33,34,37,38]) (by kernel_rfl) (aj (aj (al t3) (aj h1 (aj (u2 s2) (al (u2 t2))))) (k2 t9)) ht
theorem dbx_0(q:QD)(h1:(decide (iN q.v<iN q.n)=false)){post:Exit->St->Prop}{R:St->Prop}(hR:∀st,Ren 0 st (St.mk 81 [(0,Uw (gL q.g)),(1,Uw (boL q.s)),(7,iv (iN q.n)),(8,AV.sl 0 0 q.n),(33,iv (iN q.n)),(34,iv (i64.wrap (iN q.far+1)))] [some (Blk.mk (Uq iv q.d) 1 true true none)])->R st):GoO Ux (hU [78] (eD q) (cD q)) 0 (zC (zC (zB Try.f71) 1) 0) (zK (zC (zB Try.f71) 1) 0) (DU q) (andThen R post):=zN (σ:=[0]) (fz:=[]) (vars:=[0,1,7,8,33,34]) (by kernel_rfl) (aj (aj (aj (al t3) (al h1)) (al (u2 s2))) t8) hR
theorem dbn_0(q:QD)(h1:(decide (iN q.v<iN q.n)=true))(h2:(0<=iN q.v))(h3:((boL q.s)[(iN q.v).toNat]?=some (AV.bool q.b)))(h4:(q.b=true)){post:Exit->St->Prop}{R:St->Prop}(hR:∀st,Ren 0 st (St.mk 81 [(0,Uw (gL q.g)),(1,Uw (boL q.s)),(7,iv (iN q.n)),(8,AV.sl 0 0 q.n),(10,iv (iN q.far)),(33,iv (iN q.n)),(34,iv (iN q.far)),(37,iv (iN q.n)),(38,iv (i64.wrap (iN q.v+1)))] [some (Blk.mk (Uq iv q.d) 1 true true none)])->R st):GoP Ux (hU [79,103,91] (eD q) (cD q)) 0 (zC (zC (zB Try.f71) 1) 0) (DU q) (andThen R post):=zN (σ:=[0]) (fz:=[]) (vars:=[0,1,7,8,10,33,34,37,38]) (by kernel_rfl) (aj (aj (al t3) (aj h1 (aj (u2 s2) (aj (u2 (u2 (aj (k2 (aj h2 h3)) (u2 (u2 (aj h4 (aj h4 (aj h4 (aj h4 (aj h4 (al (aj h4 t2)))))))))))) (aj (show(true=true) by first | decide | exact S9 _) (al (u2 s2))))))) (k2 t9)) hR
theorem dbn_1(q:QD)(h1:(decide (iN q.v<iN q.n)=true))(h2:(0<=iN q.v))(h3:((boL q.s)[(iN q.v).toNat]?=some (AV.bool q.b)))(h4:(q.b=false))(h5:(iN q.v<iN q.n))(h6:((Uq iv q.d)[0+(iN q.v).toNat]?=some (iv q.e)))(h7:(decide (0<=q.e)=true)){post:Exit->St->Prop}{R:St->Prop}(hR:∀st,Ren 0 st (St.mk 81 [(0,Uw (gL q.g)),(1,Uw (boL q.s)),(7,iv (iN q.n)),(8,AV.sl 0 0 q.n),(10,iv (iN q.far)),(33,iv (iN q.n)),(34,iv (iN q.far)),(37,iv (iN q.n)),(38,iv (i64.wrap (iN q.v+1)))] [some (Blk.mk (Uq iv q.d) 1 true true none)])->R st):GoP Ux (hU [79,103,90] (eD q) (cD q)) 0 (zC (zC (zB Try.f71) 1) 0) (DU q) (andThen R post):=zN (σ:=[0]) (fz:=[]) (vars:=[0,1,7,8,10,33,34,37,38]) (by kernel_rfl) (aj (aj (al t3) (aj h1 (aj (u2 s2) (aj (u2 (u2 (aj (k2 (aj h2 h3)) (u2 (u2 (ag h4 (ag h4 (aj (aj h4 (k2 (aj h2 h5))) (aj (aj h4 (ak h6)) (ag h4 (al (aj h4 t2)))))))))))) (aj h7 (al (u2 s2))))))) (k2 t9)) hR
theorem dbi_0(q:QD)(h1:(decide (iN q.v<iN q.n)=true))(h2:(0<=iN q.v))(h3:((boL q.s)[(iN q.v).toNat]?=some (AV.bool q.b)))(h4:(q.b=false))(h5:(iN q.v<iN q.n))(h6:((Uq iv q.d)[0+(iN q.v).toNat]?=some (iv q.e)))(h7:(decide (0<=q.e)=false))(h8:((gL q.g)[(iN q.v).toNat]?=some (Uw (Uq iv q.r)))){post:Exit->St->Prop}(ht:T Ux 0 (.loop (zC (zC (zC (zB Try.f71) 1) 0) 0)) (St.mk 81 [(0,Uw (gL q.g)),(1,Uw (boL q.s)),(7,iv (iN q.n)),(8,AV.sl 0 0 q.n),(10,iv (iN q.far)),(11,iv (iN q.v)),(33,iv (iN q.n)),(34,iv (iN q.far)),(37,iv (iN q.n)),(38,iv (iN q.v)),(56,iv (iN (Uq iv q.r).length)),(57,iv 0)] [some (Blk.mk (Uq iv q.d) 1 true true none)]) (TK Ux 0 post (zK (zC (zC (zB Try.f71) 1) 0) 0))):GoP Ux (hU [79,90,102] (eD q) (cD q)) 0 (zC (zC (zB Try.f71) 1) 0) (DU q) post:=zR (σ:=[0]) (fz:=[]) (vars:=[0,1,7,8,10,11,33,34,37,38,56,57]) (by kernel_rfl) (aj (aj (al t3) (aj h1 (aj (u2 s2) (aj (u2 (u2 (aj (k2 (aj h2 h3)) (u2 (u2 (ag h4 (ag h4 (aj (aj h4 (k2 (aj h2 h5))) (aj (aj h4 (ak h6)) (ag h4 (al (aj h4 t2)))))))))))) (aj h7 (al (u2 (u2 (aj (k2 (aj h2 h8)) (u2 (u2 t2))))))))))) (k5 t9)) ht
theorem dcx_0(q:QD)(h1:(decide (iN q.i<iN q.r.length)=false)){post:Exit->St->Prop}{R:St->Prop}(hR:∀st,Ren 0 st (St.mk 81 [(0,Uw (gL q.g)),(1,Uw (boL q.s)),(7,iv (iN q.n)),(8,AV.sl 0 0 q.n),(10,iv (iN q.far)),(33,iv (iN q.n)),(34,iv (iN q.far)),(37,iv (iN q.n)),(38,iv (i64.wrap (iN q.v+1)))] [some (Blk.mk (Uq iv q.d) 1 true true none)])->R st):GoO Ux (hU [116] (eD q) (cD q)) 0 (zC (zC (zC (zB Try.f71) 1) 0) 0) (zK (zC (zC (zB Try.f71) 1) 0) 0) (H3 q) (andThen R post):=zN (σ:=[0]) (fz:=[]) (vars:=[0,1,7,8,10,33,34,37,38]) (by kernel_rfl) (aj (aj (aj (al t3) (al h1)) (al (u2 s2))) (k2 t9)) hR
theorem dcr_0(q:QD)(h1:(decide (iN q.i<iN q.r.length)=true))(h2:(0<=iN q.v))(h3:((gL q.g)[(iN q.v).toNat]?=some (Uw (Uq iv q.r))))(h4:(0<=iN q.i))(h5:((Uq iv q.r)[(iN q.i).toNat]?=some (iv (iN q.w))))(h6:(0<=iN q.w))(h7:(iN q.w<iN q.n))(h8:((Uq iv q.d)[0+(iN q.w).toNat]?=some (iv q.e)))(h9:((q.e==iN q.far)=true))(h10:(iN q.v<iN q.n))(h11:((0+(iN q.v).toNat).succ.le (Uq iv q.d).length)){post:Exit->St->Prop}{R:St->Prop}(hR:∀st,Ren 0 st (St.mk 81 [(0,Uw (gL q.g)),(1,Uw (boL q.s)),(7,iv (iN q.n)),(8,AV.sl 0 0 q.n),(10,iv (iN q.far)),(11,iv (iN q.v)),(33,iv (iN q.n)),(34,iv (iN q.far)),(37,iv (iN q.n)),(38,iv (iN q.v)),(56,iv (iN q.r.length)),(57,iv (i64.wrap (iN q.i+1)))] [some (Blk.mk ((Uq iv q.d).set (0+(iN q.v).toNat) (iv (i64.wrap (iN q.far+1)))) 1 true true none)])->R st):GoP Ux (hU [117,143] (eD q) (cD q)) 0 (zC (zC (zC (zB Try.f71) 1) 0) 0) (H3 q) (andThen R post):=zN (σ:=[0]) (fz:=[]) (vars:=[0,1,7,8,10,11,33,34,37,38,56,57]) (by kernel_rfl) (aj (aj (al t3) (aj h1 (aj (u2 s2) (aj (u2 (u2 (u2 (aj (k2 (aj h2 h3)) (u2 (u2 (aj (k2 (aj h4 h5)) (u2 (aj (k2 (aj h6 h7)) (aj (ak h8) (u2 (al t3)))))))))))) (aj h9 (aj (u2 (u2 (u2 (u2 (aj (k2 (aj h2 h10)) (al (k2 h11))))))) (al (u2 s2)))))))) (k5 t9)) hR
theorem dcr_1(q:QD)(h1:(decide (iN q.i<iN q.r.length)=true))(h2:(0<=iN q.v))(h3:((gL q.g)[(iN q.v).toNat]?=some (Uw (Uq iv q.r))))(h4:(0<=iN q.i))(h5:((Uq iv q.r)[(iN q.i).toNat]?=some (iv (iN q.w))))(h6:(0<=iN q.w))(h7:(iN q.w<iN q.n))(h8:((Uq iv q.d)[0+(iN q.w).toNat]?=some (iv q.e)))(h9:((q.e==iN q.far)=false)){post:Exit->St->Prop}{R:St->Prop}(hR:∀st,Ren 0 st (St.mk 81 [(0,Uw (gL q.g)),(1,Uw (boL q.s)),(7,iv (iN q.n)),(8,AV.sl 0 0 q.n),(10,iv (iN q.far)),(11,iv (iN q.v)),(33,iv (iN q.n)),(34,iv (iN q.far)),(37,iv (iN q.n)),(38,iv (iN q.v)),(56,iv (iN q.r.length)),(57,iv (i64.wrap (iN q.i+1)))] [some (Blk.mk (Uq iv q.d) 1 true true none)])->R st):GoP Ux (hU [117,142] (eD q) (cD q)) 0 (zC (zC (zC (zB Try.f71) 1) 0) 0) (H3 q) (andThen R post):=zN (σ:=[0]) (fz:=[]) (vars:=[0,1,7,8,10,11,33,34,37,38,56,57]) (by kernel_rfl) (aj (aj (al t3) (aj h1 (aj (u2 s2) (aj (u2 (u2 (u2 (aj (k2 (aj h2 h3)) (u2 (u2 (aj (k2 (aj h4 h5)) (u2 (aj (k2 (aj h6 h7)) (aj (ak h8) (u2 (al t3)))))))))))) (aj h9 (al (u2 s2))))))) (k5 t9)) hR
theorem ri_0(q:QD)(h1:(iN (gL q.g).length<=iN (gL q.g).length))(h2:(8 * iN (gL q.g).length<=281474976710656))(h3:(iN (gL q.g).length<=9223372036854775807)){post:Exit->St->Prop}(ht:T Ux 0 (.loop (zC (zB Try.f125) 0)) (St.mk 82 [(0,Uw (gL q.g)),(1,Uw (boL q.s)),(2,iv (iN q.goal)),(7,AV.sl 0 0 (gL q.g).length),(8,iv 0)] [some (Blk.mk (Ur (gL q.g).length (iv 0)) 1 true true none)]) (TK Ux 0 post (zK (zB Try.f125) 0))):GoP Ux (hU [] (eR q) (cD q)) 0 (zB Try.f125) (st30 q) post:=zR (σ:=[0]) (fz:=[]) (vars:=[0,1,2,7,8]) (by kernel_rfl) (aj (u2 (aj (u2 (u2 (aj (k2 (aj (show(0<=iN (gL q.g).length) from(Int.natCast_nonneg _)) (aj h1 (aj h2 h3)))) s2))) s2)) t7) ht
theorem rfr_0(q:QD)(h1:(decide (iN q.i<iN (gL q.g).length)=true))(h2:(0<=iN q.i))(h3:(iN q.i<iN q.n))(h4:((0+(iN q.i).toNat).succ.le (Uq iv q.d).length)){post:Exit->St->Prop}{R:St->Prop}(hR:∀st,Ren 0 st (St.mk 82 [(0,Uw (gL q.g)),(1,Uw (boL q.s)),(2,iv (iN q.goal)),(7,AV.sl 0 0 q.n),(8,iv (i64.wrap (iN q.i+1)))] [some (Blk.mk ((Uq iv q.d).set (0+(iN q.i).toNat) (iv (-1))) 1 true true none)])->R st):GoP Ux (hU [37] (eR q) (cD q)) 0 (zC (zB Try.f125) 0) (Hc q) (andThen R post):=zN (σ:=[0]) (fz:=[]) (vars:=[0,1,2,7,8]) (by kernel_rfl) (aj (aj (u2 (u2 (u2 (al t3)))) (aj h1 (aj (u2 (u2 (aj (k2 (aj h2 h3)) (al (ak h4))))) (al (u2 (u2 s2)))))) t7) hR
theorem rfs_0(q:QD)(h1:(decide (iN q.i<iN (gL q.g).length)=false))(h2:(0<=iN q.goal))(h3:((boL q.s)[(iN q.goal).toNat]?=some (AV.bool q.b)))(h4:(q.b=true))(h5:(q.n=(Uq iv q.d).length)):GoO Ux (hU [36,55] (eR q) (cD q)) 0 (zC (zB Try.f125) 0) (zK (zB Try.f125) 0) (Hc q) (Fin Ux Try.f125 0 [] (Uw (Uq iv q.d))):=zF (σ:=[]) (fz:=[0]) (by kernel_rfl) (aj (aj (aj (u2 (u2 (u2 (al t3)))) (al h1)) (aj (u2 (u2 (aj (k2 (aj h2 h3)) s2))) (aj h4 (al (u2 s2))))) (al h5))
theorem rfx_0(q:QD)(h1:(decide (iN q.i<iN (gL q.g).length)=false))(h2:(0<=iN q.goal))(h3:((boL q.s)[(iN q.goal).toNat]?=some (AV.bool q.b)))(h4:(q.b=false))(h5:(iN q.goal<iN q.n))(h6:((0+(iN q.goal).toNat).succ.le (Uq iv q.d).length)){post:Exit->St->Prop}(ht:T Ux 0 (.loop (zC (zB Try.f125) 1)) (St.mk 82 [(0,Uw (gL q.g)),(1,Uw (boL q.s)),(7,AV.sl 0 0 q.n),(9,iv 1)] [some (Blk.mk ((Uq iv q.d).set (0+(iN q.goal).toNat) (iv 0)) 1 true true none)]) (TK Ux 0 post (zK (zB Try.f125) 1))):GoO Ux (hU [36,54] (eR q) (cD q)) 0 (zC (zB Try.f125) 0) (zK (zB Try.f125) 0) (Hc q) post:=zR (σ:=[0]) (fz:=[]) (vars:=[0,1,7,9]) (by kernel_rfl) (aj (aj (aj (u2 (u2 (u2 (al t3)))) (al h1)) (aj (u2 (u2 (aj (k2 (aj h2 h3)) s2))) (aj h4 (aj (u2 (u2 (aj (k2 (aj h2 h5)) (al (ak h6))))) s2)))) t6) ht
theorem rax_0(q:QD)(h1:(decide (iN (q.far+1)<iN (gL q.g).length)=false))(h2:(q.n=(Uq iv q.d).length)):GoO Ux (hU [70] (eR q) (cD q)) 0 (zC (zB Try.f125) 1) (zK (zB Try.f125) 1) (JE q) (Fin Ux Try.f125 0 [] (Uw (Uq iv q.d))):=zF (σ:=[]) (fz:=[0]) (by kernel_rfl) (aj (aj (aj (u2 (u2 (u2 (al t3)))) (al h1)) (al (u2 s2))) (al h2))
theorem rai_0(q:QD)(h1:(decide (iN (q.far+1)<iN (gL q.g).length)=true)){post:Exit->St->Prop}(ht:T Ux 0 (.loop (zC (zC (zB Try.f125) 1) 0)) (St.mk 82 [(0,Uw (gL q.g)),(1,Uw (boL q.s)),(7,AV.sl 0 0 q.n),(9,iv (iN (q.far+1))),(10,iv 0)] [some (Blk.mk (Uq iv q.d) 1 true true none)]) (TK Ux 0 post (zK (zC (zB Try.f125) 1) 0))):GoP Ux (hU [71] (eR q) (cD q)) 0 (zC (zB Try.f125) 1) (JE q) post:=zR (σ:=[0]) (fz:=[]) (vars:=[0,1,7,9,10]) (by kernel_rfl) (aj (aj (u2 (u2 (u2 (al t3)))) (aj h1 s2)) t7) ht
theorem rbx_0(q:QD)(h1:(decide (iN q.v<iN (gL q.g).length)=false)){post:Exit->St->Prop}{R:St->Prop}(hR:∀st,Ren 0 st (St.mk 82 [(0,Uw (gL q.g)),(1,Uw (boL q.s)),(7,AV.sl 0 0 q.n),(9,iv (i64.wrap (iN (q.far+1)+1)))] [some (Blk.mk (Uq iv q.d) 1 true true none)])->R st):GoO Ux (hU [82] (eR q) (cD q)) 0 (zC (zC (zB Try.f125) 1) 0) (zK (zC (zB Try.f125) 1) 0) (DX q) (andThen R post):=zN (σ:=[0]) (fz:=[]) (vars:=[0,1,7,9]) (by kernel_rfl) (aj (aj (aj (u2 (u2 (u2 (al t3)))) (al h1)) (al (u2 (u2 s2)))) t6) hR
theorem rbn_0(q:QD)(h1:(decide (iN q.v<iN (gL q.g).length)=true))(h2:(0<=iN q.v))(h3:((boL q.s)[(iN q.v).toNat]?=some (AV.bool q.b)))(h4:(q.b=true)){post:Exit->St->Prop}{R:St->Prop}(hR:∀st,Ren 0 st (St.mk 82 [(0,Uw (gL q.g)),(1,Uw (boL q.s)),(7,AV.sl 0 0 q.n),(9,iv (iN (q.far+1))),(10,iv (i64.wrap (iN q.v+1)))] [some (Blk.mk (Uq iv q.d) 1 true true none)])->R st):GoP Ux (hU [83,109,97] (eR q) (cD q)) 0 (zC (zC (zB Try.f125) 1) 0) (DX q) (andThen R post):=zN (σ:=[0]) (fz:=[]) (vars:=[0,1,7,9,10]) (by kernel_rfl) (aj (aj (u2 (u2 (u2 (al t3)))) (aj h1 (aj (u2 (u2 (aj (k2 (aj h2 h3)) (u2 (u2 (aj h4 (aj h4 (aj h4 (aj h4 (aj h4 (al (aj h4 t2)))))))))))) (aj (show(true=true) by first | decide | exact S9 _) (al (u2 (u2 s2))))))) t7) hR
theorem rbn_1(q:QD)(h1:(decide (iN q.v<iN (gL q.g).length)=true))(h2:(0<=iN q.v))(h3:((boL q.s)[(iN q.v).toNat]?=some (AV.bool q.b)))(h4:(q.b=false))(h5:(iN q.v<iN q.n))(h6:((Uq iv q.d)[0+(iN q.v).toNat]?=some (iv q.e)))(h7:(decide (0<=q.e)=true)){post:Exit->St->Prop}{R:St->Prop}(hR:∀st,Ren 0 st (St.mk 82 [(0,Uw (gL q.g)),(1,Uw (boL q.s)),(7,AV.sl 0 0 q.n),(9,iv (iN (q.far+1))),(10,iv (i64.wrap (iN q.v+1)))] [some (Blk.mk (Uq iv q.d) 1 true true none)])->R st):GoP Ux (hU [83,109,96] (eR q) (cD q)) 0 (zC (zC (zB Try.f125) 1) 0) (DX q) (andThen R post):=zN (σ:=[0]) (fz:=[]) (vars:=[0,1,7,9,10]) (by kernel_rfl) (aj (aj (u2 (u2 (u2 (al t3)))) (aj h1 (aj (u2 (u2 (aj (k2 (aj h2 h3)) (u2 (u2 (ag h4 (ag h4 (aj (aj h4 (k2 (aj h2 h5))) (aj (aj h4 (ak h6)) (ag h4 (al (aj h4 t2)))))))))))) (aj h7 (al (u2 (u2 s2))))))) t7) hR
theorem rbi_0(q:QD)(h1:(decide (iN q.v<iN (gL q.g).length)=true))(h2:(0<=iN q.v))(h3:((boL q.s)[(iN q.v).toNat]?=some (AV.bool q.b)))(h4:(q.b=false))(h5:(iN q.v<iN q.n))(h6:((Uq iv q.d)[0+(iN q.v).toNat]?=some (iv q.e)))(h7:(decide (0<=q.e)=false)){post:Exit->St->Prop}(ht:T Ux 0 (.loop (zC (zC (zC (zB Try.f125) 1) 0) 0)) (St.mk 82 [(0,Uw (gL q.g)),(1,Uw (boL q.s)),(7,AV.sl 0 0 q.n),(9,iv (iN (q.far+1))),(10,iv (iN q.v)),(11,iv 0)] [some (Blk.mk (Uq iv q.d) 1 true true none)]) (TK Ux 0 post (zK (zC (zC (zB Try.f125) 1) 0) 0))):GoP Ux (hU [83,96,108] (eR q) (cD q)) 0 (zC (zC (zB Try.f125) 1) 0) (DX q) post:=zR (σ:=[0]) (fz:=[]) (vars:=[0,1,7,9,10,11]) (by kernel_rfl) (aj (aj (u2 (u2 (u2 (al t3)))) (aj h1 (aj (u2 (u2 (aj (k2 (aj h2 h3)) (u2 (u2 (ag h4 (ag h4 (aj (aj h4 (k2 (aj h2 h5))) (aj (aj h4 (ak h6)) (ag h4 (al (aj h4 t2)))))))))))) (aj h7 s2)))) t8) ht
theorem rcx_0(q:QD)(h1:(0<=iN q.v))(h2:((gL q.g)[(iN q.v).toNat]?=some (Uw (Uq iv q.r))))(h3:(decide (iN q.i<iN (Uq iv q.r).length)=false)){post:Exit->St->Prop}{R:St->Prop}(hR:∀st,Ren 0 st (St.mk 82 [(0,Uw (gL q.g)),(1,Uw (boL q.s)),(7,AV.sl 0 0 q.n),(9,iv (iN (q.far+1))),(10,iv (i64.wrap (iN q.v+1)))] [some (Blk.mk (Uq iv q.d) 1 true true none)])->R st):GoO Ux (hU [122] (eR q) (cD q)) 0 (zC (zC (zC (zB Try.f125) 1) 0) 0) (zK (zC (zC (zB Try.f125) 1) 0) 0) (HY q) (andThen R post):=zN (σ:=[0]) (fz:=[]) (vars:=[0,1,7,9,10]) (by kernel_rfl) (aj (aj (aj (u2 (u2 (u2 (aj (k2 (aj h1 h2)) (u2 (u2 (al t3))))))) (al h3)) (al (u2 (u2 s2)))) t7) hR
theorem rcr_0(q:QD)(h1:(0<=iN q.v))(h2:((gL q.g)[(iN q.v).toNat]?=some (Uw (Uq iv q.r))))(h3:(decide (iN q.i<iN (Uq iv q.r).length)=true))(h4:(0<=iN q.i))(h5:((Uq iv q.r)[(iN q.i).toNat]?=some (iv (iN q.w))))(h6:(0<=iN q.w))(h7:(iN q.w<iN q.n))(h8:((Uq iv q.d)[0+(iN q.w).toNat]?=some (iv q.e)))(h9:((q.e==i64.wrap (iN (q.far+1)-1))=true))(h10:(iN q.v<iN q.n))(h11:((0+(iN q.v).toNat).succ.le (Uq iv q.d).length)){post:Exit->St->Prop}{R:St->Prop}(hR:∀st,Ren 0 st (St.mk 82 [(0,Uw (gL q.g)),(1,Uw (boL q.s)),(7,AV.sl 0 0 q.n),(9,iv (iN (q.far+1))),(10,iv (iN q.v)),(11,iv (i64.wrap (iN q.i+1)))] [some (Blk.mk ((Uq iv q.d).set (0+(iN q.v).toNat) (iv (iN (q.far+1)))) 1 true true none)])->R st):GoP Ux (hU [123,153] (eR q) (cD q)) 0 (zC (zC (zC (zB Try.f125) 1) 0) 0) (HY q) (andThen R post):=zN (σ:=[0]) (fz:=[]) (vars:=[0,1,7,9,10,11]) (by kernel_rfl) (aj (aj (u2 (u2 (u2 (aj (k2 (aj h1 h2)) (u2 (u2 (al t3))))))) (aj h3 (aj (u2 (u2 (u2 (aj (k2 (aj h1 h2)) (u2 (u2 (aj (k2 (aj h4 h5)) (u2 (aj (k2 (aj h6 h7)) (aj (ak h8) (u2 (u2 (al t3))))))))))))) (aj h9 (aj (u2 (u2 (u2 (aj (k2 (aj h1 h10)) (al (k2 h11)))))) (al (u2 (u2 s2)))))))) t8) hR
theorem rcr_1(q:QD)(h1:(0<=iN q.v))(h2:((gL q.g)[(iN q.v).toNat]?=some (Uw (Uq iv q.r))))(h3:(decide (iN q.i<iN (Uq iv q.r).length)=true))(h4:(0<=iN q.i))(h5:((Uq iv q.r)[(iN q.i).toNat]?=some (iv (iN q.w))))(h6:(0<=iN q.w))(h7:(iN q.w<iN q.n))(h8:((Uq iv q.d)[0+(iN q.w).toNat]?=some (iv q.e)))(h9:((q.e==i64.wrap (iN (q.far+1)-1))=false)){post:Exit->St->Prop}{R:St->Prop}(hR:∀st,Ren 0 st (St.mk 82 [(0,Uw (gL q.g)),(1,Uw (boL q.s)),(7,AV.sl 0 0 q.n),(9,iv (iN (q.far+1))),(10,iv (iN q.v)),(11,iv (i64.wrap (iN q.i+1)))] [some (Blk.mk (Uq iv q.d) 1 true true none)])->R st):GoP Ux (hU [123,152] (eR q) (cD q)) 0 (zC (zC (zC (zB Try.f125) 1) 0) 0) (HY q) (andThen R post):=zN (σ:=[0]) (fz:=[]) (vars:=[0,1,7,9,10,11]) (by kernel_rfl) (aj (aj (u2 (u2 (u2 (aj (k2 (aj h1 h2)) (u2 (u2 (al t3))))))) (aj h3 (aj (u2 (u2 (u2 (aj (k2 (aj h1 h2)) (u2 (u2 (aj (k2 (aj h4 h5)) (u2 (aj (k2 (aj h6 h7)) (aj (ak h8) (u2 (u2 (al t3))))))))))))) (aj h9 (al (u2 (u2 s2))))))) t8) hR
end Go.Proofs.Ytedjkebooffjpaa
set_option linter.unusedSimpArgs false
namespace Go.Proofs.Ytedjkebooffjpaa
def BL(v far:Nat)(d:List Int)(w:Int):List Int:=if (d.getD w.toNat 0==(far:Int))=true then d.set v ((far+1:Nat):Int) else d
def FX(r:List Int)(v far:Nat)(d:List Int):List Int:=r.foldl (BL v far) d
def Be(g:List (List Int))(s:List Bool)(far:Nat)(d:List Int)(v:Nat):List Int:=if s.getD v false=true then d else if decide (0<=d.getD v 0)=true then d else FX (g.getD v []) v far d
def BV(g:List (List Int))(s:List Bool)(d:List Int)(far:Nat):List Int:=(Uu g.length).foldl (Be g s far) d
def Ch(g:List (List Int))(goal:Nat):List Int:=(Ur g.length (-1)).set goal 0
def AE(g:List (List Int))(s:List Bool)(goal N:Nat):List Int:=if s.getD goal false=true then Ur g.length (-1) else (Uu N).foldl (BV g s) (Ch g goal)
structure OkG(g:List (List Int))(s:List Bool):Prop where
 len:g.length<=24
 row:∀v,v<g.length->(g.getD v []).length<=9223372036854775807/\∀w∈g.getD v [],0<=w/\w<(g.length:Int)/\w≠(v:Int)
 sh:s.length=g.length
theorem J3(v far:Nat)(d:List Int)(w:Int):(BL v far d w).length=d.length:=by unfold BL;split<;>simp
theorem D1{β:Type}{f:List Int->β->List Int}(hf:∀d x,(f d x).length=d.length):∀(l:List β) (d:List Int),(l.foldl f d).length=d.length:=by
 intro l;induction l with
 | nil=>intro d;rfl
 | cons x l ih=>intro d;rw[List.foldl_cons,ih,hf]
theorem Q5(r:List Int)(v far:Nat)(d:List Int):(FX r v far d).length=d.length:=D1 (J3 v far) r d
theorem IX(g:List (List Int))(s:List Bool)(far:Nat)(d:List Int)(v:Nat):(Be g s far d v).length=d.length:=by
 unfold Be;split
 .rfl
 .split
  .rfl
  .exact Q5 _ _ _ _
theorem Iw(g:List (List Int))(s:List Bool)(d:List Int)(far:Nat):(BV g s d far).length=d.length:=D1 (IX g s far) _ d
theorem KE(g:List (List Int))(goal:Nat):(Ch g goal).length=g.length:=by simp[Ch]
theorem ON(g:List (List Int))(s:List Bool)(goal N:Nat):(AE g s goal N).length=g.length:=by
 unfold AE;split
 .simp
 .rw[D1 (Iw g s),KE]
theorem BD(g:List (List Int)):(gL g).length=g.length:=by simp[gL]
theorem CW{g:List (List Int)}{v:Nat}(h:v<g.length):(gL g)[v]?=some (lI (g.getD v [])):=by unfold gL;rw[TE,Tv,Tu h];rfl
theorem BM(s:List Bool):(boL s).length=s.length:=by simp[boL]
theorem Gj{s:List Bool}{v:Nat}(h:v<s.length):(boL s)[v]?=some (.bool (s.getD v false)):=by unfold boL;rw[TE,Tv,Tu h];rfl
theorem BU(l:List Int):(l.map (AV.int .i64)).length=l.length:=by simp
theorem Bv{l:List Int}{j:Nat}(h:j<l.length):(l.map (AV.int .i64))[j]?=some (.int .i64 (l.getD j 0)):=by rw[TE,Tv,Tu h];rfl
theorem En{l:List Int}{j:Nat}(h:j<l.length):(l.map (AV.int .i64))[0+j]?=some (.int .i64 (l.getD j 0)):=by rw[TJ];exact Bv h
def BF(n j:Nat):List Int:=(Uu n).map fun t=>if t<j then -1 else 0
theorem F9(n j:Nat):(BF n j).length=n:=by simp[BF]
theorem P1(n:Nat):Ur n (AV.int .i64 0)=(BF n 0).map (AV.int .i64):=by
 apply List.ext_getElem
 .simp[BF]
 .intro i h1 h2;simp[BF]
theorem JV(n:Nat):BF n n=Ur n (-1):=by
 apply List.ext_getElem
 .simp[BF]
 .intro i h1 h2;simp[BF] at h1 ⊢;omega
theorem Pk(n j:Nat)(h:j<n):(BF n j).set j (-1)=BF n (j+1):=by
 apply List.ext_getElem
 .simp[BF]
 .intro i h1 h2;simp only[BF,List.getElem_set,List.getElem_map,List.getElem_range];split
  .rw[Ts (by omega)]
  .by_cases hij:i<j
   .rw[Ts hij,Ts (by omega)]
   .rw[Tt hij,Tt (by omega)]
theorem map_set(l:List Int)(j:Nat)(v:Int):(l.map (AV.int .i64)).set (0+j) (.int .i64 v)=(l.set j v).map (AV.int .i64):=by rw[TJ,Um]
theorem P9{β:Type}(f:List Int->β->List Int)(r:List β)(d:List Int)(i:Nat)(h:i<r.length):(r.take (i+1)).foldl f d=f ((r.take i).foldl f d) (r[i]):=by rw[List.take_add_one,Tu h,List.foldl_append];rfl
theorem FL(f:List Int->Nat->List Int)(d:List Int)(i:Nat):(Uu (i+1)).foldl f d=f ((Uu i).foldl f d) i:=by rw[Ui,List.foldl_append];rfl
theorem iw(j:Nat)(h:j<9223372036854775807):i64.wrap (iN j+1)=((j+1:Nat):Int):=zW j h
def qd(g:List (List Int))(s:List Bool)(goal:Nat)(d:List Int)(far v i:Nat)(r:List Int):QD:=⟨g,s,goal,g.length,d,far,v,i,r,0,false,0⟩
theorem dc_run{g:List (List Int)}{s:List Bool}(hg:OkG g s)(goal far v:Nat)(d:List Int)(hd:d.length=g.length)(hf:far<1000)(hv:v<g.length){R:St->Prop}{post:Exit->St->Prop}
  (hR:∀st,Ren 0 st (DU (qd g s goal (FX (g.getD v []) v far d) far (v+1) 0 []))->R st):
  T Ux 0 (.loop (zC (zC (zC (zB Try.f71) 1) 0) 0)) (H3 (qd g s goal d far v 0 (g.getD v []))) (TK Ux 0 (andThen R post) (zK (zC (zC (zB Try.f71) 1) 0) 0)):=by
 obtain⟨hr1,hr2⟩:=hg.row v hv;have hgl:=hg.len;have hrow:=CW hv;generalize g.getD v []=r at hR hr1 hr2 hrow;refine T.loop (fun i:Nat=>H3 (qd g s goal ((r.take i).foldl (BL v far) d) far v i r)) (fun i=>i<=r.length) (fun i=>r.length+1-i) 0 (TG _) ?_;intro i hi;have hdl:((r.take i).foldl (BL v far) d).length=g.length:=by rw[D1 (J3 v far),hd]
 by_cases h:i<r.length
 .obtain⟨w0,w1,_⟩:=hr2 r[i] (T2 h);obtain⟨w,hw⟩:∃w:Nat,r[i]=(w:Int):=⟨r[i].toNat,by omega⟩;have hwn:w<g.length:=by omega
  have hget:(r.map (AV.int .i64))[i]?=some (.int .i64 (w:Int)):=by rw[TE,Tu h,hw];rfl
  have hstep:=P9 (BL v far) r d i h;generalize hdd:(r.take i).foldl (BL v far) d=d' at hdl hstep;rw[hw] at hstep;have hml:=BU d';by_cases he:(d'.getD w 0==(far:Int))=true
  .refine T.path mix (dcr_0 ⟨g,s,goal,g.length,d',far,v,i,r,w,false,d'.getD w 0⟩ (by simp[iN];omega) (by simp[iN]) hrow (by simp[iN]) hget (by simp[iN]) (by simp[iN];omega) (En (l:=d') (j:=w) (by omega)) he (by simp[iN];omega) (by simp[iN,hml];omega) ?_);intro st hst;refine⟨i+1,?_,h,by omega⟩;have e:BL v far d' ((w:Nat):Int)=d'.set v ((far+1:Nat):Int):=by unfold BL;rw[TD,Ts he]
   rw[hstep,e];simp only[iN,TD,iw i (by omega),zW far (by omega),zW i (by omega)] at hst;rw[map_set] at hst;exact hst
  .have hne:=he;have he:=Ug.2 he;refine T.path mix (dcr_1 ⟨g,s,goal,g.length,d',far,v,i,r,w,false,d'.getD w 0⟩ (by simp[iN];omega) (by simp[iN]) hrow (by simp[iN]) hget (by simp[iN]) (by simp[iN];omega) (En (l:=d') (j:=w) (by omega)) he ?_);intro st hst;refine⟨i+1,?_,h,by omega⟩;have e:BL v far d' ((w:Nat):Int)=d':=by unfold BL;rw[TD,Tt hne]
   rw[hstep,e];simp only[iN,zW i (show i<9223372036854775807 by omega)] at hst;exact hst
 .have hti:r.take i=r:=List.take_of_length_le (by omega);refine T.out mix (dcx_0 (qd g s goal ((r.take i).foldl (BL v far) d) far v i r) (Tz (by simp only[iN,qd];omega)) ?_);intro st hst;refine hR st ?_;rw[hti] at hst;simp only[iN,qd,zW v (show v<9223372036854775807 by omega)] at hst;exact hst
theorem db_run{g:List (List Int)}{s:List Bool}(hg:OkG g s)(goal far:Nat)(d:List Int)(hd:d.length=g.length)(hf:far<1000){R:St->Prop}{post:Exit->St->Prop}
  (hR:∀st,Ren 0 st (Jl (qd g s goal (BV g s d far) (far+1) 0 0 []))->R st):
  T Ux 0 (.loop (zC (zC (zB Try.f71) 1) 0)) (DU (qd g s goal d far 0 0 [])) (TK Ux 0 (andThen R post) (zK (zC (zB Try.f71) 1) 0)):=by
 have hgl:=hg.len;refine T.loop (fun v:Nat=>DU (qd g s goal ((Uu v).foldl (Be g s far) d) far v 0 [])) (fun v=>v<=g.length) (fun v=>g.length+1-v) 0 (TG _) ?_;intro v hv;have hdl:((Uu v).foldl (Be g s far) d).length=g.length:=by rw[D1 (IX g s far),hd]
 by_cases h:v<g.length
 .have hstep:=FL (Be g s far) d v;generalize (Uu v).foldl (Be g s far) d=d' at hdl hstep;have hb:=Gj (s:=s) (v:=v) (by rw[hg.sh];exact h);have next:∀(d'':List Int) (st:St),Be g s far d' v=d''->Ren 0 st (DU (qd g s goal d'' far (v+1) 0 []))->∃j,Ren 0 st (DU (qd g s goal ((Uu j).foldl (Be g s far) d) far j 0 []))/\j<=g.length/\g.length+1-j<g.length+1-v:=by intro d'' st e hst;refine⟨v+1,?_,h,by omega⟩;rw[hstep,e];exact hst
  by_cases hs:s.getD v false=true
  .refine T.path mix (dbn_0 ⟨g,s,goal,g.length,d',far,v,0,[],0,s.getD v false,0⟩ (by simp[iN];omega) (by simp[iN]) hb hs ?_);intro st hst;simp only[iN,zW v (show v<9223372036854775807 by omega)] at hst;exact next d' st (by unfold Be;rw[Ts hs]) hst
  .by_cases hd0:decide (0<=d'.getD v 0)=true
   .refine T.path mix (dbn_1 ⟨g,s,goal,g.length,d',far,v,0,[],0,s.getD v false,d'.getD v 0⟩ (by simp[iN];omega) (by simp[iN]) hb (Ug.2 hs) (by simp[iN];omega) (En (l:=d') (j:=v) (by omega)) hd0 ?_);intro st hst;simp only[iN,zW v (show v<9223372036854775807 by omega)] at hst;exact next d' st (by unfold Be;rw[Tt hs,Ts hd0]) hst
   .refine T.path mix (dbi_0 ⟨g,s,goal,g.length,d',far,v,0,g.getD v [],0,s.getD v false,d'.getD v 0⟩ (by simp[iN];omega) (by simp[iN]) hb (Ug.2 hs) (by simp[iN];omega) (En (l:=d') (j:=v) (by omega)) (Ug.2 hd0) (CW h) ?_);have k:=dc_run hg goal far v d' hdl hf h (R:=fun st'=>∃j,Ren 0 st' (DU (qd g s goal ((Uu j).foldl (Be g s far) d) far j 0 []))/\j<=g.length/\g.length+1-j<g.length+1-v) (post:=TK Ux 0 (andThen R post) (zK (zC (zB Try.f71) 1) 0)) fun st hst=>next _ st (by unfold Be;rw[Tt hs,Tt hd0]) hst
    simp only[BU];exact k
 .obtain rfl:v=g.length:=by omega
  refine T.out mix (dbx_0 (qd g s goal ((Uu g.length).foldl (Be g s far) d) far g.length 0 []) (by simp[iN,qd]) ?_);intro st hst;refine hR st ?_;simp only[iN,qd,zW far (show far<9223372036854775807 by omega)] at hst;exact hst
theorem QV{g:List (List Int)}{s:List Bool}(hg:OkG g s)(goal:Nat)(hgo:goal<g.length):CT Ux 71 [] [.lst (gL g),.lst (boL s),.int .i64 (goal:Nat)] [] (lI (AE g s goal g.length)):=by
 have hgl:=hg.len;have hl:=BD g;refine CT.path mix Try.func71 (show Try.f71.body=some (zB Try.f71) by kernel_rfl) (nL rfl) (di_0 (qd g s goal [] 0 0 0 []) (Int.le_refl _) (by simp only[qd,iN,hl];omega) (by simp only[qd,iN,hl];omega) ?_);have hb:=Gj (s:=s) (v:=goal) (by rw[hg.sh];exact hgo);have key:T Ux 0 (.loop (zC (zB Try.f71) 0)) (GL (qd g s goal (BF g.length 0) 0 0 0 [])) (TK Ux 0 (Fin Ux Try.f71 0 [] (lI (AE g s goal g.length))) (zK (zB Try.f71) 0)):=by
  refine T.loop (fun i:Nat=>GL (qd g s goal (BF g.length i) 0 0 i [])) (fun i=>i<=g.length) (fun i=>g.length+1-i) 0 (TG _) ?_;intro i hi;have hfl:=F9 g.length i;have hml:=BU (BF g.length i);by_cases h:i<g.length
  .refine T.path mix (dfr_0 (qd g s goal (BF g.length i) 0 0 i []) (by simp[iN,qd];omega) (by simp[iN]) (by simp[iN,qd];omega) (by simp[iN,qd,F9];omega) ?_);intro st hst;refine⟨i+1,?_,h,by omega⟩;simp only[iN,qd,TD,zW i (show i<9223372036854775807 by omega)] at hst;rw[map_set,Pk _ _ h] at hst;exact hst
  .obtain rfl:i=g.length:=by omega
   by_cases hs:s.getD goal false=true
   .have k:=dfs_0 ⟨g,s,goal,g.length,BF g.length g.length,0,0,g.length,[],0,s.getD goal false,0⟩ (by simp[iN]) (by simp[iN]) hb hs (by simp[F9]);have e:AE g s goal g.length=BF g.length g.length:=by unfold AE;rw[Ts hs,JV]
    rw[e];exact T.out mix k
   .have e:AE g s goal g.length=(Uu g.length).foldl (BV g s) (Ch g goal):=by unfold AE;rw[Tt hs]
    refine T.out mix (dfx_0 ⟨g,s,goal,g.length,BF g.length g.length,0,0,g.length,[],0,s.getD goal false,0⟩ (by simp[iN]) (by simp[iN]) hb (Ug.2 hs) (by simp[iN];omega) (by simp[iN,F9];omega) ?_);simp only[iN,TD];rw[map_set,JV,e];refine T.loop (fun far:Nat=>Jl (qd g s goal ((Uu far).foldl (BV g s) (Ch g goal)) far 0 0 [])) (fun far=>far<=g.length) (fun far=>g.length+1-far) 0 (TG _) ?_;intro far hfar;have hdl:((Uu far).foldl (BV g s) (Ch g goal)).length=g.length:=by rw[D1 (Iw g s),KE]
    by_cases hf:far<g.length
    .refine T.path mix (dai_0 (qd g s goal ((Uu far).foldl (BV g s) (Ch g goal)) far 0 0 []) (by simp[iN,qd];omega) ?_);refine db_run hg goal far _ hdl (by omega) fun st hst=>⟨far+1,?_,hf,by omega⟩
     rw[FL];exact hst
    .obtain rfl:far=g.length:=by omega
     exact T.out mix (dax_0 (qd g s goal ((Uu g.length).foldl (BV g s) (Ch g goal)) g.length 0 0 []) (by simp[iN,qd]) (by simp[qd,hdl]))
 unfold GL qd dB at key;simp only[qd,hl,P1];exact key
structure QK where
 g:List (List Int)
 s:List Bool
 d:List Int
 v:Nat
 w:Nat
 a:Nat
 i:Nat
 r:List Int
 x:Int
 y:Int
 b:Bool
 e:Int
 p:List Int
 q:List (List Int)
def st27(q:QK):St:={n:=Try.f70.ntmps,fr:=[(0,.lst (gL q.g)),(1,.lst (boL q.s)),(2,.int .i64 q.x),(3,.int .i64 q.y)],hp:=[]}
def Ek(q:QK):St:={n:=Try.f70.ntmps,fr:=[(0,.lst (gL q.g)),(1,.lst (boL q.s)),(2,.int .i64 q.x),(3,.int .i64 q.y),(9,.int .i64 (iN q.g.length)),(17,.int .i64 (iN q.g.length)),(18,.int .i64 (iN q.a))],hp:=[]}
def DD(q:QK):St:={n:=Try.f70.ntmps,fr:=[(0,.lst (gL q.g)),(1,.lst (boL q.s)),(2,.int .i64 q.x),(3,.int .i64 q.y),(9,.int .i64 (iN q.g.length)),(10,.int .i64 (iN q.a)),(17,.int .i64 (iN q.g.length)),(18,.int .i64 (iN q.a)),(25,.int .i64 (iN q.r.length)),(26,.int .i64 (iN q.i))],hp:=[]}
def cK(q:QK):Nat->FuncId->List AV->List (Option Blk)->AN:=fun dst f args _=>match f with
 | 70=>.call [] [] [] (.int .i64 q.e)
 | 71=>.call [] [] [] (lI q.d)
 | 139=>.call [] [] [] (.int .i64 q.x)
 | _=>.no
def e27(q:QK):List (Nat×AV):=[(23,lI q.r),(31,lI q.r),(34,.int .i64 (iN q.w)),(55,lI q.r),(59,.int .i64 q.e)]
def st33(q:QK):St:={n:=Try.f139.ntmps,fr:=[(0,.lst (gL q.g)),(1,lI q.d),(2,.int .i64 (iN q.v))],hp:=[]}
def FK(q:QK):St:={n:=Try.f139.ntmps,fr:=[(0,.lst (gL q.g)),(1,lI q.d),(2,.int .i64 (iN q.v)),(13,.int .i64 (iN q.r.length)),(14,.int .i64 (iN q.i))],hp:=[]}
def e33(q:QK):List (Nat×AV):=[(11,lI q.r),(19,lI q.r),(22,.int .i64 (iN q.w)),(26,.int .i64 q.x),(32,.int .i64 q.y),(36,.int .i64 q.x)]
def eK(q:QK):List (Nat×AV):=[]
def st16(q:QK):St:={n:=Try.f22.ntmps,fr:=[(0,lI q.p),(1,lI q.p)],hp:=[]}
def lo16(q:QK):St:={n:=Try.f22.ntmps,fr:=[(0,lI q.p),(1,lI q.p),(5,.int .i64 (iN q.i))],hp:=[]}
def e16(q:QK):List (Nat×AV):=[(19,.int .i64 q.x),(23,.int .i64 q.x)]
theorem ck_0(q:QK)(h1:(decide (24<iN (gL q.g).length)=false)){post:Exit->St->Prop}(ht:T Ux 0 (.loop (zC (zB Try.f70) 0)) (St.mk 88 [(0,Uw (gL q.g)),(1,Uw (boL q.s)),(2,iv q.x),(3,iv q.y),(9,iv (iN (gL q.g).length)),(17,iv (iN (gL q.g).length)),(18,iv 0)] []) (TK Ux 0 post (zK (zB Try.f70) 0))):GoP Ux (hU [32] (e27 q) (cK q)) 0 (zB Try.f70) (st27 q) post:=zR (σ:=[]) (fz:=[]) (vars:=[0,1,2,3,9,17,18]) (by kernel_rfl) (aj (u2 (aj (u2 (u2 s2)) (aj (u2 s2) (aj h1 (al (u2 t2)))))) t8) ht
theorem ckb_0(q:QK)(h1:(decide (24<iN (gL q.g).length)=true)):GoP Ux (hU [33] (e27 q) (cK q)) 0 (zB Try.f70) (st27 q) (Fin Ux Try.f70 0 [] (iv 20)):=zF (σ:=[]) (fz:=[]) (by kernel_rfl) (aj (u2 (aj (u2 (u2 s2)) (aj (u2 s2) (aj h1 s2)))) t2)
theorem cka_0(q:QK)(h1:(decide (iN q.a<iN q.g.length)=true))(h2:(0<=iN q.a))(h3:((gL q.g)[(iN q.a).toNat]?=some (Uw (Uq iv q.r)))){post:Exit->St->Prop}(ht:T Ux 0 (.loop (zC (zC (zB Try.f70) 0) 0)) (St.mk 88 [(0,Uw (gL q.g)),(1,Uw (boL q.s)),(2,iv q.x),(3,iv q.y),(9,iv (iN q.g.length)),(10,iv (iN q.a)),(17,iv (iN q.g.length)),(18,iv (iN q.a)),(25,iv (iN (Uq iv q.r).length)),(26,iv 0)] []) (TK Ux 0 post (zK (zC (zB Try.f70) 0) 0))):GoP Ux (hU [39] (e27 q) (cK q)) 0 (zC (zB Try.f70) 0) (Ek q) post:=zR (σ:=[]) (fz:=[]) (vars:=[0,1,2,3,9,10,17,18,25,26]) (by kernel_rfl) (aj (aj (al t3) (aj h1 (aj (u2 s2) (al (u2 (u2 (aj (k2 (aj h2 h3)) (u2 (u2 t2))))))))) (k2 t9)) ht
theorem ckx_0(q:QK)(h1:(decide (iN q.a<iN q.g.length)=false))(h2:((iN (boL q.s).length != iN q.g.length)=true)):GoO Ux (hU [38,141] (e27 q) (cK q)) 0 (zC (zB Try.f70) 0) (zK (zB Try.f70) 0) (Ek q) (Fin Ux Try.f70 0 [] (iv 19)):=zF (σ:=[]) (fz:=[]) (by kernel_rfl) (aj (aj (aj (al t3) (al h1)) (aj (u2 (u2 (u2 (aj t3 (u2 (aj h2 (aj h2 (ag h2 (u2 (k3 (aj t3 (u2 (k2 (aj t3 (u2 (k3 (al t3))))))))))))))))) (ak s2))) t2)
theorem ckx_1(q:QK)(h1:(decide (iN q.a<iN q.g.length)=false))(h2:((iN (boL q.s).length != iN q.g.length)=false))(h3:(decide (q.x<0)=true)):GoO Ux (hU [38,140,149] (e27 q) (cK q)) 0 (zC (zB Try.f70) 0) (zK (zB Try.f70) 0) (Ek q) (Fin Ux Try.f70 0 [] (iv 19)):=zF (σ:=[]) (fz:=[]) (by kernel_rfl) (aj (aj (aj (al t3) (al h1)) (aj (u2 (u2 (u2 (aj t3 (u2 (ag h2 (ag h2 (ag h2 (u2 (aj h3 (aj h3 (aj h3 (ag h3 (u2 (k2 (aj t3 (u2 (k3 (al t3))))))))))))))))))) (ak s2))) t2)
theorem ckx_2(q:QK)(h1:(decide (iN q.a<iN q.g.length)=false))(h2:((iN (boL q.s).length != iN q.g.length)=false))(h3:(decide (q.x<0)=false))(h4:(decide (iN q.g.length<=q.x)=true)):GoO Ux (hU [38,140,148,159] (e27 q) (cK q)) 0 (zC (zB Try.f70) 0) (zK (zB Try.f70) 0) (Ek q) (Fin Ux Try.f70 0 [] (iv 19)):=zF (σ:=[]) (fz:=[]) (by kernel_rfl) (aj (aj (aj (al t3) (al h1)) (aj (u2 (u2 (u2 (aj t3 (u2 (ag h2 (ag h2 (ag h2 (u2 (ag h3 (ag h3 (aj (aj h3 t3) (ag h3 (u2 (aj h4 (aj h4 (ag h4 (u2 (k3 (al t3)))))))))))))))))))) (ak s2))) t2)
theorem ckx_3(q:QK)(h1:(decide (iN q.a<iN q.g.length)=false))(h2:((iN (boL q.s).length != iN q.g.length)=false))(h3:(decide (q.x<0)=false))(h4:(decide (iN q.g.length<=q.x)=false))(h5:(decide (q.y<0)=true)):GoO Ux (hU [38,140,148,158,167] (e27 q) (cK q)) 0 (zC (zB Try.f70) 0) (zK (zB Try.f70) 0) (Ek q) (Fin Ux Try.f70 0 [] (iv 19)):=zF (σ:=[]) (fz:=[]) (by kernel_rfl) (aj (aj (aj (al t3) (al h1)) (aj (u2 (u2 (u2 (aj t3 (u2 (ag h2 (ag h2 (ag h2 (u2 (ag h3 (ag h3 (aj (aj h3 t3) (ag h3 (u2 (ag h4 (ag h4 (ag h4 (u2 (aj h5 (aj h5 (aj h5 (al (aj h5 t2))))))))))))))))))))))) (ak s2))) t2)
theorem ckx_4(q:QK)(h1:(decide (iN q.a<iN q.g.length)=false))(h2:((iN (boL q.s).length != iN q.g.length)=false))(h3:(decide (q.x<0)=false))(h4:(decide (iN q.g.length<=q.x)=false))(h5:(decide (q.y<0)=false))(h6:(decide (iN q.g.length<=q.y)=true)):GoO Ux (hU [38,140,148,158,166,175] (e27 q) (cK q)) 0 (zC (zB Try.f70) 0) (zK (zB Try.f70) 0) (Ek q) (Fin Ux Try.f70 0 [] (iv 19)):=zF (σ:=[]) (fz:=[]) (by kernel_rfl) (aj (aj (aj (al t3) (al h1)) (aj (u2 (u2 (u2 (aj t3 (u2 (ag h2 (ag h2 (ag h2 (u2 (ag h3 (ag h3 (aj (aj h3 t3) (ag h3 (u2 (ag h4 (ag h4 (ag h4 (u2 (ag h5 (ag h5 (aj (aj h5 t3) (al (aj h5 t2))))))))))))))))))))))) (aj h6 s2))) t2)
theorem ckx_5(q:QK)(h1:(decide (iN q.a<iN q.g.length)=false))(h2:((iN (boL q.s).length != iN q.g.length)=false))(h3:(decide (q.x<0)=false))(h4:(decide (iN q.g.length<=q.x)=false))(h5:(decide (q.y<0)=false))(h6:(decide (iN q.g.length<=q.y)=false)):GoO Ux (hU [38,140,148,158,166,174] (e27 q) (cK q)) 0 (zC (zB Try.f70) 0) (zK (zB Try.f70) 0) (Ek q) (Fin Ux Try.f70 0 [] (iv 0)):=zF (σ:=[]) (fz:=[]) (by kernel_rfl) (aj (aj (aj (al t3) (al h1)) (aj (u2 (u2 (u2 (aj t3 (u2 (ag h2 (ag h2 (ag h2 (u2 (ag h3 (ag h3 (aj (aj h3 t3) (ag h3 (u2 (ag h4 (ag h4 (ag h4 (u2 (ag h5 (ag h5 (aj (aj h5 t3) (al (aj h5 t2))))))))))))))))))))))) (aj h6 s2))) t2)
theorem ckbx_0(q:QK)(h1:(decide (iN q.i<iN q.r.length)=false)){post:Exit->St->Prop}{R:St->Prop}(hR:∀st,Ren 0 st (St.mk 88 [(0,Uw (gL q.g)),(1,Uw (boL q.s)),(2,iv q.x),(3,iv q.y),(9,iv (iN q.g.length)),(17,iv (iN q.g.length)),(18,iv (i64.wrap (iN q.a+1)))] [])->R st):GoO Ux (hU [54] (e27 q) (cK q)) 0 (zC (zC (zB Try.f70) 0) 0) (zK (zC (zB Try.f70) 0) 0) (DD q) (andThen R post):=zN (σ:=[]) (fz:=[]) (vars:=[0,1,2,3,9,17,18]) (by kernel_rfl) (aj (aj (aj (al t3) (al h1)) (al (u2 s2))) t8) hR
theorem hp_0(q:QK)(h1:(0<=iN q.v))(h2:((gL q.g)[(iN q.v).toNat]?=some (Uw (Uq iv q.r)))){post:Exit->St->Prop}(ht:T Ux 0 (.loop (zC (zB Try.f139) 0)) (St.mk 43 [(0,Uw (gL q.g)),(1,Uw (Uq iv q.d)),(2,iv (iN q.v)),(13,iv (iN (Uq iv q.r).length)),(14,iv 0)] []) (TK Ux 0 post (zK (zB Try.f139) 0))):GoP Ux (hU [] (e33 q) (cK q)) 0 (zB Try.f139) (st33 q) post:=zR (σ:=[]) (fz:=[]) (vars:=[0,1,2,13,14]) (by kernel_rfl) (aj (u2 (al (u2 (u2 (aj (k2 (aj h1 h2)) (u2 (u2 t2))))))) t6) ht
theorem hpx_0(q:QK)(h1:(decide (iN q.i<iN q.r.length)=false)):GoO Ux (hU [30] (e33 q) (cK q)) 0 (zC (zB Try.f139) 0) (zK (zB Try.f139) 0) (FK q) (Fin Ux Try.f139 0 [] (iv (-1))):=zF (σ:=[]) (fz:=[]) (by kernel_rfl) (aj (aj (aj (al t3) (al h1)) s2) t2)
theorem hpr_0(q:QK)(h1:(decide (iN q.i<iN q.r.length)=true))(h2:(0<=iN q.v))(h3:((gL q.g)[(iN q.v).toNat]?=some (Uw (Uq iv q.r))))(h4:(0<=iN q.i))(h5:((Uq iv q.r)[(iN q.i).toNat]?=some (iv (iN q.w))))(h6:((Uq iv q.d)[(iN q.v).toNat]?=some (iv q.x)))(h7:(decide (0<q.x)=true))(h8:(0<=iN q.w))(h9:((Uq iv q.d)[(iN q.w).toNat]?=some (iv q.y)))(h10:((q.y==i64.wrap (q.x-1))=true)):GoO Ux (hU [31,59,81] (e33 q) (cK q)) 0 (zC (zB Try.f139) 0) (zK (zB Try.f139) 0) (FK q) (Fin Ux Try.f139 0 [] (iv (iN q.w))):=zF (σ:=[]) (fz:=[]) (by kernel_rfl) (aj (al (aj (al t3) (aj h1 (aj (u2 s2) (aj (u2 (u2 (aj (k2 (aj h2 h3)) (u2 (u2 (aj (k2 (aj h4 h5)) (u2 s2))))))) (aj (u2 (u2 (aj (k2 (aj h2 h6)) (u2 (u2 (u2 (ag h7 (ag h7 (aj (aj h7 (k2 (aj h8 h9))) (ag h7 (ag h7 (ag h7 (aj (aj h7 (k2 (aj h2 h6))) (ag h7 (ag h7 (aj (aj h7 t3) (al (aj h7 t2)))))))))))))))))) (aj h10 (al (u2 s2))))))))) t2)
theorem hpr_1(q:QK)(h1:(decide (iN q.i<iN q.r.length)=true))(h2:(0<=iN q.v))(h3:((gL q.g)[(iN q.v).toNat]?=some (Uw (Uq iv q.r))))(h4:(0<=iN q.i))(h5:((Uq iv q.r)[(iN q.i).toNat]?=some (iv (iN q.w))))(h6:((Uq iv q.d)[(iN q.v).toNat]?=some (iv q.x)))(h7:(decide (0<q.x)=true))(h8:(0<=iN q.w))(h9:((Uq iv q.d)[(iN q.w).toNat]?=some (iv q.y)))(h10:((q.y==i64.wrap (q.x-1))=false)){post:Exit->St->Prop}{R:St->Prop}(hR:∀st,Ren 0 st (St.mk 43 [(0,Uw (gL q.g)),(1,Uw (Uq iv q.d)),(2,iv (iN q.v)),(13,iv (iN q.r.length)),(14,iv (i64.wrap (iN q.i+1)))] [])->R st):GoP Ux (hU [31,59,80] (e33 q) (cK q)) 0 (zC (zB Try.f139) 0) (FK q) (andThen R post):=zN (σ:=[]) (fz:=[]) (vars:=[0,1,2,13,14]) (by kernel_rfl) (aj (aj (al t3) (aj h1 (aj (u2 s2) (aj (u2 (u2 (aj (k2 (aj h2 h3)) (u2 (u2 (aj (k2 (aj h4 h5)) (u2 s2))))))) (aj (u2 (u2 (aj (k2 (aj h2 h6)) (u2 (u2 (u2 (ag h7 (ag h7 (aj (aj h7 (k2 (aj h8 h9))) (ag h7 (ag h7 (ag h7 (aj (aj h7 (k2 (aj h2 h6))) (ag h7 (ag h7 (aj (aj h7 t3) (al (aj h7 t2)))))))))))))))))) (aj h10 (al (u2 s2)))))))) t6) hR
theorem hpr_2(q:QK)(h1:(decide (iN q.i<iN q.r.length)=true))(h2:(0<=iN q.v))(h3:((gL q.g)[(iN q.v).toNat]?=some (Uw (Uq iv q.r))))(h4:(0<=iN q.i))(h5:((Uq iv q.r)[(iN q.i).toNat]?=some (iv (iN q.w))))(h6:((Uq iv q.d)[(iN q.v).toNat]?=some (iv q.x)))(h7:(decide (0<q.x)=false)){post:Exit->St->Prop}{R:St->Prop}(hR:∀st,Ren 0 st (St.mk 43 [(0,Uw (gL q.g)),(1,Uw (Uq iv q.d)),(2,iv (iN q.v)),(13,iv (iN q.r.length)),(14,iv (i64.wrap (iN q.i+1)))] [])->R st):GoP Ux (hU [31,58] (e33 q) (cK q)) 0 (zC (zB Try.f139) 0) (FK q) (andThen R post):=zN (σ:=[]) (fz:=[]) (vars:=[0,1,2,13,14]) (by kernel_rfl) (aj (aj (al t3) (aj h1 (aj (u2 s2) (aj (u2 (u2 (aj (k2 (aj h2 h3)) (u2 (u2 (aj (k2 (aj h4 h5)) (u2 s2))))))) (aj (u2 (u2 (aj (k2 (aj h2 h6)) (u2 (u2 (u2 (aj h7 (aj h7 (aj h7 (aj h7 (aj h7 (aj h7 (aj h7 (aj h7 (aj h7 (aj h7 (al (aj h7 t2)))))))))))))))))) (ak (al (u2 s2)))))))) t6) hR
theorem si_0(q:QK)(h1:((iN (Uq iv q.p).length != iN (Uq iv q.p).length)=false)){post:Exit->St->Prop}(ht:T Ux 0 (.loop (zC (zB Try.f22) 0)) (St.mk 26 [(0,Uw (Uq iv q.p)),(1,Uw (Uq iv q.p)),(5,iv 0)] []) (TK Ux 0 post (zK (zB Try.f22) 0))):GoP Ux (hU [20] (e16 q) (cK q)) 0 (zB Try.f22) (st16 q) post:=zR (σ:=[]) (fz:=[]) (vars:=[0,1,5]) (by kernel_rfl) (aj (u2 (aj (u2 (u2 (u2 (u2 (al t3))))) (aj h1 s2))) t4) ht
theorem six_0(q:QK)(h1:(decide (iN q.i<iN (Uq iv q.p).length)=false)):GoO Ux (hU [28] (e16 q) (cK q)) 0 (zC (zB Try.f22) 0) (zK (zB Try.f22) 0) (lo16 q) (Fin Ux Try.f22 0 [] (AV.bool true)):=zF (σ:=[]) (fz:=[]) (by kernel_rfl) (aj (aj (aj (u2 (u2 (u2 (al t3)))) (al h1)) s2) t2)
theorem sir_0(q:QK)(h1:(decide (iN q.i<iN (Uq iv q.p).length)=true))(h2:(0<=iN q.i))(h3:((Uq iv q.p)[(iN q.i).toNat]?=some (iv q.x)))(h4:((q.x != q.x)=false)){post:Exit->St->Prop}{R:St->Prop}(hR:∀st,Ren 0 st (St.mk 26 [(0,Uw (Uq iv q.p)),(1,Uw (Uq iv q.p)),(5,iv (i64.wrap (iN q.i+1)))] [])->R st):GoP Ux (hU [29,50] (e16 q) (cK q)) 0 (zC (zB Try.f22) 0) (lo16 q) (andThen R post):=zN (σ:=[]) (fz:=[]) (vars:=[0,1,5]) (by kernel_rfl) (aj (aj (u2 (u2 (u2 (al t3)))) (aj h1 (aj (u2 (u2 (aj (k2 (aj h2 h3)) (u2 (u2 (u2 (aj (k2 (aj h2 h3)) (u2 (al t3))))))))) (aj h4 (al (u2 (u2 s2))))))) t4) hR
def Asc(g:List (List Int)):Prop:=∀v,v<g.length->∀i,0<i->i<(g.getD v []).length->(g.getD v []).getD (i-1) 0<(g.getD v []).getD i 0
theorem F4{g:List (List Int)}{s:List Bool}(hg:OkG g s){v:Nat}(hv:v<g.length){i:Nat}(hi:i<(g.getD v []).length):∃w:Nat,(g.getD v []).getD i 0=(w:Int)/\w<g.length/\w≠v:=by
 have hr:=(hg.row v hv).2;generalize g.getD v []=r at hi hr ⊢
 have hm:r.getD i 0∈r:=by rw[Tv,Tu hi];exact T2 hi
 obtain⟨h1,h2,h3⟩:=hr _ hm;exact⟨(r.getD i 0).toNat,by omega,by omega,by omega⟩
def qk(g:List (List Int))(s:List Bool)(v w:Int)(a i:Nat)(r:List Int):QK:=⟨g,s,[],0,0,a,i,r,v,w,false,0,[],[]⟩
theorem FG(i:Nat)(h0:0<i)(h:i<9223372036854775808):i64.wrap ((i:Int)-1)=((i-1:Nat):Int):=by
 have e1:(2:Int) ^ i64.bits=18446744073709551616:=by decide
 have e2:(2:Int) ^ (i64.bits-1)=9223372036854775808:=by decide
 have e3:i64.signed=true:=by decide
 simp only[IntKind.wrap,e1,e2,e3,Bool.true_and,decide_eq_true_eq];split<;>omega
def fnd(p:Nat->Bool):Nat->Nat->Option Nat
 | _,0=>none
 | s,n+1=>match p s with
  | true=>some s
  | false=>fnd p (s+1) n
theorem CS{p:Nat->Bool}{s k:Nat}(h:s<k):fnd p s (k-s)=(match p s with | true=>some s | false=>fnd p (s+1) (k-(s+1))):=by rw[show k-s=(k-(s+1))+1 by omega,fnd]
theorem C0{p:Nat->Bool}{s k:Nat}(h:¬s<k):fnd p s (k-s)=none:=by rw[show k-s=0 by omega,fnd]
def DP(g:List (List Int))(d:List Int)(v i:Nat):Bool:=decide (0<d.getD v 0)&&(d.getD ((g.getD v []).getD i 0).toNat 0==d.getD v 0-1)
def DS(r:List Int)(o:Option Nat):Int:=match o with
 | some i=>r.getD i 0
 | none=> -1
def B1(g:List (List Int))(d:List Int)(v:Nat):Int:=DS (g.getD v []) (fnd (DP g d v) 0 (g.getD v []).length)
def Dw(d:List Int):Prop:=∀x∈d,x<=1000
theorem Dw.get{d:List Int}(h:Dw d){v:Nat}(hv:v<d.length):d.getD v 0<=1000:=by rw[Tv,Tu hv];exact h _ (T2 hv)
theorem Dw.set{d:List Int}(h:Dw d)(v:Nat)(x:Int)(hx:x<=1000):Dw (d.set v x):=by
 intro y hy;rcases List.mem_or_eq_of_mem_set hy with hy | rfl
 .exact h y hy
 .exact hx
theorem NB{β:Type}{Q:List Int->Prop}{f:List Int->β->List Int}:∀(l:List β) (d:List Int),Q d->(∀d x,x∈l->Q d->Q (f d x))->Q (l.foldl f d):=by
 intro l;induction l with
 | nil=>intro d h _;exact h
 | cons x l ih=>intro d h hf;exact ih _ (hf d x (by simp) h) fun d y hy=>hf d y (TN _ hy)
theorem Pf(g:List (List Int))(s:List Bool)(goal N:Nat)(hN:N<=900):Dw (AE g s goal N):=by
 have h0:Dw (Ur g.length (-1)):=by intro x hx;rw[(List.mem_replicate.1 hx).2];omega
 unfold AE;split
 .exact h0
 .refine NB _ _ (h0.set _ _ (by omega)) fun d far hfar hd=>?_
  unfold BV;refine NB _ _ hd fun d v _ hd=>?_
  unfold Be;split
  .exact hd
  .split
   .exact hd
   .refine NB _ _ hd fun d w _ hd=>?_
    unfold BL;split
    .exact hd.set _ _ (by have:=Uk.1 hfar;omega)
    .exact hd
def qh(g:List (List Int))(d:List Int)(v i:Nat)(r:List Int):QK:=⟨g,[],d,v,0,0,i,r,0,0,false,0,[],[]⟩
theorem hop_ct{g:List (List Int)}{s:List Bool}(hg:OkG g s)(d:List Int)(hd:d.length=g.length)(hsm:Dw d)(v:Nat)(hv:v<g.length):CT Ux 139 [] [.lst (gL g),lI d,.int .i64 (v:Nat)] [] (.int .i64 (B1 g d v)):=by
 have hr1:=(hg.row v hv).1;have hrow:=CW hv;have hget:=fun i=>F4 hg hv (i:=i)
 have hdv:=hsm.get (v:=v) (by omega);have hv1:=Bv (l:=d) (j:=v) (by omega);unfold B1;have hP:∀i,DP g d v i=(decide (0<d.getD v 0)&&(d.getD ((g.getD v []).getD i 0).toNat 0==d.getD v 0-1)):=fun i=>rfl
 generalize DP g d v=pp at hP;generalize g.getD v []=r at hr1 hrow hget hP;refine CT.path mix Try.func139 (show Try.f139.body=some (zB Try.f139) by kernel_rfl) (nL rfl) (hp_0 (qh g d v 0 r) (by simp[iN]) hrow ?_);simp only[qh,BU];generalize hrr:fnd pp 0 r.length=res;refine T.loop (fun i:Nat=>FK (qh g d v i r)) (fun i=>i<=r.length/\fnd pp i (r.length-i)=res) (fun i=>r.length+1-i) 0 ⟨TG _,hrr⟩ ?_
 rintro i ⟨hi,hf⟩
 by_cases h:i<r.length
 .rw[CS h] at hf;obtain⟨w,hw,hw1,hw2⟩:=hget i h;have hg1:=Bv h;rw[hw] at hg1;have hw3:=Bv (l:=d) (j:=w) (by omega);have hpi:=hP i;rw[hw,TD] at hpi;have next:fnd pp (i+1) (r.length-(i+1))=res->∀st,Ren 0 st (FK (qh g d v (i+1) r))->∃j,Ren 0 st (FK (qh g d v j r))/\(j<=r.length/\fnd pp j (r.length-j)=res)/\r.length+1-j<r.length+1-i:=fun hf st hst=>⟨i+1,hst,⟨h,hf⟩,by omega⟩
  by_cases h0:0<d.getD v 0
  .obtain⟨m,hm⟩:∃m:Nat,d.getD v 0=(m:Int):=⟨(d.getD v 0).toNat,by omega⟩;have hwr:i64.wrap (d.getD v 0-1)=d.getD v 0-1:=by rw[hm,FG m (by omega) (by omega)];omega
   by_cases he:(d.getD w 0==d.getD v 0-1)=true
   .have hpt:pp i=true:=by rw[hpi,he,TA h0];rfl
    simp only[hpt] at hf;subst hf;show T Ux 0 _ _ (andThen _ (TK Ux 0 (Fin Ux Try.f139 0 [] (.int .i64 (r.getD i 0))) _));rw[hw];exact T.out mix (hpr_0 ⟨g,[],d,v,w,0,i,r,d.getD v 0,d.getD w 0,false,0,[],[]⟩ (TA (by simp only[iN];omega)) (by simp[iN]) hrow (by simp[iN]) hg1 hv1 (TA h0) (by simp[iN]) hw3 (by simp only[hwr];exact he))
   .have he:=Ug.2 he;have hpt:pp i=false:=by rw[hpi,he,Bool.and_false]
    simp only[hpt] at hf;refine T.path mix (hpr_1 ⟨g,[],d,v,w,0,i,r,d.getD v 0,d.getD w 0,false,0,[],[]⟩ (TA (by simp only[iN];omega)) (by simp[iN]) hrow (by simp[iN]) hg1 hv1 (TA h0) (by simp[iN]) hw3 (by simp only[hwr];exact he) ?_);intro st hst;simp only[iN,zW i (show i<9223372036854775807 by omega)] at hst;exact next hf st hst
  .have hpt:pp i=false:=by rw[hpi,Tz h0,Bool.false_and]
   simp only[hpt] at hf;refine T.path mix (hpr_2 ⟨g,[],d,v,w,0,i,r,d.getD v 0,0,false,0,[],[]⟩ (TA (by simp only[iN];omega)) (by simp[iN]) hrow (by simp[iN]) hg1 hv1 (Tz h0) ?_);intro st hst;simp only[iN,zW i (show i<9223372036854775807 by omega)] at hst;exact next hf st hst
 .rw[C0 h] at hf;subst hf;exact T.out mix (hpx_0 (qh g d v i r) (Tz (by simp only[iN,qh];omega)))
def BZ(g:List (List Int))(d:List Int):List Int:=(Uu g.length).map (B1 g d)
def Bs(g:List (List Int))(d:List Int)(j:Nat):List Int:=(Uu g.length).map fun t=>if t<j then B1 g d t else 0
theorem Ny(g:List (List Int))(d:List Int)(j:Nat):(Bs g d j).length=g.length:=by simp[Bs]
theorem NU(g:List (List Int))(d:List Int):Ur g.length (AV.int .i64 0)=(Bs g d 0).map (AV.int .i64):=by
 apply List.ext_getElem
 .simp[Bs]
 .intro i h1 h2;simp[Bs]
theorem fillH_n(g:List (List Int))(d:List Int):Bs g d g.length=BZ g d:=by
 apply List.ext_getElem
 .simp[Bs,BZ]
 .intro i h1 h2;simp[Bs,BZ] at h1 ⊢;omega
theorem SV(g:List (List Int))(d:List Int)(j:Nat)(h:j<g.length):(Bs g d j).set j (B1 g d j)=Bs g d (j+1):=by
 apply List.ext_getElem
 .simp[Bs]
 .intro i h1 h2;simp only[Bs,List.getElem_set,List.getElem_map,List.getElem_range];split
  .rename_i e;subst e;rw[Ts (by omega)]
  .by_cases hij:i<j
   .rw[Ts hij,Ts (by omega)]
   .rw[Tt hij,Tt (by omega)]
theorem Hx(L:List Int)(hL:L.length<=1000000):CT Ux 22 [] [lI L,lI L] [] (.bool true):=by
 refine CT.path mix Try.func22 (show Try.f22.body=some (zB Try.f22) by kernel_rfl) (nL rfl) (si_0 ⟨[],[],[],0,0,0,0,[],0,0,false,0,L,[]⟩ (by simp) ?_);refine T.loop (fun j:Nat=>lo16 ⟨[],[],[],0,0,0,j,[],0,0,false,0,L,[]⟩) (fun j=>j<=L.length) (fun j=>L.length+1-j) 0 (TG _) ?_;intro j hj;by_cases h:j<L.length
 .refine T.path mix (sir_0 ⟨[],[],[],0,0,0,j,[],L.getD j 0,0,false,0,L,[]⟩ (by simp[iN];omega) (by simp[iN]) (Bv h) (by simp) ?_);intro st hst;rw[show i64.wrap (iN j+1)=((j+1:Nat):Int) from zW j (by omega)] at hst;exact⟨j+1,hst,h,by omega⟩
 .exact T.out mix (six_0 ⟨[],[],[],0,0,0,j,[],0,0,false,0,L,[]⟩ (by simp[iN];omega))
def wkZ(g:List (List Int))(d:List Int)(a:Nat):Nat->Int | 0=>(a:Int) | k+1=>B1 g d (wkZ g d a k).toNat
def wkL(g:List (List Int))(d:List Int)(a k:Nat):List Int:=(Uu (k+1)).map (wkZ g d a)
theorem H0(g:List (List Int))(d:List Int)(a k:Nat):(wkL g d a k).length=k+1:=by simp[wkL]
theorem M2(g:List (List Int))(d:List Int)(a k:Nat):wkL g d a (k+1)=wkL g d a k++[wkZ g d a (k+1)]:=by unfold wkL;rw[Ui,TH];rfl
structure QG where
 L:List Int
 g:List (List Int)
 l:List Int
 o:List Int
 s:List Bool
 kk:Nat
 n:Nat
 k:Int
 v:Nat
 w:Nat
 x:Int
 i:Nat
 e:Int
 b:Bool
def st23(q:QG):St:={n:=Try.f26.ntmps,fr:=[(0,lI q.l),(1,.int .i64 q.x)],hp:=[]}
def Kg(q:QG):St:={n:=Try.f26.ntmps,fr:=[(0,lI q.l),(1,.int .i64 q.x),(5,.int .i64 (iN q.i))],hp:=[]}
def nextG(L:List Int)(args:List AV)(hp:List (Option Blk))(v:Int):AN:=match args with
 | [.ptr b _ _,_]=>match nth hp b with
  | some blk=>match blk.es with
   | [.agg [_,.int _ e]]=>.call [b] [] [Ag L (e.toNat+1)] (.int .i64 v)
   | _=>.no
  | none=>.no
 | _=>.no
def cG(q:QG):Nat->FuncId->List AV->List (Option Blk)->AN:=fun dst f args hp=>match f with
 | 15=>nextG q.L args hp (match dst with | 13=>(iN q.n) | 20=>q.k | 27=>iN q.v | 30=>iN q.w | 10=>q.k | _=>iN q.v)
 | 26=>.call [] [] [] (.bool q.b)
 | 102=>.call [] [] [] (lI q.o)
 | _=>.no
def e23(q:QG):List (Nat×AV):=[(14,.int .i64 q.e)]
def st25(q:QG):St:={n:=Try.f102.ntmps,fr:=[(0,lI q.l),(1,.int .i64 q.x)],hp:=[]}
def Kk(q:QG):St:={n:=Try.f102.ntmps,fr:=[(0,lI q.l),(1,.int .i64 q.x),(5,.nils),(6,.bool false),(7,.int .i64 (iN q.i))],hp:=[]}
def DN(q:QG):St:={n:=Try.f102.ntmps,fr:=[(0,lI q.l),(1,.int .i64 q.x),(5,.sl 0 0 q.o.length),(6,.bool q.b),(7,.int .i64 (iN q.i))],hp:=[some (dB q.o)]}
def e25(q:QG):List (Nat×AV):=[(19,.int .i64 q.e),(31,.int .i64 q.e)]
theorem ha_0(q:QG){post:Exit->St->Prop}(ht:T Ux 0 (.loop (zC (zB Try.f26) 0)) (St.mk 18 [(0,Uw (Uq iv q.l)),(1,iv q.x),(5,iv 0)] []) (TK Ux 0 post (zK (zB Try.f26) 0))):GoP Ux (hU [] (e23 q) (cG q)) 0 (zB Try.f26) (st23 q) post:=zR (σ:=[]) (fz:=[]) (vars:=[0,1,5]) (by kernel_rfl) (aj (u2 s2) t4) ht
theorem hax_0(q:QG)(h1:(decide (iN q.i<iN (Uq iv q.l).length)=false)):GoO Ux (hU [18] (e23 q) (cG q)) 0 (zC (zB Try.f26) 0) (zK (zB Try.f26) 0) (Kg q) (Fin Ux Try.f26 0 [] (AV.bool false)):=zF (σ:=[]) (fz:=[]) (by kernel_rfl) (aj (aj (aj (u2 (u2 (u2 (al t3)))) (al h1)) s2) t2)
theorem hay_0(q:QG)(h1:(decide (iN q.i<iN (Uq iv q.l).length)=true))(h2:(0<=iN q.i))(h3:((Uq iv q.l)[(iN q.i).toNat]?=some (iv q.e)))(h4:((q.e==q.x)=true)):GoO Ux (hU [19,35] (e23 q) (cG q)) 0 (zC (zB Try.f26) 0) (zK (zB Try.f26) 0) (Kg q) (Fin Ux Try.f26 0 [] (AV.bool true)):=zF (σ:=[]) (fz:=[]) (by kernel_rfl) (aj (al (aj (u2 (u2 (u2 (al t3)))) (aj h1 (aj (u2 (u2 (aj (k2 (aj h2 h3)) (u2 (u2 (al t3)))))) (aj h4 s2))))) t2)
theorem har_0(q:QG)(h1:(decide (iN q.i<iN (Uq iv q.l).length)=true))(h2:(0<=iN q.i))(h3:((Uq iv q.l)[(iN q.i).toNat]?=some (iv q.e)))(h4:((q.e==q.x)=false)){post:Exit->St->Prop}{R:St->Prop}(hR:∀st,Ren 0 st (St.mk 18 [(0,Uw (Uq iv q.l)),(1,iv q.x),(5,iv (i64.wrap (iN q.i+1)))] [])->R st):GoP Ux (hU [19,34] (e23 q) (cG q)) 0 (zC (zB Try.f26) 0) (Kg q) (andThen R post):=zN (σ:=[]) (fz:=[]) (vars:=[0,1,5]) (by kernel_rfl) (aj (aj (u2 (u2 (u2 (al t3)))) (aj h1 (aj (u2 (u2 (aj (k2 (aj h2 h3)) (u2 (u2 (al t3)))))) (aj h4 (al (u2 (u2 s2))))))) t4) hR
theorem in_0(q:QG){post:Exit->St->Prop}(ht:T Ux 0 (.loop (zC (zB Try.f102) 0)) (St.mk 42 [(0,Uw (Uq iv q.l)),(1,iv q.x),(5,AV.nils),(6,AV.bool false),(7,iv 0)] []) (TK Ux 0 post (zK (zB Try.f102) 0))):GoP Ux (hU [] (e25 q) (cG q)) 0 (zB Try.f102) (st25 q) post:=zR (σ:=[]) (fz:=[]) (vars:=[0,1,5,6,7]) (by kernel_rfl) (aj (u2 (u2 (u2 s2))) t6) ht
theorem inzx_0(q:QG)(h1:(decide (iN q.i<iN (Uq iv q.l).length)=false))(h2:(1<=[iv q.x].length))(h3:([iv q.x].length<=9223372036854775807))(h4:([iv q.x].length * 8<=140737488355328)):GoO Ux (hU [22] (e25 q) (cG q)) 0 (zC (zB Try.f102) 0) (zK (zB Try.f102) 0) (Kk q) (Fin Ux Try.f102 0 [] (Uw [iv q.x])):=zF (σ:=[]) (fz:=[0,1,2,3]) (by kernel_rfl) (aj (aj (aj (u2 (u2 (u2 (al t3)))) (al h1)) (aj (u2 s2) (ak (aj (u2 (u2 (u2 (aj (k2 (aj (aj (show(nat_lit 1=nat_lit 1) by first | decide | exact S9 _) h2) (aj h3 h4))) s2)))) (al (u2 s2)))))) (al (show([AV.int i64 q.x].length=[AV.int i64 q.x].length) from rfl)))
theorem inza_0(q:QG)(h1:(decide (iN q.i<iN (Uq iv q.l).length)=true))(h2:(0<=iN q.i))(h3:((Uq iv q.l)[(iN q.i).toNat]?=some (iv q.e)))(h4:(decide (q.x<q.e)=true))(h5:(1<=[iv q.x].length))(h6:([iv q.x].length<=9223372036854775807))(h7:([iv q.x].length * 8<=140737488355328))(h8:(1<=[iv q.e].length))(h9:([iv q.x].length+[iv q.e].length<=9223372036854775807))(h10:(([iv q.x].length+[iv q.e].length) * 8<=140737488355328)){post:Exit->St->Prop}{R:St->Prop}(hR:∀st,Ren 0 st (St.mk 42 [(0,Uw (Uq iv q.l)),(1,iv q.x),(5,AV.sl 0 0 ([iv q.x].length+[iv q.e].length)),(6,AV.bool true),(7,iv (i64.wrap (iN q.i+1)))] [some (Blk.mk [iv q.x,iv q.e] 1 true true none)])->R st):GoP Ux (hU [23,45] (e25 q) (cG q)) 0 (zC (zB Try.f102) 0) (Kk q) (andThen R post):=zN (σ:=[3]) (fz:=[]) (vars:=[0,1,5,6,7]) (by kernel_rfl) (aj (aj (u2 (u2 (u2 (al t3)))) (aj h1 (aj (u2 (u2 (u2 (aj t3 (aj t3 (aj (k3 (aj h2 h3)) (aj t3 (aj t3 (aj t4 (al (ak (al h4)))))))))))) (ak (aj (u2 (u2 (u2 (aj (k2 (aj (aj (show(nat_lit 1=nat_lit 1) by first | decide | exact S9 _) h5) (aj h6 h7))) (u2 t2))))) (aj (u2 (u2 (u2 (aj (k2 (aj h2 h3)) (u2 (u2 (aj (k2 (aj (show([AV.int i64 q.x].length=[AV.int i64 q.x].length) from rfl) (aj (aj (show(nat_lit 1=nat_lit 1) by first | decide | exact S9 _) h8) (aj h9 h10)))) s2))))))) (al (u2 (u2 s2))))))))) t7) hR
theorem inzb_0(q:QG)(h1:(decide (iN q.i<iN (Uq iv q.l).length)=true))(h2:(0<=iN q.i))(h3:((Uq iv q.l)[(iN q.i).toNat]?=some (iv q.e)))(h4:(decide (q.x<q.e)=false))(h5:(1<=[iv q.e].length))(h6:([iv q.e].length<=9223372036854775807))(h7:([iv q.e].length * 8<=140737488355328)){post:Exit->St->Prop}{R:St->Prop}(hR:∀st,Ren 0 st (St.mk 42 [(0,Uw (Uq iv q.l)),(1,iv q.x),(5,AV.sl 0 0 [iv q.e].length),(6,AV.bool false),(7,iv (i64.wrap (iN q.i+1)))] [some (Blk.mk [iv q.e] 1 true true none)])->R st):GoP Ux (hU [23,44] (e25 q) (cG q)) 0 (zC (zB Try.f102) 0) (Kk q) (andThen R post):=zN (σ:=[1]) (fz:=[]) (vars:=[0,1,5,6,7]) (by kernel_rfl) (aj (aj (u2 (u2 (u2 (al t3)))) (aj h1 (aj (u2 (u2 (u2 (aj t3 (aj t3 (aj (k3 (aj h2 h3)) (aj t3 (aj t3 (aj t4 (al (ak (al h4)))))))))))) (ak (aj (u2 (u2 (u2 (aj (k2 (aj h2 h3)) (u2 (u2 (aj (k2 (aj (aj (show(nat_lit 1=nat_lit 1) by first | decide | exact S9 _) h5) (aj h6 h7))) s2))))))) (al (u2 (u2 s2)))))))) t7) hR
theorem inox_0(q:QG)(h1:(decide (iN q.i<iN (Uq iv q.l).length)=false))(h2:((!q.b)=true))(h3:((Uq iv q.o).length=q.o.length))(h4:(1<=[iv q.x].length))(h5:((Uq iv q.o).length+[iv q.x].length<=9223372036854775807))(h6:(((Uq iv q.o).length+[iv q.x].length) * 8<=140737488355328))(h7:((Uq iv q.o).length+[iv q.x].length=(Uq iv q.o++[iv q.x]).length)):GoO Ux (hU [22,73] (e25 q) (cG q)) 0 (zC (zB Try.f102) 0) (zK (zB Try.f102) 0) (DN q) (Fin Ux Try.f102 0 [] (Uw (Uq iv q.o++[iv q.x]))):=zF (σ:=[]) (fz:=[0,1,2,3]) (by kernel_rfl) (aj (aj (aj (u2 (u2 (u2 (al t3)))) (al h1)) (aj (u2 s2) (aj h2 (aj (u2 (u2 (u2 (aj (k2 (aj h3 (aj (aj (show(nat_lit 1=nat_lit 1) by first | decide | exact S9 _) h4) (aj h5 h6)))) s2)))) (al (u2 s2)))))) (al h7))
theorem inox_1(q:QG)(h1:(decide (iN q.i<iN (Uq iv q.l).length)=false))(h2:((!q.b)=false))(h3:(q.o.length=(Uq iv q.o).length)):GoO Ux (hU [22,72] (e25 q) (cG q)) 0 (zC (zB Try.f102) 0) (zK (zB Try.f102) 0) (DN q) (Fin Ux Try.f102 0 [] (Uw (Uq iv q.o))):=zF (σ:=[]) (fz:=[0,1,2,3]) (by kernel_rfl) (aj (aj (aj (u2 (u2 (u2 (al t3)))) (al h1)) (aj (u2 s2) (aj h2 (al (u2 s2))))) (al h3))
theorem inod_0(q:QG)(h1:(decide (iN q.i<iN (Uq iv q.l).length)=true))(h2:((!q.b)=false))(h3:(0<=iN q.i))(h4:((Uq iv q.l)[(iN q.i).toNat]?=some (iv q.e)))(h5:((Uq iv q.o).length=q.o.length))(h6:(1<=[iv q.e].length))(h7:((Uq iv q.o).length+[iv q.e].length<=9223372036854775807))(h8:(((Uq iv q.o).length+[iv q.e].length) * 8<=140737488355328)){post:Exit->St->Prop}{R:St->Prop}(hR:∀st,Ren 0 st (St.mk 42 [(0,Uw (Uq iv q.l)),(1,iv q.x),(5,AV.sl 0 0 ((Uq iv q.o).length+[iv q.e].length)),(6,AV.bool q.b),(7,iv (i64.wrap (iN q.i+1)))] [some (Blk.mk (Uq iv q.o++[iv q.e]) 1 true true none)])->R st):GoP Ux (hU [23,30,32,46] (e25 q) (cG q)) 0 (zC (zB Try.f102) 0) (DN q) (andThen R post):=zN (σ:=[2]) (fz:=[]) (vars:=[0,1,5,6,7]) (by kernel_rfl) (aj (aj (u2 (u2 (u2 (al t3)))) (aj h1 (aj (u2 (u2 (aj (al h2) (aj (show(false=false) by first | decide | exact S9 _) (aj (show(false=false) by first | decide | exact S9 _) (aj (show(false=false) by first | decide | exact S9 _) (aj (show(false=false) by first | decide | exact S9 _) (aj (show(false=false) by first | decide | exact S9 _) (aj (show(false=false) by first | decide | exact S9 _) (al (aj (show(false=false) by first | decide | exact S9 _) t2))))))))))) (aj (show(false=false) by first | decide | exact S9 _) (aj (u2 (u2 (u2 (aj (k2 (aj h3 h4)) (u2 (u2 (aj (k2 (aj h5 (aj (aj (show(nat_lit 1=nat_lit 1) by first | decide | exact S9 _) h6) (aj h7 h8)))) s2))))))) (al (u2 (u2 s2)))))))) t7) hR
theorem inoa_0(q:QG)(h1:(decide (iN q.i<iN (Uq iv q.l).length)=true))(h2:((!q.b)=true))(h3:(0<=iN q.i))(h4:((Uq iv q.l)[(iN q.i).toNat]?=some (iv q.e)))(h5:(decide (q.x<q.e)=true))(h6:((Uq iv q.o).length=q.o.length))(h7:(1<=[iv q.x].length))(h8:((Uq iv q.o).length+[iv q.x].length<=9223372036854775807))(h9:(((Uq iv q.o).length+[iv q.x].length) * 8<=140737488355328))(h10:((Uq iv q.o++[iv q.x]).length=(Uq iv q.o).length+[iv q.x].length))(h11:(1<=[iv q.e].length))(h12:((Uq iv q.o++[iv q.x]).length+[iv q.e].length<=9223372036854775807))(h13:(((Uq iv q.o++[iv q.x]).length+[iv q.e].length) * 8<=140737488355328)){post:Exit->St->Prop}{R:St->Prop}(hR:∀st,Ren 0 st (St.mk 42 [(0,Uw (Uq iv q.l)),(1,iv q.x),(5,AV.sl 0 0 ((Uq iv q.o++[iv q.x]).length+[iv q.e].length)),(6,AV.bool true),(7,iv (i64.wrap (iN q.i+1)))] [some (Blk.mk (Uq iv q.o++[iv q.x]++[iv q.e]) 1 true true none)])->R st):GoP Ux (hU [23,31,33,45,47] (e25 q) (cG q)) 0 (zC (zB Try.f102) 0) (DN q) (andThen R post):=zN (σ:=[4]) (fz:=[]) (vars:=[0,1,5,6,7]) (by kernel_rfl) (aj (aj (u2 (u2 (u2 (al t3)))) (aj h1 (aj (u2 (u2 (aj (al h2) (ag (show(true=true) by first | decide | exact S9 _) (ag (show(true=true) by first | decide | exact S9 _) (aj (aj (show(true=true) by first | decide | exact S9 _) (k2 (aj h3 h4))) (ag (show(true=true) by first | decide | exact S9 _) (ag (show(true=true) by first | decide | exact S9 _) (aj (aj (show(true=true) by first | decide | exact S9 _) t3) (al (aj (show(true=true) by first | decide | exact S9 _) (al h5)))))))))))) (aj (show(true=true) by first | decide | exact S9 _) (aj (u2 (u2 (u2 (aj (k2 (aj h6 (aj (aj (show(nat_lit 1=nat_lit 1) by first | decide | exact S9 _) h7) (aj h8 h9)))) (u2 t2))))) (aj (u2 (u2 (u2 (aj (k2 (aj h3 h4)) (u2 (u2 (aj (k2 (aj h10 (aj (aj (show(nat_lit 1=nat_lit 1) by first | decide | exact S9 _) h11) (aj h12 h13)))) s2))))))) (al (u2 (u2 s2))))))))) t7) hR
theorem inob_0(q:QG)(h1:(decide (iN q.i<iN (Uq iv q.l).length)=true))(h2:((!q.b)=true))(h3:(0<=iN q.i))(h4:((Uq iv q.l)[(iN q.i).toNat]?=some (iv q.e)))(h5:(decide (q.x<q.e)=false))(h6:((Uq iv q.o).length=q.o.length))(h7:(1<=[iv q.e].length))(h8:((Uq iv q.o).length+[iv q.e].length<=9223372036854775807))(h9:(((Uq iv q.o).length+[iv q.e].length) * 8<=140737488355328)){post:Exit->St->Prop}{R:St->Prop}(hR:∀st,Ren 0 st (St.mk 42 [(0,Uw (Uq iv q.l)),(1,iv q.x),(5,AV.sl 0 0 ((Uq iv q.o).length+[iv q.e].length)),(6,AV.bool q.b),(7,iv (i64.wrap (iN q.i+1)))] [some (Blk.mk (Uq iv q.o++[iv q.e]) 1 true true none)])->R st):GoP Ux (hU [23,31,33,44,46] (e25 q) (cG q)) 0 (zC (zB Try.f102) 0) (DN q) (andThen R post):=zN (σ:=[2]) (fz:=[]) (vars:=[0,1,5,6,7]) (by kernel_rfl) (aj (aj (u2 (u2 (u2 (al t3)))) (aj h1 (aj (u2 (u2 (aj (al h2) (ag (show(true=true) by first | decide | exact S9 _) (ag (show(true=true) by first | decide | exact S9 _) (aj (aj (show(true=true) by first | decide | exact S9 _) (k2 (aj h3 h4))) (ag (show(true=true) by first | decide | exact S9 _) (ag (show(true=true) by first | decide | exact S9 _) (aj (aj (show(true=true) by first | decide | exact S9 _) t3) (al (aj (show(true=true) by first | decide | exact S9 _) (al h5)))))))))))) (aj (show(false=false) by first | decide | exact S9 _) (aj (u2 (u2 (u2 (aj (k2 (aj h3 h4)) (u2 (u2 (aj (k2 (aj h6 (aj (aj (show(nat_lit 1=nat_lit 1) by first | decide | exact S9 _) h7) (aj h8 h9)))) s2))))))) (al (u2 (u2 s2)))))))) t7) hR
theorem CH{p:Nat->Bool}:∀{n s:Nat},fnd p s n=none->∀i,s<=i->i<s+n->p i=false:=by
 intro n;induction n with
 | zero=>intro s _ i h1 h2;omega
 | succ n ih=>
  intro s h i h1 h2;rw[fnd] at h;cases hp:p s with
  | true=>rw[hp] at h;cases h
  | false=>
   rw[hp] at h;by_cases e:i=s
   .rw[e];exact hp
   .exact ih h i (by omega) (by omega)
def AC(l:List Int)(x:Int):Bool:=(fnd (fun i=>l.getD i 0==x) 0 l.length).isSome
theorem Kz{l:List Int}{x:Int}(h:AC l x=false):x∉l:=by
 intro hm;unfold AC at h;have hn:fnd (fun i=>l.getD i 0==x) 0 l.length=none:=by simpa using h
 obtain⟨i,hi,rfl⟩:=T7.1 hm;have:=CH hn i (TG _) (by omega);rw[Tv,Tu hi] at this;simp at this
theorem G6(l:List Int)(x:Int)(hl:l.length<=9223372036854775807):CT Ux 26 [] [lI l,.int .i64 x] [] (.bool (AC l x)):=by
 have hll:=BU l;refine CT.path mix Try.func26 (show Try.f26.body=some (zB Try.f26) by kernel_rfl) (nL rfl) (ha_0 ⟨[],[],l,[],[],0,0,0,0,0,x,0,0,false⟩ ?_);unfold AC;generalize hr:fnd (fun i=>l.getD i 0==x) 0 l.length=r;refine T.loop (fun i:Nat=>Kg ⟨[],[],l,[],[],0,0,0,0,0,x,i,0,false⟩) (fun i=>i<=l.length/\fnd (fun i=>l.getD i 0==x) i (l.length-i)=r) (fun i=>l.length+1-i) 0 ⟨TG _,hr⟩ ?_
 rintro i ⟨hi,hf⟩
 by_cases h:i<l.length
 .rw[CS h] at hf;by_cases he:(l.getD i 0==x)=true
  .simp only[he] at hf;subst hf;exact T.out mix (hay_0 ⟨[],[],l,[],[],0,0,0,0,0,x,i,l.getD i 0,false⟩ (TA (by simp only[iN,hll];omega)) (by simp[iN]) (Bv h) he)
  .have he:=Ug.2 he;simp only[he] at hf;refine T.path mix (har_0 ⟨[],[],l,[],[],0,0,0,0,0,x,i,l.getD i 0,false⟩ (TA (by simp only[iN,hll];omega)) (by simp[iN]) (Bv h) he ?_);intro st hst;simp only[iN,zW i (show i<9223372036854775807 by omega)] at hst;exact⟨i+1,hst,⟨h,hf⟩,by omega⟩
 .rw[C0 h] at hf;subst hf;exact T.out mix (hax_0 ⟨[],[],l,[],[],0,0,0,0,0,x,i,0,false⟩ (Tz (by simp only[iN,hll];omega)))
def BI(x:Int):List Int->List Int | []=>[x] | a::r=>if x<a then x::a::r else a::BI x r
def inS(l:List Int)(x:Int)(y:Nat×List Int×Bool):St:=match y.2.1 with
 | []=>Kk ⟨[],[],l,[],[],0,0,0,0,0,x,y.1,0,false⟩
 | _=>DN ⟨[],[],l,y.2.1,[],0,0,0,0,0,x,y.1,0,y.2.2⟩
theorem O2(l:List Int)(x:Int)(hl:l.length<=1000000):CT Ux 102 [] [lI l,.int .i64 x] [] (lI (BI x l)):=by
 have hll:=BU l;refine CT.path mix Try.func102 (show Try.f102.body=some (zB Try.f102) by kernel_rfl) (nL rfl) (in_0 ⟨[],[],l,[],[],0,0,0,0,0,x,0,0,false⟩ ?_);generalize hres:BI x l=res
 refine T.loop (fun y:Nat×List Int×Bool=>inS l x y) (fun y=>y.1<=l.length/\y.2.1.length<=y.1+1/\(y.2.2=false->y.2.1=l.take y.1/\res=y.2.1++BI x (l.drop y.1))/\(y.2.2=true->res=y.2.1++l.drop y.1/\y.2.1≠[])) (fun y=>l.length+1-y.1) (0,[],false)
  ⟨TG _,by simp,fun _=>⟨by simp,by simp[hres]⟩,fun h=>by cases h⟩ ?_
 rintro⟨i,o,b⟩ ⟨hi,ho,hF,hT⟩
 simp only at hi ho hF hT;have step:∀(h:i<l.length),l.drop i=l.getD i 0::l.drop (i+1)/\l.take (i+1)=l.take i++[l.getD i 0]:=by
  intro h;have e:l.getD i 0=l[i]:=by rw[Tv,Tu h];rfl
  rw[e];exact⟨List.drop_eq_getElem_cons h,by rw[List.take_add_one,Tu h];rfl⟩
 have hw:i64.wrap (iN i+1)=((i+1:Nat):Int):=zW i (by omega);have lenE:∀(u:List Int) (y:AV),(u.map (AV.int .i64)).length+[y].length=u.length+1:=by intro u y;simp
 cases ho':o with
 | nil=>
  subst ho';cases hb:b with
  | true=>exact absurd rfl (hT hb).2
  | false=>
   subst hb;obtain⟨h1,h2⟩:=hF rfl;simp only[List.nil_append] at h2;by_cases h:i<l.length
   .obtain⟨e1,e2⟩:=step h;by_cases hx:x<l.getD i 0
    .refine T.path mix (inza_0 ⟨[],[],l,[],[],0,0,0,0,0,x,i,l.getD i 0,false⟩ (TA (by simp only[iN,hll];omega)) (by simp[iN]) (Bv h) (TA hx) (by simp) (by simp) (by simp) (by simp) (by simp) (by simp) ?_);intro st hst;rw[hw] at hst;refine⟨(i+1,[x,l.getD i 0],true),hst,⟨h,by simp only[Ua,Ub];omega,fun h=>(by cases h),fun _=>⟨?_,by simp⟩⟩,by simp only;omega⟩;rw[h2,e1,BI,Ts hx];rfl
    .refine T.path mix (inzb_0 ⟨[],[],l,[],[],0,0,0,0,0,x,i,l.getD i 0,false⟩ (TA (by simp only[iN,hll];omega)) (by simp[iN]) (Bv h) (Tz hx) (by simp) (by simp) (by simp) ?_);intro st hst;rw[hw] at hst;refine⟨(i+1,[l.getD i 0],false),hst,⟨h,by simp only[Ua,Ub];omega,fun _=>⟨by rw[e2,<-h1];rfl,?_⟩,fun h=>by cases h⟩,by simp only;omega⟩;rw[h2,e1,BI,Tt hx];rfl
   .have e:l.drop i=[]:=List.drop_of_length_le (by omega);rw[e] at h2;rw[h2];exact T.out mix (inzx_0 ⟨[],[],l,[],[],0,0,0,0,0,x,i,0,false⟩ (Tz (by simp only[iN,hll];omega)) (by simp) (by simp) (by simp))
 | cons o0 o1=>
  rw[<-ho'];have hS:inS l x (i,o,b)=DN ⟨[],[],l,o,[],0,0,0,0,0,x,i,0,b⟩:=by rw[ho'];rfl
  have next:∀(o':List Int) (b':Bool) (st:St),o'≠[]->Ren 0 st (DN ⟨[],[],l,o',[],0,0,0,0,0,x,i+1,0,b'⟩)->Ren 0 st (inS l x (i+1,o',b')):=by
   intro o' b' st hne hst;cases o' with
   | nil=>exact absurd rfl hne
   | cons _ _=>exact hst
  show T Ux 0 _ (inS l x (i,o,b)) _;rw[hS];by_cases h:i<l.length
  .obtain⟨e1,e2⟩:=step h;cases hb:b with
   | true=>subst hb;obtain⟨h1,h2⟩:=hT rfl;refine T.path mix (inod_0 ⟨[],[],l,o,[],0,0,0,0,0,x,i,l.getD i 0,true⟩ (TA (by simp only[iN,hll];omega)) rfl (by simp[iN]) (Bv h) (by simp) (by simp) (by simp;omega) (by simp;omega) ?_);intro st hst;rw[hw,lenE] at hst;refine⟨(i+1,o++[l.getD i 0],true),next _ _ _ (by simp) ?_,⟨h,by simp only[TQ,Ua,Ub];omega,fun h=>(by cases h),fun _=>⟨by rw[h1,e1];simp,by simp⟩⟩,by simp only;omega⟩;unfold DN dB;simp only[TH,TQ,Ua,Ub,TJ,Tq,List.map_nil];exact hst
   | false=>
    subst hb;obtain⟨h1,h2⟩:=hF rfl;by_cases hx:x<l.getD i 0
    .refine T.path mix (inoa_0 ⟨[],[],l,o,[],0,0,0,0,0,x,i,l.getD i 0,false⟩ (TA (by simp only[iN,hll];omega)) rfl (by simp[iN]) (Bv h) (TA hx) (by simp) (by simp) (by simp;omega) (by simp;omega) (by simp) (by simp) (by simp;omega) (by simp;omega) ?_);intro st hst;rw[hw] at hst;have hlen2:o.length<=i:=by rw[h1];simp;omega
     refine⟨(i+1,o++[x,l.getD i 0],true),next _ _ _ (by simp) ?_,⟨h,by simp only[TQ,Ua,Ub];omega,fun h=>(by cases h),fun _=>⟨by rw[h2,e1,BI,Ts hx];simp,by simp⟩⟩,by simp only;omega⟩;have e5:(o.map (AV.int .i64)++[AV.int .i64 x]).length+[AV.int .i64 (l.getD i 0)].length=(o++[x,l.getD i 0]).length:=by simp
     simp only at hst;rw[e5] at hst;unfold DN dB;simp only[TH,Tq,List.map_nil];rw[List.append_assoc] at hst;exact hst
    .refine T.path mix (inob_0 ⟨[],[],l,o,[],0,0,0,0,0,x,i,l.getD i 0,false⟩ (TA (by simp only[iN,hll];omega)) rfl (by simp[iN]) (Bv h) (Tz hx) (by simp) (by simp) (by simp;omega) (by simp;omega) ?_);intro st hst;rw[hw,lenE] at hst;refine⟨(i+1,o++[l.getD i 0],false),next _ _ _ (by simp) ?_,⟨h,by simp only[TQ,Ua,Ub];omega,fun _=>⟨by rw[e2,<-h1],by rw[h2,e1,BI,Tt hx];simp⟩,fun h=>by cases h⟩,by simp only;omega⟩;unfold DN dB;simp only[TH,TQ,Ua,Ub,TJ,Tq,List.map_nil];exact hst
  .have e:l.drop i=[]:=List.drop_of_length_le (by omega);cases hb:b with
   | true=>subst hb;obtain⟨h1,_⟩:=hT rfl;rw[e,List.append_nil] at h1;rw[h1];exact T.out mix (inox_1 ⟨[],[],l,o,[],0,0,0,0,0,x,i,0,true⟩ (Tz (by simp only[iN,hll];omega)) rfl (by simp))
   | false=>subst hb;obtain⟨_,h2⟩:=hF rfl;rw[e] at h2;rw[show lI res = .lst (o.map (AV.int .i64)++[AV.int .i64 x]) by rw[h2];simp[lI,BI]];exact T.out mix (inox_0 ⟨[],[],l,o,[],0,0,0,0,0,x,i,0,false⟩ (Tz (by simp only[iN,hll];omega)) rfl (by simp) (by simp) (by simp;omega) (by simp;omega) (by simp))
theorem A5(z:Int)(h0 : -1000000<=z)(h1:z<=1000000):i64.wrap z=z:=by
 have e1:(2:Int) ^ i64.bits=18446744073709551616:=by decide
 have e2:(2:Int) ^ (i64.bits-1)=9223372036854775808:=by decide
 have e3:i64.signed=true:=by decide
 simp only[IntKind.wrap,e1,e2,e3,Bool.true_and,decide_eq_true_eq];split<;>omega
theorem Bd(L:List Int)(k:Nat)(n:Int)(h1:1<=n)(h2:n<=100000):0<=Ai L k n/\Ai L k n<n:=by
 unfold Ai Es;split
 .omega
 .have ha:=Int.tmod_lt_of_pos (Jw L k) (show 0<n by omega);have hb:=Int.lt_tmod_of_pos (Jw L k) (show 0<n by omega);split
  .rw[A5 _ (by omega) (by omega)];omega
  .omega
theorem Mq{x y:Int}:∀{l:List Int},y∈BI x l↔y=x\/y∈l:=by
 intro l;induction l with
 | nil=>simp[BI]
 | cons a r ih=>
  rw[BI];split
  .simp
  .simp only[TZ,ih];constructor
   .rintro(h | h | h)
    .exact .inr (.inl h)
    .exact .inl h
    .exact .inr (.inr h)
   .rintro(h | h | h)
    .exact .inr (.inl h)
    .exact .inl h
    .exact .inr (.inr h)
theorem insB_asc{x:Int}:∀{l:List Int},l.Pairwise (· < ·)->x∉l->(BI x l).Pairwise (· < ·):=by
 intro l;induction l with
 | nil=>intro _ _;simp[BI]
 | cons a r ih=>
  intro h hx;rw[List.pairwise_cons] at h;rw[BI];have hxa:x≠a:=fun e=>hx (by simp[e])
  split
  .rename_i hlt;refine List.pairwise_cons.2 ⟨fun y hy=>?_,List.pairwise_cons.2 h⟩;rcases TZ.1 hy with rfl | hy
   .exact hlt
   .exact Int.lt_trans hlt (h.1 y hy)
  .rename_i hge;refine List.pairwise_cons.2 ⟨fun y hy=>?_,ih h.2 fun hm=>hx (TN _ hm)⟩;rcases Mq.1 hy with rfl | hy
   .omega
   .exact h.1 y hy
theorem insB_len(x:Int):∀(l:List Int),(BI x l).length=l.length+1:=by
 intro l;induction l with
 | nil=>rfl
 | cons a r ih=>rw[BI];split<;>simp[ih]
structure GI(n m:Nat)(g:List (List Int)):Prop where
 len:g.length=n
 row:∀v,v<n->(g.getD v []).length<=m/\(g.getD v []).Pairwise (· < ·)/\∀w∈g.getD v [],0<=w/\w<(n:Int)/\w≠(v:Int)
theorem OV(d:List Int)(v u:Nat)(x:Int)(hv:v<d.length):(d.set v x).getD u 0=if v=u then x else d.getD u 0:=by
 rw[Tv,Un,Tv];split
 .first | rfl | (rw[Ts hv];rfl)
 .rfl
theorem edges_eq(v far:Nat):∀(r d:List Int),v<d.length->(∀w∈r,w.toNat≠v)->
  FX r v far d=if (r.any fun w=>d.getD w.toNat 0==(far:Int))=true then d.set v ((far+1:Nat):Int) else d:=by
 intro r;induction r with
 | nil=>intro d _ _;simp[FX]
 | cons w r ih=>
  intro d hv hr;have hw:=hr w (by simp);have hr':=fun x hx=>hr x (TN _ hx)
  show FX r v far (BL v far d w)=_;have key:∀d':List Int,(∀u,u≠v->d'.getD u 0=d.getD u 0)->(r.any fun w=>d'.getD w.toNat 0==(far:Int))=(r.any fun w=>d.getD w.toNat 0==(far:Int)):=by
   intro d' h;rw[Bool.eq_iff_iff,List.any_eq_true,List.any_eq_true];constructor
   .rintro⟨x,hx,he⟩;exact⟨x,hx,by rw[<-h _ (hr' x hx)];exact he⟩
   .rintro⟨x,hx,he⟩;exact⟨x,hx,by rw[h _ (hr' x hx)];exact he⟩
  rw[ih _ (by rw[J3];exact hv) hr',List.any_cons];unfold BL;by_cases he:(d.getD w.toNat 0==(far:Int))=true
  .rw[Ts he,he,Bool.true_or,Ts rfl,List.set_set];split<;>rfl
  .rw[Tt he,Ug.2 he,Tn]
def rdV(g:List (List Int))(s:List Bool)(d:List Int)(far v:Nat):Int:=if s.getD v false=true then d.getD v 0 else if 0<=d.getD v 0 then d.getD v 0 else if ((g.getD v []).any fun w=>d.getD w.toNat 0==(far:Int))=true then ((far+1:Nat):Int) else d.getD v 0
theorem NL{g:List (List Int)}{s:List Bool}(hg:OkG g s)(d:List Int)(hd:d.length=g.length)(far:Nat):∀v,v<g.length->(BV g s d far).getD v 0=rdV g s d far v:=by
 have key:∀j,j<=g.length->∀v,v<g.length->((Uu j).foldl (Be g s far) d).getD v 0=if v<j then rdV g s d far v else d.getD v 0:=by
  intro j;induction j with
  | zero=>intro _ v _;rw[Tt (by omega)];rfl
  | succ j ih=>
   intro hj v hv;have ih:=ih (by omega);rw[FL];have hlen:((Uu j).foldl (Be g s far) d).length=g.length:=by rw[D1 (IX g s far),hd]
   generalize (Uu j).foldl (Be g s far) d=e at ih hlen;have hej:e.getD j 0=d.getD j 0:=by rw[ih j (by omega),Tt (by omega)]
   have hw:∀w∈g.getD j [],w.toNat≠j:=fun w hw=>by have:=(hg.row j (by omega)).2 w hw;omega
   have hany:((g.getD j []).any fun w=>e.getD w.toNat 0==(far:Int))=((g.getD j []).any fun w=>d.getD w.toNat 0==(far:Int)):=by
    have pt:∀w∈g.getD j [],(e.getD w.toNat 0==(far:Int))=(d.getD w.toNat 0==(far:Int)):=by
     intro w hwm;have:=(hg.row j (by omega)).2 w hwm;rw[ih w.toNat (by omega)];split
     .unfold rdV;split
      .rfl
      .split
       .rfl
       .split
        .rw[Bool.eq_iff_iff,beq_iff_eq,beq_iff_eq];constructor<;>intro h<;>omega
        .rfl
     .rfl
    rw[Bool.eq_iff_iff,List.any_eq_true,List.any_eq_true];constructor
    .rintro⟨x,hx,he⟩;exact⟨x,hx,by rw[<-pt x hx];exact he⟩
    .rintro⟨x,hx,he⟩;exact⟨x,hx,by rw[pt x hx];exact he⟩
   have hv1:(Be g s far e j).getD v 0=if v=j then rdV g s d far j else e.getD v 0:=by
    unfold Be rdV;rw[hej];by_cases h1:s.getD j false=true
    .rw[Ts h1,Ts h1];split
     .rename_i h;subst h;exact hej
     .rfl
    .rw[Tt h1,Tt h1];by_cases h2:0<=d.getD j 0
     .rw[TA h2,Ts rfl,Ts h2];split
      .rename_i h;subst h;exact hej
      .rfl
     .rw[Tt (by simpa using h2),Tt h2,edges_eq j far _ e (by omega) hw,hany];by_cases h3:((g.getD j []).any fun w=>d.getD w.toNat 0==(far:Int))=true
      .rw[Ts h3,Ts h3,OV e j v _ (by omega)];by_cases h4:v=j
       .rw[Ts h4.symm,Ts h4]
       .rw[Tt fun h=>h4 h.symm,Tt h4]
      .rw[Tt h3,Tt h3];split
       .rename_i h;subst h;exact hej
       .rfl
   rw[hv1];by_cases h:v=j
   .subst h;rw[Ts rfl,Ts (by omega)]
   .rw[Tt h,ih v hv];by_cases h2:v<j
    .rw[Ts h2,Ts (by omega)]
    .rw[Tt h2,Tt (by omega)]
 intro v hv;rw[BV,key g.length (TF _) v hv,Ts hv]
structure Lev(g:List (List Int))(s:List Bool)(goal k:Nat)(d:List Int):Prop where
 len:d.length=g.length
 zero:d.getD goal 0=0
 bnd:∀v,v<g.length->-1<=d.getD v 0/\d.getD v 0<=k
 back:∀v,v<g.length->0<=d.getD v 0->v=goal\/(s.getD v false=false/\∃w∈g.getD v [],0<=d.getD w.toNat 0/\d.getD v 0=d.getD w.toNat 0+1)
 fwd:∀v,v<g.length->s.getD v false=false->∀w∈g.getD v [],0<=d.getD w.toNat 0->d.getD w.toNat 0<k->0<=d.getD v 0/\d.getD v 0<=d.getD w.toNat 0+1
theorem Lev.step{g:List (List Int)}{s:List Bool}(hg:OkG g s){goal k:Nat}{d:List Int}(hgo:goal<g.length)(h:Lev g s goal k d):Lev g s goal (k+1) (BV g s d k):=by
 have rg:=NL hg d h.len k;have same:∀v,v<g.length->0<=d.getD v 0->rdV g s d k v=d.getD v 0:=by
  intro v hv h0;unfold rdV;by_cases h1:s.getD v false=true
  .rw[Ts h1]
  .rw[Tt h1,Ts h0]
 have inr:∀v,v<g.length->∀w∈g.getD v [],w.toNat<g.length:=fun v hv w hw=>by have:=(hg.row v hv).2 w hw;omega
 have cases':∀v,v<g.length->rdV g s d k v=d.getD v 0\/(s.getD v false=false/\d.getD v 0<0/\rdV g s d k v=((k+1:Nat):Int)/\∃w∈g.getD v [],d.getD w.toNat 0=(k:Int)):=by
  intro v hv;unfold rdV;by_cases h1:s.getD v false=true
  .rw[Ts h1];exact .inl rfl
  .rw[Tt h1];by_cases h2:0<=d.getD v 0
   .rw[Ts h2];exact .inl rfl
   .rw[Tt h2];by_cases h3:((g.getD v []).any fun w=>d.getD w.toNat 0==(k:Int))=true
    .rw[Ts h3];obtain⟨w,hw,he⟩:=List.any_eq_true.1 h3;exact .inr ⟨Ug.2 h1,by omega,rfl,w,hw,by simpa using he⟩
    .rw[Tt h3];exact .inl rfl
 refine⟨by rw[Iw,h.len],?_,fun v hv=>?_,fun v hv h0=>?_,fun v hv hs w hw h0 hk=>?_⟩
 .rw[rg goal hgo,same goal hgo (by rw[h.zero];omega),h.zero]
 .rw[rg v hv];have:=h.bnd v hv;rcases cases' v hv with e | ⟨_,_,e,_⟩<;>rw[e]<;>omega
 .rw[rg v hv] at h0 ⊢
  rcases cases' v hv with e | ⟨e1,e2,e3,w,hw,e4⟩
  .rw[e] at h0 ⊢
   rcases h.back v hv h0 with hgl | ⟨h1,w,hw,h2,h3⟩
   .exact .inl hgl
   .refine .inr ⟨h1,w,hw,?_⟩;rw[rg _ (inr v hv w hw),same _ (inr v hv w hw) h2];exact⟨h2,h3⟩
  .refine .inr ⟨e1,w,hw,?_⟩;rw[rg _ (inr v hv w hw),same _ (inr v hv w hw) (by omega),e3,e4];exact⟨by omega,by omega⟩
 .have hwr:=inr v hv w hw;rw[rg _ hwr] at h0 hk ⊢
  rw[rg v hv];have hbv:=h.bnd v hv;have hbw:=h.bnd _ hwr;rcases cases' _ hwr with e | ⟨_,_,e,_⟩
  .rw[e] at h0 hk ⊢
   by_cases hlt:d.getD w.toNat 0<k
   .obtain⟨g1,g2⟩:=h.fwd v hv hs w hw h0 hlt;rw[same v hv g1];exact⟨g1,g2⟩
   .have hwk:d.getD w.toNat 0=(k:Int):=by omega
    by_cases hv0:0<=d.getD v 0
    .rw[same v hv hv0];exact⟨hv0,by omega⟩
    .unfold rdV;rw[Tt (by rw[hs];simp),Tt hv0,Ts (List.any_eq_true.2 ⟨w,hw,by simpa using hwk⟩)];exact⟨by omega,by omega⟩
  .rw[e] at hk;omega
theorem Lev.start{g:List (List Int)}{s:List Bool}(hg:OkG g s){goal:Nat}(hgo:goal<g.length):Lev g s goal 0 (Ch g goal):=by
 have rep:∀v,v<g.length->(Ur g.length (-1:Int)).getD v 0 = -1:=by intro v hv;simp[Tv,hv]
 have e:∀v,v<g.length->(Ch g goal).getD v 0=if goal=v then 0 else -1:=by intro v hv;unfold Ch;rw[OV _ _ _ _ (by simpa using hgo),rep v hv]
 refine⟨KE g goal,by rw[e goal hgo,Ts rfl],fun v hv=>?_,fun v hv h0=>?_,fun v hv hs w hw h0 hk=>?_⟩
 .rw[e v hv];split<;>omega
 .rw[e v hv] at h0;split at h0
  .rename_i h;exact .inl h.symm
  .omega
 .omega
theorem Lev.run{g:List (List Int)}{s:List Bool}(hg:OkG g s){goal:Nat}(hgo:goal<g.length):∀k,Lev g s goal k ((Uu k).foldl (BV g s) (Ch g goal)):=by
 intro k;induction k with
 | zero=>exact Lev.start hg hgo
 | succ k ih=>rw[FL];exact ih.step hg hgo
theorem IS:∀{l d:List Int},l.Nodup->(∀x∈l,x∈d)->l.length<=d.length:=by
 intro l;induction l with
 | nil=>intro d _ _;simp
 | cons a l ih=>
  intro d hn hs;rw[List.nodup_cons] at hn;have ha:=hs a (by simp);have:=ih (d:=d.erase a) hn.2 fun x hx=>(List.mem_erase_of_ne (fun e=>hn.1 (by rw[<-e];exact hx))).2 (hs x (TN _ hx))
  rw[List.length_erase_of_mem ha] at this;have:0<d.length:=Uo ha;simp only[Ua];omega
theorem Lev.top{g:List (List Int)}{s:List Bool}(hg:OkG g s){goal k:Nat}{d:List Int}(h:Lev g s goal k d){v:Nat}(hv:v<g.length):d.getD v 0<g.length:=by
 rcases Int.lt_or_le (d.getD v 0) 0 with hneg | hpos
 .omega
 obtain⟨m,hm⟩:∃m:Nat,d.getD v 0=(m:Int):=⟨(d.getD v 0).toNat,by omega⟩;have occ:∀j,j<=m->∃u,u<g.length/\d.getD u 0=((m-j:Nat):Int):=by
  intro j;induction j with
  | zero=>intro _;exact⟨v,hv,by rw[hm];rfl⟩
  | succ j ih=>
   intro hj;obtain⟨u,hu,he⟩:=ih (by omega);rcases h.back u hu (by omega) with rfl | ⟨_,w,hw,h1,h2⟩
   .rw[h.zero] at he;omega
   .have:=(hg.row u hu).2 w hw;exact⟨w.toNat,by omega,by omega⟩
 have sub:∀x∈(Uu (m+1)).map (fun j:Nat=>(j:Int)),x∈d:=by intro x hx;obtain⟨j,hj,rfl⟩:=T1.1 hx;have hj:=Uk.1 hj;obtain⟨u,hu,he⟩:=occ (m-j) (by omega);rw[show m-(m-j)=j by omega] at he;rw[<-he,Tv,Tu (by rw[h.len];exact hu)];exact T2 _
 have nd:((Uu (m+1)).map (fun j:Nat=>(j:Int))).Nodup:=by refine List.pairwise_map.2 ((List.nodup_range (n:=m+1)).imp fun hne e=>hne (Int.ofNat_inj.1 e))
 have:=IS nd sub;simp only[Tx,Ud,h.len] at this;omega
structure Dst(g:List (List Int))(s:List Bool)(goal:Nat)(d:List Int):Prop where
 len:d.length=g.length
 shut:s.getD goal false=true->∀v,v<g.length->d.getD v 0 = -1
 zero:s.getD goal false=false->d.getD goal 0=0
 bnd:∀v,v<g.length->-1<=d.getD v 0/\d.getD v 0<g.length
 back:∀v,v<g.length->0<=d.getD v 0->v=goal\/(s.getD v false=false/\∃w∈g.getD v [],0<=d.getD w.toNat 0/\d.getD v 0=d.getD w.toNat 0+1)
 fwd:∀v,v<g.length->s.getD v false=false->∀w∈g.getD v [],0<=d.getD w.toNat 0->0<=d.getD v 0/\d.getD v 0<=d.getD w.toNat 0+1
theorem D9{g:List (List Int)}{s:List Bool}(hg:OkG g s){goal:Nat}(hgo:goal<g.length):Dst g s goal (AE g s goal g.length):=by
 have hl:=ON g s goal g.length;by_cases hs:s.getD goal false=true
 .have e:AE g s goal g.length=Ur g.length (-1):=by unfold AE;rw[Ts hs]
  rw[e] at hl ⊢
  have rep:∀v,v<g.length->(Ur g.length (-1:Int)).getD v 0 = -1:=by intro v hv;simp[Tv,hv]
  refine⟨hl,fun _=>rep,fun h=>by(rw[hs] at h;cases h),fun v hv=>by rw[rep v hv];omega,fun v hv h0=>by(rw[rep v hv] at h0;omega),fun v hv _ w hw h0=>?_⟩;have:=(hg.row v hv).2 w hw;rw[rep _ (by omega)] at h0;omega
 .have e:AE g s goal g.length=(Uu g.length).foldl (BV g s) (Ch g goal):=by unfold AE;rw[Tt hs]
  rw[e] at hl ⊢
  have h:=Lev.run hg hgo g.length;exact⟨h.len,fun h'=>absurd h' hs,fun _=>h.zero,fun v hv=>⟨(h.bnd v hv).1,h.top hg hv⟩,h.back,fun v hv h1 w hw h0=>h.fwd v hv h1 w hw h0 (h.top hg (by have:=(hg.row v hv).2 w hw;omega))⟩
structure QT where
 L:List Int
 g:List (List Int)
 s:List Bool
 goal:Nat
 d:List Int
 v:Nat
 k:Nat
 r:List Int
 w:Nat
 b:Bool
 sb:Bool
 x:Int
 y:Int
 m1:Nat
 m2:Nat
def Hv(q:QK):List (Nat×AV):=[(23,lI q.r),(31,lI q.r),(34,.int .i64 q.e),(55,lI q.r),(59,.int .i64 (q.p.getD 0 0))]
def st40(q:QK):St:={n:=Try.f145.ntmps,fr:=[(0,.lst (gL q.g))],hp:=[]}
def KC(q:QK):St:={n:=Try.f145.ntmps,fr:=[(0,.lst (gL q.g)),(3,.int .i64 (iN q.a))],hp:=[]}
def DK(q:QK):St:={n:=Try.f145.ntmps,fr:=[(0,.lst (gL q.g)),(3,.int .i64 (iN q.a)),(4,.int .i64 (iN q.i))],hp:=[]}
def e40(q:QK):List (Nat×AV):=[(18,lI q.r),(26,lI q.r),(29,.int .i64 q.e),(51,lI q.r),(55,.int .i64 (q.p.getD 0 0))]
def st35(q:QK):St:={n:=Try.f134.ntmps,fr:=[(0,.lst (gL q.g)),(1,.lst (boL q.s))],hp:=[]}
def cV(q:QK):Nat->FuncId->List AV->List (Option Blk)->AN:=fun dst f args _=>match f with
 | 145=>.call [] [] [] (.bool q.b)
 | 134=>.call [] [] [] (.int .i64 q.e)
 | _=>.no
theorem cgr_0(q:QK)(h1:(decide (iN q.i<iN q.r.length)=true))(h2:(0<=iN q.a))(h3:((gL q.g)[(iN q.a).toNat]?=some (Uw (Uq iv q.r))))(h4:(0<=iN q.i))(h5:((Uq iv q.r)[(iN q.i).toNat]?=some (iv q.e)))(h6:(decide (q.e<0)=true)){post:Exit->St->Prop}(hP:BQ post (Fin Ux Try.f70 0 [] (iv 20))):GoO Ux (hU [55,77] (Hv q) (cK q)) 0 (zC (zC (zB Try.f70) 0) 0) (zK (zC (zB Try.f70) 0) 0) (DD q) post:=CK (σ:=[]) (fz:=[]) (by kernel_rfl) (aj (al (aj (al t3) (aj h1 (aj (u2 s2) (aj (u2 (u2 (aj (k2 (aj h2 h3)) (u2 (u2 (aj (k2 (aj h4 h5)) (u2 s2))))))) (aj (u2 (u2 (u2 (aj h6 (aj h6 (aj h6 (ag h6 (u2 (k3 (aj t3 (u2 (ak (k3 (k5 (k5 (al t3)))))))))))))))) (ak s2))))))) t2) hP
theorem cgr_1(q:QK)(h1:(decide (iN q.i<iN q.r.length)=true))(h2:(0<=iN q.a))(h3:((gL q.g)[(iN q.a).toNat]?=some (Uw (Uq iv q.r))))(h4:(0<=iN q.i))(h5:((Uq iv q.r)[(iN q.i).toNat]?=some (iv q.e)))(h6:(decide (q.e<0)=false))(h7:(decide (iN q.g.length<=q.e)=true)){post:Exit->St->Prop}(hP:BQ post (Fin Ux Try.f70 0 [] (iv 20))):GoO Ux (hU [55,76,87] (Hv q) (cK q)) 0 (zC (zC (zB Try.f70) 0) 0) (zK (zC (zB Try.f70) 0) 0) (DD q) post:=CK (σ:=[]) (fz:=[]) (by kernel_rfl) (aj (al (aj (al t3) (aj h1 (aj (u2 s2) (aj (u2 (u2 (aj (k2 (aj h2 h3)) (u2 (u2 (aj (k2 (aj h4 h5)) (u2 s2))))))) (aj (u2 (u2 (u2 (ag h6 (ag h6 (aj (aj h6 t3) (ag h6 (u2 (aj h7 (aj h7 (aj h7 (ag h7 (u2 (ak (k3 (k5 (k5 (al t3)))))))))))))))))) (ak s2))))))) t2) hP
theorem cgr_2(q:QK)(h1:(decide (iN q.i<iN q.r.length)=true))(h2:(0<=iN q.a))(h3:((gL q.g)[(iN q.a).toNat]?=some (Uw (Uq iv q.r))))(h4:(0<=iN q.i))(h5:((Uq iv q.r)[(iN q.i).toNat]?=some (iv q.e)))(h6:(decide (q.e<0)=false))(h7:(decide (iN q.g.length<=q.e)=false))(h8:((q.e==iN q.a)=true)){post:Exit->St->Prop}(hP:BQ post (Fin Ux Try.f70 0 [] (iv 20))):GoO Ux (hU [55,76,86,97] (Hv q) (cK q)) 0 (zC (zC (zB Try.f70) 0) 0) (zK (zC (zB Try.f70) 0) 0) (DD q) post:=CK (σ:=[]) (fz:=[]) (by kernel_rfl) (aj (al (aj (al t3) (aj h1 (aj (u2 s2) (aj (u2 (u2 (aj (k2 (aj h2 h3)) (u2 (u2 (aj (k2 (aj h4 h5)) (u2 s2))))))) (aj (u2 (u2 (u2 (ag h6 (ag h6 (aj (aj h6 t3) (ag h6 (u2 (ag h7 (ag h7 (aj (aj h7 t3) (ag h7 (u2 (aj h8 (aj h8 (aj h8 (k5 (k5 (aj h8 (al (aj h8 t2))))))))))))))))))))) (ak s2))))))) t2) hP
theorem cgr_3(q:QK)(h1:(decide (iN q.i<iN q.r.length)=true))(h2:(0<=iN q.a))(h3:((gL q.g)[(iN q.a).toNat]?=some (Uw (Uq iv q.r))))(h4:(0<=iN q.i))(h5:((Uq iv q.r)[(iN q.i).toNat]?=some (iv q.e)))(h6:(decide (q.e<0)=false))(h7:(decide (iN q.g.length<=q.e)=false))(h8:((q.e==iN q.a)=false))(h9:(decide (0<iN q.i)=true))(h10:(0<=i64.wrap (iN q.i-1)))(h11:((Uq iv q.r)[(i64.wrap (iN q.i-1)).toNat]?=some (iv (q.p.getD 0 0))))(h12:(decide (q.e<=q.p.getD 0 0)=true)){post:Exit->St->Prop}(hP:BQ post (Fin Ux Try.f70 0 [] (iv 20))):GoO Ux (hU [55,76,86,96,103,127] (Hv q) (cK q)) 0 (zC (zC (zB Try.f70) 0) 0) (zK (zC (zB Try.f70) 0) 0) (DD q) post:=CK (σ:=[]) (fz:=[]) (by kernel_rfl) (aj (al (aj (al t3) (aj h1 (aj (u2 s2) (aj (u2 (u2 (aj (k2 (aj h2 h3)) (u2 (u2 (aj (k2 (aj h4 h5)) (u2 s2))))))) (aj (u2 (u2 (u2 (ag h6 (ag h6 (aj (aj h6 t3) (ag h6 (u2 (ag h7 (ag h7 (aj (aj h7 t3) (ag h7 (u2 (ag h8 (ag h8 (ag h8 (ag h9 (ag h9 (ag h9 (aj (aj h9 (k2 (aj h2 h3))) (ag h9 (ag h9 (ag h9 (aj (aj h9 (k2 (aj h10 h11))) (ag h9 (aj (aj h9 t3) (aj (aj h8 (aj h9 t2)) (al (aj h8 t2))))))))))))))))))))))))))))) (aj h12 s2))))))) t2) hP
theorem cgr_4(q:QK)(h1:(decide (iN q.i<iN q.r.length)=true))(h2:(0<=iN q.a))(h3:((gL q.g)[(iN q.a).toNat]?=some (Uw (Uq iv q.r))))(h4:(0<=iN q.i))(h5:((Uq iv q.r)[(iN q.i).toNat]?=some (iv q.e)))(h6:(decide (q.e<0)=false))(h7:(decide (iN q.g.length<=q.e)=false))(h8:((q.e==iN q.a)=false))(h9:(decide (0<iN q.i)=true))(h10:(0<=i64.wrap (iN q.i-1)))(h11:((Uq iv q.r)[(i64.wrap (iN q.i-1)).toNat]?=some (iv (q.p.getD 0 0))))(h12:(decide (q.e<=q.p.getD 0 0)=false)){post:Exit->St->Prop}{R:St->Prop}(hR:∀st,Ren 0 st (St.mk 88 [(0,Uw (gL q.g)),(1,Uw (boL q.s)),(2,iv q.x),(3,iv q.y),(9,iv (iN q.g.length)),(10,iv (iN q.a)),(17,iv (iN q.g.length)),(18,iv (iN q.a)),(25,iv (iN q.r.length)),(26,iv (i64.wrap (iN q.i+1)))] [])->R st):GoP Ux (hU [55,76,86,96,103,126] (Hv q) (cK q)) 0 (zC (zC (zB Try.f70) 0) 0) (DD q) (andThen R post):=zN (σ:=[]) (fz:=[]) (vars:=[0,1,2,3,9,10,17,18,25,26]) (by kernel_rfl) (aj (aj (al t3) (aj h1 (aj (u2 s2) (aj (u2 (u2 (aj (k2 (aj h2 h3)) (u2 (u2 (aj (k2 (aj h4 h5)) (u2 s2))))))) (aj (u2 (u2 (u2 (ag h6 (ag h6 (aj (aj h6 t3) (ag h6 (u2 (ag h7 (ag h7 (aj (aj h7 t3) (ag h7 (u2 (ag h8 (ag h8 (ag h8 (ag h9 (ag h9 (ag h9 (aj (aj h9 (k2 (aj h2 h3))) (ag h9 (ag h9 (ag h9 (aj (aj h9 (k2 (aj h10 h11))) (ag h9 (aj (aj h9 t3) (aj (aj h8 (aj h9 t2)) (al (aj h8 t2))))))))))))))))))))))))))))) (aj h12 (al (u2 s2)))))))) (k2 t9)) hR
theorem cgr_5(q:QK)(h1:(decide (iN q.i<iN q.r.length)=true))(h2:(0<=iN q.a))(h3:((gL q.g)[(iN q.a).toNat]?=some (Uw (Uq iv q.r))))(h4:(0<=iN q.i))(h5:((Uq iv q.r)[(iN q.i).toNat]?=some (iv q.e)))(h6:(decide (q.e<0)=false))(h7:(decide (iN q.g.length<=q.e)=false))(h8:((q.e==iN q.a)=false))(h9:(decide (0<iN q.i)=false)){post:Exit->St->Prop}{R:St->Prop}(hR:∀st,Ren 0 st (St.mk 88 [(0,Uw (gL q.g)),(1,Uw (boL q.s)),(2,iv q.x),(3,iv q.y),(9,iv (iN q.g.length)),(10,iv (iN q.a)),(17,iv (iN q.g.length)),(18,iv (iN q.a)),(25,iv (iN q.r.length)),(26,iv (i64.wrap (iN q.i+1)))] [])->R st):GoP Ux (hU [55,76,86,96,102] (Hv q) (cK q)) 0 (zC (zC (zB Try.f70) 0) 0) (DD q) (andThen R post):=zN (σ:=[]) (fz:=[]) (vars:=[0,1,2,3,9,10,17,18,25,26]) (by kernel_rfl) (aj (aj (al t3) (aj h1 (aj (u2 s2) (aj (u2 (u2 (aj (k2 (aj h2 h3)) (u2 (u2 (aj (k2 (aj h4 h5)) (u2 s2))))))) (aj (u2 (u2 (u2 (ag h6 (ag h6 (aj (aj h6 t3) (ag h6 (u2 (ag h7 (ag h7 (aj (aj h7 t3) (ag h7 (u2 (ag h8 (ag h8 (ag h8 (aj h9 (aj h9 (aj h9 (aj h9 (aj h9 (aj h9 (aj h9 (aj h9 (aj h9 (aj h9 (aj (aj h8 (aj h9 t2)) (al (aj h8 t2))))))))))))))))))))))))))))) (ak (al (u2 s2)))))))) (k2 t9)) hR
theorem va_0(q:QK)(h1:(decide (24<iN (gL q.g).length)=true)):GoP Ux (hU [17] (e40 q) (cV q)) 0 (zB Try.f145) (st40 q) (Fin Ux Try.f145 0 [] (AV.bool false)):=zF (σ:=[]) (fz:=[]) (by kernel_rfl) (aj (u2 (aj (u2 (u2 s2)) (aj h1 s2))) t2)
theorem va_1(q:QK)(h1:(decide (24<iN (gL q.g).length)=false)){post:Exit->St->Prop}(ht:T Ux 0 (.loop (zC (zB Try.f145) 0)) (St.mk 60 [(0,Uw (gL q.g)),(3,iv 0)] []) (TK Ux 0 post (zK (zB Try.f145) 0))):GoP Ux (hU [16] (e40 q) (cV q)) 0 (zB Try.f145) (st40 q) post:=zR (σ:=[]) (fz:=[]) (vars:=[0,3]) (by kernel_rfl) (aj (u2 (aj (u2 (u2 s2)) (aj h1 s2))) t3) ht
theorem vax_0(q:QK)(h1:(decide (iN q.a<iN (gL q.g).length)=false)):GoO Ux (hU [24] (e40 q) (cV q)) 0 (zC (zB Try.f145) 0) (zK (zB Try.f145) 0) (KC q) (Fin Ux Try.f145 0 [] (AV.bool true)):=zF (σ:=[]) (fz:=[]) (by kernel_rfl) (aj (aj (aj (u2 (u2 (u2 (al t3)))) (al h1)) s2) t2)
theorem vai_0(q:QK)(h1:(decide (iN q.a<iN (gL q.g).length)=true)){post:Exit->St->Prop}(ht:T Ux 0 (.loop (zC (zC (zB Try.f145) 0) 0)) (St.mk 60 [(0,Uw (gL q.g)),(3,iv (iN q.a)),(4,iv 0)] []) (TK Ux 0 post (zK (zC (zB Try.f145) 0) 0))):GoP Ux (hU [25] (e40 q) (cV q)) 0 (zC (zB Try.f145) 0) (KC q) post:=zR (σ:=[]) (fz:=[]) (vars:=[0,3,4]) (by kernel_rfl) (aj (aj (u2 (u2 (u2 (al t3)))) (aj h1 s2)) t4) ht
theorem vbx_0(q:QK)(h1:(0<=iN q.a))(h2:((gL q.g)[(iN q.a).toNat]?=some (Uw (Uq iv q.r))))(h3:(decide (iN q.i<iN (Uq iv q.r).length)=false)){post:Exit->St->Prop}{R:St->Prop}(hR:∀st,Ren 0 st (St.mk 60 [(0,Uw (gL q.g)),(3,iv (i64.wrap (iN q.a+1)))] [])->R st):GoO Ux (hU [42] (e40 q) (cV q)) 0 (zC (zC (zB Try.f145) 0) 0) (zK (zC (zB Try.f145) 0) 0) (DK q) (andThen R post):=zN (σ:=[]) (fz:=[]) (vars:=[0,3]) (by kernel_rfl) (aj (aj (aj (u2 (u2 (u2 (aj (k2 (aj h1 h2)) (u2 (u2 (al t3))))))) (al h3)) (al (u2 (u2 s2)))) t3) hR
theorem vbr_0(q:QK)(h1:(0<=iN q.a))(h2:((gL q.g)[(iN q.a).toNat]?=some (Uw (Uq iv q.r))))(h3:(decide (iN q.i<iN (Uq iv q.r).length)=true))(h4:(0<=iN q.i))(h5:((Uq iv q.r)[(iN q.i).toNat]?=some (iv q.e)))(h6:(decide (q.e<0)=true)){post:Exit->St->Prop}(hP:BQ post (Fin Ux Try.f145 0 [] (AV.bool false))):GoO Ux (hU [43,67] (e40 q) (cV q)) 0 (zC (zC (zB Try.f145) 0) 0) (zK (zC (zB Try.f145) 0) 0) (DK q) post:=CK (σ:=[]) (fz:=[]) (by kernel_rfl) (aj (al (aj (u2 (u2 (u2 (aj (k2 (aj h1 h2)) (u2 (u2 (al t3))))))) (aj h3 (aj (u2 (u2 (aj (k2 (aj h1 h2)) (u2 (u2 (aj (k2 (aj h4 h5)) (u2 s2))))))) (aj (u2 (u2 (u2 (aj h6 (aj h6 (aj h6 (aj h6 (ag h6 (u2 (k3 (aj t3 (u2 (ak (k3 (k5 (k5 (al t3))))))))))))))))) (ak s2)))))) t2) hP
theorem vbr_1(q:QK)(h1:(0<=iN q.a))(h2:((gL q.g)[(iN q.a).toNat]?=some (Uw (Uq iv q.r))))(h3:(decide (iN q.i<iN (Uq iv q.r).length)=true))(h4:(0<=iN q.i))(h5:((Uq iv q.r)[(iN q.i).toNat]?=some (iv q.e)))(h6:(decide (q.e<0)=false))(h7:(decide (iN (gL q.g).length<=q.e)=true)){post:Exit->St->Prop}(hP:BQ post (Fin Ux Try.f145 0 [] (AV.bool false))):GoO Ux (hU [43,66,79] (e40 q) (cV q)) 0 (zC (zC (zB Try.f145) 0) 0) (zK (zC (zB Try.f145) 0) 0) (DK q) post:=CK (σ:=[]) (fz:=[]) (by kernel_rfl) (aj (al (aj (u2 (u2 (u2 (aj (k2 (aj h1 h2)) (u2 (u2 (al t3))))))) (aj h3 (aj (u2 (u2 (aj (k2 (aj h1 h2)) (u2 (u2 (aj (k2 (aj h4 h5)) (u2 s2))))))) (aj (u2 (u2 (u2 (ag h6 (ag h6 (ag h6 (aj (aj h6 t3) (ag h6 (u2 (aj h7 (aj h7 (aj h7 (ag h7 (u2 (ak (k3 (k5 (k5 (al t3))))))))))))))))))) (ak s2)))))) t2) hP
theorem vbr_2(q:QK)(h1:(0<=iN q.a))(h2:((gL q.g)[(iN q.a).toNat]?=some (Uw (Uq iv q.r))))(h3:(decide (iN q.i<iN (Uq iv q.r).length)=true))(h4:(0<=iN q.i))(h5:((Uq iv q.r)[(iN q.i).toNat]?=some (iv q.e)))(h6:(decide (q.e<0)=false))(h7:(decide (iN (gL q.g).length<=q.e)=false))(h8:((q.e==iN q.a)=true)){post:Exit->St->Prop}(hP:BQ post (Fin Ux Try.f145 0 [] (AV.bool false))):GoO Ux (hU [43,66,78,89] (e40 q) (cV q)) 0 (zC (zC (zB Try.f145) 0) 0) (zK (zC (zB Try.f145) 0) 0) (DK q) post:=CK (σ:=[]) (fz:=[]) (by kernel_rfl) (aj (al (aj (u2 (u2 (u2 (aj (k2 (aj h1 h2)) (u2 (u2 (al t3))))))) (aj h3 (aj (u2 (u2 (aj (k2 (aj h1 h2)) (u2 (u2 (aj (k2 (aj h4 h5)) (u2 s2))))))) (aj (u2 (u2 (u2 (ag h6 (ag h6 (ag h6 (aj (aj h6 t3) (ag h6 (u2 (ag h7 (ag h7 (aj (aj h7 t3) (ag h7 (u2 (aj h8 (aj h8 (aj h8 (k5 (k5 (aj h8 (al (aj h8 t2)))))))))))))))))))))) (ak s2)))))) t2) hP
theorem vbr_3(q:QK)(h1:(0<=iN q.a))(h2:((gL q.g)[(iN q.a).toNat]?=some (Uw (Uq iv q.r))))(h3:(decide (iN q.i<iN (Uq iv q.r).length)=true))(h4:(0<=iN q.i))(h5:((Uq iv q.r)[(iN q.i).toNat]?=some (iv q.e)))(h6:(decide (q.e<0)=false))(h7:(decide (iN (gL q.g).length<=q.e)=false))(h8:((q.e==iN q.a)=false))(h9:(decide (0<iN q.i)=true))(h10:(0<=i64.wrap (iN q.i-1)))(h11:((Uq iv q.r)[(i64.wrap (iN q.i-1)).toNat]?=some (iv (q.p.getD 0 0))))(h12:(decide (q.e<=q.p.getD 0 0)=true)){post:Exit->St->Prop}(hP:BQ post (Fin Ux Try.f145 0 [] (AV.bool false))):GoO Ux (hU [43,66,78,88,95,119] (e40 q) (cV q)) 0 (zC (zC (zB Try.f145) 0) 0) (zK (zC (zB Try.f145) 0) 0) (DK q) post:=CK (σ:=[]) (fz:=[]) (by kernel_rfl) (aj (al (aj (u2 (u2 (u2 (aj (k2 (aj h1 h2)) (u2 (u2 (al t3))))))) (aj h3 (aj (u2 (u2 (aj (k2 (aj h1 h2)) (u2 (u2 (aj (k2 (aj h4 h5)) (u2 s2))))))) (aj (u2 (u2 (u2 (ag h6 (ag h6 (ag h6 (aj (aj h6 t3) (ag h6 (u2 (ag h7 (ag h7 (aj (aj h7 t3) (ag h7 (u2 (ag h8 (ag h8 (ag h8 (ag h9 (ag h9 (ag h9 (aj (aj h9 (k2 (aj h1 h2))) (ag h9 (ag h9 (ag h9 (aj (aj h9 (k2 (aj h10 h11))) (ag h9 (aj (aj h9 t3) (aj (aj h8 (aj h9 t2)) (al (aj h8 t2)))))))))))))))))))))))))))))) (aj h12 s2)))))) t2) hP
theorem vbr_4(q:QK)(h1:(0<=iN q.a))(h2:((gL q.g)[(iN q.a).toNat]?=some (Uw (Uq iv q.r))))(h3:(decide (iN q.i<iN (Uq iv q.r).length)=true))(h4:(0<=iN q.i))(h5:((Uq iv q.r)[(iN q.i).toNat]?=some (iv q.e)))(h6:(decide (q.e<0)=false))(h7:(decide (iN (gL q.g).length<=q.e)=false))(h8:((q.e==iN q.a)=false))(h9:(decide (0<iN q.i)=true))(h10:(0<=i64.wrap (iN q.i-1)))(h11:((Uq iv q.r)[(i64.wrap (iN q.i-1)).toNat]?=some (iv (q.p.getD 0 0))))(h12:(decide (q.e<=q.p.getD 0 0)=false)){post:Exit->St->Prop}{R:St->Prop}(hR:∀st,Ren 0 st (St.mk 60 [(0,Uw (gL q.g)),(3,iv (iN q.a)),(4,iv (i64.wrap (iN q.i+1)))] [])->R st):GoP Ux (hU [43,66,78,88,95,118] (e40 q) (cV q)) 0 (zC (zC (zB Try.f145) 0) 0) (DK q) (andThen R post):=zN (σ:=[]) (fz:=[]) (vars:=[0,3,4]) (by kernel_rfl) (aj (aj (u2 (u2 (u2 (aj (k2 (aj h1 h2)) (u2 (u2 (al t3))))))) (aj h3 (aj (u2 (u2 (aj (k2 (aj h1 h2)) (u2 (u2 (aj (k2 (aj h4 h5)) (u2 s2))))))) (aj (u2 (u2 (u2 (ag h6 (ag h6 (ag h6 (aj (aj h6 t3) (ag h6 (u2 (ag h7 (ag h7 (aj (aj h7 t3) (ag h7 (u2 (ag h8 (ag h8 (ag h8 (ag h9 (ag h9 (ag h9 (aj (aj h9 (k2 (aj h1 h2))) (ag h9 (ag h9 (ag h9 (aj (aj h9 (k2 (aj h10 h11))) (ag h9 (aj (aj h9 t3) (aj (aj h8 (aj h9 t2)) (al (aj h8 t2)))))))))))))))))))))))))))))) (aj h12 (al (u2 (u2 s2)))))))) t4) hR
theorem vbr_5(q:QK)(h1:(0<=iN q.a))(h2:((gL q.g)[(iN q.a).toNat]?=some (Uw (Uq iv q.r))))(h3:(decide (iN q.i<iN (Uq iv q.r).length)=true))(h4:(0<=iN q.i))(h5:((Uq iv q.r)[(iN q.i).toNat]?=some (iv q.e)))(h6:(decide (q.e<0)=false))(h7:(decide (iN (gL q.g).length<=q.e)=false))(h8:((q.e==iN q.a)=false))(h9:(decide (0<iN q.i)=false)){post:Exit->St->Prop}{R:St->Prop}(hR:∀st,Ren 0 st (St.mk 60 [(0,Uw (gL q.g)),(3,iv (iN q.a)),(4,iv (i64.wrap (iN q.i+1)))] [])->R st):GoP Ux (hU [43,66,78,88,94] (e40 q) (cV q)) 0 (zC (zC (zB Try.f145) 0) 0) (DK q) (andThen R post):=zN (σ:=[]) (fz:=[]) (vars:=[0,3,4]) (by kernel_rfl) (aj (aj (u2 (u2 (u2 (aj (k2 (aj h1 h2)) (u2 (u2 (al t3))))))) (aj h3 (aj (u2 (u2 (aj (k2 (aj h1 h2)) (u2 (u2 (aj (k2 (aj h4 h5)) (u2 s2))))))) (aj (u2 (u2 (u2 (ag h6 (ag h6 (ag h6 (aj (aj h6 t3) (ag h6 (u2 (ag h7 (ag h7 (aj (aj h7 t3) (ag h7 (u2 (ag h8 (ag h8 (ag h8 (aj h9 (aj h9 (aj h9 (aj h9 (aj h9 (aj h9 (aj h9 (aj h9 (aj h9 (aj h9 (aj (aj h8 (aj h9 t2)) (al (aj h8 t2)))))))))))))))))))))))))))))) (ak (al (u2 (u2 s2)))))))) t4) hR
theorem vc_0(q:QK)(h1:(CT Ux 145 [] [Uw (gL q.g)] [] (AV.bool q.b)))(h2:((!q.b)=true)):GoP Ux (hU [15] (eK q) (cV q)) 0 (zB Try.f134) (st35 q) (Fin Ux Try.f134 0 [] (iv 20)):=zF (σ:=[]) (fz:=[]) (by kernel_rfl) (aj (u2 (aj (u2 (aj (k2 (al h1)) s2)) (aj h2 s2))) t2)
theorem vc_1(q:QK)(h1:(CT Ux 145 [] [Uw (gL q.g)] [] (AV.bool q.b)))(h2:((!q.b)=false))(h3:((iN (boL q.s).length != iN (gL q.g).length)=true)):GoP Ux (hU [14,25] (eK q) (cV q)) 0 (zB Try.f134) (st35 q) (Fin Ux Try.f134 0 [] (iv 19)):=zF (σ:=[]) (fz:=[]) (by kernel_rfl) (aj (u2 (aj (u2 (aj (k2 (al h1)) s2)) (aj h2 (aj (u2 (u2 (u2 (u2 (al t3))))) (aj h3 s2))))) t2)
theorem vc_2(q:QK)(h1:(CT Ux 145 [] [Uw (gL q.g)] [] (AV.bool q.b)))(h2:((!q.b)=false))(h3:((iN (boL q.s).length != iN (gL q.g).length)=false)):GoP Ux (hU [14,24] (eK q) (cV q)) 0 (zB Try.f134) (st35 q) (Fin Ux Try.f134 0 [] (iv 0)):=zF (σ:=[]) (fz:=[]) (by kernel_rfl) (aj (u2 (aj (u2 (aj (k2 (al h1)) s2)) (aj h2 (aj (u2 (u2 (u2 (u2 (al t3))))) (aj h3 s2))))) t2)
def AM(r:List Int)(n v i:Nat):Bool:=decide (r.getD i 0<0)||(decide ((n:Int)<=r.getD i 0)||(r.getD i 0==(v:Int)||(decide (0<i)&&decide (r.getD i 0<=r.getD (i-1) 0))))
def Cs(g:List (List Int))(v:Nat):Bool:=(fnd (AM (g.getD v []) g.length v) 0 (g.getD v []).length).isSome
def Dp(g:List (List Int)):Bool:=(fnd (Cs g) 0 g.length).isSome
def C2(g:List (List Int))(s:List Bool)(v w:Int):Int:=if 24<g.length then 20 else if Dp g=true then 20 else if s.length≠g.length\/v<0\/(g.length:Int)<=v\/w<0\/(g.length:Int)<=w then 19 else 0
def Rows(g:List (List Int)):Prop:=∀v,v<g.length->(g.getD v []).length<=9223372036854775807
def qv(g:List (List Int))(s:List Bool)(v w:Int)(a i:Nat)(r:List Int)(e p:Int):QK:=⟨g,s,[],0,0,a,i,r,v,w,false,e,[p],[]⟩
theorem cg_run{g:List (List Int)}{s:List Bool}(hrw:Rows g)(hn:g.length<=24)(v w:Int)(a:Nat)(ha:a<g.length){R:St->Prop}{post:Exit->St->Prop}
  (hy:Cs g a=true->BQ post (Fin Ux Try.f70 0 [] (.int .i64 20)))
  (hR:Cs g a=false->∀st,Ren 0 st (Ek (qk g s v w (a+1) 0 []))->R st):
  T Ux 0 (.loop (zC (zC (zB Try.f70) 0) 0)) (DD (qk g s v w a 0 (g.getD a []))) (TK Ux 0 (andThen R post) (zK (zC (zB Try.f70) 0) 0)):=by
 have hr1:=hrw a ha;have hrow:=CW ha;unfold Cs at hy hR;generalize g.getD a []=r at hr1 hrow hy hR;generalize hrr:fnd (AM r g.length a) 0 r.length=res at hy hR;refine T.loop (fun i:Nat=>DD (qk g s v w a i r)) (fun i=>i<=r.length/\fnd (AM r g.length a) i (r.length-i)=res) (fun i=>r.length+1-i) 0 ⟨TG _,hrr⟩ ?_
 rintro i ⟨hi,hf⟩
 by_cases h:i<r.length
 .rw[CS h] at hf;have hg1:=Bv h;have dk:decide (iN i<iN r.length)=true:=TA (by simp only[iN];omega);have found:AM r g.length a i=true->BQ (andThen R post) (Fin Ux Try.f70 0 [] (.int .i64 20)):=by intro hb;simp only[hb] at hf;subst hf;exact hy rfl
  have next:AM r g.length a i=false->∀st,Ren 0 st (DD (qk g s v w a (i+1) r))->∃j,Ren 0 st (DD (qk g s v w a j r))/\(j<=r.length/\fnd (AM r g.length a) j (r.length-j)=res)/\r.length+1-j<r.length+1-i:=by intro hb st hst;simp only[hb] at hf;exact⟨i+1,hst,⟨h,hf⟩,by omega⟩
  have wi:i64.wrap (iN i+1)=((i+1:Nat):Int):=zW i (by omega);by_cases b1:r.getD i 0<0
  .exact T.out mix (cgr_0 (qv g s v w a i r (r.getD i 0) 0) dk (by simp[iN]) hrow (by simp[iN]) hg1 (TA b1) (found (by unfold AM;rw[TA b1];simp)))
  .by_cases b2:(g.length:Int)<=r.getD i 0
   .exact T.out mix (cgr_1 (qv g s v w a i r (r.getD i 0) 0) dk (by simp[iN]) hrow (by simp[iN]) hg1 (Tz b1) (TA b2) (found (by unfold AM;rw[TA b2];simp)))
   .by_cases b3:(r.getD i 0==(a:Int))=true
    .exact T.out mix (cgr_2 (qv g s v w a i r (r.getD i 0) 0) dk (by simp[iN]) hrow (by simp[iN]) hg1 (Tz b1) (Tz b2) b3 (found (by unfold AM;rw[b3];simp)))
    .have b3':=Ug.2 b3;by_cases b4:0<i
     .have hw:=FG i b4 (by omega);have hp:=Bv (l:=r) (j:=i-1) (by omega);by_cases b5:r.getD i 0<=r.getD (i-1) 0
      .exact T.out mix (cgr_3 (qv g s v w a i r (r.getD i 0) (r.getD (i-1) 0)) dk (by simp[iN]) hrow (by simp[iN]) hg1 (Tz b1) (Tz b2) b3' (TA (by simp only[iN,qv];omega)) (by simp only[iN,qv,hw];omega) (by simp only[iN,qv,hw,TD];exact hp) (TA b5) (found (by unfold AM;rw[TA b4,TA b5];simp)))
      .refine T.path mix (cgr_4 (qv g s v w a i r (r.getD i 0) (r.getD (i-1) 0)) dk (by simp[iN]) hrow (by simp[iN]) hg1 (Tz b1) (Tz b2) b3' (TA (by simp only[iN,qv];omega)) (by simp only[iN,qv,hw];omega) (by simp only[iN,qv,hw,TD];exact hp) (Tz b5) ?_);intro st hst;simp only[qv,wi] at hst;exact next (by unfold AM;rw[Tz b1,Tz b2,b3',Tz b5];simp) st hst
     .refine T.path mix (cgr_5 (qv g s v w a i r (r.getD i 0) 0) dk (by simp[iN]) hrow (by simp[iN]) hg1 (Tz b1) (Tz b2) b3' (Tz (by simp only[iN,qv];omega)) ?_);intro st hst;simp only[qv,wi] at hst;exact next (by unfold AM;rw[Tz b1,Tz b2,b3',Tz b4];simp) st hst
 .rw[C0 h] at hf;subst hf;refine T.out mix (ckbx_0 (qk g s v w a i r) (Tz (by simp only[iN,qk];omega)) ?_);intro st hst;simp only[iN,qk,zW a (show a<9223372036854775807 by omega)] at hst;exact hR rfl st hst
theorem Rg{g:List (List Int)}{s:List Bool}(hrw:Rows g)(v w:Int):CT Ux 70 [] [.lst (gL g),.lst (boL s),.int .i64 v,.int .i64 w] [] (.int .i64 (C2 g s v w)):=by
 have hl:=BD g;have hbl:=BM s;unfold C2;by_cases h24:24<g.length
 .rw[Ts h24];exact CT.path mix Try.func70 (show Try.f70.body=some (zB Try.f70) by kernel_rfl) (nL rfl) (ckb_0 (qk g s v w 0 0 []) (TA (by simp only[iN,qk,hl];omega)))
 rw[Tt h24];refine CT.path mix Try.func70 (show Try.f70.body=some (zB Try.f70) by kernel_rfl) (nL rfl) (ck_0 (qk g s v w 0 0 []) (Tz (by simp only[iN,qk,hl];omega)) ?_);simp only[qk,hl];unfold Dp;generalize hrr:fnd (Cs g) 0 g.length=res;refine T.loop (fun a:Nat=>Ek (qk g s v w a 0 [])) (fun a=>a<=g.length/\fnd (Cs g) a (g.length-a)=res) (fun a=>g.length+1-a) 0 ⟨TG _,hrr⟩ ?_
 rintro a ⟨ha,hf⟩
 by_cases h:a<g.length
 .rw[CS h] at hf;refine T.path mix (cka_0 (qk g s v w a 0 (g.getD a [])) (TA (by simp only[iN,qk];omega)) (by simp[iN]) (CW h) ?_);simp only[qk,BU];refine cg_run hrw (by omega) v w a h (fun hb=>?_) (fun hb st hst=>?_)
  .simp only[hb] at hf;subst hf;exact fun st hst=>TK.ret hst _
  .simp only[hb] at hf;exact⟨a+1,hst,⟨h,hf⟩,by omega⟩
 .rw[C0 h] at hf;subst hf;have da:decide (iN a<iN g.length)=false:=Tz (by simp only[iN];omega);simp only[Option.isSome_none,Bool.false_eq_true,if_false];by_cases c1:s.length=g.length
  .have e1:(iN (boL s).length != iN g.length)=false:=by simp[iN,hbl,c1]
   by_cases c2:v<0
   .rw[Ts (.inr (.inl c2))];exact T.out mix (ckx_1 (qk g s v w a 0 []) da e1 (TA c2))
   .by_cases c3:(g.length:Int)<=v
    .rw[Ts (.inr (.inr (.inl c3)))];exact T.out mix (ckx_2 (qk g s v w a 0 []) da e1 (Tz c2) (TA c3))
    .by_cases c4:w<0
     .rw[Ts (.inr (.inr (.inr (.inl c4))))];exact T.out mix (ckx_3 (qk g s v w a 0 []) da e1 (Tz c2) (Tz c3) (TA c4))
     .by_cases c5:(g.length:Int)<=w
      .rw[Ts (.inr (.inr (.inr (.inr c5))))];exact T.out mix (ckx_4 (qk g s v w a 0 []) da e1 (Tz c2) (Tz c3) (Tz c4) (TA c5))
      .rw[Tt (by rintro(h | h | h | h | h)<;>first | exact h c1 | exact c2 h | exact c3 h | exact c4 h | exact c5 h)];exact T.out mix (ckx_5 (qk g s v w a 0 []) da e1 (Tz c2) (Tz c3) (Tz c4) (Tz c5))
  .rw[Ts (.inl c1)];exact T.out mix (ckx_0 (qk g s v w a 0 []) da (by simp only[iN,qk,hbl,Uh,ne_eq];omega))
theorem vb_run{g:List (List Int)}(hrw:Rows g)(hn:g.length<=24)(a:Nat)(ha:a<g.length){R:St->Prop}{post:Exit->St->Prop}
  (hy:Cs g a=true->BQ post (Fin Ux Try.f145 0 [] (.bool false)))
  (hR:Cs g a=false->∀st,Ren 0 st (KC (qv g [] 0 0 (a+1) 0 [] 0 0))->R st):
  T Ux 0 (.loop (zC (zC (zB Try.f145) 0) 0)) (DK (qv g [] 0 0 a 0 (g.getD a []) 0 0)) (TK Ux 0 (andThen R post) (zK (zC (zB Try.f145) 0) 0)):=by
 have hr1:=hrw a ha;have hrow:=CW ha;have hl:=BD g;unfold Cs at hy hR;generalize g.getD a []=r at hr1 hrow hy hR;have hrl:=BU r;generalize hrr:fnd (AM r g.length a) 0 r.length=res at hy hR;refine T.loop (fun i:Nat=>DK (qv g [] 0 0 a i r 0 0)) (fun i=>i<=r.length/\fnd (AM r g.length a) i (r.length-i)=res) (fun i=>r.length+1-i) 0 ⟨TG _,hrr⟩ ?_
 rintro i ⟨hi,hf⟩
 by_cases h:i<r.length
 .rw[CS h] at hf;have hg1:=Bv h;have dk:decide (iN i<iN (r.map (AV.int .i64)).length)=true:=TA (by simp only[iN,hrl];omega);have found:AM r g.length a i=true->BQ (andThen R post) (Fin Ux Try.f145 0 [] (.bool false)):=by intro hb;simp only[hb] at hf;subst hf;exact hy rfl
  have next:AM r g.length a i=false->∀st,Ren 0 st (DK (qv g [] 0 0 a (i+1) r 0 0))->∃j,Ren 0 st (DK (qv g [] 0 0 a j r 0 0))/\(j<=r.length/\fnd (AM r g.length a) j (r.length-j)=res)/\r.length+1-j<r.length+1-i:=by intro hb st hst;simp only[hb] at hf;exact⟨i+1,hst,⟨h,hf⟩,by omega⟩
  have wi:i64.wrap (iN i+1)=((i+1:Nat):Int):=zW i (by omega);by_cases b1:r.getD i 0<0
  .exact T.out mix (vbr_0 (qv g [] 0 0 a i r (r.getD i 0) 0) (by simp[iN]) hrow dk (by simp[iN]) hg1 (TA b1) (found (by unfold AM;rw[TA b1];simp)))
  .by_cases b2:(g.length:Int)<=r.getD i 0
   .exact T.out mix (vbr_1 (qv g [] 0 0 a i r (r.getD i 0) 0) (by simp[iN]) hrow dk (by simp[iN]) hg1 (Tz b1) (TA (by simp only[iN,qv,hl];exact b2)) (found (by unfold AM;rw[TA b2];simp)))
   .by_cases b3:(r.getD i 0==(a:Int))=true
    .exact T.out mix (vbr_2 (qv g [] 0 0 a i r (r.getD i 0) 0) (by simp[iN]) hrow dk (by simp[iN]) hg1 (Tz b1) (Tz (by simp only[iN,qv,hl];exact b2)) b3 (found (by unfold AM;rw[b3];simp)))
    .have b3':=Ug.2 b3;by_cases b4:0<i
     .have hw:=FG i b4 (by omega);have hp:=Bv (l:=r) (j:=i-1) (by omega);by_cases b5:r.getD i 0<=r.getD (i-1) 0
      .exact T.out mix (vbr_3 (qv g [] 0 0 a i r (r.getD i 0) (r.getD (i-1) 0)) (by simp[iN]) hrow dk (by simp[iN]) hg1 (Tz b1) (Tz (by simp only[iN,qv,hl];exact b2)) b3' (TA (by simp only[iN,qv];omega)) (by simp only[iN,qv,hw];omega) (by simp only[iN,qv,hw,TD];exact hp) (TA b5) (found (by unfold AM;rw[TA b4,TA b5];simp)))
      .refine T.path mix (vbr_4 (qv g [] 0 0 a i r (r.getD i 0) (r.getD (i-1) 0)) (by simp[iN]) hrow dk (by simp[iN]) hg1 (Tz b1) (Tz (by simp only[iN,qv,hl];exact b2)) b3' (TA (by simp only[iN,qv];omega)) (by simp only[iN,qv,hw];omega) (by simp only[iN,qv,hw,TD];exact hp) (Tz b5) ?_);intro st hst;simp only[qv,wi] at hst;exact next (by unfold AM;rw[Tz b1,Tz b2,b3',Tz b5];simp) st hst
     .refine T.path mix (vbr_5 (qv g [] 0 0 a i r (r.getD i 0) 0) (by simp[iN]) hrow dk (by simp[iN]) hg1 (Tz b1) (Tz (by simp only[iN,qv,hl];exact b2)) b3' (Tz (by simp only[iN,qv];omega)) ?_);intro st hst;simp only[qv,wi] at hst;exact next (by unfold AM;rw[Tz b1,Tz b2,b3',Tz b4];simp) st hst
 .rw[C0 h] at hf;subst hf;refine T.out mix (vbx_0 (qv g [] 0 0 a i r 0 0) (by simp[iN]) hrow (Tz (by simp only[iN,qv,hrl];omega)) ?_);intro st hst;simp only[iN,qv,zW a (show a<9223372036854775807 by omega)] at hst;exact hR rfl st hst
def HJ(g:List (List Int)):Bool:= !(decide (24<g.length))&&!(Dp g)
theorem valid_ct{g:List (List Int)}(hrw:Rows g):CT Ux 145 [] [.lst (gL g)] [] (.bool (HJ g)):=by
 have hl:=BD g;unfold HJ;by_cases h24:24<g.length
 .exact CT.pathS mix Try.func145 (show Try.f145.body=some (zB Try.f145) by kernel_rfl) (nL rfl) (va_0 (qv g [] 0 0 0 0 [] 0 0) (TA (by simp only[iN,qv,hl];omega))) (by simp[h24])
 refine CT.path mix Try.func145 (show Try.f145.body=some (zB Try.f145) by kernel_rfl) (nL rfl) (va_1 (qv g [] 0 0 0 0 [] 0 0) (Tz (by simp only[iN,qv,hl];omega)) ?_);rw[Tz h24];unfold Dp;generalize hrr:fnd (Cs g) 0 g.length=res;refine T.loop (fun a:Nat=>KC (qv g [] 0 0 a 0 [] 0 0)) (fun a=>a<=g.length/\fnd (Cs g) a (g.length-a)=res) (fun a=>g.length+1-a) 0 ⟨TG _,hrr⟩ ?_
 rintro a ⟨ha,hf⟩
 by_cases h:a<g.length
 .rw[CS h] at hf;refine T.path mix (vai_0 (qv g [] 0 0 a 0 (g.getD a []) 0 0) (TA (by simp only[iN,qv,hl];omega)) ?_);refine vb_run hrw (by omega) a h (fun hb=>?_) (fun hb st hst=>?_)
  .simp only[hb] at hf;subst hf;exact fun st hst=>TK.ret hst _
  .simp only[hb] at hf;exact⟨a+1,hst,⟨h,hf⟩,by omega⟩
 .rw[C0 h] at hf;subst hf;exact T.out mix (vax_0 (qv g [] 0 0 a 0 [] 0 0) (Tz (by simp only[iN,qv,hl];omega)))
def DA(g:List (List Int))(s:List Bool):Int:=if 24<g.length then 20 else if Dp g=true then 20 else if s.length≠g.length then 19 else 0
theorem SF{g:List (List Int)}{s:List Bool}(hrw:Rows g):CT Ux 134 [] [.lst (gL g),.lst (boL s)] [] (.int .i64 (DA g s)):=by
 have hl:=BD g;have hbl:=BM s;have hv:=valid_ct hrw;have hb:Try.f134.body=some (zB Try.f134):=by kernel_rfl
 have hn:[Uw (gL g),.lst (boL s)].length<=Try.f134.ntmps:=nL rfl;unfold DA;by_cases h1:HJ g=true
 .have h1':=h1;unfold HJ at h1';simp only[TC,Uf,decide_eq_false_iff_not] at h1';rw[Tt h1'.1,Tt (by rw[h1'.2];simp)];rw[h1] at hv;by_cases h2:s.length=g.length
  .rw[Tt (by simp[h2])];exact CT.path mix Try.func134 hb hn (vc_2 ⟨g,s,[],0,0,0,0,[],0,0,true,0,[],[]⟩ hv rfl (by simp[iN,hl,hbl,h2]))
  .rw[Ts h2];exact CT.path mix Try.func134 hb hn (vc_1 ⟨g,s,[],0,0,0,0,[],0,0,true,0,[],[]⟩ hv rfl (by simp only[iN,hl,hbl,Uh,ne_eq];omega))
 .have h1:=Ug.2 h1;have e:(if 24<g.length then (20:Int) else if Dp g=true then 20 else if s.length≠g.length then 19 else 0)=20:=by
   by_cases h24:24<g.length
   .rw[Ts h24]
   .unfold HJ at h1;rw[Tz h24] at h1;rw[Tt h24,Ts (by simpa using h1)]
  rw[e];rw[h1] at hv;exact CT.path mix Try.func134 hb hn (vc_0 ⟨g,s,[],0,0,0,0,[],0,0,false,0,[],[]⟩ hv rfl)
def st32(q:QK):St:={n:=Try.f143.ntmps,fr:=[(0,.lst (gL q.g)),(1,.lst (boL q.s)),(2,.int .i64 (iN q.v))],hp:=[]}
def Fb(q:QK):St:={n:=Try.f143.ntmps,fr:=[(0,.lst (gL q.g)),(7,lI q.d),(8,.sl 0 0 q.p.length),(9,.int .i64 (iN q.v))],hp:=[some (dB q.p)]}
def Fh(q:QK):St:={n:=Try.f143.ntmps,fr:=[(0,.lst (gL q.g)),(7,lI q.d),(8,.sl 0 0 q.p.length),(9,.int .i64 (iN q.v)),(10,.int .i64 (iN q.i-1))],hp:=[some (dB q.p)]}
def cW(q:QK):Nat->FuncId->List AV->List (Option Blk)->AN:=fun dst f args _=>match f with
 | 125=>.call [] [] [] (lI q.d)
 | 143=>.call [] [] [] (lI q.p)
 | 134=>.call [] [] [] (.int .i64 q.e)
 | 126=>.call [] [] [] (lI q.p)
 | 22=>.call [] [] [] (.bool true)
 | _=>.no
def e32(q:QK):List (Nat×AV):=[(30,lI q.r),(39,.int .i64 q.x),(47,lI q.r),(50,.int .i64 (iN q.w)),(54,.int .i64 q.y),(58,.int .i64 q.x)]
def st34(q:QK):St:={n:=Try.f126.ntmps,fr:=[(0,.lst (gL q.g)),(1,.lst (boL q.s)),(2,.int .i64 (iN q.v)),(3,.int .i64 (iN q.w))],hp:=[]}
def GG(q:QK):St:={n:=Try.f126.ntmps,fr:=[(2,.int .i64 (iN q.v)),(3,.int .i64 (iN q.w)),(9,lI q.p),(10,.sl 0 0 (q.i+1))],hp:=[some (dB q.r)]}
def e34(q:QK):List (Nat×AV):=[(16,.int .i64 q.x),(30,.int .i64 (iN q.a))]
theorem rh_0(q:QK)(h1:(CT Ux 125 [] [Uw (gL q.g),Uw (boL q.s),iv (iN q.v)] [] (Uw (Uq iv q.d))))(h2:(iN (gL q.g).length<=iN (gL q.g).length))(h3:(8 * iN (gL q.g).length<=281474976710656))(h4:(iN (gL q.g).length<=9223372036854775807)){post:Exit->St->Prop}(ht:T Ux 0 (.loop (zC (zB Try.f143) 0)) (St.mk 67 [(0,Uw (gL q.g)),(7,Uw (Uq iv q.d)),(8,AV.sl 0 0 (gL q.g).length),(9,iv 0)] [some (Blk.mk (Ur (gL q.g).length (iv 0)) 1 true true none)]) (TK Ux 0 post (zK (zB Try.f143) 0))):GoP Ux (hU [] (e32 q) (cW q)) 0 (zB Try.f143) (st32 q) post:=zR (σ:=[0]) (fz:=[]) (vars:=[0,7,8,9]) (by kernel_rfl) (aj (u2 (aj (u2 (u2 (u2 (aj (ak (k5 (al h1))) s2)))) (aj (u2 (u2 (aj (k2 (aj (show(0<=iN (gL q.g).length) from(Int.natCast_nonneg _)) (aj h2 (aj h3 h4)))) s2))) s2))) t6) ht
theorem rhx_0(q:QK)(h1:(decide (iN q.v<iN (gL q.g).length)=false))(h2:(q.p.length=(Uq iv q.p).length)):GoO Ux (hU [44] (e32 q) (cW q)) 0 (zC (zB Try.f143) 0) (zK (zB Try.f143) 0) (Fb q) (Fin Ux Try.f143 0 [] (Uw (Uq iv q.p))):=zF (σ:=[]) (fz:=[0]) (by kernel_rfl) (aj (aj (aj (u2 (u2 (u2 (al t3)))) (al h1)) (al (u2 s2))) (al h2))
theorem rhi_0(q:QK)(h1:(decide (iN q.v<iN (gL q.g).length)=true))(h2:(0<=iN q.v))(h3:(iN q.v<iN q.p.length))(h4:((0+(iN q.v).toNat).succ.le (Uq iv q.p).length))(h5:((gL q.g)[(iN q.v).toNat]?=some (Uw (Uq iv q.r)))){post:Exit->St->Prop}(ht:T Ux 0 (.loop (zC (zC (zB Try.f143) 0) 0)) (St.mk 67 [(0,Uw (gL q.g)),(7,Uw (Uq iv q.d)),(8,AV.sl 0 0 q.p.length),(9,iv (iN q.v)),(10,iv (i64.wrap (iN (Uq iv q.r).length-1)))] [some (Blk.mk ((Uq iv q.p).set (0+(iN q.v).toNat) (iv (-1))) 1 true true none)]) (TK Ux 0 post (zK (zC (zB Try.f143) 0) 0))):GoP Ux (hU [45] (e32 q) (cW q)) 0 (zC (zB Try.f143) 0) (Fb q) post:=zR (σ:=[0]) (fz:=[]) (vars:=[0,7,8,9,10]) (by kernel_rfl) (aj (aj (u2 (u2 (u2 (al t3)))) (aj h1 (aj (u2 (u2 (aj (k2 (aj h2 h3)) (al (ak h4))))) (al (u2 (u2 (aj (k2 (aj h2 h5)) (u2 (u2 (u2 s2)))))))))) t7) ht
theorem rhbx_0(q:QK)(h1:(decide (0<=iN q.i-1)=true))(h2:(0<=iN q.v))(h3:((Uq iv q.d)[(iN q.v).toNat]?=some (iv q.x)))(h4:(decide (0<q.x)=false)){post:Exit->St->Prop}{R:St->Prop}(hR:∀st,Ren 0 st (St.mk 67 [(0,Uw (gL q.g)),(7,Uw (Uq iv q.d)),(8,AV.sl 0 0 q.p.length),(9,iv (i64.wrap (iN q.v+1)))] [some (Blk.mk (Uq iv q.p) 1 true true none)])->R st):GoO Ux (hU [84,73] (e32 q) (cW q)) 0 (zC (zC (zB Try.f143) 0) 0) (zK (zC (zB Try.f143) 0) 0) (Fh q) (andThen R post):=zN (σ:=[0]) (fz:=[]) (vars:=[0,7,8,9]) (by kernel_rfl) (aj (aj (aj (u2 (u2 (u2 (ag h1 (ag h1 (aj (aj h1 (k2 (aj h2 h3))) (ag h1 (ag h1 (al (aj h1 t2)))))))))) (al h4)) (al (u2 (u2 s2)))) t6) hR
theorem rhbx_1(q:QK)(h1:(decide (0<=iN q.i-1)=false)){post:Exit->St->Prop}{R:St->Prop}(hR:∀st,Ren 0 st (St.mk 67 [(0,Uw (gL q.g)),(7,Uw (Uq iv q.d)),(8,AV.sl 0 0 q.p.length),(9,iv (i64.wrap (iN q.v+1)))] [some (Blk.mk (Uq iv q.p) 1 true true none)])->R st):GoO Ux (hU [84,72] (e32 q) (cW q)) 0 (zC (zC (zB Try.f143) 0) 0) (zK (zC (zB Try.f143) 0) 0) (Fh q) (andThen R post):=zN (σ:=[0]) (fz:=[]) (vars:=[0,7,8,9]) (by kernel_rfl) (aj (aj (aj (u2 (u2 (u2 (aj h1 (aj h1 (aj h1 (aj h1 (aj h1 (al (aj h1 t2)))))))))) (al (show(false=false) by first | decide | exact S9 _))) (al (u2 (u2 s2)))) t6) hR
theorem rhbr_0(q:QK)(h1:(decide (0<=iN q.i-1)=true))(h2:(0<=iN q.v))(h3:((Uq iv q.d)[(iN q.v).toNat]?=some (iv q.x)))(h4:(decide (0<q.x)=true))(h5:((gL q.g)[(iN q.v).toNat]?=some (Uw (Uq iv q.r))))(h6:(0<=iN q.i-1))(h7:((Uq iv q.r)[(iN q.i-1).toNat]?=some (iv (iN q.w))))(h8:(0<=iN q.w))(h9:((Uq iv q.d)[(iN q.w).toNat]?=some (iv q.y)))(h10:((q.y==i64.wrap (q.x-1))=true))(h11:(iN q.v<iN q.p.length))(h12:((0+(iN q.v).toNat).succ.le (Uq iv q.p).length)){post:Exit->St->Prop}{R:St->Prop}(hR:∀st,Ren 0 st (St.mk 67 [(0,Uw (gL q.g)),(7,Uw (Uq iv q.d)),(8,AV.sl 0 0 q.p.length),(9,iv (iN q.v)),(10,iv (i64.wrap (iN q.i-1-1)))] [some (Blk.mk ((Uq iv q.p).set (0+(iN q.v).toNat) (iv (iN q.w))) 1 true true none)])->R st):GoP Ux (hU [73,85,123] (e32 q) (cW q)) 0 (zC (zC (zB Try.f143) 0) 0) (Fh q) (andThen R post):=zN (σ:=[0]) (fz:=[]) (vars:=[0,7,8,9,10]) (by kernel_rfl) (aj (aj (u2 (u2 (u2 (ag h1 (ag h1 (aj (aj h1 (k2 (aj h2 h3))) (ag h1 (ag h1 (al (aj h1 t2)))))))))) (aj h4 (aj (u2 (u2 (aj (k2 (aj h2 h5)) (u2 (u2 (aj (k2 (aj h6 h7)) (u2 s2))))))) (aj (u2 (u2 (aj (k2 (aj h8 h9)) (u2 (u2 (u2 (aj (k2 (aj h2 h3)) (u2 (u2 (al t3)))))))))) (aj h10 (aj (u2 (u2 (u2 (aj (k2 (aj h2 h11)) (al (k2 h12)))))) (al (u2 (u2 s2))))))))) t7) hR
theorem rhbr_1(q:QK)(h1:(decide (0<=iN q.i-1)=true))(h2:(0<=iN q.v))(h3:((Uq iv q.d)[(iN q.v).toNat]?=some (iv q.x)))(h4:(decide (0<q.x)=true))(h5:((gL q.g)[(iN q.v).toNat]?=some (Uw (Uq iv q.r))))(h6:(0<=iN q.i-1))(h7:((Uq iv q.r)[(iN q.i-1).toNat]?=some (iv (iN q.w))))(h8:(0<=iN q.w))(h9:((Uq iv q.d)[(iN q.w).toNat]?=some (iv q.y)))(h10:((q.y==i64.wrap (q.x-1))=false)){post:Exit->St->Prop}{R:St->Prop}(hR:∀st,Ren 0 st (St.mk 67 [(0,Uw (gL q.g)),(7,Uw (Uq iv q.d)),(8,AV.sl 0 0 q.p.length),(9,iv (iN q.v)),(10,iv (i64.wrap (iN q.i-1-1)))] [some (Blk.mk (Uq iv q.p) 1 true true none)])->R st):GoP Ux (hU [73,85,122] (e32 q) (cW q)) 0 (zC (zC (zB Try.f143) 0) 0) (Fh q) (andThen R post):=zN (σ:=[0]) (fz:=[]) (vars:=[0,7,8,9,10]) (by kernel_rfl) (aj (aj (u2 (u2 (u2 (ag h1 (ag h1 (aj (aj h1 (k2 (aj h2 h3))) (ag h1 (ag h1 (al (aj h1 t2)))))))))) (aj h4 (aj (u2 (u2 (aj (k2 (aj h2 h5)) (u2 (u2 (aj (k2 (aj h6 h7)) (u2 s2))))))) (aj (u2 (u2 (aj (k2 (aj h8 h9)) (u2 (u2 (u2 (aj (k2 (aj h2 h3)) (u2 (u2 (al t3)))))))))) (aj h10 (al (u2 (u2 s2)))))))) t7) hR
theorem rf_0(q:QK)(h1:(CT Ux 125 [] [Uw (gL q.g),Uw (boL q.s),iv (iN q.w)] [] (Uw (Uq iv q.d))))(h2:(0<=iN q.v))(h3:((Uq iv q.d)[(iN q.v).toNat]?=some (iv q.x)))(h4:(decide (q.x<0)=false))(h5:(CT Ux 143 [] [Uw (gL q.g),Uw (boL q.s),iv (iN q.w)] [] (Uw (Uq iv q.p)))){post:Exit->St->Prop}(ht:T Ux 0 (.loop (zC (zB Try.f126) 0)) (St.mk 37 [(2,iv (iN q.v)),(3,iv (iN q.w)),(9,Uw (Uq iv q.p)),(10,AV.sl 0 0 1)] [some (Blk.mk [iv (iN q.v)] 1 true true none)]) (TK Ux 0 post (zK (zB Try.f126) 0))):GoP Ux (hU [36] (e34 q) (cW q)) 0 (zB Try.f126) (st34 q) post:=zR (σ:=[0]) (fz:=[]) (vars:=[2,3,9,10]) (by kernel_rfl) (aj (u2 (aj (u2 (u2 (u2 (aj (ak (k5 (al h1))) (u2 (aj (k2 (aj h2 h3)) (u2 s2))))))) (aj h4 (aj (u2 (u2 (u2 (aj (ak (k5 (al h5))) s2)))) (al (u2 (u2 s2))))))) t6) ht
theorem rfn_0(q:QK)(h1:(CT Ux 125 [] [Uw (gL q.g),Uw (boL q.s),iv (iN q.w)] [] (Uw (Uq iv q.d))))(h2:(0<=iN q.v))(h3:((Uq iv q.d)[(iN q.v).toNat]?=some (iv q.x)))(h4:(decide (q.x<0)=true)):GoP Ux (hU [37] (e34 q) (cW q)) 0 (zB Try.f126) (st34 q) (Fin Ux Try.f126 0 [] (AV.nils)):=zF (σ:=[]) (fz:=[]) (by kernel_rfl) (aj (u2 (aj (u2 (u2 (u2 (aj (ak (k5 (al h1))) (u2 (aj (k2 (aj h2 h3)) (u2 s2))))))) (aj h4 s2))) t2)
theorem rfex_0(q:QK)(h1:((iN q.v != iN q.w)=false))(h2:(q.i+1=(Uq iv q.r).length)):GoO Ux (hU [54] (e34 q) (cW q)) 0 (zC (zB Try.f126) 0) (zK (zB Try.f126) 0) (GG q) (Fin Ux Try.f126 0 [] (Uw (Uq iv q.r))):=zF (σ:=[]) (fz:=[0]) (by kernel_rfl) (aj (aj (aj (u2 (u2 (al t3))) (al h1)) (al (u2 s2))) (al h2))
theorem rfe_0(q:QK)(h1:((iN q.v != iN q.w)=true))(h2:(0<=iN q.v))(h3:((Uq iv q.p)[(iN q.v).toNat]?=some (iv (iN q.a))))(h4:((Uq iv q.r).length=q.i+1))(h5:(1<=[iv (iN q.a)].length))(h6:((Uq iv q.r).length+[iv (iN q.a)].length<=9223372036854775807))(h7:(((Uq iv q.r).length+[iv (iN q.a)].length) * 8<=140737488355328)){post:Exit->St->Prop}{R:St->Prop}(hR:∀st,Ren 0 st (St.mk 37 [(2,iv (iN q.a)),(3,iv (iN q.w)),(9,Uw (Uq iv q.p)),(10,AV.sl 0 0 ((Uq iv q.r).length+[iv (iN q.a)].length))] [some (Blk.mk (Uq iv q.r++[iv (iN q.a)]) 1 true true none)])->R st):GoP Ux (hU [55] (e34 q) (cW q)) 0 (zC (zB Try.f126) 0) (GG q) (andThen R post):=zN (σ:=[2]) (fz:=[]) (vars:=[2,3,9,10]) (by kernel_rfl) (aj (aj (u2 (u2 (al t3))) (aj h1 (aj (u2 (u2 (aj (k2 (aj h2 h3)) (u2 s2)))) (al (u2 (u2 (u2 (aj (k2 (aj h4 (aj (aj (show(nat_lit 1=nat_lit 1) by first | decide | exact S9 _) h5) (aj h6 h7)))) s2)))))))) t6) hR
theorem Lev.occ{g:List (List Int)}{s:List Bool}(hg:OkG g s){goal k:Nat}{d:List Int}(h:Lev g s goal k d){v m:Nat}(hv:v<g.length)(hm:d.getD v 0=(m:Int)):∀j,j<=m->((m-j:Nat):Int)∈d:=by
 have occ:∀j,j<=m->∃u,u<g.length/\d.getD u 0=((m-j:Nat):Int):=by
  intro j;induction j with
  | zero=>intro _;exact⟨v,hv,by rw[hm];rfl⟩
  | succ j ih=>
   intro hj;obtain⟨u,hu,he⟩:=ih (by omega);rcases h.back u hu (by omega) with rfl | ⟨_,w,hw,h1,h2⟩
   .rw[h.zero] at he;omega
   .have:=(hg.row u hu).2 w hw;exact⟨w.toNat,by omega,by omega⟩
 intro j hj;obtain⟨u,hu,he⟩:=occ j hj;rw[<-he,Tv,Tu (by rw[h.len];exact hu)];exact T2 _
theorem S5{g:List (List Int)}{s:List Bool}(hg:OkG g s){goal k:Nat}(hk:k+1=g.length){d:List Int}(h:Lev g s goal k d):BV g s d k=d:=by
 apply List.ext_getElem (by rw[Iw]);intro v h1 h2;have hv:v<g.length:=by rw[<-h.len];exact h2
 have e:=NL hg d h.len k v hv;rw[Tv,Tu h1] at e;have e2:d.getD v 0=d[v]:=by rw[Tv,Tu h2];rfl
 show(BV g s d k)[v]=d[v];rw[<-e2];refine Eq.trans e ?_;unfold rdV;by_cases c1:s.getD v false=true
 .rw[Ts c1]
 .rw[Tt c1];by_cases c2:0<=d.getD v 0
  .rw[Ts c2]
  .rw[Tt c2];by_cases c3:((g.getD v []).any fun w=>d.getD w.toNat 0==(k:Int))=true
   .exfalso;obtain⟨w,hw,he⟩:=List.any_eq_true.1 c3;have hwr:=(hg.row v hv).2 w hw;have occ:=h.occ hg (v:=w.toNat) (m:=k) (by omega) (by simpa using he);have hb:=(h.bnd v hv).1;have hneg:(-1:Int)∈d:=by
     have:d.getD v 0 = -1:=by omega
     rw[<-this,e2];exact T2 _
    have nd:((-1:Int)::(Uu (k+1)).map (fun j:Nat=>(j:Int))).Nodup:=by refine List.nodup_cons.2 ⟨fun hm=>?_,List.pairwise_map.2 ((List.nodup_range (n:=k+1)).imp fun hne e=>hne (Int.ofNat_inj.1 e))⟩;obtain⟨j,_,hj⟩:=T1.1 hm;omega
    have:=IS nd fun x hx=>by
     rcases TZ.1 hx with rfl | hx
     .exact hneg
     .obtain⟨j,hj,rfl⟩:=T1.1 hx;have hj:=Uk.1 hj;have:=occ (k-j) (by omega)
      rwa [show k-(k-j)=j by omega] at this
    simp only[Ua,Tx,Ud,h.len] at this;omega
   .rw[Tt c3]
theorem Ko{g:List (List Int)}{s:List Bool}(hg:OkG g s){goal:Nat}(hgo:goal<g.length):AE g s goal (g.length-1)=AE g s goal g.length:=by
 unfold AE;by_cases hs:s.getD goal false=true
 .rw[Ts hs,Ts hs]
 .rw[Tt hs,Tt hs];obtain⟨k,hk⟩:∃k,k+1=g.length:=⟨g.length-1,by omega⟩;rw[<-hk,Te,FL];exact(S5 hg hk (Lev.run hg hgo k)).symm
theorem NI{p:Nat->Bool}:∀{n s:Nat},(∀i,s<=i->i<s+n->p i=false)->fnd p s n=none:=by
 intro n;induction n with
 | zero=>intro s _;rfl
 | succ n ih=>intro s h;rw[fnd,h s (TF _) (by omega)];exact ih fun i h1 h2=>h i (by omega) (by omega)
theorem DV{p:Nat->Bool}:∀{n s j:Nat},fnd p s n=some j->p j=true/\s<=j/\j<s+n:=by
 intro n;induction n with
 | zero=>intro s j h;cases h
 | succ n ih=>
  intro s j h;rw[fnd] at h;cases hp:p s with
  | true=>rw[hp] at h;cases h;exact⟨hp,TF _,by omega⟩
  | false=>rw[hp] at h;obtain⟨a,b,c⟩:=ih h;exact⟨a,by omega,by omega⟩
theorem Qx{g:List (List Int)}{s:List Bool}(hg:OkG g s){goal:Nat}{d:List Int}(hD:Dst g s goal d){u:Nat}(hu:u<g.length)(h0:0<d.getD u 0)(hgd:s.getD goal false=false):0<=B1 g d u/\B1 g d u<(g.length:Int)/\d.getD (B1 g d u).toNat 0=d.getD u 0-1:=by
 unfold B1;cases hf:fnd (DP g d u) 0 (g.getD u []).length with
 | some i=>obtain⟨a,_,b⟩:=DV hf;obtain⟨w,hw,hw1,_⟩:=F4 hg hu (i:=i) (by omega);unfold DP at a;simp only[TC,decide_eq_true_eq,beq_iff_eq] at a;show 0<=(g.getD u []).getD i 0/\(g.getD u []).getD i 0<(g.length:Int)/\d.getD ((g.getD u []).getD i 0).toNat 0=_;exact⟨by omega,by omega,a.2⟩
 | none=>
  exfalso;rcases hD.back u hu (by omega) with rfl | ⟨_,w,hw,h1,h2⟩
  .rw[hD.zero hgd] at h0;omega
  .obtain⟨i,hi,rfl⟩:=T7.1 hw;have hn:=CH hf i (TG _) (by omega);have e:(g.getD u []).getD i 0=(g.getD u [])[i]:=by rw[Tv (l:=g.getD u []),Tu hi];rfl
   unfold DP at hn;rw[e,TA h0,Bool.true_and] at hn;have:d.getD ((g.getD u [])[i]).toNat 0=d.getD u 0-1:=by omega
   rw[this] at hn;simp at hn
theorem Il{g:List (List Int)}{s:List Bool}(hg:OkG g s){goal:Nat}(hgo:goal<g.length){d:List Int}(hD:Dst g s goal d){a m:Nat}(ha:a<g.length)(hm:d.getD a 0=(m:Int))(hgd:s.getD goal false=false):
  ∀k,k<=m->0<=wkZ g d a k/\wkZ g d a k<(g.length:Int)/\d.getD (wkZ g d a k).toNat 0=((m-k:Nat):Int):=by
 intro k;induction k with
 | zero=>intro _;exact⟨by simp[wkZ],by simp only[wkZ];omega,by simp only[wkZ,TD];rw[hm];rfl⟩
 | succ k ih=>intro hk;obtain⟨h1,h2,h3⟩:=ih (by omega);obtain⟨g1,g2,g3⟩:=Qx hg hD (u:=(wkZ g d a k).toNat) (by omega) (by omega) hgd;exact⟨g1,g2,by rw[wkZ,g3,h3];omega⟩
theorem Ib{g:List (List Int)}{s:List Bool}{goal:Nat}{d:List Int}(hD:Dst g s goal d){v:Nat}(hv:v<g.length)(h0:d.getD v 0=0):v=goal:=by
 rcases hD.back v hv (by omega) with e | ⟨_,w,_,h1,h2⟩
 .exact e
 .omega
theorem wrapM(far:Nat)(h:far<1000000):i64.wrap (iN (far+1)-1)=(far:Int):=by
 have e1:(2:Int) ^ i64.bits=18446744073709551616:=by decide
 have e2:(2:Int) ^ (i64.bits-1)=9223372036854775808:=by decide
 have e3:i64.signed=true:=by decide
 simp only[IntKind.wrap,e1,e2,e3,Bool.true_and,decide_eq_true_eq,iN];split<;>omega
theorem rc_run{g:List (List Int)}{s:List Bool}(hg:OkG g s)(goal far v:Nat)(d:List Int)(hd:d.length=g.length)(hf:far<1000)(hv:v<g.length){R:St->Prop}{post:Exit->St->Prop}
  (hR:∀st,Ren 0 st (DX (qd g s goal (FX (g.getD v []) v far d) far (v+1) 0 []))->R st):
  T Ux 0 (.loop (zC (zC (zC (zB Try.f125) 1) 0) 0)) (HY (qd g s goal d far v 0 (g.getD v []))) (TK Ux 0 (andThen R post) (zK (zC (zC (zB Try.f125) 1) 0) 0)):=by
 obtain⟨hr1,hr2⟩:=hg.row v hv;have hgl:=hg.len;have hrow:=CW hv;generalize g.getD v []=r at hR hr1 hr2 hrow;have hrl:=BU r;refine T.loop (fun i:Nat=>HY (qd g s goal ((r.take i).foldl (BL v far) d) far v i r)) (fun i=>i<=r.length) (fun i=>r.length+1-i) 0 (TG _) ?_;intro i hi;have hdl:((r.take i).foldl (BL v far) d).length=g.length:=by rw[D1 (J3 v far),hd]
 by_cases h:i<r.length
 .obtain⟨w0,w1,_⟩:=hr2 r[i] (T2 h);obtain⟨w,hw⟩:∃w:Nat,r[i]=(w:Int):=⟨r[i].toNat,by omega⟩;have hwn:w<g.length:=by omega
  have hget:(r.map (AV.int .i64))[i]?=some (.int .i64 (w:Int)):=by rw[TE,Tu h,hw];rfl
  have hstep:=P9 (BL v far) r d i h;generalize hdd:(r.take i).foldl (BL v far) d=d' at hdl hstep;rw[hw] at hstep;have hml:=BU d';by_cases he:(d'.getD w 0==(far:Int))=true
  .refine T.path mix (rcr_0 ⟨g,s,goal,g.length,d',far,v,i,r,w,false,d'.getD w 0⟩ (by simp[iN]) hrow (TA (by simp only[iN,hrl];omega)) (by simp[iN]) hget (by simp[iN]) (by simp[iN];omega) (En (l:=d') (j:=w) (by omega)) (by simp only[wrapM far (show far<1000000 by omega)];exact he) (by simp[iN];omega) (by simp[iN,hml];omega) ?_);intro st hst;refine⟨i+1,?_,h,by omega⟩;have e:BL v far d' ((w:Nat):Int)=d'.set v ((far+1:Nat):Int):=by unfold BL;rw[TD,Ts he]
   rw[hstep,e];simp only[iN,TD,zW i (show i<9223372036854775807 by omega)] at hst;rw[map_set] at hst;exact hst
  .have hne:=he;have he:=Ug.2 he;refine T.path mix (rcr_1 ⟨g,s,goal,g.length,d',far,v,i,r,w,false,d'.getD w 0⟩ (by simp[iN]) hrow (TA (by simp only[iN,hrl];omega)) (by simp[iN]) hget (by simp[iN]) (by simp[iN];omega) (En (l:=d') (j:=w) (by omega)) (by simp only[wrapM far (show far<1000000 by omega)];exact he) ?_);intro st hst;refine⟨i+1,?_,h,by omega⟩;have e:BL v far d' ((w:Nat):Int)=d':=by unfold BL;rw[TD,Tt hne]
   rw[hstep,e];simp only[iN,zW i (show i<9223372036854775807 by omega)] at hst;exact hst
 .have hti:r.take i=r:=List.take_of_length_le (by omega);refine T.out mix (rcx_0 (qd g s goal ((r.take i).foldl (BL v far) d) far v i r) (by simp[iN]) hrow (Tz (by simp only[iN,qd,hrl];omega)) ?_);intro st hst;refine hR st ?_;rw[hti] at hst;simp only[iN,qd,zW v (show v<9223372036854775807 by omega)] at hst;exact hst
theorem rb_run{g:List (List Int)}{s:List Bool}(hg:OkG g s)(goal far:Nat)(d:List Int)(hd:d.length=g.length)(hf:far<1000){R:St->Prop}{post:Exit->St->Prop}
  (hR:∀st,Ren 0 st (JE (qd g s goal (BV g s d far) (far+1) 0 0 []))->R st):
  T Ux 0 (.loop (zC (zC (zB Try.f125) 1) 0)) (DX (qd g s goal d far 0 0 [])) (TK Ux 0 (andThen R post) (zK (zC (zB Try.f125) 1) 0)):=by
 have hgl:=hg.len;have hl:=BD g;refine T.loop (fun v:Nat=>DX (qd g s goal ((Uu v).foldl (Be g s far) d) far v 0 [])) (fun v=>v<=g.length) (fun v=>g.length+1-v) 0 (TG _) ?_;intro v hv;have hdl:((Uu v).foldl (Be g s far) d).length=g.length:=by rw[D1 (IX g s far),hd]
 by_cases h:v<g.length
 .have hstep:=FL (Be g s far) d v;generalize (Uu v).foldl (Be g s far) d=d' at hdl hstep;have hb:=Gj (s:=s) (v:=v) (by rw[hg.sh];exact h);have d1:∀q:QD,q.g=g->q.v=v->decide (iN q.v<iN (gL q.g).length)=true:=fun q e1 e2=>TA (by rw[e1,e2];simp only[iN,hl];omega)
  have next:∀(d'':List Int) (st:St),Be g s far d' v=d''->Ren 0 st (DX (qd g s goal d'' far (v+1) 0 []))->∃j,Ren 0 st (DX (qd g s goal ((Uu j).foldl (Be g s far) d) far j 0 []))/\j<=g.length/\g.length+1-j<g.length+1-v:=by intro d'' st e hst;refine⟨v+1,?_,h,by omega⟩;rw[hstep,e];exact hst
  by_cases hs:s.getD v false=true
  .refine T.path mix (rbn_0 ⟨g,s,goal,g.length,d',far,v,0,[],0,s.getD v false,0⟩ (d1 _ rfl rfl) (by simp[iN]) hb hs ?_);intro st hst;simp only[iN,zW v (show v<9223372036854775807 by omega)] at hst;exact next d' st (by unfold Be;rw[Ts hs]) hst
  .by_cases hd0:decide (0<=d'.getD v 0)=true
   .refine T.path mix (rbn_1 ⟨g,s,goal,g.length,d',far,v,0,[],0,s.getD v false,d'.getD v 0⟩ (d1 _ rfl rfl) (by simp[iN]) hb (Ug.2 hs) (by simp[iN];omega) (En (l:=d') (j:=v) (by omega)) hd0 ?_);intro st hst;simp only[iN,zW v (show v<9223372036854775807 by omega)] at hst;exact next d' st (by unfold Be;rw[Tt hs,Ts hd0]) hst
   .refine T.path mix (rbi_0 ⟨g,s,goal,g.length,d',far,v,0,g.getD v [],0,s.getD v false,d'.getD v 0⟩ (d1 _ rfl rfl) (by simp[iN]) hb (Ug.2 hs) (by simp[iN];omega) (En (l:=d') (j:=v) (by omega)) (Ug.2 hd0) ?_);exact rc_run hg goal far v d' hdl hf h (R:=fun st'=>∃j,Ren 0 st' (DX (qd g s goal ((Uu j).foldl (Be g s far) d) far j 0 []))/\j<=g.length/\g.length+1-j<g.length+1-v) (post:=TK Ux 0 (andThen R post) (zK (zC (zB Try.f125) 1) 0)) fun st hst=>next _ st (by unfold Be;rw[Tt hs,Tt hd0]) hst
 .obtain rfl:v=g.length:=by omega
  refine T.out mix (rbx_0 (qd g s goal ((Uu g.length).foldl (Be g s far) d) far g.length 0 []) (Tz (by simp only[iN,qd,hl];omega)) ?_);intro st hst;refine hR st ?_;simp only[iN,qd,zW (far+1) (show far+1<9223372036854775807 by omega)] at hst;exact hst
theorem I5{g:List (List Int)}{s:List Bool}(hg:OkG g s)(goal:Nat)(hgo:goal<g.length):CT Ux 125 [] [.lst (gL g),.lst (boL s),.int .i64 (goal:Nat)] [] (lI (AE g s goal (g.length-1))):=by
 have hgl:=hg.len;have hl:=BD g;refine CT.path mix Try.func125 (show Try.f125.body=some (zB Try.f125) by kernel_rfl) (nL rfl) (ri_0 (qd g s goal [] 0 0 0 []) (Int.le_refl _) (by simp only[qd,iN,hl];omega) (by simp only[qd,iN,hl];omega) ?_);have hb:=Gj (s:=s) (v:=goal) (by rw[hg.sh];exact hgo);have key:T Ux 0 (.loop (zC (zB Try.f125) 0)) (Hc (qd g s goal (BF g.length 0) 0 0 0 [])) (TK Ux 0 (Fin Ux Try.f125 0 [] (lI (AE g s goal (g.length-1)))) (zK (zB Try.f125) 0)):=by
  refine T.loop (fun i:Nat=>Hc (qd g s goal (BF g.length i) 0 0 i [])) (fun i=>i<=g.length) (fun i=>g.length+1-i) 0 (TG _) ?_;intro i hi;by_cases h:i<g.length
  .refine T.path mix (rfr_0 (qd g s goal (BF g.length i) 0 0 i []) (TA (by simp only[iN,qd,hl];omega)) (by simp[iN]) (by simp[iN,qd];omega) (by simp[iN,qd,F9];omega) ?_);intro st hst;refine⟨i+1,?_,h,by omega⟩;simp only[iN,qd,TD,zW i (show i<9223372036854775807 by omega)] at hst;rw[map_set,Pk _ _ h] at hst;exact hst
  .obtain rfl:i=g.length:=by omega
   by_cases hs:s.getD goal false=true
   .have k:=rfs_0 ⟨g,s,goal,g.length,BF g.length g.length,0,0,g.length,[],0,s.getD goal false,0⟩ (Tz (by simp only[iN,hl];omega)) (by simp[iN]) hb hs (by simp[F9]);have e:AE g s goal (g.length-1)=BF g.length g.length:=by unfold AE;rw[Ts hs,JV]
    rw[e];exact T.out mix k
   .have e:AE g s goal (g.length-1)=(Uu (g.length-1)).foldl (BV g s) (Ch g goal):=by unfold AE;rw[Tt hs]
    refine T.out mix (rfx_0 ⟨g,s,goal,g.length,BF g.length g.length,0,0,g.length,[],0,s.getD goal false,0⟩ (Tz (by simp only[iN,hl];omega)) (by simp[iN]) hb (Ug.2 hs) (by simp[iN];omega) (by simp[iN,F9];omega) ?_);simp only[iN,TD];rw[map_set,JV,e];refine T.loop (fun far:Nat=>JE (qd g s goal ((Uu far).foldl (BV g s) (Ch g goal)) far 0 0 [])) (fun far=>far<=g.length-1) (fun far=>g.length+1-far) 0 (TG _) ?_;intro far hfar;have hdl:((Uu far).foldl (BV g s) (Ch g goal)).length=g.length:=by rw[D1 (Iw g s),KE]
    by_cases hf:far<g.length-1
    .refine T.path mix (rai_0 (qd g s goal ((Uu far).foldl (BV g s) (Ch g goal)) far 0 0 []) (TA (by simp only[iN,qd,hl];omega)) ?_);refine rb_run hg goal far _ hdl (by omega) fun st hst=>⟨far+1,?_,hf,by omega⟩
     rw[FL];exact hst
    .obtain rfl:far=g.length-1:=by omega
     exact T.out mix (rax_0 (qd g s goal ((Uu (g.length-1)).foldl (BV g s) (Ch g goal)) (g.length-1) 0 0 []) (Tz (by simp only[iN,qd,hl];omega)) (by simp[qd,hdl]))
 unfold Hc qd dB at key;simp only[qd,hl,P1];exact key
def qw(g:List (List Int))(s:List Bool)(d:List Int)(v w i:Nat)(r p:List Int)(x y:Int):QK:=⟨g,s,d,v,w,0,i,r,x,y,false,0,p,[]⟩
theorem set_set'(l:List Int)(v:Nat)(a b:Int):(l.set v a).set v b=l.set v b:=by rw[List.set_set]
theorem rhb_run{g:List (List Int)}{s:List Bool}(hg:OkG g s)(d:List Int)(hd:d.length=g.length)(hsm:Dw d)(v:Nat)(hv:v<g.length){R:St->Prop}{post:Exit->St->Prop}
  (hR:∀st,Ren 0 st (Fb (qw g s d (v+1) 0 0 [] (Bs g d (v+1)) 0 0))->R st):
  T Ux 0 (.loop (zC (zC (zB Try.f143) 0) 0)) (Fh (qw g s d v 0 (g.getD v []).length (g.getD v []) ((Bs g d v).set v (-1)) 0 0)) (TK Ux 0 (andThen R post) (zK (zC (zB Try.f143) 0) 0)):=by
 have hgl:=hg.len;have hr1:=(hg.row v hv).1;have hrow:=CW hv;have hget:=fun i=>F4 hg hv (i:=i)
 have hdv:=hsm.get (v:=v) (by omega);have hv1:=Bv (l:=d) (j:=v) (by omega);have hz:B1 g d v=DS (g.getD v []) (fnd (DP g d v) 0 (g.getD v []).length):=rfl;have hP:∀i,DP g d v i=(decide (0<d.getD v 0)&&(d.getD ((g.getD v []).getD i 0).toNat 0==d.getD v 0-1)):=fun i=>rfl
 have hfs:=SV g d v hv;have hfl:=Ny g d v;generalize DP g d v=pp at hz hP;generalize g.getD v []=r at hr1 hrow hget hP hz;rw[hz] at hfs;have fin:∀cur,cur=DS r (fnd pp 0 r.length)->∀st,Ren 0 st (Fb (qw g s d (v+1) 0 0 [] ((Bs g d v).set v cur) 0 0))->R st:=by intro cur hc st hst;rw[hc,hfs] at hst;exact hR st hst
 have lenS:∀cur:Int,((Bs g d v).set v cur).length=g.length:=by intro cur;simp[hfl]
 have wv:i64.wrap (iN v+1)=((v+1:Nat):Int):=zW v (by omega);refine T.loop (fun i:Nat=>Fh (qw g s d v 0 i r ((Bs g d v).set v (DS r (fnd pp i (r.length-i)))) 0 0)) (fun i=>i<=r.length) (fun i=>i) r.length ?_ ?_ |> fun h=>by simpa [fnd,DS] using h
 .exact TF _
 intro i hi;by_cases h0:0<i
 .have hik:decide (0<=iN i-1)=true:=TA (by simp only[iN];omega);by_cases hp:0<d.getD v 0
  .obtain⟨w,hw,hw1,hw2⟩:=hget (i-1) (by omega);have hg1:=Bv (l:=r) (j:=i-1) (by omega);rw[hw] at hg1;have hidx:(iN i-1).toNat=i-1:=by simp only[iN];omega
   have hw3:=Bv (l:=d) (j:=w) (by omega);have hpi:=hP (i-1);rw[hw,TD,TA hp,Bool.true_and] at hpi;obtain⟨m,hm⟩:∃m:Nat,d.getD v 0=(m:Int):=⟨(d.getD v 0).toNat,by omega⟩;have hwr:i64.wrap (d.getD v 0-1)=d.getD v 0-1:=by rw[hm,FG m (by omega) (by omega)];omega
   have hwi:i64.wrap (iN i-1-1)=iN (i-1)-1:=by
    by_cases h1:1<i
    .have:=FG (i-1) (by omega) (by omega);have e:iN i-1-1=((i-1:Nat):Int)-1:=by simp only[iN];omega
     rw[e,this];simp only[iN];omega
    .obtain rfl:i=1:=by omega
     exact A5 _ (by decide) (by decide)
   have hf:fnd pp (i-1) (r.length-(i-1))=(match pp (i-1) with | true=>some (i-1) | false=>fnd pp i (r.length-i)):=by
    have:=CS (p:=pp) (s:=i-1) (k:=r.length) (by omega)
    rwa [show i-1+1=i by omega] at this
   by_cases he:(d.getD w 0==d.getD v 0-1)=true
   .rw[he] at hpi;refine T.path mix (rhbr_0 ⟨g,s,d,v,w,0,i,r,d.getD v 0,d.getD w 0,false,0,(Bs g d v).set v (DS r (fnd pp i (r.length-i))),[]⟩ hik (by simp[iN]) hv1 (TA hp) hrow (by simp only[iN];omega) (by simp only[hidx];exact hg1) (by simp[iN]) hw3 (by simp only[hwr];exact he) (by simp[iN,hfl];omega) (by simp[iN,hfl];omega) ?_);intro st hst;refine⟨i-1,?_,by omega,by omega⟩;simp only[iN,TD] at hst hwi;rw[hwi,map_set,set_set'] at hst;rw[hf,hpi];simp only[T3] at hst;unfold Fh qw;simp only[T3];show Ren 0 st {n:=_,fr:=_,hp:=[some (dB ((Bs g d v).set v (r.getD (i-1) 0)))]};rw[hw];exact hst
   .have he:=Ug.2 he;rw[he] at hpi;refine T.path mix (rhbr_1 ⟨g,s,d,v,w,0,i,r,d.getD v 0,d.getD w 0,false,0,(Bs g d v).set v (DS r (fnd pp i (r.length-i))),[]⟩ hik (by simp[iN]) hv1 (TA hp) hrow (by simp only[iN];omega) (by simp only[hidx];exact hg1) (by simp[iN]) hw3 (by simp only[hwr];exact he) ?_);intro st hst;refine⟨i-1,?_,by omega,by omega⟩;simp only[iN] at hst hwi;rw[hwi] at hst;rw[hf,hpi];exact hst
  .have hall:∀j n',fnd pp j n'=none:=fun j n'=>NI fun k _ _=>by rw[hP k,Tz hp,Bool.false_and]
   refine T.out mix (rhbx_0 ⟨g,s,d,v,0,0,i,r,d.getD v 0,0,false,0,(Bs g d v).set v (DS r (fnd pp i (r.length-i))),[]⟩ hik (by simp[iN]) hv1 (Tz hp) ?_);intro st hst;simp only[wv] at hst;refine fin (DS r (fnd pp i (r.length-i))) (by rw[hall,hall]) st hst
 .obtain rfl:i=0:=by omega
  refine T.out mix (rhbx_1 ⟨g,s,d,v,0,0,0,r,0,0,false,0,(Bs g d v).set v (DS r (fnd pp 0 (r.length-0))),[]⟩ (by simp[iN]) ?_);intro st hst;simp only[wv] at hst;exact fin _ rfl st hst
theorem Qv{g:List (List Int)}{s:List Bool}(hg:OkG g s)(goal:Nat)(hgo:goal<g.length):CT Ux 143 [] [.lst (gL g),.lst (boL s),.int .i64 (goal:Nat)] [] (lI (BZ g (AE g s goal g.length))):=by
 have hgl:=hg.len;have hl:=BD g;have c0:=I5 hg goal hgo;rw[Ko hg hgo] at c0;have hdl:=ON g s goal g.length;have hsm:=Pf g s goal g.length (by omega);generalize AE g s goal g.length=d at c0 hdl hsm;refine CT.path mix Try.func143 (show Try.f143.body=some (zB Try.f143) by kernel_rfl) (nL rfl) (rh_0 ⟨g,s,d,goal,0,0,0,[],0,0,false,0,[],[]⟩ c0 (Int.le_refl _) (by simp only[iN,hl];omega) (by simp only[iN,hl];omega) ?_);have key:T Ux 0 (.loop (zC (zB Try.f143) 0)) (Fb (qw g s d 0 0 0 [] (Bs g d 0) 0 0)) (TK Ux 0 (Fin Ux Try.f143 0 [] (lI (BZ g d))) (zK (zB Try.f143) 0)):=by
  refine T.loop (fun v:Nat=>Fb (qw g s d v 0 0 [] (Bs g d v) 0 0)) (fun v=>v<=g.length) (fun v=>g.length+1-v) 0 (TG _) ?_;intro v hv;have hfl:=Ny g d v;by_cases h:v<g.length
  .have hr1:=(hg.row v h).1;have ew:i64.wrap (iN ((g.getD v []).map (AV.int .i64)).length-1)=iN (g.getD v []).length-1:=by
    rw[BU];by_cases h1:0<(g.getD v []).length
    .have:=FG _ h1 (by omega);simp only[iN];rw[this];omega
    .rw[show (g.getD v []).length=0 by omega];exact A5 _ (by decide) (by decide)
   refine T.path mix (rhi_0 (qw g s d v 0 0 (g.getD v []) (Bs g d v) 0 0) (TA (by simp only[iN,qw,hl];omega)) (by simp[iN]) (by simp[iN,qw,hfl];omega) (by simp[iN,qw,hfl];omega) (CW h) ?_);have k:=rhb_run hg d hdl hsm v h (R:=fun st'=>∃j,Ren 0 st' (Fb (qw g s d j 0 0 [] (Bs g d j) 0 0))/\j<=g.length/\g.length+1-j<g.length+1-v) (post:=TK Ux 0 (Fin Ux Try.f143 0 [] (lI (BZ g d))) (zK (zB Try.f143) 0)) fun st hst=>⟨v+1,hst,h,by omega⟩
   simp only[qw,ew];rw[show (iN v).toNat=v from rfl,map_set];unfold Fh qw at k;simp only[T3] at k;exact k
  .obtain rfl:v=g.length:=by omega
   have k:=rhx_0 (qw g s d g.length 0 0 [] (Bs g d g.length) 0 0) (Tz (by simp only[iN,qw,hl];omega)) (by simp[qw]);rw[<-fillH_n];exact T.out mix k
 unfold Fb qw dB at key;simp only[Ny,NU g d] at key;simp only[hl,NU g d];exact key
def BW(r:List Int)(i:Nat):Int:=if i=0 then -1 else r.getD (i-1) 0
theorem RA{r:List Int}{i:Nat}:BW r (i+1)=r.getD i 0:=by unfold BW;simp
end Go.Proofs.Ytedjkebooffjpaa

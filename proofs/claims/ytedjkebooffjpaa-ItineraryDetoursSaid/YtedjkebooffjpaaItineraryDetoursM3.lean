/- Parts of the proof:AxRd,AxWk,AxNe,AxLs,AxTr,AxMc,AxSc,Nm1p,CutCp,NextCp,Rt1p,RtE,Rt2p,RtF,RtG,RtH,Rt3p,RtK,Rt4p,RtL,RtM,RtX,Rt5p,RtT,Rt6p,RtS. -/
import Derived.ChangeArms
import Derived.Carry
import Derived.Scope
import Derived.Test.YtedjkebooffjpaaProg
import Derived.KernelRfl
import Derived.Test.YtedjkebooffjpaaItineraryDetoursM2
noncomputable section
set_option linter.unusedVariables false
set_option linter.unusedSimpArgs false
open Go.IntKind (i64 u64)
open List renaming map->Uu,replicate->Uv,range->Uy
open Go.AX.AV renaming lst->UA
open Go.Proofs.Try renaming prog->UB
namespace Go.AX
variable {P:Program}
def C4(P:Program)(t:TypeId):Bool:=match P.underlying t with
 | some (.struct _)=>true
 | some (.array _ _)=>true
 | _=>false
def Eh(ag:Bool)(ys:List AV):AV:=match ag with
 | true=>.agg ys
 | false=>match ys with
  | [y]=>y
  | _=>.unk
def ShL(R:TypeId->List AV->Prop):List TypeId->List (List AV)->Prop | [],[]=>True | t::ts,p::ps=>R t p/\ShL R ts ps | _,_=>False
def Sh(P:Program):Nat->TypeId->List AV->Prop
 | 0,_,_=>False
 | n+1,t,cs=>match P.underlying t with
  | some .bool=>∃b,cs=[.bool b]
  | some (.int k)=>∃i,(Lit.int k i).wf=true/\cs=[.int k i]
  | some .string=>∃s:ByteArray,s.size<=maxLen/\cs=[.str s]
  | some (.slice e)=>∃es:List AV,es.length<=maxLen/\(∀x∈es,∃ys,Sh P n e ys/\x=Eh (C4 P e) ys)/\cs=[.lst es]
  | some (.struct fs)=>∃ps,ShL (Sh P n) (fs.toList.map (·.type)) ps/\cs=ps.flatten
  | some (.array k e)=>∃ps,ShL (Sh P n) (Uv k e) ps/\cs=ps.flatten
  | _=>False
def Fx(P:Program):Nat->List (Nat×TypeId)->Option Nat
 | o,[]=>some o
 | o,(a,t)::r=>match Nat.beq a o with
  | true=>Fx P (o+P.cellsOf t) r
  | false=>none
def okT(P:Program):Nat->TypeId->Bool
 | 0,_=>false
 | n+1,t=>match P.underlying t with
  | some .bool=>true
  | some (.int _)=>true
  | some .string=>true
  | some (.slice e)=>okT P n e&&Nat.ble 1 (P.cellsOf e)
  | some (.struct fs)=>(match Fx P 0 (fs.toList.map fun f=>(f.offset,f.type)) with | some l=>Nat.beq l (P.cellsOf t) | none=>false)&&(fs.toList.all fun f=>okT P n f.type)
  | some (.array k e)=>okT P n e&&Nat.beq (P.cellsOf t) (k * P.cellsOf e)
  | _=>false
theorem ShL.one{R:TypeId->List AV->Prop}(h:∀t p,R t p->∀c∈p,c.one=true):∀{ts:List TypeId} {ps:List (List AV)},ShL R ts ps->∀c∈ps.flatten,c.one=true:=by
 intro ts;induction ts with
 | nil=>intro ps hs c hc;cases ps<;>simp_all [ShL]
 | cons t ts ih=>
  intro ps hs c hc;cases ps with
  | nil=>simp at hc
  | cons p ps=>simp only[List.flatten_cons,T3] at hc;exact hc.elim (h t p hs.1 c) (ih hs.2 c)
theorem Sh.one:∀{n:Nat} {t:TypeId} {cs:List AV},Sh P n t cs->∀c∈cs,c.one=true:=by
 intro n;induction n with
 | zero=>intro t cs h;exact h.elim
 | succ n ih=>
  intro t cs h c hc;unfold Sh at h;split at h
  .obtain⟨b,rfl⟩:=h;simp at hc;subst hc;rfl
  .obtain⟨i,_,rfl⟩:=h;simp at hc;subst hc;rfl
  .obtain⟨s,_,rfl⟩:=h;simp at hc;subst hc;rfl
  .obtain⟨es,_,_,rfl⟩:=h;simp at hc;subst hc;rfl
  .obtain⟨ps,hp,rfl⟩:=h;exact ShL.one (fun _ _=>ih) hp c hc
  .obtain⟨ps,hp,rfl⟩:=h;exact ShL.one (fun _ _=>ih) hp c hc
  .exact h.elim
theorem Sh.el{n:Nat}{t:TypeId}{ys:List AV}(h:Sh P n t ys):(Eh (C4 P t) ys).cells=ys:=by
 cases n with
 | zero=>exact h.elim
 | succ n=>
  unfold Sh at h;unfold C4;cases hu:P.underlying t with
  | none=>rw[hu] at h;exact h.elim
  | some u=>
   rw[hu] at h;cases u
   case bool=>obtain⟨b,rfl⟩:=h;rfl
   case int=>obtain⟨b,_,rfl⟩:=h;rfl
   case string=>obtain⟨b,_,rfl⟩:=h;rfl
   case slice=>obtain⟨es,_,_,rfl⟩:=h;rfl
   case struct=>rfl
   case array=>rfl
   all_goals exact h.elim
def H8(A:Nat->Prop)(w:World)(avs:List AV)(cs:List Value):Prop:=avs.length=cs.length/\∀(i:Nat) c v,avs[i]?=some c->cs[i]?=some v->RT A w c v
theorem Ps{A:Nat->Prop}{w:World}{R:TypeId->List AV->Prop}{cs:List Value}:∀{segs:List (Nat×TypeId)} {o l:Nat},Fx P o segs=some l->l<=cs.length->
  (∀s∈segs,∃avs,R s.2 avs/\H8 A w avs ((cs.drop s.1).take (P.cellsOf s.2)))->∃ps,ShL R (segs.map (·.2)) ps/\H8 A w ps.flatten ((cs.drop o).take (l-o))/\o<=l:=by
 intro segs;induction segs with
 | nil=>intro o l h hl _;simp only[Fx,Td] at h;subst h;exact⟨[],trivial,⟨by simp,fun i c v hc=>by simp at hc⟩,TI _⟩
 | cons s r ih=>
  intro o l h hl hs;obtain⟨a,t⟩:=s;simp only[Fx] at h;split at h
  case h_2=>cases h
  rename_i ha;have ha:=TE ha;subst ha;obtain⟨ps,h1,h2,h3⟩:=ih h hl fun s hm=>hs s (TR _ hm)
  obtain⟨avs,g1,g2,g3⟩:=hs (a,t) (by simp);simp only at g1 g2 g3;have hlen:avs.length=P.cellsOf t:=by rw[g2];simp;omega
  refine⟨avs::ps,⟨g1,h1⟩,⟨?_,fun i c v hc hv=>?_⟩,by omega⟩
  .have:=h2.1;simp only[List.flatten_cons,TU,this,hlen,T1,Tk];omega
  .simp only[List.flatten_cons] at hc;rw[T7] at hc;split at hc
   .rename_i hi;refine g3 i c v hc ?_;rw[TT] at hv ⊢
    rw[Tv (by omega)];split at hv
    .exact hv
    .cases hv
   .rename_i hi;refine h2.2 (i-avs.length) c v hc ?_;rw[TT] at hv ⊢
    split at hv
    .rw[Tv (by omega)];rw[Ti] at hv ⊢
     rw[show a+P.cellsOf t+(i-avs.length)=a+i by omega];exact hv
    .cases hv
theorem Hl{A:Nat->Prop}{w:World}{c:AV}{v:Value}(hr:RT A w c v):H8 A w [c] [v]:=by
 refine⟨rfl,fun i c' v' hc hv=>?_⟩;cases i with
 | zero=>simp at hc hv;subst hc hv;exact hr
 | succ i=>simp at hc
theorem plus(b off i:Nat):(⟨b,off,none⟩:Addr).add i=⟨b,off+i,none⟩:=by unfold Addr.add;split<;>simp_all
theorem RC{H:Type}{enc:TypeId×Value->H}{w:World}{base:Nat}{spare:Nat->Bool}{held:Bool}{n k:Nat}{t e:TypeId}{cs:List Value}{x:DataW H×List MemPlace}(hu:P.underlying t=some (.array k e))
  (h:DataW.trod enc P w base spare held (n+1) t cs=some x):cs.length=P.cellsOf t/\∀i,i<k->∃y,DataW.trod enc P w base spare held n e ((cs.drop (i * P.cellsOf e)).take (P.cellsOf e))=some y:=by
 unfold DataW.trod at h;rw[hu] at h;split at h<;>simp_all;obtain⟨hl,xs,hp,hd⟩:=h;intro i hi;have hlen:=Go.mapM_some_length hp;have g:=mapM_some_get hp i i (by simp[hi]);rw[Tx (by simpa [hlen] using hi)] at g;exact⟨_,_,g⟩
theorem SR(e:TypeId):∀(k a:Nat),Fx P (a * P.cellsOf e) ((List.range' a k).map fun i=>(i * P.cellsOf e,e))=some ((a+k) * P.cellsOf e):=by
 intro k;induction k with
 | zero=>intro a;simp[Fx]
 | succ k ih=>intro a;simp only[List.range'_succ,Tu,Fx,Nat.beq_refl];have:=ih (a+1);rw[Tf,Nat.one_mul] at this;rw[this];congr 2;omega
theorem QZ{H:Type}{enc:TypeId×Value->H}{w:World}{base:Nat}{held:Bool}:∀{n:Nat} {t:TypeId} {cs:List Value} {x:DataW H×List MemPlace},
  DataW.trod enc P w base (fun _=>true) held n t cs=some x->okT P n t=true->∃avs,Sh P n t avs/\H8 (fun r=>r<w.heap.size) w avs cs:=by
 intro n;induction n with
 | zero=>intro t cs x h;simp[DataW.trod] at h
 | succ n ih=>
  intro t cs x h hok;unfold okT at hok;unfold Sh;cases hu:P.underlying t with
  | none=>rw[hu] at hok;cases hok
  | some u=>
   rw[hu] at hok;cases u
   case bool=>obtain⟨b,rfl,_⟩:=DataW.trod_bool hu h;exact⟨_,⟨b,rfl⟩,Hl (.bool b)⟩
   case int k=>obtain⟨i,rfl,_,hw⟩:=DataW.trod_int hu h;exact⟨_,⟨i,hw,rfl⟩,Hl (.int k i)⟩
   case string=>obtain⟨s,rfl,_,hw⟩:=DataW.trod_string hu h;exact⟨_,⟨s,hw,rfl⟩,Hl (.str s)⟩
   case slice e=>
    simp only[TF] at hok;have hpos:1<=P.cellsOf e:=TY hok.2;rcases DataW.trod_slice hu h with ⟨rfl,_⟩ | ⟨a,len,cap,elems,rest,m,hm,rfl,_,_,hl,hmx,hel,hget,hsp,_⟩
    .exact⟨_,⟨[],by simp,by simp,rfl⟩,Hl (.lnil none)⟩
    .obtain rfl:n=m:=by omega
     rcases Nat.eq_zero_or_pos cap with hc | hc
     .subst hc;obtain rfl:len=0:=by omega
      exact⟨_,⟨[],by simp,by simp,rfl⟩,Hl (.lnil (some a))⟩
     .obtain⟨hrl,hrest⟩:=hsp rfl;have all:∀i,i<cap->∃cs y,w.cells? base (a.add (i * P.cellsOf e)) (P.cellsOf e)=some cs/\DataW.trod enc P w base (fun _=>true) held n e cs=some y:=by
       intro i hi;rcases Ut i len with hlt | hge
       .have g:=hget i hlt;rw[Tx (by omega)] at g;obtain⟨cs,h1,h2⟩:=Option.bind_eq_some_iff.1 g;exact⟨cs,_,h1,h2⟩
       .have g:=hrest (i-len) (by omega);rw[Tx (by omega),show len+(i-len)=i by omega] at g;obtain⟨cs,h1,h2⟩:=Option.bind_eq_some_iff.1 g;exact⟨cs,_,h1,h2⟩
      have hspot:a.spot=none:=by obtain⟨cs,_,h1,_⟩:=all 0 hc;obtain⟨_,hlen,hcell⟩:=World.cells?_some h1;have g0:=hcell 0 hpos;rw[Tx (by omega)] at g0;simpa [Addr.add] using World.cell?_spot g0
      obtain⟨b,off,spot⟩:=a;simp only at hspot;subst hspot;have ex:∀i,∃ys:List AV,i<cap->Sh P n e ys/\ys.length=P.cellsOf e/\∀j c,ys[j]?=some c->∃v,w.cell? ⟨b,off+i * P.cellsOf e+j,none⟩=some v/\RT (fun r=>r<w.heap.size) w c v:=by
       intro i;rcases Ut i cap with hi | hi
       .obtain⟨cs,y,h1,h2⟩:=all i hi;obtain⟨ys,g1,g2,g3⟩:=ih h2 hok.1;obtain⟨_,hlen,hcell⟩:=World.cells?_some h1;refine⟨ys,fun _=>⟨g1,by omega,fun j c hj=>?_⟩⟩;have hj':j<ys.length:=(Tz.1 hj).1;have g:=hcell j (by omega);rw[Tx (by omega)] at g;refine⟨cs[j]'(by omega),?_,g3 j c _ hj (Tx (by omega))⟩;rw[plus,plus] at g;exact g
       .exact⟨[],fun h=>absurd h (by omega)⟩
      let ys:Nat->List AV:=fun i=>Classical.choose (ex i)
      have hys:∀i,i<cap->Sh P n e (ys i)/\(ys i).length=P.cellsOf e/\∀j c,(ys i)[j]?=some c->∃v,w.cell? ⟨b,off+i * P.cellsOf e+j,none⟩=some v/\RT (fun r=>r<w.heap.size) w c v:=fun i=>Ub (ex i)
      have hb:b<w.heap.size:=by
       obtain⟨g1,g2,g3⟩:=hys 0 hc;obtain⟨v,hv,_⟩:=g3 0 _ (Tx (by omega));rcases Ut b w.heap.size with hlt | hge
       .exact hlt
       .simp[World.cell?,Array.getElem?_eq_none hge] at hv
      let es:List AV:=(Uy len).map fun i=>Eh (C4 P e) (ys i)
      have hesl:es.length=len:=by simp[es]
      have mem:∀x∈es,∃i,i<len/\x=Eh (C4 P e) (ys i):=by intro x hx;obtain⟨i,hi,rfl⟩:=T4.1 hx;exact⟨i,by simpa using hi,rfl⟩
      refine⟨_,⟨es,by omega,fun x hx=>?_,rfl⟩,Hl ?_⟩
      .obtain⟨i,hi,rfl⟩:=mem x hx;exact⟨ys i,(hys i (by omega)).1,rfl⟩
      .have key:=RT.lst (A:=fun r=>r<w.heap.size) (w:=w) es b off cap (P.cellsOf e) (fun i j=>(w.cell? ⟨b,off+i * P.cellsOf e+j,none⟩).getD default) (by omega) (fun _=>hb) (fun x hx=>?_) (fun x hx c hcm=>?_) (fun i j hi hj=>?_) fun i j x c hx hj=>?_
       .rw[hesl] at key;exact key
       .obtain⟨i,hi,rfl⟩:=mem x hx;rw[(hys i (by omega)).1.el];exact(hys i (by omega)).2.1
       .obtain⟨i,hi,rfl⟩:=mem x hx;rw[(hys i (by omega)).1.el] at hcm;exact(hys i (by omega)).1.one c hcm
       .obtain⟨g1,g2,g3⟩:=hys i (by omega);obtain⟨v,hv,_⟩:=g3 j _ (Tx (by omega));simp[hv]
       .have hi:i<len:=by rw[<-hesl];exact(Tz.1 hx).1
        have hx':x=Eh (C4 P e) (ys i):=by simp only[es,TH,TW hi,Option.map_some,Td] at hx;exact hx.symm
        subst hx';obtain⟨g1,g2,g3⟩:=hys i (by omega);rw[g1.el] at hj;obtain⟨v,hv,hr⟩:=g3 j c hj;simpa [hv] using hr
   case struct fs=>
    simp only[TF] at hok;obtain⟨xs,m,hm,_,hlen,hxl,hget⟩:=DataW.trod_struct hu h;obtain rfl:n=m:=by omega
    obtain⟨hc,ha⟩:=hok;split at hc
    case h_2=>cases hc
    rename_i l hcon;have hl:=TE hc;obtain⟨ps,h1,h2,_⟩:=Ps (A:=fun r=>r<w.heap.size) (w:=w) (R:=Sh P n) (cs:=cs) hcon (by omega) fun s hs=>by obtain⟨f,hf,rfl⟩:=T4.1 hs;obtain⟨i,hi,rfl⟩:=Ua.1 hf;simp only[Array.length_toList] at hi;have g:=hget i (fs[i]) (by simp[hi]);rw[Tx (by omega)] at g;exact ih g (TN.1 ha _ hf)
    refine⟨_,⟨ps,?_,rfl⟩,?_⟩
    .simpa [Up,Function.comp_def] using h1
    .simpa [hl,<-hlen] using h2
   case array k e=>
    simp only[TF] at hok;have hk:=TE hok.2;obtain⟨hlen,hel⟩:=RC hu h;have hcon:=SR (P:=P) e k 0;rw[Nat.zero_mul,TP] at hcon;obtain⟨ps,h1,h2,_⟩:=Ps (A:=fun r=>r<w.heap.size) (w:=w) (R:=Sh P n) (cs:=cs) hcon (by omega) fun s hs=>by obtain⟨i,hi,rfl⟩:=T4.1 hs;obtain⟨y,g⟩:=hel i (by simpa using hi);exact ih g hok.1
    refine⟨_,⟨ps,?_,rfl⟩,?_⟩
    .simpa [Up,Function.comp_def,List.map_const'] using h1
    .simpa [<-hk,<-hlen] using h2
   all_goals cases hok
theorem okT_succ:∀{n:Nat} {t:TypeId},okT P n t=true->okT P (n+1) t=true:=by
 intro n;induction n with
 | zero=>intro t h;cases h
 | succ n ih=>
  intro t h;unfold okT at h ⊢
  cases hu:P.underlying t with
  | none=>rw[hu] at h;cases h
  | some u=>
   rw[hu] at h;cases u
   case bool=>rfl
   case int=>rfl
   case string=>rfl
   case slice e=>
    simp only[TF] at h ⊢
    exact⟨ih h.1,h.2⟩
   case struct fs=>
    simp only[TF] at h ⊢
    exact⟨h.1,TN.2 fun f hf=>ih (TN.1 h.2 f hf)⟩
   case array k e=>
    simp only[TF] at h ⊢
    exact⟨ih h.1,h.2⟩
   all_goals cases h
theorem ON{n m:Nat}{t:TypeId}(hnm:n<=m)(h:okT P n t=true):okT P m t=true:=by
 induction hnm with
 | refl=>exact h
 | step _ ih=>exact okT_succ ih
theorem ShL.imp{R R':TypeId->List AV->Prop}:∀{ts:List TypeId} {ps:List (List AV)},(∀t∈ts,∀p,R t p->R' t p)->ShL R ts ps->ShL R' ts ps:=by
 intro ts;induction ts with
 | nil=>intro ps h hs;cases ps<;>simp_all [ShL]
 | cons t ts ih=>
  intro ps h hs;cases ps with
  | nil=>exact hs.elim
  | cons p ps=>exact⟨h t (by simp) p hs.1,ih (fun t' ht=>h t' (TR _ ht)) hs.2⟩
theorem Sh.down:∀{n:Nat} {t:TypeId} {ys:List AV},okT P n t=true->Sh P (n+1) t ys->Sh P n t ys:=by
 intro n;induction n with
 | zero=>intro t ys h;cases h
 | succ n ih=>
  intro t ys h hs;unfold okT at h;unfold Sh at hs ⊢
  cases hu:P.underlying t with
  | none=>rw[hu] at h;cases h
  | some u=>
   rw[hu] at h hs;cases u
   case bool=>exact hs
   case int=>exact hs
   case string=>exact hs
   case slice e=>simp only[TF] at h;obtain⟨es,h1,h2,h3⟩:=hs;refine⟨es,h1,fun x hx=>?_,h3⟩;obtain⟨ys,g,g'⟩:=h2 x hx;exact⟨ys,ih h.1 g,g'⟩
   case struct fs=>simp only[TF] at h;obtain⟨ps,h1,h2⟩:=hs;refine⟨ps,h1.imp (fun t ht p hp=>?_),h2⟩;obtain⟨f,hf,rfl⟩:=T4.1 ht;exact ih (TN.1 h.2 f hf) hp
   case array k e=>simp only[TF] at h;obtain⟨ps,h1,h2⟩:=hs;refine⟨ps,h1.imp (fun t ht p hp=>?_),h2⟩;obtain rfl:t=e:=(List.mem_replicate.1 ht).2;exact ih h.1 hp
   all_goals cases h
theorem Sh.downs{n m:Nat}{t:TypeId}{ys:List AV}(hnm:n<=m)(h:okT P n t=true)(hs:Sh P m t ys):Sh P n t ys:=by
 induction hnm with
 | refl=>exact hs
 | step hk ih=>exact ih (hs.down (ON hk h))
def ShV(P:Program)(n:Nat)(t:TypeId)(a:AV):Prop:=∃ys,Sh P n t ys/\a=Eh (C4 P t) ys
def EU(P:Program)(n:Nat):List TypeId->List AV->Prop | [],[]=>True | t::ts,a::bs=>ShV P n t a/\EU P n ts bs | _,_=>False
theorem Rb{w:World}{r:Reach}{base n:Nat}{t:TypeId}{v:Value}(h:Value.okWide P w r base t v)(hk:okT P n t=true):
  (C4 P t=true/\∃cs,v = .agg cs)\/(C4 P t=false/\v.cells = #[v]):=by
 cases n with
 | zero=>cases hk
 | succ n=>
  unfold C4;unfold okT at hk;unfold Value.okWide at h;cases hu:P.underlying t with
  | none=>rw[hu] at hk;cases hk
  | some u=>
   rw[hu] at h hk;cases u
   case struct=>obtain⟨cs,h,_⟩:=h;exact .inl ⟨rfl,cs,h⟩
   case array=>obtain⟨cs,h,_⟩:=h;exact .inl ⟨rfl,cs,h⟩
   case bool=>refine .inr ⟨rfl,?_⟩;cases v<;>first | rfl | (exfalso;simp[Cell.okWide,Cell.ok,hu] at h;done)
   case int=>refine .inr ⟨rfl,?_⟩;cases v<;>first | rfl | (exfalso;simp[Cell.okWide,Cell.ok,hu] at h;done)
   case string=>refine .inr ⟨rfl,?_⟩;cases v<;>first | rfl | (exfalso;simp[Cell.okWide,Cell.ok,hu] at h;done)
   case slice=>refine .inr ⟨rfl,?_⟩;cases v<;>first | rfl | (exfalso;simp[Cell.okWide,Cell.ok,hu] at h;done)
   all_goals cases hk
theorem Rp{A:Nat->Prop}{w:World}{cs:List Value}{ys:List AV}(h:H8 A w ys cs):RT A w (.agg ys) (.agg cs.toArray):=.agg ys cs h.1.symm h.2
theorem args_rt{H:Type}{enc:TypeId×Value->H}{w:World}{base base':Nat}{held:Bool}{r:Reach}(n:Nat):∀{ts:List TypeId} {vs:List Value} {ds:List (DataW H)} {ps:List MemPlace},DataW.TrodAll enc P w base (fun _=>true) held ts vs ds ps->
  (∀(j:Nat) t v,ts[j]?=some t->vs[j]?=some v->Value.okWide P w r base' t v)->(ts.all (okT P n))=true->
  ∃bs,EU P n ts bs/\vs.length=bs.length/\∀(i:Nat) c v,bs[i]?=some c->vs[i]?=some v->RT (fun r=>r<w.heap.size) w c v:=by
 intro ts;induction ts with
 | nil=>intro vs ds ps h _ _;obtain⟨rfl,_⟩:=ChangeShapes.trodAll_nil h;exact⟨[],trivial,rfl,fun i c v hc=>by simp at hc⟩
 | cons t ts ih=>
  intro vs ds ps h hw ho;simp only[List.all_cons,TF] at ho;obtain⟨v,vs,d,ds,p,q,rfl,rfl,rfl,⟨f,hd⟩,hr⟩:=ChangeShapes.trodAll_cons h;obtain⟨bs,h1,h2,h3⟩:=ih hr (fun j t' v' ht hv=>hw (j+1) t' v' (by simpa using ht) (by simpa using hv)) ho.2;obtain⟨ys,g1,g2⟩:=QZ (DataW.trod_le (Nat.le_max_left f n) hd) (ON (Nat.le_max_right f n) ho.1);have hwv:=hw 0 t v rfl rfl;have hsh:Sh P n t ys:=g1.downs (Nat.le_max_right f n) ho.1;refine⟨Eh (C4 P t) ys::bs,⟨⟨ys,hsh,rfl⟩,h1⟩,by simp[h2],fun i c v' hc hv=>?_⟩;cases i with
  | succ i=>exact h3 i c v' (by simpa using hc) (by simpa using hv)
  | zero=>
   simp at hc hv;subst hc hv;rcases Rb hwv ho.1 with ⟨ha,cs,rfl⟩ | ⟨ha,hcs⟩
   .rw[ha];have:=Rp g2;simpa [Eh,Value.cells] using this
   .rw[hcs] at g2;have hl:=g2.1;have hel:=hsh.el;rw[ha] at hel ⊢
    match ys,hl with
    | [y],_=>exact g2.2 0 y v rfl rfl
theorem trodAll_below{H:Type}{enc:TypeId×Value->H}(hl:laidOutB P=true){W W':World}(hb:Go.RowKit.Below W.heap.size W W'):∀{ts:List TypeId} {vs:List Value} {ds:List (DataW H)} {ps:List MemPlace},
  (ts.all fun t=>P.readableRec t&&Nat.blt t P.types.size)=true->DataW.TrodAll enc P W 0 (fun _=>true) true ts vs ds ps->DataW.TrodAll enc P W' 0 (fun b=>decide (b<W.heap.size)) true ts vs ds ps:=by
 intro ts;induction ts with
 | nil=>intro vs ds ps _ h;cases vs<;>cases ds<;>simp_all [DataW.TrodAll]
 | cons t ts ih=>
  intro vs ds ps ho h;simp only[List.all_cons,TF] at ho;cases vs with
  | nil=>cases ds<;>simp_all [DataW.TrodAll]
  | cons v vs=>
   cases ds with
   | nil=>simp_all [DataW.TrodAll]
   | cons d ds=>
    obtain⟨p,q,hd,hr,he⟩:=h;have lt:∀x∈p,x.block<W.heap.size:=by obtain⟨m,hm⟩:=hd;exact DataW.trod_lt m _ _ _ hm
    exact⟨p,q,Go.RowKit.Below.trod hl ho.1.1 (by simpa [Nat.blt_eq] using ho.1.2) hd hb lt,ih ho.2 hr,he⟩
theorem ShL.consD{R:TypeId->List AV->Prop}{t:TypeId}{ts:List TypeId}{ps:List (List AV)}(h:ShL R (t::ts) ps):∃p ps',ps=p::ps'/\R t p/\ShL R ts ps':=by
 cases ps with
 | nil=>exact h.elim
 | cons p ps=>exact⟨p,ps,rfl,h.1,h.2⟩
theorem ShL.nilD{R:TypeId->List AV->Prop}{ps:List (List AV)}(h:ShL R [] ps):ps=[]:=by
 cases ps with
 | nil=>rfl
 | cons p ps=>exact h.elim
theorem Sh.intD{n:Nat}{t:TypeId}{k:IntKind}{ys:List AV}(hu:P.underlying t=some (.int k))(h:Sh P n t ys):∃i,(Lit.int k i).wf=true/\ys=[.int k i]:=by
 cases n with
 | zero=>exact h.elim
 | succ n=>unfold Sh at h;rw[hu] at h;exact h
theorem Sh.sliceD{n:Nat}{t e:TypeId}{ys:List AV}(hu:P.underlying t=some (.slice e))(h:Sh P (n+1) t ys):∃es:List AV,es.length<=maxLen/\(∀x∈es,ShV P n e x)/\ys=[.lst es]:=by unfold Sh at h;rw[hu] at h;exact h
theorem ShV.intD{n:Nat}{t:TypeId}{k:IntKind}{a:AV}(h:ShV P n t a)(hu:P.underlying t=some (.int k)):∃i,(Lit.int k i).wf=true/\a = .int k i:=by obtain⟨ys,hs,rfl⟩:=h;obtain⟨i,hw,rfl⟩:=hs.intD hu;exact⟨i,hw,by simp[C4,hu,Eh]⟩
theorem ShV.sliceD{n:Nat}{t e:TypeId}{a:AV}(h:ShV P (n+1) t a)(hu:P.underlying t=some (.slice e)):∃es:List AV,es.length<=maxLen/\(∀x∈es,ShV P n e x)/\a = .lst es:=by obtain⟨ys,hs,rfl⟩:=h;obtain⟨es,h1,h2,rfl⟩:=hs.sliceD hu;exact⟨es,h1,h2,by simp[C4,hu,Eh]⟩
theorem EU.consD{n:Nat}{t:TypeId}{ts:List TypeId}{bs:List AV}(h:EU P n (t::ts) bs):∃a bs',bs=a::bs'/\ShV P n t a/\EU P n ts bs':=by
 cases bs with
 | nil=>exact h.elim
 | cons p ps=>exact⟨p,ps,rfl,h.1,h.2⟩
theorem EU.nilD{n:Nat}{bs:List AV}(h:EU P n [] bs):bs=[]:=by
 cases bs with
 | nil=>rfl
 | cons p ps=>exact h.elim
theorem trodAll_len{H:Type}{enc:TypeId×Value->H}{w:World}{base:Nat}{spare:Nat->Bool}{held:Bool}:∀{ts:List TypeId} {vs:List Value} {ds:List (DataW H)} {ps:List MemPlace},
  DataW.TrodAll enc P w base spare held ts vs ds ps->ds.length=ts.length:=by
 intro ts;induction ts with
 | nil=>intro vs ds ps h;cases vs<;>cases ds<;>simp_all [DataW.TrodAll]
 | cons t ts ih=>
  intro vs ds ps h;cases vs with
  | nil=>exact h.elim
  | cons v vs=>
   cases ds with
   | nil=>exact h.elim
   | cons d ds=>obtain⟨p,q,_,hr,_⟩:=h;simp[ih hr]
theorem list1{α:Type}{l:List α}(h:l.length=1):∃x0,l=[x0]:=
 match l,h with | [x0],_=>⟨_,rfl⟩
def wk1:AV->AV | .nils=>.lst [] | .lstc es=>.lst es | v=>v
def wkV:AV->AV | .nils=>.lst [] | .lstc es=>.lst es | .tup cs=>.tup (cs.map wk1) | v=>v
theorem VR.wk1{φ:Phi}{A:Nat->Prop}{w:World}{a:AV}{v:Value}(h:VR φ A w a v):VR φ A w (wk1 a) v:=by
 cases a<;>first | exact h | skip
 .cases h with
  | imm _ _ h=>cases h;exact .imm _ _ (.lnil none)
 .exact h.lstc_inv.choose_spec.2
theorem VR.wk{φ:Phi}{A:Nat->Prop}{w:World}{a:AV}{v:Value}(h:VR φ A w a v):VR φ A w (wkV a) v:=by
 cases a<;>first | exact h | skip
 .exact h.wk1
 .cases h with
  | imm _ _ h=>cases h
  | tup cs vs hl h=>
   refine .tup _ vs (by simpa using hl) fun i c v hc hv=>?_
   rw[TH] at hc;obtain⟨c',hc',rfl⟩:=Option.map_eq_some_iff.1 hc;exact(h i c' v hc' hv).wk1
 .exact h.wk1
theorem CT.wk{f:FuncId}{hin hout:List (Option Blk)}{args:List AV}{res:AV}(h:CT P f hin args hout res):CT P f hin args hout (wkV res):=by intro φ A w vs h1 h2 h3 h4 h5;refine(h φ A w vs h1 h2 h3 h4 h5).mono fun e w' ⟨v,φ',he,cp⟩=>⟨v,φ',he,{cp with val:=cp.val.wk}⟩
theorem CT.less{f:FuncId}{hin hout:List (Option Blk)}{args:List AV}{res res':AV}(h:CT P f hin args hout res)(hr:∀(φ:Phi) (A:Nat->Prop) (w:World) (v:Value),VR φ A w res v->VR φ A w res' v):CT P f hin args hout res':=by intro φ A w vs h1 h2 h3 h4 h5;refine(h φ A w vs h1 h2 h3 h4 h5).mono fun e w' ⟨v,φ',he,cp⟩=>⟨v,φ',he,{cp with val:=hr _ _ _ _ cp.val}⟩
theorem CT.to{f:FuncId}{hin hout:List (Option Blk)}{args args':List AV}{res res':AV}(h:CT P f hin args hout res)(ha:args=args')(hr:wkV res=res'):CT P f hin args' hout res':=by subst ha hr;exact h.wk
theorem CT.tos{f:FuncId}{hin hout:List (Option Blk)}{args args':List AV}{res res':AV}(h:CT P f hin args hout res)(ha:args=args')(hr:res=res'):CT P f hin args' hout res':=by subst ha hr;exact h
def HJ:List (Nat×AV)->List (Nat×AV) | []=>[] | (s,v)::r=>(s,wk1 v)::HJ r
theorem P4:∀(fr:List (Nat×AV)) (s:Nat),Aq (HJ fr) s=wk1 (Aq fr s):=by
 intro fr;induction fr with
 | nil=>intro s;rfl
 | cons x r ih=>
  intro s;obtain⟨t,v⟩:=x;simp only[HJ,Aq];split
  .rfl
  .exact ih s
abbrev iV (x : Int) : AV := .int .i64 x
abbrev uV (x : Int) : AV := .int .u64 x
abbrev bV (x : Bool) : AV := .bool x
abbrev bK (l : List AV) (z : Nat) : Blk := Blk.mk l z true true none
theorem nL {m n : Nat} (h : Nat.ble m n = true) : m <= n := TY h
def wkSt(st:St):St:={st with fr:=HJ st.fr}
theorem T.nil{m:Nat}{c:Code}{st:St}{post:Exit->St->Prop}(h:T P m c (wkSt st) post):T P m c st post:=by refine T.ren (st':=wkSt st) (fun A0 n0 φ a w hm hr=>⟨φ,⟨hr.defs,hr.size,fun s=>?_,hr.heap,hr.out,hr.base,hr.own⟩,hm,.refl m φ _ w⟩) h;show VR φ _ w (Aq (HJ st.fr) s) _;rw[P4];exact(hr.slot s).wk1
theorem CT.pathS{f:FuncId}{fn:Func}{c:Code}{hin hout:List (Option Blk)}{args:List AV}{res res':AV}{H:HT}{n:Nat}(hmix:P.follows .mixedOrders=true)(hf:P.funcs[f]?=some fn)(hb:fn.body=some c)(hn:args.length<=fn.ntmps) (h:∃o st' q,go P H hin.length n (.inl c) [] {n:=fn.ntmps,fr:=AH 0 args,hp:=hin}=some (o,st',q)/\q/\CG P hin.length (Fin P fn hin.length hout res) st' o) (hr:res=res'):CT P f hin args hout res':=(CT.path hmix hf hb hn h).tos rfl hr
theorem CT.pathW{f:FuncId}{fn:Func}{c:Code}{hin hout:List (Option Blk)}{args:List AV}{res res':AV}{H:HT}{n:Nat}(hmix:P.follows .mixedOrders=true)(hf:P.funcs[f]?=some fn)(hb:fn.body=some c)(hn:args.length<=fn.ntmps) (h:∃o st' q,go P H hin.length n (.inl c) [] {n:=fn.ntmps,fr:=AH 0 args,hp:=hin}=some (o,st',q)/\q/\CG P hin.length (Fin P fn hin.length hout res) st' o) (hr:wkV res=res'):CT P f hin args hout res':=(CT.path hmix hf hb hn h).to rfl hr
def Bl(post fin:Exit->St->Prop):Prop:=∀st,fin .ret st->post .ret st
theorem Bl.refl(post:Exit->St->Prop):Bl post post:=fun _ h=>h
theorem TK.ret{m:Nat}{post:Exit->St->Prop}{st:St}(h:post .ret st):∀k:List Kt,TK P m post k .ret st:=by
 intro k;induction k with
 | nil=>exact h
 | cons x k ih=>
  cases x with
  | code c=>exact ih
  | blk id=>exact ih
  | rnd c=>exact ih
theorem Bl.up{m:Nat}{post fin:Exit->St->Prop}(h:Bl post fin)(R:St->Prop)(k:List Kt):Bl (andThen R (TK P m post k)) fin:=fun st hf=>TK.ret (h st hf) k
def endT(P:Program)(fn:Func)(m:Nat)(σ fz:List Nat)(x:Option (Out×St×Prop)):Option (List (Option Blk)×AV×Prop):=
 match x with
 | some (.done .ret,_,_)=>endF P fn m σ fz x
 | _=>none
theorem CL{fn:Func}{m:Nat}{σ fz:List Nat}{x:Option (Out×St×Prop)}{hout:List (Option Blk)}{res:AV}{p:Prop}{post:Exit->St->Prop}(h:endT P fn m σ fz x=some (hout,res,p))(hp:p)(hP:Bl post (Fin P fn m hout res)):
  ∃o st q,x=some (o,st,q)/\q/\CG P m post st o:=by
 unfold endT at h;split at h
 case h_2=>cases h
 obtain⟨o,st,q,h1,h2,h3⟩:=zF h hp;cases h1;exact⟨_,_,_,rfl,h2,hP _ h3⟩
def wkE:AV->AV | .agg cs=>.agg (cs.map wk1) | v=>wk1 v
theorem Nn(e:AV):(wkE e).cells=e.cells.map wk1:=by cases e<;>rfl
def wkB(blk:Blk):Blk:={blk with es:=blk.es.map wkE}
def wkH:List (Option Blk)->List (Option Blk) | []=>[] | some b::r=>some (wkB b)::wkH r | none::r=>none::wkH r
theorem JP:∀(hp:List (Option Blk)) (b:Nat),nth (wkH hp) b=(nth hp b).map wkB:=by
 intro hp;induction hp with
 | nil=>intro b;cases b<;>rfl
 | cons x r ih=>intro b;cases x<;>cases b<;>first | rfl | exact ih _
theorem wk1_one{c:AV}(h:c.one=true):(wk1 c).one=true:=by cases c<;>first | exact h | rfl
theorem SN{c:AV}(h:c.noref=true):(wk1 c).noref=true:=by cases c<;>first | exact h | rfl
theorem HR.wk{φ:Phi}{A:Nat->Prop}{w:World}{hp:List (Option Blk)}(h:HR φ A w (nth hp)):HR φ A w (nth (wkH hp)):=by
 refine⟨fun b blk hb=>?_,fun b blk hb hf=>?_,fun b b' r z z' hb hb'=>h.inj b b' r z z' ?_ ?_⟩
 .rw[JP] at hb;obtain⟨blk',h4,rfl⟩:=Option.map_eq_some_iff.1 hb;rcases h.blk b blk' h4 with ⟨h1,h2,h3⟩ | ⟨r,cs,T,h1,h2,h3,h5⟩ | ⟨m,r,h1,h2,h3,h5⟩
  .exact .inl ⟨by simp[wkB,h1],h2,h3⟩
  case inr.inr=>exact .inr (.inr ⟨m,r,h1,h2,⟨by simp[wkB,h3.1],h3.2⟩,h5⟩)
  .refine .inr (.inl ⟨r,cs,T,h1,h2,by simpa [wkB] using h3,fun i e he=>?_⟩);simp only[wkB,TH] at he;obtain⟨e',he',rfl⟩:=Option.map_eq_some_iff.1 he;obtain⟨g1,g2⟩:=h5 i e' he';refine⟨by rw[Nn];simpa [wkB] using g1,fun j c hc=>?_⟩;rw[Nn,TH] at hc;obtain⟨c',hc',rfl⟩:=Option.map_eq_some_iff.1 hc;obtain⟨g3,v,g4,g5⟩:=g2 j c' hc';exact⟨wk1_one g3,v,g4,g5.wk1⟩
 .rw[JP] at hb;obtain⟨blk',h4,rfl⟩:=Option.map_eq_some_iff.1 hb;intro e he c hc;obtain⟨e',he',rfl⟩:=T4.1 he;rw[Nn] at hc;obtain⟨c',hc',rfl⟩:=T4.1 hc;exact SN (h.flat b blk' h4 hf e' he' c' hc')
 .rw[JP] at hb;simpa using hb
 .rw[JP] at hb';simpa using hb'
def sL:Code->Code | .seq a _=>a | c=>c
def sR:Nat->Code->Code | 0,c=>c | k+1,.seq _ b=>sR k b | _,c=>c
def isSeq:Code->Bool | .seq _ _=>true | _=>false
theorem T.cut{m:Nat}{c:Code}{st:St}{post:Exit->St->Prop}(hs:isSeq c=true)(h:T P m (sL c) st (andThen (fun st'=>T P m (sR 1 c) st' post) post)):T P m c st post:=by cases c<;>simp[isSeq] at hs;exact T.seq h
def Bj(c c':AV):Prop:=(c.one=true->c'.one=true)/\∀(φ:Phi) (A:Nat->Prop) (w:World) (v:Value),VR φ A w c v->VR φ A w c' v
theorem Bj.refl(c:AV):Bj c c:=⟨id,fun _ _ _ _ h=>h⟩
theorem Bj.nilL:Bj .nils (.lst []):=⟨fun _=>rfl,fun _ _ _ v h=>by rw[h.nils_inv];exact .imm _ _ (.lnil none)⟩
theorem Bj.nilS(b i:Nat):Bj .nils (.sl b i 0):=⟨fun _=>rfl,fun _ _ _ v h=>by rw[h.nils_inv];exact .slnil b i none⟩
theorem Bj.any{c:AV}(h:c.one=true):Bj c .any:=⟨fun _=>rfl,fun _ _ _ v hv=>.imm _ _ (.any v (hv.one h))⟩
theorem Bj.agg{cs cs':List AV}(hl:cs'.length=cs.length)(h:∀(i:Nat) (c':AV),cs'[i]?=some c'->∃c,cs[i]?=some c/\Bj c c'):Bj (.agg cs) (.agg cs'):=by
 refine⟨fun h0=>by simp[AV.one] at h0,fun φ A w v hv=>?_⟩;obtain⟨vs,rfl,hl2,hh⟩:=hv.agg_inv;refine .agg cs' vs (by omega) fun i c u hc hu=>?_
 obtain⟨c0,h1,h2⟩:=h i c hc;exact h2.2 φ A w u (hh i c0 u h1 hu)
structure Cg(blk blk':Blk):Prop where
 z:blk'.z=blk.z
 wr:blk'.wr=true->blk.wr=true
 mp:blk'.mp=blk.mp
 len:blk'.es.length<=blk.es.length
 el:∀(i:Nat) (e':AV),blk'.es[i]?=some e'->∃e:AV,blk.es[i]?=some e/\e'.cells.length=e.cells.length/\∀(j:Nat) (c':AV),e'.cells[j]?=some c'->∃c,e.cells[j]?=some c/\Bj c c'
 flat:blk'.flat=true->Ca blk'.es
 wr0:blk.es=[]->blk'.wr=blk.wr
theorem Cg.refl{blk:Blk}(hf:blk.flat=true->Ca blk.es):Cg blk blk:=⟨rfl,id,rfl,TI _,fun i e h=>⟨e,h,rfl,fun j c hc=>⟨c,hc,.refl c⟩⟩,hf,fun _=>rfl⟩
theorem Ren.less{m:Nat}{st st':St}(hn:st'.n=st.n)(hl:st.hp.length<=st'.hp.length)(hfr:∀s,Bj (Aq st.fr s) (Aq st'.fr s))
  (hhp:∀(b:Nat) (blk':Blk),nth st'.hp b=some blk'->(b<st.hp.length/\∃blk,nth st.hp b=some blk/\((blk'=blk)\/Cg blk blk'))\/(st.hp.length<=b/\blk'.es=[]/\blk'.wr=true/\blk'.mp=none/\blk'.flat=true)):Ren m st st':=by
 intro A0 n0 φ a w hm hr;have hmut:∀r,Mut φ st'.h r->Mut φ st.h r:=by
  rintro r ⟨b,blk',z,h1,h2,h3⟩
  rcases hhp b blk' h1 with ⟨_,blk,h4,h5⟩ | ⟨hb,_⟩
  .rcases h5 with rfl | h5
   .exact⟨b,_,z,h4,h2,h3⟩
   .exact⟨b,blk,z,h4,h5.wr h2,h3⟩
  .rw[hr.out b hb] at h3;cases h3
 have hok:∀r,Ok A0 n0 φ st.h w r->Ok A0 n0 φ st'.h w r:=fun r ⟨h1,h2,h3⟩=>⟨h1,h2,fun h=>h3 (hmut r h)⟩
 have mono:∀{c:AV} {v:Value},VR φ (Ok A0 n0 φ st.h w) w c v->VR φ (Ok A0 n0 φ st'.h w) w c v:=fun h=>h.mono (fun _ _ h=>h) hok (fun _ _=>rfl) (fun _=>TI _)
 refine⟨φ,⟨hr.defs,by rw[hn];exact hr.size,fun s=>mono ((hfr s).2 _ _ _ _ (hr.slot s)),⟨fun b blk' hb=>?_,fun b blk' hb hf=>?_,fun b b' r z z' hb hb' h1 h2=>?_⟩,fun b hb=>hr.out b (by omega),hr.base,hr.own⟩,by omega,fun _ _=>rfl,BU.refl _ w,fun r h=>.inl (hmut r h)⟩
 .rcases hhp b blk' hb with ⟨_,blk,h4,h5⟩ | ⟨hb0,h6,h7,h8,_⟩
  .have hbr:=hr.heap.blk b blk h4;have hb2:Cg blk blk'\/blk'=blk:=h5.elim .inr .inl;rcases hbr with ⟨h1,h2,h3,h3'⟩ | ⟨r,cs,T,h1,h2,h3,h5'⟩ | ⟨mm,r,h1,h2,h3,h5'⟩
   .rcases hb2 with g | rfl
    .exact .inl ⟨List.length_eq_zero_iff.1 (by have:=g.len;rw[h1] at this;simpa using this),h2,by rw[g.wr0 h1];exact h3,by rw[g.mp];exact h3'⟩
    .exact .inl ⟨h1,h2,h3,h3'⟩
   .rcases hb2 with g | rfl
    .refine .inr (.inl ⟨r,cs,T,by rw[g.z];exact h1,h2,⟨by rw[g.z];exact Uf (TQ _ g.len) h3.1,by rw[g.mp];exact h3.2⟩,fun i e' he'=>?_⟩);obtain⟨e,k1,k2,k3⟩:=g.el i e' he';obtain⟨k4,k5⟩:=h5' i e k1;refine⟨by rw[k2,g.z];exact k4,fun j c' hc'=>?_⟩;obtain⟨c,k6,k7⟩:=k3 j c' hc';obtain⟨k8,v,k9,k10⟩:=k5 j c k6;exact⟨k7.1 k8,v,by rw[g.z];exact k9,mono (k7.2 _ _ _ _ k10)⟩
    .refine .inr (.inl ⟨r,cs,T,h1,h2,h3,fun i e he=>⟨(h5' i e he).1,fun j c hc=>?_⟩⟩);obtain⟨g3,v,g4,g5⟩:=(h5' i e he).2 j c hc;exact⟨g3,v,g4,mono g5⟩
   .rcases hb2 with g | rfl
    .exact .inr (.inr ⟨mm,r,by rw[g.mp];exact h1,by rw[g.z];exact h2,⟨List.length_eq_zero_iff.1 (by have:=g.len;rw[h3.1] at this;simpa using this),by rw[g.z];exact h3.2⟩,h5'⟩)
    .exact .inr (.inr ⟨mm,r,h1,h2,h3,h5'⟩)
  .exact .inl ⟨h6,hr.out b hb0,h7,h8⟩
 .rcases hhp b blk' hb with ⟨_,blk,h4,h5⟩ | ⟨_,h6,_⟩
  .rcases h5 with rfl | h5
   .exact hr.heap.flat b _ h4 hf
   .exact h5.flat hf
  .rw[h6];intro e he;cases he
 .have lt:∀b r z,(st'.h b).isSome=true->φ b=some (r,z)->(st.h b).isSome=true:=by
   intro b r z hs hp;obtain⟨blk',hb'⟩:=Option.isSome_iff_exists.1 hs;rcases hhp b blk' hb' with ⟨_,blk,h4,_⟩ | ⟨hb0,_⟩
   .exact Option.isSome_iff_exists.2 ⟨blk,h4⟩
   .rw[hr.out b hb0] at hp;cases hp
  exact hr.heap.inj b b' r z z' (lt b r z hb h1) (lt b' r z' hb' h2) h1 h2
theorem T.less{m:Nat}{c:Code}{st st':St}{post:Exit->St->Prop}(hr:Ren m st st')(h:T P m c st' post):T P m c st post:=T.ren hr h
theorem Cg.br{φ:Phi}{A:Nat->Prop}{w:World}{b:Nat}{blk blk':Blk}(g:Cg blk blk')(h:BR φ A w b blk):BR φ A w b blk':=by
 rcases h with ⟨h1,h2,h3,h3'⟩ | ⟨r,cs,T,h1,h2,h3,h5'⟩ | ⟨mm,r,h1,h2,h3,h5'⟩
 .exact .inl ⟨List.length_eq_zero_iff.1 (by have:=g.len;rw[h1] at this;simpa using this),h2,by rw[g.wr0 h1];exact h3,by rw[g.mp];exact h3'⟩
 .refine .inr (.inl ⟨r,cs,T,by rw[g.z];exact h1,h2,⟨by rw[g.z];exact Uf (TQ _ g.len) h3.1,by rw[g.mp];exact h3.2⟩,fun i e' he'=>?_⟩);obtain⟨e,k1,k2,k3⟩:=g.el i e' he';obtain⟨k4,k5⟩:=h5' i e k1;refine⟨by rw[k2,g.z];exact k4,fun j c' hc'=>?_⟩;obtain⟨c,k6,k7⟩:=k3 j c' hc';obtain⟨k8,v,k9,k10⟩:=k5 j c k6;exact⟨k7.1 k8,v,by rw[g.z];exact k9,k7.2 _ _ _ _ k10⟩
 .exact .inr (.inr ⟨mm,r,by rw[g.mp];exact h1,by rw[g.z];exact h2,⟨List.length_eq_zero_iff.1 (by have:=g.len;rw[h3.1] at this;simpa using this),by rw[g.z];exact h3.2⟩,h5'⟩)
theorem CT.lessOut{f:FuncId}{hin hout hout':List (Option Blk)}{args:List AV}{res:AV}(h:CT P f hin args hout res)(hl:hout'.length=hout.length)
  (hb:∀(b:Nat) (blk':Blk),nth hout' b=some blk'->∃blk,nth hout b=some blk/\Cg blk blk'/\blk'.wr=blk.wr):CT P f hin args hout' res:=by
 intro φ A w vs h1 h2 h3 h4 h5;refine(h φ A w vs h1 h2 h3 h4 h5).mono fun e w' ⟨v,φ',he,C⟩=>⟨v,φ',he,?_⟩
 have hmut:∀r,Mut φ' (nth hout') r->Mut φ' (nth hout) r:=by
  rintro r ⟨b,blk',z,g1,g2,g3⟩
  obtain⟨blk,g4,g5,_⟩:=hb b blk' g1;exact⟨b,blk,z,g4,g5.wr g2,g3⟩
 have hok:∀r,Ok A w.heap.size φ' (nth hout) w' r->Ok A w.heap.size φ' (nth hout') w' r:=fun r ⟨g1,g2,g3⟩=>⟨g1,g2,fun h=>g3 (hmut r h)⟩
 have mono:∀{c:AV} {u:Value},VR φ' (Ok A w.heap.size φ' (nth hout) w') w' c u->VR φ' (Ok A w.heap.size φ' (nth hout') w') w' c u:=fun h=>h.mono (fun _ _ h=>h) hok (fun _ _=>rfl) (fun _=>TI _)
 have brm:∀{b:Nat} {blk:Blk},BR φ' (Ok A w.heap.size φ' (nth hout) w') w' b blk->BR φ' (Ok A w.heap.size φ' (nth hout') w') w' b blk:=by
  rintro b blk (h1 | ⟨r,cs,T,h1,h2,h3,h5⟩ | h1)
  .exact .inl h1
  .refine .inr (.inl ⟨r,cs,T,h1,h2,h3,fun i e he=>⟨(h5 i e he).1,fun j c hc=>?_⟩⟩);obtain⟨g3,v,g4,g5⟩:=(h5 i e he).2 j c hc;exact⟨g3,v,g4,mono g5⟩
  .exact .inr (.inr h1)
 have hsome:∀b,(nth hout' b).isSome=true->(nth hout b).isSome=true:=by intro b hs;obtain⟨blk',hb'⟩:=Option.isSome_iff_exists.1 hs;obtain⟨blk,g,_⟩:=hb b blk' hb';exact Option.isSome_iff_exists.2 ⟨blk,g⟩
 refine⟨C.par,C.keep,fun r hr=>C.mutd r (hmut r hr),⟨fun b blk' hb'=>?_,fun b blk' hb' hf=>?_,fun b b' r z z' hs hs'=>C.heap.inj b b' r z z' (hsome b hs) (hsome b' hs')⟩,mono C.val,fun b hb'=>C.out b (by omega),by rw[hl];exact C.len,C.own⟩
 .obtain⟨blk,g1,g2,_⟩:=hb b blk' hb';exact brm (g2.br (C.heap.blk b blk g1))
 .obtain⟨blk,g1,g2,_⟩:=hb b blk' hb';exact g2.flat hf
theorem CT.lessArgs{f:FuncId}{hin hout:List (Option Blk)}{args args':List AV}{res:AV}(h:CT P f hin args' hout res)(hl:args'.length=args.length)(ha:∀(i:Nat) (a':AV),args'[i]?=some a'->∃a,args[i]?=some a/\Bj a a'):CT P f hin args hout res:=by
 intro φ A w vs h1 h2 h3 h4 h5;refine h φ A w vs h1 h2 h3 (by omega) fun i c v hc hv=>?_
 obtain⟨a,g1,g2⟩:=ha i c hc;exact g2.2 φ A w v (h5 i a v g1 hv)
def onH(f:Blk->Blk):Nat->List (Option Blk)->List (Option Blk) | _,[]=>[] | 0,some blk::r=>some (f blk)::r | 0,none::r=>none::r | b+1,x::r=>x::onH f b r
theorem HB(f:Blk->Blk):∀(hp:List (Option Blk)) (b b':Nat),nth (onH f b hp) b'=if b'=b then (nth hp b').map f else nth hp b':=by
 intro hp;induction hp with
 | nil=>intro b b';simp[onH,nth]
 | cons x r ih=>
  intro b b';cases b with
  | zero=>cases b'<;>cases x<;>simp[onH,nth]
  | succ b=>
   cases b' with
   | zero=>simp[onH,nth]
   | succ b'=>simp[onH,nth,ih b b']
theorem Oc(f:Blk->Blk):∀(hp:List (Option Blk)) (b:Nat),(onH f b hp).length=hp.length:=by
 intro hp;induction hp with
 | nil=>intro b;cases b<;>rfl
 | cons x r ih=>intro b;cases b<;>cases x<;>simp[onH,ih]
theorem Mut_onH{f:Blk->Blk}(hf:∀blk,(f blk).wr=blk.wr){φ:Phi}{hp:List (Option Blk)}{b r:Nat}:Mut φ (nth (onH f b hp)) r↔Mut φ (nth hp) r:=by
 constructor
 .rintro⟨b',blk,z,h1,h2,h3⟩
  rw[HB] at h1;split at h1
  .obtain⟨blk',h4,rfl⟩:=Option.map_eq_some_iff.1 h1;exact⟨b',blk',z,h4,by rw[<-hf];exact h2,h3⟩
  .exact⟨b',blk,z,h1,h2,h3⟩
 .rintro⟨b',blk,z,h1,h2,h3⟩
  by_cases hb:b'=b
  .exact⟨b',f blk,z,by rw[HB,Tv hb,h1];rfl,by rw[hf];exact h2,h3⟩
  .exact⟨b',blk,z,by rw[HB,Tw hb];exact h1,h2,h3⟩
theorem Ren.wk(m:Nat)(st:St):Ren m st (wkSt st):=by intro A0 n0 φ a w hm hr;refine⟨φ,⟨hr.defs,hr.size,fun s=>?_,hr.heap,hr.out,hr.base,hr.own⟩,hm,.refl m φ _ w⟩;show VR φ _ w (Aq (HJ st.fr) s) _;rw[P4];exact(hr.slot s).wk1
def Ed(blk:Blk):Blk:=match blk.es with
 | [.agg cs]=>{blk with es:=cs,z:=1}
 | _=>blk
def Fz(b:Nat)(v:AV):AV:=match v with
 | .ptr b' i j=>match Nat.beq b' b,i with
  | false,_=>v
  | true,0=>.ptr b j 0
  | true,_=>.unk
 | .sl b' _ _=>match Nat.beq b' b with
  | false=>v
  | true=>.unk
 | .agg cs=>match Bg cs with
  | true=>v
  | false=>.unk
 | .tup cs=>match Bg cs with
  | true=>v
  | false=>.unk
 | .fn _ _=>.unk
 | .ifc _ _=>.unk
 | .map b'=>match Nat.beq b' b with
  | false=>v
  | true=>.unk
 | v=>v
def Im(b:Nat):List (Nat×AV)->List (Nat×AV) | []=>[] | (s,v)::r=>(s,Fz b v)::Im b r
theorem RJ(b:Nat):∀(fr:List (Nat×AV)) (s:Nat),Aq (Im b fr) s=Fz b (Aq fr s):=by
 intro fr;induction fr with
 | nil=>intro s;rfl
 | cons x r ih=>
  intro s;obtain⟨t,v⟩:=x;simp only[Im,Aq];split
  .rfl
  .exact ih s
def E0(b:Nat)(st:St):St:={st with fr:=Im b st.fr,hp:=onH Ed b st.hp}
def I7(hp:List (Option Blk)):Bool:=hp.all fun x=>match x with | some blk=>blk.flat | none=>true
def Mu(hp:List (Option Blk))(b:Nat):Bool:=match nth hp b with
 | some blk=>match blk.es with
  | [.agg _]=>true
  | _=>false
 | none=>false
theorem Qj:∀{hp:List (Option Blk)},I7 hp=true->∀b blk,nth hp b=some blk->blk.flat=true:=by
 intro hp;induction hp with
 | nil=>intro _ b blk h;cases b<;>cases h
 | cons x r ih=>
  intro h b blk hb;simp only[I7,List.all_cons,TF] at h;cases b with
  | zero=>simp[nth] at hb;subst hb;exact h.1
  | succ b=>exact ih h.2 b blk (by simpa [nth] using hb)
theorem VR.noref_any{φ φ':Phi}{A A':Nat->Prop}{w:World}{c:AV}{v:Value}(h:VR φ A w c v)(hn:c.noref=true)(hA:∀r,A r->A' r):VR φ' A' w c v:=.imm _ _ ((h.noref_rt hn).mono hA (fun _ _=>rfl))
theorem Ren.flat(m b:Nat)(st:St)(hmb:m<=b)(hf:I7 st.hp=true)(ha:Mu st.hp b=true):Ren m st (E0 b st):=by
 intro A0 n0 φ a w hm hr;let φ':Phi:=fun x=>if x=b then (φ x).map (fun p=>(p.1,1)) else φ x
 have hwr:∀blk,(Ed blk).wr=blk.wr:=by intro blk;unfold Ed;split<;>rfl
 have hmut:∀r,Mut φ' (nth (onH Ed b st.hp)) r↔Mut φ (nth st.hp) r:=by
  intro r;rw[Mut_onH hwr];constructor
  .rintro⟨b',blk,z,h1,h2,h3⟩
   simp only[φ'] at h3;split at h3
   .obtain⟨p,h4,h5⟩:=Option.map_eq_some_iff.1 h3;simp only[Tl] at h5;exact⟨b',blk,p.2,h1,h2,by rw[h4,<-h5.1]⟩
   .exact⟨b',blk,z,h1,h2,h3⟩
  .rintro⟨b',blk,z,h1,h2,h3⟩
   by_cases hb:b'=b
   .exact⟨b',blk,1,h1,h2,by simp only[φ'];rw[Tv hb,h3];rfl⟩
   .exact⟨b',blk,z,h1,h2,by simp only[φ'];rw[Tw hb];exact h3⟩
 have hok:∀r,Ok A0 n0 φ st.h w r->Ok A0 n0 φ' (E0 b st).h w r:=fun r ⟨h1,h2,h3⟩=>⟨h1,h2,fun h=>h3 ((hmut r).1 h)⟩
 have hne:∀x,x≠b->φ' x=φ x:=fun x hx=>by simp only[φ'];rw[Tw hx]
 have vr:∀{v:AV} {u:Value},VR φ (Ok A0 n0 φ st.h w) w v u->VR φ' (Ok A0 n0 φ' (E0 b st).h w) w (Fz b v) u:=by
  intro v u h;cases v with
  | ptr b' i j=>
   simp only[Fz];cases hbb:Nat.beq b' b with
   | false=>
    obtain⟨r,z,h1,rfl⟩:=h.ptr_inv;have:b'≠b:=fun e=>by subst e;rw[Nat.beq_refl] at hbb;cases hbb
    exact .ptr b' i j r z (by rw[hne b' this];exact h1)
   | true=>
    have:=TE hbb;subst this;obtain⟨r,z,h1,rfl⟩:=h.ptr_inv;cases i with
    | zero=>have:=VR.ptr (φ:=φ') (A:=Ok A0 n0 φ' (E0 b' st).h w) (w:=w) b' j 0 r 1 (by simp only[φ'];rw[h1];rfl);simpa using this
    | succ i=>exact .imm _ _ (.unk _)
  | sl b' i n=>
   simp only[Fz];cases hbb:Nat.beq b' b with
   | false=>
    have:b'≠b:=fun e=>by subst e;rw[Nat.beq_refl] at hbb;cases hbb
    rcases h.sl_inv with ⟨rfl,a,rfl⟩ | ⟨r,z,cap,h1,h2,h3,rfl⟩
    .exact .slnil b' i a
    .exact .sl b' i n r z cap (by rw[hne b' this];exact h1) h2 h3
   | true=>exact .imm _ _ (.unk _)
  | agg cs=>
   simp only[Fz];cases hn:Bg cs with
   | false=>exact .imm _ _ (.unk _)
   | true=>obtain⟨us,rfl,hl,hh⟩:=h.agg_inv;exact .agg cs us hl fun i c v hc hv=>(hh i c v hc hv).noref_any (TN.1 hn c (TB hc)) hok
  | tup cs=>
   simp only[Fz];cases hn:Bg cs with
   | false=>exact .imm _ _ (.unk _)
   | true=>obtain⟨us,rfl,hl,hh⟩:=h.tup_inv;exact .tup cs us hl fun i c v hc hv=>(hh i c v hc hv).noref_any (TN.1 hn c (TB hc)) hok
  | fn f cs=>exact .imm _ _ (.unk _)
  | ifc f cs=>exact .imm _ _ (.unk _)
  | map b'=>
   simp only[Fz];cases hbb:Nat.beq b' b with
   | false=>
    have:b'≠b:=fun e=>by subst e;rw[Nat.beq_refl] at hbb;cases hbb
    obtain⟨r,z,h1,rfl⟩:=h.map_inv;exact .map b' r z (by rw[hne b' this];exact h1)
   | true=>exact .imm _ _ (.unk _)
  | _=>exact h.noref_any rfl hok
 have cellV:∀{b':Nat} {blk:Blk},nth st.hp b'=some blk->∀{e c:AV} {u:Value},e∈blk.es->c∈e.cells->VR φ (Ok A0 n0 φ st.h w) w c u->VR φ' (Ok A0 n0 φ' (E0 b st).h w) w c u:=by intro b' blk hb e c u he hc h;exact h.noref_any (hr.heap.flat b' blk hb (Qj hf b' blk hb) e he c hc) hok
 refine⟨φ',⟨hr.defs,hr.size,fun s=>?_,?_,fun b' hb=>?_,hr.base,fun b' r z hb h1=>?_⟩,by simpa [E0,Oc] using hm,fun b' hb=>?_,BU.refl _ w,fun r h=>.inl ((hmut r).1 h)⟩
 .show VR φ' _ w (Aq (Im b st.fr) s) _;rw[RJ];exact vr (hr.slot s)
 .refine⟨fun b' blk hb=>?_,fun b' blk hb hfl=>?_,fun b1 b2 r z z' h1 h2 g1 g2=>?_⟩
  .change nth (onH Ed b st.hp) b'=some blk at hb;rw[HB] at hb;split at hb
   .rename_i hbb;subst hbb;obtain⟨blk',h4,rfl⟩:=Option.map_eq_some_iff.1 hb;have hes:∃cs,blk'.es=[.agg cs]:=by
     unfold Mu at ha;rw[h4] at ha;simp only at ha;split at ha
     .rename_i cs he;exact⟨cs,he⟩
     .cases ha
    obtain⟨cs,hes⟩:=hes;have hfb:Ed blk'={blk' with es:=cs,z:=1}:=by unfold Ed;rw[hes]
    rw[hfb];rcases hr.heap.blk b' blk' h4 with ⟨h1,_⟩ | ⟨r,cells,T,h1,h2,⟨h3,hmp⟩,h5⟩ | ⟨_,_,_,_,⟨h1,_⟩,_⟩
    .rw[hes] at h1;cases h1
    case inr.inr=>rw[hes] at h1;cases h1
    .obtain⟨g1,g2⟩:=h5 0 (.agg cs) (by rw[hes];rfl);simp only[AV.cells] at g1 g2;refine .inr (.inl ⟨r,cells,T,by simp only[φ'];rw[h1];rfl,h2,⟨?_,hmp⟩,fun i c hc=>?_⟩)
     .simp only[Nat.mul_one];rw[hes] at h3;simp only[Uc,Nat.one_mul] at h3;omega
     .obtain⟨g3,u,g4,g5⟩:=g2 i c hc;have hcc:=KS g3;refine⟨by rw[hcc];rfl,fun j c' hj=>?_⟩;rw[hcc] at hj;match j,hj with
      | 0,hj=>simp at hj;subst hj;refine⟨g3,u,by simpa using g4,?_⟩;exact cellV h4 (e:=.agg cs) (by rw[hes];simp) (TB hc) g5
   .rename_i hbb;rcases hr.heap.blk b' blk hb with ⟨h1,h2,h3⟩ | ⟨r,cells,T,h1,h2,h3,h5⟩ | ⟨m,r,h1,h2,h3,h5⟩
    .exact .inl ⟨h1,by rw[hne b' hbb];exact h2,h3⟩
    case inr.inr=>exact .inr (.inr ⟨m,r,h1,by rw[hne b' hbb];exact h2,h3,h5⟩)
    .refine .inr (.inl ⟨r,cells,T,by rw[hne b' hbb];exact h1,h2,h3,fun i e he=>⟨(h5 i e he).1,fun j c hc=>?_⟩⟩);obtain⟨g3,u,g4,g5⟩:=(h5 i e he).2 j c hc;exact⟨g3,u,g4,cellV hb (TB he) (TB hc) g5⟩
  .change nth (onH Ed b st.hp) b'=some blk at hb;rw[HB] at hb;split at hb
   .obtain⟨blk',h4,rfl⟩:=Option.map_eq_some_iff.1 hb;have hno:=hr.heap.flat b' blk' h4 (Qj hf b' blk' h4);have h5:=hr.heap.blk b' blk' h4;intro e he c hc;unfold Ed at he;split at he
    .rename_i cs hes;simp only at he;rcases h5 with ⟨h1,_⟩ | ⟨r,cells,T,h1,h2,h3,h5⟩ | ⟨_,_,_,_,⟨h1,_⟩,_⟩
     .rw[hes] at h1;cases h1
     case inr.inr=>rw[hes] at h1;cases h1
     .obtain⟨i,hi⟩:=List.getElem?_of_mem he;obtain⟨g3,_⟩:=(h5 0 (.agg cs) (by rw[hes];rfl)).2 i e hi;rw[KS g3] at hc;simp at hc;subst hc;exact hno (.agg cs) (by rw[hes];simp) c he
    .exact hno e he c hc
   .exact hr.heap.flat b' blk hb hfl
  .have up:∀x r z,φ' x=some (r,z)->∃z',φ x=some (r,z'):=by
    intro x r z h;simp only[φ'] at h;split at h
    .obtain⟨p,h4,h5⟩:=Option.map_eq_some_iff.1 h;simp only[Tl] at h5;exact⟨p.2,by rw[h4,<-h5.1]⟩
    .exact⟨z,h⟩
   have iss:∀x,(nth (onH Ed b st.hp) x).isSome=true->(nth st.hp x).isSome=true:=by intro x h;rw[HB] at h;split at h<;>simpa using h
   obtain⟨z1,k1⟩:=up b1 r z g1;obtain⟨z2,k2⟩:=up b2 r z' g2;exact hr.heap.inj b1 b2 r z1 z2 (iss b1 h1) (iss b2 h2) k1 k2
 .have h0:=hr.out b' (by simpa [E0,Oc] using hb);simp only[φ'];split
  .rw[h0];rfl
  .exact h0
 .simp only[φ'] at h1;split at h1
  .obtain⟨p,h4,h5⟩:=Option.map_eq_some_iff.1 h1;simp only[Tl] at h5;exact hr.own b' r p.2 hb (by rw[h4,<-h5.1])
  .exact hr.own b' r z hb h1
 .exact hne b' (by omega)
inductive Ks where | code (c:Code) | blk (id:Nat) | rnd (c:Code) | scp
def TS(P:Program)(m:Nat)(post:Exit->St->Prop):List Ks->Exit->St->Prop
 | [],e,st=>post e st
 | .code c::k,e,st=>match e with
  | .normal=>T P m c st (TS P m post k)
  | e=>TS P m post k e st
 | .blk id::k,e,st=>Ei id (TS P m post k) e st
 | .rnd c::k,e,st=>match e with
  | .normal=>TL P m c st (TS P m post k)
  | e=>TS P m post k e st
 | .scp::k,e,st=>match e with
  | .goto _=>False
  | e=>TS P m post k e st
inductive DQ where | done (e:Exit) | loop (c:Code) (k:List Ks)
def Ia(p:Prop):Option (DQ×St×Prop)->Option (DQ×St×Prop) | some (o,s,q)=>some (o,s,p/\q) | none=>none
theorem T.label{m l:Nat}{st:St}{post:Exit->St->Prop}(h:post .normal st):T P m (.label l) st post:=fun _ _ φ _ w hm hr=>wp_label ⟨φ,st,h,hr,hm,.refl m φ st.h w⟩
theorem T.scope{m:Nat}{c:Code}{st:St}{post:Exit->St->Prop}(h:T P m c st (fun e s=>match e with | .goto _=>False | e=>post e s)):T P m (.scope c) st post:=by intro A0 n0 φ a w hm hr;refine wp_scope_straight (wp_mono (h A0 n0 φ a w hm hr) fun e a' w' hq=>?_);obtain⟨φ',st',h1,h2⟩:=hq;cases e<;>first | exact h1.elim | exact⟨φ',st',h1,h2⟩
theorem nth_lt0{α:Type}{l:List (Option α)}{b:Nat}{x:α}(h:nth l b=some x):b<l.length:=by
 induction l generalizing b with
 | nil=>simp[nth] at h
 | cons y r ih=>cases b with
  | zero=>simp
  | succ b=>have:=ih (b:=b) (by simpa [nth] using h);simp;omega
def flats(m id:Nat):List (Nat×Nat)->St->Option St
 | [],st=>some st
 | (r,b)::l,st=>match Nat.beq r id with
  | false=>flats m id l st
  | true=>match Nat.ble m b&&I7 st.hp&&Mu st.hp b with
   | true=>flats m id l (E0 b st)
   | false=>none
theorem Ren.flats{m id:Nat}:∀{l:List (Nat×Nat)} {st st':St},flats m id l st=some st'->Ren m st st'
 | [],st,st',h=>by cases h;exact .refl _ _
 | (r,b)::l,st,st',h=>by
  simp only[Go.AX.flats] at h;split at h
  .exact Ren.flats h
  .split at h
   .rename_i hc;simp only[TF] at hc;exact(Ren.flat m b st (TY hc.1.1) hc.1.2 hc.2).trans (Ren.flats h)
   .cases h
def dropA:List (Nat×Bool)->Nat->List (Nat×Bool)
 | [],_=>[]
 | (k,v)::r,s=>match Nat.beq k s with | true=>r | false=>(k,v)::dropA r s
def KJ(H:HT)(s:Nat):HT:={H with dec:=dropA H.dec s}
def setB(x:Operand)(v:Bool)(st:St):St:=match x with
 | .tmp s=>{n:=st.n,fr:=(s,.bool v)::st.fr,hp:=st.hp}
 | _=>st
theorem Ren.setB{m:Nat}{x:Operand}{v:Bool}{st:St}(h:st.ev x = .bool v):Ren m st (setB x v st):=by
 cases x with
 | tmp s=>
  refine Ren.less rfl (TI _) (fun t=>?_) fun b blk' hb=>.inl ⟨nth_lt0 hb,blk',hb,.inl rfl⟩
  simp only[Go.AX.setB,Aq];cases hq:Nat.beq s t with
  | true=>have:=TE hq;subst this;have h':Aq st.fr s = .bool v:=h;rw[h'];exact .refl _
  | false=>exact .refl _
 | _=>exact .refl _ _
def gm(P:Program)(F:List (Nat×Nat))(m:Nat):Nat->HT->Code⊕Exit->List Ks->St->Option (DQ×St×Prop)
 | 0,_,_,_,_=>none
 | n+1,H,.inl c,k,st=>match c with
  | .seq a b=>gm P F m n H (.inl a) (.code b::k) st
  | .block id c=>gm P F m n H (.inl c) (.blk id::k) st
  | .region id ops dr=>match flats m id F st with
   | some st0=>match Ib P H m ops dr st0 with
    | some (st',p)=>Ia p (gm P F m n H (.inr .normal) k st')
    | none=>none
   | none=>none
  | .cond x c d=>match st.ev x with
   | .bool b=>match (gd H (C5 x) b).1 with
    | true=>Ia (gd H (C5 x) b).2 (gm P F m n (KJ H (C5 x)) (.inl c) k (setB x true st))
    | false=>Ia (gd H (C5 x) b).2 (gm P F m n (KJ H (C5 x)) (.inl d) k (setB x false st))
   | _=>none
  | .skip=>gm P F m n H (.inr .normal) k st
  | .ret=>gm P F m n H (.inr .ret) k st
  | .exit id=>gm P F m n H (.inr (.exit id)) k st
  | .loop c=>some (.loop c k,st,True)
  | .scope c=>gm P F m n H (.inl c) (.scp::k) st
  | .label _=>gm P F m n H (.inr .normal) k st
  | _=>none
 | n+1,H,.inr e,k,st=>match k with
  | []=>some (.done e,st,True)
  | .code c::k=>match e with
   | .normal=>gm P F m n H (.inl c) k st
   | e=>gm P F m n H (.inr e) k st
  | .blk id::k=>gm P F m n H (.inr (HI id e)) k st
  | .rnd c::k=>match e with
   | .normal=>some (.loop c k,st,True)
   | e=>gm P F m n H (.inr e) k st
  | .scp::k=>match e with
   | .goto _=>none
   | e=>gm P F m n H (.inr e) k st
def RestM(P:Program)(m:Nat)(post:Exit->St->Prop)(st:St):DQ->Prop | .done e=>post e st | .loop c k=>TL P m c st (TS P m post k)
theorem HN{F:List (Nat×Nat)}{m:Nat}{post:Exit->St->Prop}(hmix:P.follows .mixedOrders=true):∀(n:Nat) (H:HT) (c:Code⊕Exit) (k:List Ks) (st:St) (o:DQ) (st':St) (p:Prop),
  gm P F m n H c k st=some (o,st',p)->p->RestM P m post st' o->match c with
   | .inl c=>T P m c st (TS P m post k)
   | .inr e=>TS P m post k e st:=by
 have hcj:∀{p:Prop} {x:Option (DQ×St×Prop)} {o:DQ} {st':St} {q:Prop},Ia p x=some (o,st',q)->∃q',x=some (o,st',q')/\q=(p/\q'):=by
  intro p x o st' q h;unfold Ia at h;split at h
  .cases h;exact⟨_,rfl,rfl⟩
  .cases h
 intro n;induction n with
 | zero=>intro H c k st o st' p h;simp[gm] at h
 | succ n ih=>
  intro H c k st o st' p h hp hrest;cases c with
  | inl c=>
   cases c<;>simp only[gm] at h
   case seq a b=>refine T.seq ((ih _ _ _ _ _ _ _ h hp hrest).mono fun e s hs=>?_);cases e<;>exact hs
   case block id c=>refine T.block ((ih _ _ _ _ _ _ _ h hp hrest).mono fun e s hs=>?_);exact hs
   case region id ops dr=>
    split at h
    .rename_i st0 h0;split at h
     .rename_i st1 p1 h1;obtain⟨q,h2,rfl⟩:=hcj h;exact T.ren (Ren.flats h0) (T.region hmix h1 hp.1 (ih _ _ _ _ _ _ _ h2 hp.2 hrest))
     .cases h
    .cases h
   case cond x c d=>
    split at h
    .rename_i b hb;split at h
     .rename_i hg;obtain⟨q,h2,rfl⟩:=hcj h;have hev:st.ev x = .bool true:=by rw[hb,EQ hp.1,hg]
      exact T.cond_true hev (T.ren (Ren.setB hev) (ih _ _ _ _ _ _ _ h2 hp.2 hrest))
     .rename_i hg;obtain⟨q,h2,rfl⟩:=hcj h;have hev:st.ev x = .bool false:=by rw[hb,EQ hp.1,hg]
      exact T.cond_false hev (T.ren (Ren.setB hev) (ih _ _ _ _ _ _ _ h2 hp.2 hrest))
    .cases h
   case skip=>exact T.skip (ih _ _ _ _ _ _ _ h hp hrest)
   case ret=>exact T.ret (ih _ _ _ _ _ _ _ h hp hrest)
   case exit id=>exact T.exit (ih _ _ _ _ _ _ _ h hp hrest)
   case loop c=>cases h;exact T.of_TL hrest
   case scope c=>refine T.scope ((ih _ _ _ _ _ _ _ h hp hrest).mono fun e s hs=>?_);cases e<;>exact hs
   case label l=>exact T.label (ih _ _ _ _ _ _ _ h hp hrest)
   all_goals cases h
  | inr e=>
   cases k with
   | nil=>simp only[gm] at h;cases h;exact hrest
   | cons x k=>
    cases x with
    | code c=>
     cases e<;>simp only[gm] at h
     case normal=>exact ih _ _ _ _ _ _ _ h hp hrest
     all_goals exact ih _ _ _ _ _ _ _ h hp hrest
    | rnd c=>
     cases e<;>simp only[gm] at h
     case normal=>cases h;exact hrest
     all_goals exact ih _ _ _ _ _ _ _ h hp hrest
    | scp=>
     cases e<;>simp only[gm] at h
     case goto l=>cases h
     all_goals exact ih _ _ _ _ _ _ _ h hp hrest
    | blk id=>
     simp only[gm] at h;have:=ih _ _ _ _ _ _ _ h hp hrest;cases e<;>simp only[HI] at this
     case exit id'=>
      show Ei id _ _ _;simp only[Ei];split at this
      .rename_i hb;rw[Tv (TE hb)];exact this
      .rename_i hb;rw[Tw (fun e=>by rw[e,Nat.beq_refl] at hb;cases hb)];exact this
     all_goals exact this
def EB:Code->List Ks->List (Code×List Ks) | .seq a b,k=>EB a (.code b::k)++EB b k | .block id c,k=>EB c (.blk id::k) | .cond _ c d,k=>EB c k++EB d k | .loop c,k=>(c,k)::EB c (.rnd c::k) | .scope c,k=>EB c (.scp::k) | _,_=>[]
def Aw(fn:Func)(i:Nat):Code:=match (EB (zB fn) [])[i]? with | some x=>x.1 | none=>.skip
def AJ(fn:Func)(i:Nat):List Ks:=match (EB (zB fn) [])[i]? with | some x=>x.2 | none=>[]
theorem TL.ren{m:Nat}{c:Code}{st st':St}{post:Exit->St->Prop}(h:Ren m st st')(ht:TL P m c st' post):TL P m c st post:=fun A0 n0 φ a w hm hr b k cs=>by obtain⟨φ1,h1,h2,h3⟩:=h A0 n0 φ a w hm hr;obtain⟨e,a',w',hq,harr⟩:=ht A0 n0 φ1 a w h2 h1 b k cs;exact⟨e,a',w',hq.trans h3,harr⟩
inductive Ax {σ ρ:Type} (step:σ->Option (σ⊕ρ)):Option (σ⊕ρ)->ρ->Prop | ret (r:ρ):Ax step (some (.inr r)) r | go (s:σ) (r:ρ) (h:Ax step (step s) r):Ax step (some (.inl s)) r
abbrev Ret:=List (Option Blk)×AV
def Arr{σ:Type}(P:Program)(fn:Func)(m:Nat)(S:σ->St)(hd:σ->Nat)(c:Code)(k:List Ks)(st:St):σ⊕Ret->Prop | .inl s=>∀post:Exit->St->Prop,(∀st',Ren m st' (S s)->TL P m (Aw fn (hd s)) st' (TS P m post (AJ fn (hd s))))->T P m c st (TS P m post k) | .inr r=>T P m c st (TS P m (Fin P fn m r.1 r.2) k)
def MOk{σ:Type}(P:Program)(fn:Func)(m:Nat)(S:σ->St)(hd:σ->Nat)(r:Ret):Option (σ⊕Ret)->Prop | some (.inl s)=>∀st',Ren m st' (S s)->TL P m (Aw fn (hd s)) st' (TS P m (Fin P fn m r.1 r.2) (AJ fn (hd s))) | some (.inr q)=>q=r | none=>False
theorem mach{σ:Type}{fn:Func}{m:Nat}{S:σ->St}{hd:σ->Nat}{step:σ->Option (σ⊕Ret)}
  (hs:∀s o,step s=some o->Arr P fn m S hd (Aw fn (hd s)) (.rnd (Aw fn (hd s))::AJ fn (hd s)) (S s) o) {x:Option (σ⊕Ret)} {r:Ret} (h:Ax step x r):
  MOk P fn m S hd r x:=by
 induction h with
 | ret r=>rfl
 | go s r h ih=>
  intro st' hren;refine TL.ren hren (TL.round ?_);generalize ho:step s=x at ih;cases x with
  | none=>exact ih.elim
  | some o=>
   have ha:=hs s o ho;have key:T P m (Aw fn (hd s)) (S s) (TS P m (Fin P fn m r.1 r.2) (.rnd (Aw fn (hd s))::AJ fn (hd s))):=by
    cases o with
    | inl s'=>exact ha _ ih
    | inr q=>have e:q=r:=ih
             subst e;exact ha
   refine key.mono fun e s2 h2=>?_
   cases e<;>exact h2
theorem CT.mach{σ:Type}{f:FuncId}{fn:Func}{c:Code}{hin:List (Option Blk)}{args:List AV}{S:σ->St}{hd:σ->Nat}{step:σ->Option (σ⊕Ret)}{en:Option (σ⊕Ret)}{r:Ret}
  (hf:P.funcs[f]?=some fn) (hb:fn.body=some c) (hn:args.length<=fn.ntmps)
  (hs:∀s o,step s=some o->Arr P fn hin.length S hd (Aw fn (hd s)) (.rnd (Aw fn (hd s))::AJ fn (hd s)) (S s) o)
  (he:∀o,en=some o->Arr P fn hin.length S hd c [] {n:=fn.ntmps,fr:=AH 0 args,hp:=hin} o) (h:Ax step en r):CT P f hin args r.1 r.2:=by
 refine CT.of hf hb hn ?_;have hm:=Go.AX.mach hs h;clear h;cases en with
 | none=>exact hm.elim
 | some o=>
  cases o with
  | inl s=>exact he _ rfl _ hm
  | inr q=>have e:q=r:=hm
           subst e;exact he _ rfl
def KE:List AV->Nat->AV | [],_=>.unk | x::_,0=>x | _::r,j+1=>KE r j
def setA:List AV->Nat->AV->List AV | [],_,_=>[] | _::r,0,v=>v::r | x::r,j+1,v=>x::setA r j v
def Dh:List (Option Blk)->Nat->Blk->List (Option Blk) | [],_,_=>[] | _::r,0,v=>some v::r | x::r,j+1,v=>x::Dh r j v
def virtC(t j z:Nat)(st:St):Option St:=match Aq st.fr t with
 | .ptr b _ _=>match nth st.hp b with
  | some blk=>match blk.es with
   | [.agg cs]=>match KE cs j with
    | .nils=>match z with
     | 1000=>some {n:=st.n,fr:=st.fr,hp:=Dh st.hp b {blk with es:=[.agg (setA cs j (.lst []))],flat:=false}}
     | z=>some {n:=st.n,fr:=st.fr,hp:=Dh st.hp b {blk with es:=[.agg (setA cs j (.sl st.hp.length 0 0))],flat:=false}++[some {es:=[],z}]}
    | _=>none
   | _=>none
  | none=>none
 | _=>none
def virt1(s z:Nat)(st:St):Option St:=match Nat.ble 1000 s with
 | true=>virtC (s % 1000) (s / 1000-1) z st
 | false=>match Aq st.fr s with
  | .nils=>match z with
   | 1000=>some {n:=st.n,fr:=(s,.lst [])::st.fr,hp:=st.hp}
   | z=>some {n:=st.n,fr:=(s,.sl st.hp.length 0 0)::st.fr,hp:=st.hp++[some {es:=[],z}]}
  | _=>none
def virtL:List (Nat×Nat)->St->Option St
 | [],st=>some st
 | (s,z)::r,st=>match virt1 s z st with
  | some st'=>virtL r st'
  | none=>none
theorem JB{α:Type}:∀(l:List (Option α)) (x:Option α) (b:Nat),nth (l++[x]) b=if b<l.length then nth l b else if b=l.length then x else none | [],x,0=>by simp[nth] | [],x,b+1=>by simp[nth] | y::r,x,0=>by simp[nth] | y::r,x,b+1=>by simp[nth,JB r x b]
theorem JK{α:Type}{l:List (Option α)}{b:Nat}{x:α}(h:nth l b=some x):b<l.length:=by
 induction l generalizing b with
 | nil=>simp[nth] at h
 | cons y r ih=>cases b with
  | zero=>simp
  | succ b=>have:=ih (b:=b) (by simpa [nth] using h);simp;omega
theorem Sd{cs:List AV}{j:Nat}{v:AV}(h:KE cs j=v)(hv:v≠.unk):cs[j]?=some v:=by
 induction cs generalizing j with
 | nil=>exact absurd h.symm hv
 | cons x r ih=>cases j with
  | zero=>exact congrArg some h
  | succ j=>exact ih h
theorem setA_len(cs:List AV)(j:Nat)(v:AV):(setA cs j v).length=cs.length:=by
 induction cs generalizing j with
 | nil=>rfl
 | cons x r ih=>cases j with
  | zero=>rfl
  | succ j=>simp[setA,ih]
theorem setA_get{cs:List AV}{j i:Nat}{v c:AV}(h:(setA cs j v)[i]?=some c):(i=j/\c=v)\/cs[i]?=some c:=by
 induction cs generalizing j i with
 | nil=>simp[setA] at h
 | cons x r ih=>cases j with
  | zero=>cases i with
   | zero=>left;simp[setA] at h;exact⟨rfl,h.symm⟩
   | succ i=>right;simpa [setA] using h
  | succ j=>cases i with
   | zero=>right;simpa [setA] using h
   | succ i=>
    rcases ih (i:=i) (j:=j) (by simpa [setA] using h) with ⟨rfl,rfl⟩ | h
    .exact .inl ⟨rfl,rfl⟩
    .right;simpa using h
theorem MD(l:List (Option Blk))(b:Nat)(x:Blk):(Dh l b x).length=l.length:=by
 induction l generalizing b with
 | nil=>rfl
 | cons y r ih=>cases b with
  | zero=>rfl
  | succ b=>simp[Dh,ih]
theorem setH_get{l:List (Option Blk)}{b i:Nat}{x y:Blk}(h:nth (Dh l b x) i=some y):(i=b/\y=x)\/nth l i=some y:=by
 induction l generalizing b i with
 | nil=>simp[Dh,nth] at h
 | cons z r ih=>cases b with
  | zero=>cases i with
   | zero=>left;simp[Dh,nth] at h;exact⟨rfl,h.symm⟩
   | succ i=>right;simpa [Dh,nth] using h
  | succ b=>cases i with
   | zero=>right;simpa [Dh,nth] using h
   | succ i=>
    rcases ih (i:=i) (b:=b) (by simpa [Dh,nth] using h) with ⟨rfl,rfl⟩ | h
    .exact .inl ⟨rfl,rfl⟩
    .right;simpa [nth] using h
theorem Cg.setA{blk:Blk}{cs:List AV}{j:Nat}{v:AV}(he:blk.es=[.agg cs])(h:KE cs j = .nils)(hl:Bj .nils v):Cg blk {blk with es:=[.agg (setA cs j v)],flat:=false}:=by
 refine⟨rfl,id,rfl,by rw[he];exact TI _,fun i e' h'=>?_,fun h=>(by cases h),fun h0=>(by rw[he] at h0)⟩;cases i with
 | succ i=>simp at h'
 | zero=>
  simp at h';subst h';refine⟨.agg cs,by rw[he];rfl,setA_len cs j v,fun i c' hc=>?_⟩;rcases setA_get hc with ⟨rfl,rfl⟩ | hc
  .exact⟨.nils,Sd h (by intro e;cases e),hl⟩
  .exact⟨c',hc,.refl _⟩
theorem Ren.virtC{m t j z:Nat}{st st':St}(h:virtC t j z st=some st'):Ren m st st':=by
 unfold Go.AX.virtC at h;split at h
 case h_2=>cases h
 rename_i b i0 j0 hl;split at h
 case h_2=>cases h
 rename_i blk hb;split at h
 case h_2=>cases h
 rename_i cs he;split at h
 case h_2=>cases h
 rename_i hn;have old:∀{b':Nat} {blk':Blk} {v:AV},Bj .nils v->nth (Dh st.hp b {blk with es:=[.agg (setA cs j v)],flat:=false}) b'=some blk'->(b'<st.hp.length/\∃blk,nth st.hp b'=some blk/\((blk'=blk)\/Cg blk blk')):=fun hv h=>by
  rcases setH_get h with ⟨rfl,rfl⟩ | h
  .exact⟨JK hb,blk,hb,.inr (Cg.setA he hn hv)⟩
  .exact⟨JK h,_,h,.inl rfl⟩
 split at h
 .cases h;exact Ren.less rfl (by simp[MD]) (fun t=>.refl _) fun b' blk' hb'=>.inl (old .nilL hb')
 cases h;refine Ren.less rfl (by simp[MD]) (fun t=>.refl _) fun b' blk' hb'=>?_
 simp only[JB,MD] at hb';split at hb'
 .exact .inl (old (.nilS _ _) hb')
 .split at hb'
  .rename_i he;cases hb';exact .inr ⟨by omega,rfl,rfl,rfl,rfl⟩
  .cases hb'
theorem Ren.virt1{m s z:Nat}{st st':St}(h:virt1 s z st=some st'):Ren m st st':=by
 unfold Go.AX.virt1 at h;split at h
 .exact Ren.virtC h
 split at h
 case h_2=>cases h
 rename_i hl;split at h
 .cases h;refine Ren.less rfl (by simp) (fun t=>?_) fun b blk' hb=>.inl ⟨JK hb,blk',hb,.inl rfl⟩
  simp only[Aq];cases hbq:Nat.beq s t with
  | true=>have:=TE hbq;subst this;rw[hl];exact .nilL
  | false=>exact .refl _
 cases h;refine Ren.less rfl (by simp) (fun t=>?_) fun b blk' hb=>?_
 .simp only[Aq];cases hbq:Nat.beq s t with
  | true=>have:=TE hbq;subst this;rw[hl];exact .nilS _ _
  | false=>exact .refl _
 .simp only[JB] at hb;split at hb
  .rename_i hlt;exact .inl ⟨hlt,blk',hb,.inl rfl⟩
  .rename_i hge;split at hb
   .rename_i he;cases hb;exact .inr ⟨by omega,rfl,rfl,rfl,rfl⟩
   .cases hb
theorem Ren.virtL{m:Nat}:∀{l:List (Nat×Nat)} {st st':St},virtL l st=some st'->Ren m st st'
 | [],st,st',h=>by cases h;exact .refl _ _
 | (s,z)::r,st,st',h=>by
  simp only[Go.AX.virtL] at h;split at h
  .rename_i st1 h1;exact(Ren.virt1 h1).trans (Ren.virtL h)
  .cases h
def Fw(P:Program)(fn:Func)(m:Nat)(σ fz:List Nat):Option (DQ×St×Prop)->Option (List (Option Blk)×AV×Prop)
 | some (.done e,st,p)=>match Gb e&&Nat.blt 0 st.n,GH P fn st with
  | true,some v=>match FL m σ fz,St.ren {st with fr:=[(0,v)]} σ fz [0] with
   | true,some (s,q)=>some (s.hp,Aq s.fr 0,p/\q)
   | _,_=>none
  | _,_=>none
 | _=>none
def DG(m:Nat)(vl:List (Nat×Nat))(σ fz vars:List Nat):Option (DQ×St×Prop)->Option (Code×List Ks×St×Prop)
 | some (.loop c k,st,p)=>match virtL vl st with
  | some st1=>match FL m σ fz,st1.ren σ fz vars with
   | true,some (s,q)=>some (c,k,s,p/\q)
   | _,_=>none
  | none=>none
 | _=>none
theorem Arr.loop{σ':Type}{fn:Func}{S:σ'->St}{hd:σ'->Nat}{H:HT}{F:List (Nat×Nat)}{m n:Nat}{c:Code}{k:List Ks}{st:St}{s:σ'}{p:Prop}(vl:List (Nat×Nat))(σ fz vars:List Nat)(hmix:P.follows .mixedOrders=true)
  (h:DG m vl σ fz vars (gm P F m n H (.inl c) k st)=some (Aw fn (hd s),AJ fn (hd s),S s,p)) (hp:p):Arr P fn m S hd c k st (.inl s):=by
 intro post hk;unfold DG at h;split at h
 case h_2=>cases h
 rename_i c' k' st1 q hg;split at h
 case h_2=>cases h
 rename_i st2 hv;split at h
 .rename_i s' q' h1 h2;simp only[Td,Tl] at h;obtain⟨rfl,rfl,rfl,rfl⟩:=h;exact HN hmix n H (.inl c) k st _ _ _ hg hp.1 (hk _ ((Ren.virtL hv).trans (Fc h1 h2 hp.2)))
 .cases h
theorem Arr.ret{σ':Type}{fn:Func}{S:σ'->St}{hd:σ'->Nat}{H:HT}{F:List (Nat×Nat)}{m n:Nat}{c:Code}{k:List Ks}{st:St}{hout:List (Option Blk)}{res:AV}{p:Prop}(σ fz:List Nat)(hmix:P.follows .mixedOrders=true)
  (h:Fw P fn m σ fz (gm P F m n H (.inl c) k st)=some (hout,res,p)) (hp:p):Arr P fn m S hd c k st (.inr (hout,res)):=by
 show T P m c st (TS P m (Fin P fn m hout res) k);unfold Fw at h;split at h
 case h_2=>cases h
 rename_i e st1 q hg;split at h
 case h_2=>cases h
 rename_i v h1 h2;split at h
 case h_2=>cases h
 rename_i s q' h3 h4;cases h;simp only[TF] at h1;refine HN hmix n H (.inl c) k st _ _ _ hg hp.1 ⟨?_,v,s,h2,Fc h3 h4 hp.2,rfl,rfl,TY h1.2⟩;cases e<;>simp[Gb] at h1<;>simp
def callsL(l:List (Nat×AG)):Nat->FuncId->List AV->List (Option Blk)->AG:=fun d _ _ _=>match F8 l d with | some h=>h | none=>.no
theorem CT.eqs{f:FuncId}{hin hin' hout:List (Option Blk)}{args args':List AV}{res:AV}(h:CT P f hin args hout res)(e1:hin'=hin)(e2:args'=args):CT P f hin' args' hout res:=by subst e1;subst e2;exact h
def hT(dec:List (Nat×Bool))(els:List (Nat×AV))(calls:List (Nat×AG)):HT:={dec,els,calls:=callsL calls}
theorem Am{α:Type}{f:α->AV}{l:List α}{i:Nat}{x:α}(h:l[i]?=some x):(l.map f)[i]?=some (f x):=by rw[TH,h];rfl
def br{α:Type}(b:Bool)(x y:Option α):Option α:=match b with | true=>x | false=>y
theorem Mo{α:Type}{b:Bool}{x y:Option α}{o:α}(h:br b x y=some o):(b=true/\x=some o)\/(b=false/\y=some o):=by
 cases b
 .exact .inr ⟨rfl,h⟩
 .exact .inl ⟨rfl,h⟩
theorem An{α:Type}{b:Bool}{x y:Option α}(h:b=true):br b x y=x:=by subst h;rfl
theorem Af{α:Type}{b:Bool}{x y:Option α}(h:b=false):br b x y=y:=by subst h;rfl
open Classical in
def gu{α:Type}(p:Prop)(x:Option α):Option α:=if p then x else none
theorem LU{α:Type}{p:Prop}{x:Option α}{o:α}(h:gu p x=some o):p/\x=some o:=by
 unfold gu at h;split at h
 .rename_i hp;exact⟨hp,h⟩
 .cases h
theorem Ab{α:Type}{p:Prop}{x:Option α}(h:p):gu p x=x:=by unfold gu;rw[Tv h]
def el{α β:Type}(l:List α)(i:Nat)(f:α->Option β):Option β:=match l[i]? with | some x=>f x | none=>none
theorem MO{α β:Type}{l:List α}{i:Nat}{f:α->Option β}{o:β}(h:el l i f=some o):∃x,l[i]?=some x/\f x=some o:=by
 unfold el at h;split at h
 .rename_i x hx;exact⟨x,hx,h⟩
 .cases h
theorem AF{α β:Type}{l:List α}{i:Nat}{f:α->Option β}{x:α}(h:l[i]?=some x):el l i f=f x:=by unfold el;rw[h]
theorem Arr.rt{σ':Type}{fn:Func}{S:σ'->St}{hd:σ'->Nat}{m:Nat}{c:Code}{k:List Ks}{st:St}{hout:List (Option Blk)}{res:AV}{p:Prop}(d:List Nat)(e:List (Nat×AV))(cl:List (Nat×AG))(F:List (Nat×Nat))(σ fz:List Nat)(hmix:P.follows .mixedOrders=true) (h:Fw P fn m σ fz (gm P F m 4000 (hT (ds d) e cl) (.inl c) k st)=some (hout,res,p)) (hp:p):Arr P fn m S hd c k st (.inr (hout,res)):=Arr.ret σ fz hmix h hp
theorem Arr.lp{σ':Type}{fn:Func}{S:σ'->St}{hd:σ'->Nat}{m:Nat}{c:Code}{k:List Ks}{st:St}{s:σ'}{p:Prop}(d:List Nat)(e:List (Nat×AV))(cl:List (Nat×AG))(F vl:List (Nat×Nat))(σ vars:List Nat)(hmix:P.follows .mixedOrders=true) (h:DG m vl σ [] vars (gm P F m 4000 (hT (ds d) e cl) (.inl c) k st)=some (Aw fn (hd s),AJ fn (hd s),S s,p)) (hp:p):Arr P fn m S hd c k st (.inl s):=Arr.loop vl σ [] vars hmix h hp
def Ge(P:Program)(m:Nat)(post:Exit->St->Prop)(c:Code⊕Exit)(k:List Ks)(st:St):Prop:=match c with
 | .inl c=>T P m c st (TS P m post k)
 | .inr e=>TS P m post k e st
def IB(p:Prop):Option ((Code⊕Exit)×List Ks×St×Prop)->Option ((Code⊕Exit)×List Ks×St×Prop) | some (c,k,s,q)=>some (c,k,s,p/\q) | none=>none
def gk(P:Program)(F:List (Nat×Nat))(m:Nat):Nat->Nat->HT->Code⊕Exit->List Ks->St->Option ((Code⊕Exit)×List Ks×St×Prop)
 | 0,_,_,_,_,_=>none
 | n+1,K,H,.inl c,k,st=>match c with
  | .seq a b=>gk P F m n K H (.inl a) (.code b::k) st
  | .block id c=>gk P F m n K H (.inl c) (.blk id::k) st
  | .region id ops dr=>match flats m id F st with
   | some st0=>match Ib P H m ops dr st0 with
    | some (st',p)=>match K with
     | 0=>some (.inr .normal,k,st',p/\True)
     | K+1=>IB p (gk P F m n K H (.inr .normal) k st')
    | none=>none
   | none=>none
  | .cond x c d=>match st.ev x with
   | .bool b=>match (gd H (C5 x) b).1 with
    | true=>IB (gd H (C5 x) b).2 (gk P F m n K (KJ H (C5 x)) (.inl c) k (setB x true st))
    | false=>IB (gd H (C5 x) b).2 (gk P F m n K (KJ H (C5 x)) (.inl d) k (setB x false st))
   | _=>none
  | .skip=>gk P F m n K H (.inr .normal) k st
  | .ret=>gk P F m n K H (.inr .ret) k st
  | .exit id=>gk P F m n K H (.inr (.exit id)) k st
  | .scope c=>gk P F m n K H (.inl c) (.scp::k) st
  | .label _=>gk P F m n K H (.inr .normal) k st
  | _=>none
 | n+1,K,H,.inr e,k,st=>match k with
  | []=>none
  | .code c::k=>match e with
   | .normal=>gk P F m n K H (.inl c) k st
   | e=>gk P F m n K H (.inr e) k st
  | .blk id::k=>gk P F m n K H (.inr (HI id e)) k st
  | .rnd c::k=>match e with
   | .normal=>none
   | e=>gk P F m n K H (.inr e) k st
  | .scp::k=>match e with
   | .goto _=>none
   | e=>gk P F m n K H (.inr e) k st
theorem Mm{p:Prop}{x:Option ((Code⊕Exit)×List Ks×St×Prop)}{c:Code⊕Exit}{k:List Ks}{st:St}{q:Prop}(h:IB p x=some (c,k,st,q)):∃q',x=some (c,k,st,q')/\q=(p/\q'):=by
 unfold IB at h;split at h
 .cases h;exact⟨_,rfl,rfl⟩
 .cases h
theorem E4{F:List (Nat×Nat)}{m:Nat}{post:Exit->St->Prop}(hmix:P.follows .mixedOrders=true):∀(n K:Nat) (H:HT) (c:Code⊕Exit) (k:List Ks) (st:St) (c':Code⊕Exit) (k':List Ks) (st':St) (p:Prop),
  gk P F m n K H c k st=some (c',k',st',p)->p->Ge P m post c' k' st'->Ge P m post c k st:=by
 intro n;induction n with
 | zero=>intro K H c k st c' k' st' p h;simp[gk] at h
 | succ n ih=>
  intro K H c k st c' k' st' p h hp hrest;cases c with
  | inl c=>
   cases c<;>simp only[gk] at h
   case seq a b=>refine T.seq (T.mono (ih _ _ _ _ _ _ _ _ _ h hp hrest) fun e s hs=>?_);cases e<;>exact hs
   case block id c=>refine T.block (T.mono (ih _ _ _ _ _ _ _ _ _ h hp hrest) fun e s hs=>?_);exact hs
   case region id ops dr=>
    split at h
    .rename_i st0 h0;split at h
     .rename_i st1 p1 h1;split at h
      .cases h;exact T.ren (Ren.flats h0) (T.region hmix h1 hp.1 hrest)
      .obtain⟨q,h2,rfl⟩:=Mm h;exact T.ren (Ren.flats h0) (T.region hmix h1 hp.1 (ih _ _ _ _ _ _ _ _ _ h2 hp.2 hrest))
     .cases h
    .cases h
   case cond x c d=>
    split at h
    .rename_i b hb;split at h
     .rename_i hg;obtain⟨q,h2,rfl⟩:=Mm h;have hev:st.ev x = .bool true:=by rw[hb,EQ hp.1,hg]
      exact T.cond_true hev (T.ren (Ren.setB hev) (ih _ _ _ _ _ _ _ _ _ h2 hp.2 hrest))
     .rename_i hg;obtain⟨q,h2,rfl⟩:=Mm h;have hev:st.ev x = .bool false:=by rw[hb,EQ hp.1,hg]
      exact T.cond_false hev (T.ren (Ren.setB hev) (ih _ _ _ _ _ _ _ _ _ h2 hp.2 hrest))
    .cases h
   case skip=>(have:=ih _ _ _ _ _ _ _ _ _ h hp hrest;exact T.skip this)
   case ret=>exact T.ret (ih _ _ _ _ _ _ _ _ _ h hp hrest)
   case exit id=>exact T.exit (ih _ _ _ _ _ _ _ _ _ h hp hrest)
   case scope c=>refine T.scope (T.mono (ih _ _ _ _ _ _ _ _ _ h hp hrest) fun e s hs=>?_);cases e<;>exact hs
   case label l=>exact T.label (ih _ _ _ _ _ _ _ _ _ h hp hrest)
   all_goals cases h
  | inr e=>
   cases k with
   | nil=>simp only[gk] at h;cases h
   | cons x k=>
    cases x with
    | code c=>
     cases e<;>simp only[gk] at h
     case normal=>(have:=ih _ _ _ _ _ _ _ _ _ h hp hrest;exact this)
     all_goals (have:=ih _ _ _ _ _ _ _ _ _ h hp hrest;exact this)
    | rnd c=>
     cases e<;>simp only[gk] at h
     case normal=>cases h
     all_goals (have:=ih _ _ _ _ _ _ _ _ _ h hp hrest;exact this)
    | scp=>
     cases e<;>simp only[gk] at h
     case goto l=>cases h
     all_goals (have:=ih _ _ _ _ _ _ _ _ _ h hp hrest;exact this)
    | blk id=>
     simp only[gk] at h;have:=ih _ _ _ _ _ _ _ _ _ h hp hrest;cases e<;>simp only[HI] at this
     case exit id'=>
      show TS P m post (.blk id::k) _ st;show Ei id _ _ _;simp only[Ei];split at this
      .rename_i hb;rw[Tv (TE hb)];exact this
      .rename_i hb;rw[Tw (fun e=>by rw[e,Nat.beq_refl] at hb;cases hb)];exact this
     all_goals exact this
def CD{σ:Type}(P:Program)(fn:Func)(m:Nat)(S:σ->St)(hd:σ->Nat)(c:Code⊕Exit)(k:List Ks)(st:St):σ⊕Ret->Prop | .inl s=>∀post:Exit->St->Prop,(∀st',Ren m st' (S s)->TL P m (Aw fn (hd s)) st' (TS P m post (AJ fn (hd s))))->Ge P m post c k st | .inr r=>Ge P m (Fin P fn m r.1 r.2) c k st
theorem CD.loop{σ:Type}{fn:Func}{S:σ->St}{hd:σ->Nat}{H:HT}{F:List (Nat×Nat)}{m n:Nat}{c:Code⊕Exit}{k:List Ks}{st:St}{s:σ}{p:Prop}{vl:List (Nat×Nat)}{sg fz vars:List Nat}(hmix:P.follows .mixedOrders=true)
  (h:DG m vl sg fz vars (gm P F m n H c k st)=some (Aw fn (hd s),AJ fn (hd s),S s,p)) (hp:p):CD P fn m S hd c k st (.inl s):=by
 intro post hk;unfold DG at h;split at h
 case h_2=>cases h
 rename_i c' k' st1 q hg;split at h
 case h_2=>cases h
 rename_i st2 hv;split at h
 .rename_i s' q' h1 h2;simp only[Td,Tl] at h;obtain⟨rfl,rfl,rfl,rfl⟩:=h;exact HN hmix n H c k st _ _ _ hg hp.1 (hk _ ((Ren.virtL hv).trans (Fc h1 h2 hp.2)))
 .cases h
theorem CD.ret{σ:Type}{fn:Func}{S:σ->St}{hd:σ->Nat}{H:HT}{F:List (Nat×Nat)}{m n:Nat}{c:Code⊕Exit}{k:List Ks}{st:St}{r:Ret}{p:Prop}{sg fz:List Nat}(hmix:P.follows .mixedOrders=true)
  (h:Fw P fn m sg fz (gm P F m n H c k st)=some (r.1,r.2,p)) (hp:p):CD P fn m S hd c k st (.inr r):=by
 show Ge P m (Fin P fn m r.1 r.2) c k st;unfold Fw at h;split at h
 case h_2=>cases h
 rename_i e st1 q hg;split at h
 case h_2=>cases h
 rename_i v h1 h2;split at h
 case h_2=>cases h
 rename_i s q' h3 h4;simp only[Td,Tl] at h;obtain⟨e1,e2,rfl⟩:=h;simp only[TF] at h1;refine HN hmix n H c k st _ _ _ hg hp.1 ⟨?_,v,s,h2,Fc h3 h4 hp.2,e1,e2,TY h1.2⟩;cases e<;>simp[Gb] at h1<;>simp
inductive Raw:Type 1 where | br (b:Bool) (x:b=true->Raw) (y:b=false->Raw) | gu (p:Prop) (x:p->Raw) | el {β:Type} (l:List β) (i:Nat) (x:(v:β)->l[i]?=some v->Raw) | rn (p:Prop) (x:Raw) | lp (x:Option (Code×List Ks×St×Prop)) | rt (x:Option (List (Option Blk)×AV×Prop)) | no
inductive Scr {σ:Type} (S:σ->St):Option (σ⊕Ret)->Type 1 where | br {X Y:Option (σ⊕Ret)} {b:Bool} (x:b=true->Scr S X) (y:b=false->Scr S Y):Scr S (Go.AX.br b X Y) | gu {X:Option (σ⊕Ret)} {p:Prop} (x:p->Scr S X):Scr S (Go.AX.gu p X) | el {β:Type} {F:β->Option (σ⊕Ret)} {l:List β} {i:Nat} (x:(v:β)->l[i]?=some v->Scr S (F v)):Scr S (Go.AX.el l i F) | rn {X:Option (σ⊕Ret)} (K:Nat) (d:List Nat) (e:List (Nat×AV)) (cl:List (Nat×AG)) (F:List (Nat×Nat)) {p:Prop} (hp:p) (x:Scr S X):Scr S X | lp (d:List Nat) (e:List (Nat×AV)) (cl:List (Nat×AG)) (F vl:List (Nat×Nat)) (sg vars:List Nat) {s:σ} {p:Prop} (hp:p):Scr S (some (.inl s)) | lq (d:List Nat) (e:List (Nat×AV)) (cl:List (Nat×AG)) (F vl:List (Nat×Nat)) (sg vars:List Nat) {s:σ} (s':St) {p:Prop} (hp:p) (h:s'=S s):Scr S (some (.inl s)) | rt (d:List Nat) (e:List (Nat×AV)) (cl:List (Nat×AG)) (F:List (Nat×Nat)) (sg fz:List Nat) {r:Ret} {p:Prop} (hp:p):Scr S (some (.inr r)) | no:Scr S none
abbrev Cfg:=Code⊕Exit->List Ks->St->Raw
def rnR(f:Code⊕Exit->List Ks->St->Raw):Option ((Code⊕Exit)×List Ks×St×Prop)->Raw | some (c,k,st,p)=>.rn p (f c k st) | none=>.no
def Scr.go{σ:Type}{S:σ->St}(P:Program)(fn:Func)(m:Nat){X:Option (σ⊕Ret)}(t:Scr S X):Cfg:=Scr.rec (motive:=fun _ _=>Cfg) (fun {_ _ b} _ _ ix iy c k st=>Raw.br b (fun h=>ix h c k st) (fun h=>iy h c k st)) (fun {_ p} _ ix c k st=>Raw.gu p (fun h=>ix h c k st)) (fun {_ _ l i} _ ix c k st=>Raw.el l i (fun v h=>ix v h c k st)) (fun K d e cl F _ _ _ ix c k st=>rnR ix (gk P F m 4000 K (hT (ds d) e cl) c k st)) (fun d e cl F vl sg vars _ _ _ c k st=>Raw.lp (DG m vl sg [] vars (gm P F m 4000 (hT (ds d) e cl) c k st))) (fun d e cl F vl sg vars _ _ _ _ _ c k st=>Raw.lp (DG m vl sg [] vars (gm P F m 4000 (hT (ds d) e cl) c k st))) (fun d e cl F sg fz _ _ _ c k st=>Raw.rt (Fw P fn m sg fz (gm P F m 4000 (hT (ds d) e cl) c k st))) (fun _ _ _=>Raw.no) t
def Scr.er{σ:Type}{S:σ->St}(fn:Func)(hd:σ->Nat){X:Option (σ⊕Ret)}(t:Scr S X):Raw:=Scr.rec (motive:=fun _ _=>Raw) (fun {_ _ b} _ _ ix iy=>Raw.br b ix iy) (fun {_ p} _ ix=>Raw.gu p ix) (fun {_ _ l i} _ ix=>Raw.el l i ix) (fun _ _ _ _ _ p _ _ ix=>Raw.rn p ix) (fun _ _ _ _ _ _ _ s p _=>Raw.lp (some (Aw fn (hd s),AJ fn (hd s),S s,p))) (fun _ _ _ _ _ _ _ s s' p _ _=>Raw.lp (some (Aw fn (hd s),AJ fn (hd s),s',p))) (fun _ _ _ _ _ _ r p _=>Raw.rt (some (r.1,r.2,p))) Raw.no t
theorem Scr.sound{σ:Type}{S:σ->St}{fn:Func}{m:Nat}{hd:σ->Nat}(hmix:P.follows .mixedOrders=true){X:Option (σ⊕Ret)}(t:Scr S X):
  ∀c k st,t.go P fn m c k st=t.er fn hd->∀o,X=some o->CD P fn m S hd c k st o:=by
 induction t with
 | br x y ix iy=>
  intro c k st h o ho;have h':=h;simp only[Scr.go,Scr.er,Raw.br.injEq,Tq,true_and] at h';rcases Mo ho with ⟨hb,ho⟩ | ⟨hb,ho⟩
  .exact ix hb c k st (congrFun h'.1 hb) o ho
  .exact iy hb c k st (congrFun h'.2 hb) o ho
 | gu x ix=>intro c k st h o ho;have h':=h;simp only[Scr.go,Scr.er,Raw.gu.injEq,Tq,true_and] at h';obtain⟨hp,ho⟩:=LU ho;exact ix hp c k st (congrFun h' hp) o ho
 | el x ix=>intro c k st h o ho;have h':=h;simp only[Scr.go,Scr.er,Raw.el.injEq,Tq,true_and] at h';obtain⟨v,hv,ho⟩:=MO ho;exact ix v hv c k st (congrFun (congrFun h' v) hv) o ho
 | rn K d e cl F hp x ix=>
  intro c k st h o ho;have h':rnR (fun c k st=>x.go P fn m c k st) (gk P F m 4000 K (hT (ds d) e cl) c k st)=Raw.rn _ (x.er fn hd):=h;generalize hg:gk P F m 4000 K (hT (ds d) e cl) c k st=y at h';cases y with
  | none=>simp[rnR] at h'
  | some y=>
   obtain⟨c',k',st',p'⟩:=y;simp only[rnR,Raw.rn.injEq] at h';have hp':p':=h'.1 ▸ hp;have hr:=ix c' k' st' h'.2 o ho;cases o with
   | inl s=>exact fun post hk=>E4 hmix _ _ _ _ _ _ _ _ _ _ hg hp' (hr post hk)
   | inr r=>exact E4 hmix _ _ _ _ _ _ _ _ _ _ hg hp' hr
 | lp d e cl F vl sg vars hp=>intro c k st h o ho;cases ho;have h':=h;simp only[Scr.go,Scr.er,Raw.lp.injEq] at h';exact CD.loop hmix h' hp
 | lq d e cl F vl sg vars s' hp hs=>intro c k st h o ho;cases ho;have h':=h;simp only[Scr.go,Scr.er,Raw.lp.injEq] at h';subst hs;exact CD.loop hmix h' hp
 | rt d e cl F sg fz hp=>intro c k st h o ho;cases ho;have h':=h;simp only[Scr.go,Scr.er,Raw.rt.injEq] at h';exact CD.ret hmix h' hp
 | no=>intro c k st h o ho;cases ho
theorem Scr.ok{σ:Type}{S:σ->St}{fn:Func}{m:Nat}{hd:σ->Nat}{X:Option (σ⊕Ret)}{c:Code}{k:List Ks}{st:St}{o:σ⊕Ret}(ho:X=some o)(hmix:P.follows .mixedOrders=true)(t:Scr S X)
  (h:t.go P fn m (.inl c) k st=t.er fn hd):Arr P fn m S hd c k st o:=by
 have:=Scr.sound hmix t (.inl c) k st h o ho;cases o<;>exact this
def hK{f:FuncId}{hin hout:List (Option Blk)}{args:List AV}{res:AV}(_:CT P f hin args hout res)(sg fz:List Nat):AG:=.call sg fz (hout.filterMap id) res
def upV:List (Nat×AV)->Nat->AV->AV | [],_,v=>v | (t,w)::r,s,v=>if t=s then w else upV r s v
def upF(u:List (Nat×AV)):List (Nat×AV)->List (Nat×AV) | []=>[] | (s,v)::r=>(s,upV u s v)::upF u r
def upB:List (Nat×List AV)->Nat->List AV->List AV | [],_,v=>v | (t,w)::r,s,v=>if t=s then w else upB r s v
def upH(u:List (Nat×List AV)):Nat->List (Option Blk)->List (Option Blk) | _,[]=>[] | i,none::r=>none::upH u (i+1) r | i,some b::r=>some (.mk (upB u i b.es) b.z b.flat b.wr b.mp)::upH u (i+1) r
def up(u:List (Nat×AV))(w:List (Nat×List AV))(st:St):St:=.mk st.n (upF u st.fr) (upH w 0 st.hp)
end Go.AX
open Go Go.AX Go.Proofs
set_option maxRecDepth 100000
set_option maxHeartbeats 4000000
set_option linter.unusedVariables false
namespace Go.Proofs.Ytedjkebooffjpaa
structure QN where
 s:ByteArray
 c:Int
 i:Nat
 b:Bool
 b2:Bool
 x:Int
 y:Int
 z:Int
 u:Int
def cN(q:QN):Nat->FuncId->List AV->List (Option Blk)->AG:=fun dst f args hp=>match f with
 | 144=>.call [] [] [] (.bool q.b)
 | 146=>.call [] [] [] (.bool q.b)
 | 127=>.call [] [] [] (.bool q.b)
 | _=>.no
def eNm(q:QN):List (Nat×AV):=[(23,.int .u8 q.c)]
def H3(q:QN):St:={n:=Try.f144.ntmps,fr:=[(0,.int .u8 q.c)],hp:=[]}
def II(q:QN):St:={n:=Try.f146.ntmps,fr:=[(0,.int .u8 q.c)],hp:=[]}
def st149(q:QN):St:={n:=Try.f127.ntmps,fr:=[(0,.int .i64 q.x),(1,.int .i64 q.y),(2,.int .i64 q.z)],hp:=[]}
def JR(q:QN):St:={n:=Try.f129.ntmps,fr:=[(0,.str q.s)],hp:=[]}
def Da(q:QN):St:={n:=Try.f129.ntmps,fr:=[(19,.lst (AQ q.s)),(20,.int .i64 (AQ q.s).length),(21,.int .i64 (iN q.i))],hp:=[]}
theorem let_0(q:QN)(h1:(decide (97<=q.c)=true))(h2:(decide (q.c<=122)=true)):GoP UB (hU [11,19] (eNm q) (cN q)) 0 (zB Try.f144) (H3 q) (Fin UB Try.f144 0 [] (AV.bool true)):=zF (σ:=[]) (fz:=[]) (by kernel_rfl) (aj (u2 (al (u2 (u2 (u2 (ag h1 (ag h1 (ag h1 (u2 (aj h2 (aj h2 (aj h2 (k2 (aj h2 (ag h2 s2))))))))))))))) t2)
theorem let_1(q:QN)(h1:(decide (97<=q.c)=true))(h2:(decide (q.c<=122)=false))(h3:(decide (65<=q.c)=true)):GoP UB (hU [11,18,25] (eNm q) (cN q)) 0 (zB Try.f144) (H3 q) (Fin UB Try.f144 0 [] (AV.bool (decide (q.c<=90)))):=zF (σ:=[]) (fz:=[]) (by kernel_rfl) (aj (u2 (al (u2 (u2 (u2 (ag h1 (ag h1 (ag h1 (u2 (ag h2 (ag h2 (ag h2 (ag h3 (ag h3 (aj (aj h2 (aj h3 t2)) (ag h2 s2)))))))))))))))) t2)
theorem let_2(q:QN)(h1:(decide (97<=q.c)=true))(h2:(decide (q.c<=122)=false))(h3:(decide (65<=q.c)=false)):GoP UB (hU [11,18,24] (eNm q) (cN q)) 0 (zB Try.f144) (H3 q) (Fin UB Try.f144 0 [] (AV.bool false)):=zF (σ:=[]) (fz:=[]) (by kernel_rfl) (aj (u2 (al (u2 (u2 (u2 (ag h1 (ag h1 (ag h1 (u2 (ag h2 (ag h2 (ag h2 (aj h3 (aj h3 (aj (aj h2 (aj h3 t2)) (ag h2 s2)))))))))))))))) t2)
theorem let_3(q:QN)(h1:(decide (97<=q.c)=false))(h2:(decide (65<=q.c)=true)):GoP UB (hU [10,25] (eNm q) (cN q)) 0 (zB Try.f144) (H3 q) (Fin UB Try.f144 0 [] (AV.bool (decide (q.c<=90)))):=zF (σ:=[]) (fz:=[]) (by kernel_rfl) (aj (u2 (al (u2 (u2 (u2 (aj h1 (aj h1 (ag h1 (u2 (aj t3 (aj t3 (aj t3 (ag h2 (ag h2 (aj (ak (aj h2 t2)) (aj t3 s2)))))))))))))))) t2)
theorem let_4(q:QN)(h1:(decide (97<=q.c)=false))(h2:(decide (65<=q.c)=false)):GoP UB (hU [10,24] (eNm q) (cN q)) 0 (zB Try.f144) (H3 q) (Fin UB Try.f144 0 [] (AV.bool false)):=zF (σ:=[]) (fz:=[]) (by kernel_rfl) (aj (u2 (al (u2 (u2 (u2 (aj h1 (aj h1 (ag h1 (u2 (aj t3 (aj t3 (aj t3 (aj h2 (aj h2 (aj (ak (aj h2 t2)) (aj t3 s2)))))))))))))))) t2)
theorem rlet_0(q:QN)(h1:(decide (97<=q.c)=true))(h2:(decide (q.c<=122)=true)):GoP UB (hU [11,19] (eNm q) (cN q)) 0 (zB Try.f146) (II q) (Fin UB Try.f146 0 [] (AV.bool true)):=zF (σ:=[]) (fz:=[]) (by kernel_rfl) (aj (u2 (al (u2 (u2 (u2 (ag h1 (ag h1 (ag h1 (u2 (aj h2 (aj h2 (aj h2 (k2 (aj h2 (ag h2 s2))))))))))))))) t2)
theorem rlet_1(q:QN)(h1:(decide (97<=q.c)=true))(h2:(decide (q.c<=122)=false))(h3:(decide (65<=q.c)=true)):GoP UB (hU [11,18,25] (eNm q) (cN q)) 0 (zB Try.f146) (II q) (Fin UB Try.f146 0 [] (AV.bool (decide (q.c<=90)))):=zF (σ:=[]) (fz:=[]) (by kernel_rfl) (aj (u2 (al (u2 (u2 (u2 (ag h1 (ag h1 (ag h1 (u2 (ag h2 (ag h2 (ag h2 (ag h3 (ag h3 (aj (aj h2 (aj h3 t2)) (ag h2 s2)))))))))))))))) t2)
theorem rlet_2(q:QN)(h1:(decide (97<=q.c)=true))(h2:(decide (q.c<=122)=false))(h3:(decide (65<=q.c)=false)):GoP UB (hU [11,18,24] (eNm q) (cN q)) 0 (zB Try.f146) (II q) (Fin UB Try.f146 0 [] (AV.bool false)):=zF (σ:=[]) (fz:=[]) (by kernel_rfl) (aj (u2 (al (u2 (u2 (u2 (ag h1 (ag h1 (ag h1 (u2 (ag h2 (ag h2 (ag h2 (aj h3 (aj h3 (aj (aj h2 (aj h3 t2)) (ag h2 s2)))))))))))))))) t2)
theorem rlet_3(q:QN)(h1:(decide (97<=q.c)=false))(h2:(decide (65<=q.c)=true)):GoP UB (hU [10,25] (eNm q) (cN q)) 0 (zB Try.f146) (II q) (Fin UB Try.f146 0 [] (AV.bool (decide (q.c<=90)))):=zF (σ:=[]) (fz:=[]) (by kernel_rfl) (aj (u2 (al (u2 (u2 (u2 (aj h1 (aj h1 (ag h1 (u2 (aj t3 (aj t3 (aj t3 (ag h2 (ag h2 (aj (ak (aj h2 t2)) (aj t3 s2)))))))))))))))) t2)
theorem rlet_4(q:QN)(h1:(decide (97<=q.c)=false))(h2:(decide (65<=q.c)=false)):GoP UB (hU [10,24] (eNm q) (cN q)) 0 (zB Try.f146) (II q) (Fin UB Try.f146 0 [] (AV.bool false)):=zF (σ:=[]) (fz:=[]) (by kernel_rfl) (aj (u2 (al (u2 (u2 (u2 (aj h1 (aj h1 (ag h1 (u2 (aj t3 (aj t3 (aj t3 (aj h2 (aj h2 (aj (ak (aj h2 t2)) (aj t3 s2)))))))))))))))) t2)
theorem wit_0(q:QN)(h1:(decide (q.y<=q.x)=true)):GoP UB (hU [21] (eNm q) (cN q)) 0 (zB Try.f127) (st149 q) (Fin UB Try.f127 0 [] (AV.bool (decide (q.x<=q.z)))):=zF (σ:=[]) (fz:=[]) (by kernel_rfl) (aj (u2 (al (u2 (u2 (aj t3 (u2 (ag h1 (ag h1 (aj (aj h1 t3) (ag h1 s2)))))))))) t2)
theorem wit_1(q:QN)(h1:(decide (q.y<=q.x)=false)):GoP UB (hU [20] (eNm q) (cN q)) 0 (zB Try.f127) (st149 q) (Fin UB Try.f127 0 [] (AV.bool false)):=zF (σ:=[]) (fz:=[]) (by kernel_rfl) (aj (u2 (al (u2 (u2 (aj t3 (u2 (aj h1 (aj h1 (aj h1 (ag h1 s2)))))))))) t2)
theorem nmi_0(q:QN)(h1:((q.s.toList==(ByteArray.mk #[]).toList)=true)):GoP UB (hU [15] (eNm q) (cN q)) 0 (zB Try.f129) (JR q) (Fin UB Try.f129 0 [] (AV.bool false)):=zF (σ:=[]) (fz:=[]) (by kernel_rfl) (aj (u2 (aj (u2 (u2 (u2 (aj h1 (aj h1 (aj h1 (ag h1 (u2 (ak (k3 (al t3))))))))))) (ak s2))) t2)
theorem nmi_1(q:QN)(h1:((q.s.toList==(ByteArray.mk #[]).toList)=false))(h2:(decide (12<iN q.s.size)=true)):GoP UB (hU [14,25] (eNm q) (cN q)) 0 (zB Try.f129) (JR q) (Fin UB Try.f129 0 [] (AV.bool false)):=zF (σ:=[]) (fz:=[]) (by kernel_rfl) (aj (u2 (aj (u2 (u2 (u2 (ag h1 (ag h1 (ag h1 (ag h1 (u2 (aj h2 (aj h2 (aj h2 (aj h2 (al (aj h2 t2)))))))))))))) (ak s2))) t2)
theorem nmi_2(q:QN)(h1:((q.s.toList==(ByteArray.mk #[]).toList)=false))(h2:(decide (12<iN q.s.size)=false))(h3:(0<iN q.s.size))(h4:(CT UB 144 [] [AV.int IntKind.u8 (bAt q.s (Int.toNat 0))] [] (AV.bool q.b)))(h5:((!q.b)=true)):GoP UB (hU [14,24,35] (eNm q) (cN q)) 0 (zB Try.f129) (JR q) (Fin UB Try.f129 0 [] (AV.bool false)):=zF (σ:=[]) (fz:=[]) (by kernel_rfl) (aj (u2 (aj (u2 (u2 (u2 (ag h1 (ag h1 (ag h1 (ag h1 (u2 (ag h2 (aj (aj h2 (ak (aj (Int.le_refl 0) h3))) (aj (aj h2 (k2 (al h4))) (ag h2 (al (aj h2 t2)))))))))))))) (aj h5 s2))) t2)
theorem nmi_3(q:QN)(h1:((q.s.toList==(ByteArray.mk #[]).toList)=false))(h2:(decide (12<iN q.s.size)=false))(h3:(0<iN q.s.size))(h4:(CT UB 144 [] [AV.int IntKind.u8 (bAt q.s (Int.toNat 0))] [] (AV.bool q.b)))(h5:((!q.b)=false)){post:Exit->St->Prop}(ht:T UB 0 (.loop (zC (zB Try.f129) 0)) (St.mk 45 [(19,UA (AQ q.s)),(20,iv (iN (AQ q.s).length)),(21,iv 0)] []) (TK UB 0 post (zK (zB Try.f129) 0))):GoP UB (hU [14,24,34] (eNm q) (cN q)) 0 (zB Try.f129) (JR q) post:=zR (σ:=[]) (fz:=[]) (vars:=[19,20,21]) (by kernel_rfl) (aj (u2 (aj (u2 (u2 (u2 (ag h1 (ag h1 (ag h1 (ag h1 (u2 (ag h2 (aj (aj h2 (ak (aj (Int.le_refl 0) h3))) (aj (aj h2 (k2 (al h4))) (ag h2 (al (aj h2 t2)))))))))))))) (aj h5 (al (u2 (u2 (u2 t2))))))) t4) ht
theorem nml_0(q:QN)(h1:(decide (iN q.i<iN (AQ q.s).length)=true))(h2:(0<=iN q.i))(h3:((AQ q.s)[(iN q.i).toNat]?=some (AV.int IntKind.u8 q.c)))(h4:(CT UB 144 [] [AV.int IntKind.u8 q.c] [] (AV.bool q.b)))(h5:((!q.b)=true))(h6:(decide (q.c<48)=true))(h7:((q.c != 45)=true))(h8:((q.c != 95)=true)):GoO UB (hU [45,57,63,81,87] (eNm q) (cN q)) 0 (zC (zB Try.f129) 0) (zK (zB Try.f129) 0) (Da q) (Fin UB Try.f129 0 [] (AV.bool false)):=zF (σ:=[]) (fz:=[]) (by kernel_rfl) (aj (al (aj (al t3) (aj h1 (aj (aj (k2 (aj h2 h3)) (u2 s2)) (aj (u2 (aj (k2 (al h4)) (u2 (u2 (ag h5 (ag h5 (ag h5 (aj h6 (aj h6 (aj (aj h5 (aj h6 t2)) (ag h5 (u2 (aj t3 (aj t3 (aj t3 (u2 (ag h7 (ag h7 (al (aj h7 t2)))))))))))))))))))) (aj h8 s2)))))) t2)
theorem nml_1(q:QN)(h1:(decide (iN q.i<iN (AQ q.s).length)=true))(h2:(0<=iN q.i))(h3:((AQ q.s)[(iN q.i).toNat]?=some (AV.int IntKind.u8 q.c)))(h4:(CT UB 144 [] [AV.int IntKind.u8 q.c] [] (AV.bool q.b)))(h5:((!q.b)=true))(h6:(decide (q.c<48)=true))(h7:((q.c != 45)=true))(h8:((q.c != 95)=false)){post:Exit->St->Prop}{R:St->Prop}(hR:∀st,Ren 0 st (St.mk 45 [(19,UA (AQ q.s)),(20,iv (iN (AQ q.s).length)),(21,iv (i64.wrap (iN q.i+1)))] [])->R st):GoP UB (hU [45,57,63,81,86] (eNm q) (cN q)) 0 (zC (zB Try.f129) 0) (Da q) (andThen R post):=zN (σ:=[]) (fz:=[]) (vars:=[19,20,21]) (by kernel_rfl) (aj (aj (al t3) (aj h1 (aj (aj (k2 (aj h2 h3)) (u2 s2)) (aj (u2 (aj (k2 (al h4)) (u2 (u2 (ag h5 (ag h5 (ag h5 (aj h6 (aj h6 (aj (aj h5 (aj h6 t2)) (ag h5 (u2 (aj t3 (aj t3 (aj t3 (u2 (ag h7 (ag h7 (al (aj h7 t2)))))))))))))))))))) (aj h8 (al (u2 s2))))))) t4) hR
theorem nml_2(q:QN)(h1:(decide (iN q.i<iN (AQ q.s).length)=true))(h2:(0<=iN q.i))(h3:((AQ q.s)[(iN q.i).toNat]?=some (AV.int IntKind.u8 q.c)))(h4:(CT UB 144 [] [AV.int IntKind.u8 q.c] [] (AV.bool q.b)))(h5:((!q.b)=true))(h6:(decide (q.c<48)=true))(h7:((q.c != 45)=false)){post:Exit->St->Prop}{R:St->Prop}(hR:∀st,Ren 0 st (St.mk 45 [(19,UA (AQ q.s)),(20,iv (iN (AQ q.s).length)),(21,iv (i64.wrap (iN q.i+1)))] [])->R st):GoP UB (hU [45,57,63,80] (eNm q) (cN q)) 0 (zC (zB Try.f129) 0) (Da q) (andThen R post):=zN (σ:=[]) (fz:=[]) (vars:=[19,20,21]) (by kernel_rfl) (aj (aj (al t3) (aj h1 (aj (aj (k2 (aj h2 h3)) (u2 s2)) (aj (u2 (aj (k2 (al h4)) (u2 (u2 (ag h5 (ag h5 (ag h5 (aj h6 (aj h6 (aj (aj h5 (aj h6 t2)) (ag h5 (u2 (aj t3 (aj t3 (aj t3 (u2 (aj h7 (aj h7 (al (aj h7 t2)))))))))))))))))))) (ak (al (u2 s2))))))) t4) hR
theorem nml_3(q:QN)(h1:(decide (iN q.i<iN (AQ q.s).length)=true))(h2:(0<=iN q.i))(h3:((AQ q.s)[(iN q.i).toNat]?=some (AV.int IntKind.u8 q.c)))(h4:(CT UB 144 [] [AV.int IntKind.u8 q.c] [] (AV.bool q.b)))(h5:((!q.b)=true))(h6:(decide (q.c<48)=false))(h7:(decide (57<q.c)=true))(h8:((q.c != 45)=true))(h9:((q.c != 95)=true)):GoO UB (hU [45,57,62,73,81,87] (eNm q) (cN q)) 0 (zC (zB Try.f129) 0) (zK (zB Try.f129) 0) (Da q) (Fin UB Try.f129 0 [] (AV.bool false)):=zF (σ:=[]) (fz:=[]) (by kernel_rfl) (aj (al (aj (al t3) (aj h1 (aj (aj (k2 (aj h2 h3)) (u2 s2)) (aj (u2 (aj (k2 (al h4)) (u2 (u2 (ag h5 (ag h5 (ag h5 (ag h6 (ag h6 (aj (aj h5 (aj h6 t2)) (ag h5 (u2 (ag h7 (ag h7 (ag h7 (u2 (ag h8 (ag h8 (al (aj h8 t2)))))))))))))))))))) (aj h9 s2)))))) t2)
theorem nml_4(q:QN)(h1:(decide (iN q.i<iN (AQ q.s).length)=true))(h2:(0<=iN q.i))(h3:((AQ q.s)[(iN q.i).toNat]?=some (AV.int IntKind.u8 q.c)))(h4:(CT UB 144 [] [AV.int IntKind.u8 q.c] [] (AV.bool q.b)))(h5:((!q.b)=true))(h6:(decide (q.c<48)=false))(h7:(decide (57<q.c)=true))(h8:((q.c != 45)=true))(h9:((q.c != 95)=false)){post:Exit->St->Prop}{R:St->Prop}(hR:∀st,Ren 0 st (St.mk 45 [(19,UA (AQ q.s)),(20,iv (iN (AQ q.s).length)),(21,iv (i64.wrap (iN q.i+1)))] [])->R st):GoP UB (hU [45,57,62,73,81,86] (eNm q) (cN q)) 0 (zC (zB Try.f129) 0) (Da q) (andThen R post):=zN (σ:=[]) (fz:=[]) (vars:=[19,20,21]) (by kernel_rfl) (aj (aj (al t3) (aj h1 (aj (aj (k2 (aj h2 h3)) (u2 s2)) (aj (u2 (aj (k2 (al h4)) (u2 (u2 (ag h5 (ag h5 (ag h5 (ag h6 (ag h6 (aj (aj h5 (aj h6 t2)) (ag h5 (u2 (ag h7 (ag h7 (ag h7 (u2 (ag h8 (ag h8 (al (aj h8 t2)))))))))))))))))))) (aj h9 (al (u2 s2))))))) t4) hR
theorem nml_5(q:QN)(h1:(decide (iN q.i<iN (AQ q.s).length)=true))(h2:(0<=iN q.i))(h3:((AQ q.s)[(iN q.i).toNat]?=some (AV.int IntKind.u8 q.c)))(h4:(CT UB 144 [] [AV.int IntKind.u8 q.c] [] (AV.bool q.b)))(h5:((!q.b)=true))(h6:(decide (q.c<48)=false))(h7:(decide (57<q.c)=true))(h8:((q.c != 45)=false)){post:Exit->St->Prop}{R:St->Prop}(hR:∀st,Ren 0 st (St.mk 45 [(19,UA (AQ q.s)),(20,iv (iN (AQ q.s).length)),(21,iv (i64.wrap (iN q.i+1)))] [])->R st):GoP UB (hU [45,57,62,73,80] (eNm q) (cN q)) 0 (zC (zB Try.f129) 0) (Da q) (andThen R post):=zN (σ:=[]) (fz:=[]) (vars:=[19,20,21]) (by kernel_rfl) (aj (aj (al t3) (aj h1 (aj (aj (k2 (aj h2 h3)) (u2 s2)) (aj (u2 (aj (k2 (al h4)) (u2 (u2 (ag h5 (ag h5 (ag h5 (ag h6 (ag h6 (aj (aj h5 (aj h6 t2)) (ag h5 (u2 (ag h7 (ag h7 (ag h7 (u2 (aj h8 (aj h8 (al (aj h8 t2)))))))))))))))))))) (ak (al (u2 s2))))))) t4) hR
theorem nml_6(q:QN)(h1:(decide (iN q.i<iN (AQ q.s).length)=true))(h2:(0<=iN q.i))(h3:((AQ q.s)[(iN q.i).toNat]?=some (AV.int IntKind.u8 q.c)))(h4:(CT UB 144 [] [AV.int IntKind.u8 q.c] [] (AV.bool q.b)))(h5:((!q.b)=true))(h6:(decide (q.c<48)=false))(h7:(decide (57<q.c)=false)){post:Exit->St->Prop}{R:St->Prop}(hR:∀st,Ren 0 st (St.mk 45 [(19,UA (AQ q.s)),(20,iv (iN (AQ q.s).length)),(21,iv (i64.wrap (iN q.i+1)))] [])->R st):GoP UB (hU [45,57,62,72] (eNm q) (cN q)) 0 (zC (zB Try.f129) 0) (Da q) (andThen R post):=zN (σ:=[]) (fz:=[]) (vars:=[19,20,21]) (by kernel_rfl) (aj (aj (al t3) (aj h1 (aj (aj (k2 (aj h2 h3)) (u2 s2)) (aj (u2 (aj (k2 (al h4)) (u2 (u2 (ag h5 (ag h5 (ag h5 (ag h6 (ag h6 (aj (aj h5 (aj h6 t2)) (ag h5 (u2 (aj h7 (aj h7 (ag h7 (u2 (k2 (al t3)))))))))))))))))) (ak (al (u2 s2))))))) t4) hR
theorem nml_7(q:QN)(h1:(decide (iN q.i<iN (AQ q.s).length)=true))(h2:(0<=iN q.i))(h3:((AQ q.s)[(iN q.i).toNat]?=some (AV.int IntKind.u8 q.c)))(h4:(CT UB 144 [] [AV.int IntKind.u8 q.c] [] (AV.bool q.b)))(h5:((!q.b)=false)){post:Exit->St->Prop}{R:St->Prop}(hR:∀st,Ren 0 st (St.mk 45 [(19,UA (AQ q.s)),(20,iv (iN (AQ q.s).length)),(21,iv (i64.wrap (iN q.i+1)))] [])->R st):GoP UB (hU [45,56] (eNm q) (cN q)) 0 (zC (zB Try.f129) 0) (Da q) (andThen R post):=zN (σ:=[]) (fz:=[]) (vars:=[19,20,21]) (by kernel_rfl) (aj (aj (al t3) (aj h1 (aj (aj (k2 (aj h2 h3)) (u2 s2)) (aj (u2 (aj (k2 (al h4)) (u2 (u2 (aj h5 (aj h5 (aj h5 (k2 (aj h5 (ag h5 (u2 (k2 (aj t3 (u2 (k2 (al t3)))))))))))))))) (ak (al (u2 s2))))))) t4) hR
theorem nml_8(q:QN)(h1:(decide (iN q.i<iN (AQ q.s).length)=false)):GoO UB (hU [44] (eNm q) (cN q)) 0 (zC (zB Try.f129) 0) (zK (zB Try.f129) 0) (Da q) (Fin UB Try.f129 0 [] (AV.bool true)):=zF (σ:=[]) (fz:=[]) (by kernel_rfl) (aj (aj (aj (al t3) (al h1)) s2) t2)
def Lc(v n:Int):St:={n:=Try.f45.ntmps,fr:=AH 0 [.int .i64 v,.int .i64 n],hp:=[]}
def noC2(v n:Int):Nat->FuncId->List AV->List (Option Blk)->AG:=fun _ _ _ _=>.no
def noE2(v n:Int):List (Nat×AV):=[]
theorem cut_0(v n:Int)(h1:(decide (n<=1)=true)):GoP UB (hU [13] (noE2 v n) (noC2 v n)) 0 (zB Try.f45) (Lc v n) (Fin UB Try.f45 0 [] (iv 0)):=zF (σ:=[]) (fz:=[]) (by kernel_rfl) (aj (u2 (aj (u2 s2) (aj h1 s2))) t2)
theorem cut_1(v n:Int)(h1:(decide (n<=1)=false))(h2:(n=0->False))(h3:(decide (v.tmod n<0)=true)):GoP UB (hU [12,23] (noE2 v n) (noC2 v n)) 0 (zB Try.f45) (Lc v n) (Fin UB Try.f45 0 [] (iv (i64.wrap (v.tmod n+n)))):=zF (σ:=[]) (fz:=[]) (by kernel_rfl) (aj (u2 (aj (u2 s2) (aj h1 (aj (u2 (u2 (aj (k2 h2) s2))) (aj (u2 s2) (aj h3 (aj (u2 (u2 (aj t3 s2))) (al (u2 s2))))))))) t2)
theorem cut_2(v n:Int)(h1:(decide (n<=1)=false))(h2:(n=0->False))(h3:(decide (v.tmod n<0)=false)):GoP UB (hU [12,22] (noE2 v n) (noC2 v n)) 0 (zB Try.f45) (Lc v n) (Fin UB Try.f45 0 [] (iv (v.tmod n))):=zF (σ:=[]) (fz:=[]) (by kernel_rfl) (aj (u2 (aj (u2 s2) (aj h1 (aj (u2 (u2 (aj (k2 h2) s2))) (aj (u2 s2) (aj h3 (al (u2 s2)))))))) t2)
def EA(v n:Int):Int:=if n<=1 then 0 else if v.tmod n<0 then i64.wrap (v.tmod n+n) else v.tmod n
theorem mix:Try.prog.follows .mixedOrders=true:=by kernel_rfl
theorem Ob(v n:Int):CT UB 45 [] [.int .i64 v,.int .i64 n] [] (.int .i64 (EA v n)):=by
 have hb:Try.f45.body=some (zB Try.f45):=by kernel_rfl
 have hn:[AV.int .i64 v,.int .i64 n].length<=Try.f45.ntmps:=nL rfl;unfold EA;by_cases h1:n<=1
 .rw[Tv h1];exact CT.path mix Try.func45 hb hn (cut_0 v n (by simpa using h1))
 .rw[Tw h1];by_cases h2:v.tmod n<0
  .rw[Tv h2];exact CT.path mix Try.func45 hb hn (cut_1 v n (by simpa using h1) (by omega) (by simpa using h2))
  .rw[Tw h2];exact CT.path mix Try.func45 hb hn (cut_2 v n (by simpa using h1) (by omega) (by simpa using h2))
def lstI(l:List Int):AV:=.lst (l.map (AV.int .i64))
def Ag(L:List Int)(k:Nat):Blk:={es:=[.agg [lstI L,.int .i64 (k:Int)]],z:=2,flat:=true,wr:=true}
def PB(L:List Int)(k:Nat)(n:Int):St:={n:=42,fr:=AH 0 [.ptr 0 0 0,.int .i64 n],hp:=[some (Ag L k)]}
def cutHint(f:FuncId)(args:List AV):AG:=match f,args with
 | 45,[.int _ v,.int _ n]=>.call [] [] [] (.int .i64 (EA v n))
 | _,_=>.no
def cNext(L:List Int)(k:Nat)(n:Int):Nat->FuncId->List AV->List (Option Blk)->AG:=fun _ f args _=>cutHint f args
def eNext(L:List Int)(k:Nat)(n:Int):List (Nat×AV):=[(30,.int .i64 (L.getD k 0))]
theorem next_0(L:List Int)(k:Nat)(n:Int)(h1:(decide (iN k<iN (Uu iv L).length)=true))(h2:((Uu iv L)[k]?=some (iv (L.getD k 0))))(h3:(CT UB 45 [] [iv (L.getD k 0),iv n] [] (iv (EA (L.getD k 0) n)))):GoP UB (hU [43] (eNext L k n) (cNext L k n)) 1 (zB Try.f15) (PB L k n) (Fin UB Try.f15 1 [some (Blk.mk [AV.agg [UA (Uu iv L),iv (i64.wrap (iN k+1))]] 2 true true none)] (iv (EA (L.getD k 0) n))):=zF (σ:=[0]) (fz:=[]) (by kernel_rfl) (aj (u2 (aj (u2 (u2 (u2 (u2 (u2 (aj (ak (show((11:Int)=(0:Int)->False) by first | decide | exact Tc _)) s2)))))) (aj (u2 (u2 (u2 (u2 (u2 (u2 (u2 (u2 (u2 (al t3)))))))))) (aj h1 (aj (u2 (u2 (u2 (u2 (u2 (u2 (u2 (u2 (aj (k2 (aj (show(0<=iN k) from(Int.natCast_nonneg _)) h2)) (u2 s2)))))))))) (aj (u2 (u2 (u2 (u2 (u2 (u2 (u2 (al t3)))))))) (al (u2 (u2 (aj (ak (k3 (al h3))) s2)))))))))) t3)
theorem next_1(L:List Int)(k:Nat)(n:Int)(h1:(decide (iN k<iN (Uu iv L).length)=false))(h2:(CT UB 45 [] [iv ((i64.wrap (iN k * 7)).tmod 11),iv n] [] (iv (EA ((i64.wrap (iN k * 7)).tmod 11) n)))):GoP UB (hU [42] (eNext L k n) (cNext L k n)) 1 (zB Try.f15) (PB L k n) (Fin UB Try.f15 1 [some (Blk.mk [AV.agg [UA (Uu iv L),iv (i64.wrap (iN k+1))]] 2 true true none)] (iv (EA ((i64.wrap (iN k * 7)).tmod 11) n))):=zF (σ:=[0]) (fz:=[]) (by kernel_rfl) (aj (u2 (aj (u2 (u2 (u2 (u2 (u2 (aj (ak (show((11:Int)=(0:Int)->False) by first | decide | exact Tc _)) s2)))))) (aj (u2 (u2 (u2 (u2 (u2 (u2 (u2 (u2 (u2 (al t3)))))))))) (aj h1 (aj (u2 (u2 (u2 (u2 (u2 (u2 (u2 (al t3)))))))) (al (u2 (u2 (aj (ak (k3 (al h2))) s2))))))))) t3)
def Jt(L:List Int)(k:Nat):Int:=if k<L.length then L.getD k 0 else (i64.wrap ((k:Int) * 7)).tmod 11
def Ae(L:List Int)(k:Nat)(n:Int):Int:=EA (Jt L k) n
theorem zW(k:Nat)(h:k<9223372036854775807):i64.wrap ((k:Int)+1)=((k+1:Nat):Int):=by
 have:i64.wrap ((k:Int)+1)=(k:Int)+1:=by
  have e1:(2:Int) ^ i64.bits=18446744073709551616:=by decide
  have e2:(2:Int) ^ (i64.bits-1)=9223372036854775808:=by decide
  have e3:i64.signed=true:=by decide
  simp only[IntKind.wrap,e1,e2,e3,Bool.true_and,decide_eq_true_eq];split<;>omega
 rw[this];rfl
theorem A4(L:List Int)(k:Nat)(n:Int)(hk:k<9223372036854775807):CT UB 15 [some (Ag L k)] [.ptr 0 0 0,.int .i64 n] [some (Ag L (k+1))] (.int .i64 (Ae L k n)):=by
 have hb:Try.f15.body=some (zB Try.f15):=by kernel_rfl
 have hn:[AV.ptr 0 0 0,.int .i64 n].length<=Try.f15.ntmps:=nL rfl;unfold Ae Jt;by_cases h:k<L.length
 .rw[Tv h];have:=next_0 L k n (by simpa [iN] using h) (by simp[iN,h]) (Ob _ _);simp only[iN,zW k hk] at this;exact CT.path mix Try.func15 hb hn this
 .rw[Tw h];have:=next_1 L k n (by simpa [iN] using h) (Ob _ _);simp only[iN,zW k hk] at this;exact CT.path mix Try.func15 hb hn this
def lI(l:List Int):AV:=.lst (l.map (AV.int .i64))
def gL(g:List (List Int)):List AV:=g.map lI
def boL(s:List Bool):List AV:=s.map AV.bool
def dB(d:List Int):Blk:={es:=d.map (AV.int .i64),z:=1}
structure QD where
 g:List (List Int)
 s:List Bool
 goal:Nat
 n:Nat
 d:List Int
 far:Nat
 v:Nat
 i:Nat
 r:List Int
 w:Nat
 b:Bool
 e:Int
def st28(q:QD):St:={n:=Try.f71.ntmps,fr:=[(0,.lst (gL q.g)),(1,.lst (boL q.s)),(2,.int .i64 (iN q.goal))],hp:=[]}
def GU(q:QD):St:={n:=Try.f71.ntmps,fr:=[(0,.lst (gL q.g)),(1,.lst (boL q.s)),(2,.int .i64 (iN q.goal)),(7,.int .i64 (iN q.n)),(8,.sl 0 0 q.n),(17,.int .i64 (iN q.n)),(18,.int .i64 (iN q.i))],hp:=[some (dB q.d)]}
def Jj(q:QD):St:={n:=Try.f71.ntmps,fr:=[(0,.lst (gL q.g)),(1,.lst (boL q.s)),(7,.int .i64 (iN q.n)),(8,.sl 0 0 q.n),(33,.int .i64 (iN q.n)),(34,.int .i64 (iN q.far))],hp:=[some (dB q.d)]}
def DZ(q:QD):St:={n:=Try.f71.ntmps,fr:=[(0,.lst (gL q.g)),(1,.lst (boL q.s)),(7,.int .i64 (iN q.n)),(8,.sl 0 0 q.n),(10,.int .i64 (iN q.far)),(33,.int .i64 (iN q.n)),(34,.int .i64 (iN q.far)),(37,.int .i64 (iN q.n)),(38,.int .i64 (iN q.v))],hp:=[some (dB q.d)]}
def H9(q:QD):St:={n:=Try.f71.ntmps,fr:=[(0,.lst (gL q.g)),(1,.lst (boL q.s)),(7,.int .i64 (iN q.n)),(8,.sl 0 0 q.n),(10,.int .i64 (iN q.far)),(11,.int .i64 (iN q.v)),(33,.int .i64 (iN q.n)),(34,.int .i64 (iN q.far)),(37,.int .i64 (iN q.n)),(38,.int .i64 (iN q.v)),(56,.int .i64 (iN q.r.length)),(57,.int .i64 (iN q.i))],hp:=[some (dB q.d)]}
def cD(q:QD):Nat->FuncId->List AV->List (Option Blk)->AG:=fun _ _ _ _=>.no
def eD(q:QD):List (Nat×AV):=[(27,.bool q.b),(43,.bool q.b),(49,.int .i64 q.e),(54,lI q.r),(63,lI q.r),(66,.int .i64 (iN q.w)),(69,.int .i64 q.e)]
def eR(q:QD):List (Nat×AV):=[(26,.bool q.b),(46,.bool q.b),(52,.int .i64 q.e),(58,lI q.r),(67,lI q.r),(70,.int .i64 (iN q.w)),(73,.int .i64 q.e)]
def st30(q:QD):St:={n:=Try.f125.ntmps,fr:=[(0,.lst (gL q.g)),(1,.lst (boL q.s)),(2,.int .i64 (iN q.goal))],hp:=[]}
def Hg(q:QD):St:={n:=Try.f125.ntmps,fr:=[(0,.lst (gL q.g)),(1,.lst (boL q.s)),(2,.int .i64 (iN q.goal)),(7,.sl 0 0 q.n),(8,.int .i64 (iN q.i))],hp:=[some (dB q.d)]}
def JA(q:QD):St:={n:=Try.f125.ntmps,fr:=[(0,.lst (gL q.g)),(1,.lst (boL q.s)),(7,.sl 0 0 q.n),(9,.int .i64 (iN (q.far+1)))],hp:=[some (dB q.d)]}
def D4(q:QD):St:={n:=Try.f125.ntmps,fr:=[(0,.lst (gL q.g)),(1,.lst (boL q.s)),(7,.sl 0 0 q.n),(9,.int .i64 (iN (q.far+1))),(10,.int .i64 (iN q.v))],hp:=[some (dB q.d)]}
def H6(q:QD):St:={n:=Try.f125.ntmps,fr:=[(0,.lst (gL q.g)),(1,.lst (boL q.s)),(7,.sl 0 0 q.n),(9,.int .i64 (iN (q.far+1))),(10,.int .i64 (iN q.v)),(11,.int .i64 (iN q.i))],hp:=[some (dB q.d)]}
theorem di_0(q:QD)(h1:(iN (gL q.g).length<=iN (gL q.g).length))(h2:(8 * iN (gL q.g).length<=281474976710656))(h3:(iN (gL q.g).length<=9223372036854775807)){post:Exit->St->Prop}(ht:T UB 0 (.loop (zC (zB Try.f71) 0)) (St.mk 81 [(0,UA (gL q.g)),(1,UA (boL q.s)),(2,iv (iN q.goal)),(7,iv (iN (gL q.g).length)),(8,AV.sl 0 0 (gL q.g).length),(17,iv (iN (gL q.g).length)),(18,iv 0)] [some (Blk.mk (Uv (gL q.g).length (iv 0)) 1 true true none)]) (TK UB 0 post (zK (zB Try.f71) 0))):GoP UB (hU [] (eD q) (cD q)) 0 (zB Try.f71) (st28 q) post:=zR (σ:=[0]) (fz:=[]) (vars:=[0,1,2,7,8,17,18]) (by kernel_rfl) (aj (u2 (aj (u2 (u2 s2)) (aj (u2 (aj (k2 (aj (show(0<=iN (gL q.g).length) from(Int.natCast_nonneg _)) (aj h1 (aj h2 h3)))) s2)) (al (u2 t2))))) t9) ht
theorem dfr_0(q:QD)(h1:(decide (iN q.i<iN q.n)=true))(h2:(0<=iN q.i))(h3:(iN q.i<iN q.n))(h4:((0+(iN q.i).toNat).succ.le (Uu iv q.d).length)){post:Exit->St->Prop}{R:St->Prop}(hR:∀st,Ren 0 st (St.mk 81 [(0,UA (gL q.g)),(1,UA (boL q.s)),(2,iv (iN q.goal)),(7,iv (iN q.n)),(8,AV.sl 0 0 q.n),(17,iv (iN q.n)),(18,iv (i64.wrap (iN q.i+1)))] [some (Blk.mk ((Uu iv q.d).set (0+(iN q.i).toNat) (iv (-1))) 1 true true none)])->R st):GoP UB (hU [39] (eD q) (cD q)) 0 (zC (zB Try.f71) 0) (GU q) (andThen R post):=zN (σ:=[0]) (fz:=[]) (vars:=[0,1,2,7,8,17,18]) (by kernel_rfl) (aj (aj (al t3) (aj h1 (aj (u2 s2) (aj (u2 (u2 (aj (k2 (aj h2 h3)) (al (ak h4))))) (al (u2 s2)))))) t9) hR
theorem dfs_0(q:QD)(h1:(decide (iN q.i<iN q.n)=false))(h2:(0<=iN q.goal))(h3:((boL q.s)[(iN q.goal).toNat]?=some (AV.bool q.b)))(h4:(q.b=true))(h5:(q.n=(Uu iv q.d).length)):GoO UB (hU [38,57] (eD q) (cD q)) 0 (zC (zB Try.f71) 0) (zK (zB Try.f71) 0) (GU q) (Fin UB Try.f71 0 [] (UA (Uu iv q.d))):=zF (σ:=[]) (fz:=[0]) (by kernel_rfl) (aj (aj (aj (al t3) (al h1)) (aj (u2 (u2 (aj (k2 (aj h2 h3)) s2))) (aj h4 (al (u2 s2))))) (al h5))
theorem dfx_0(q:QD)(h1:(decide (iN q.i<iN q.n)=false))(h2:(0<=iN q.goal))(h3:((boL q.s)[(iN q.goal).toNat]?=some (AV.bool q.b)))(h4:(q.b=false))(h5:(iN q.goal<iN q.n))(h6:((0+(iN q.goal).toNat).succ.le (Uu iv q.d).length)){post:Exit->St->Prop}(ht:T UB 0 (.loop (zC (zB Try.f71) 1)) (St.mk 81 [(0,UA (gL q.g)),(1,UA (boL q.s)),(7,iv (iN q.n)),(8,AV.sl 0 0 q.n),(33,iv (iN q.n)),(34,iv 0)] [some (Blk.mk ((Uu iv q.d).set (0+(iN q.goal).toNat) (iv 0)) 1 true true none)]) (TK UB 0 post (zK (zB Try.f71) 1))):GoO UB (hU [38,56] (eD q) (cD q)) 0 (zC (zB Try.f71) 0) (zK (zB Try.f71) 0) (GU q) post:=zR (σ:=[0]) (fz:=[]) (vars:=[0,1,7,8,33,34]) (by kernel_rfl) (aj (aj (aj (al t3) (al h1)) (aj (u2 (u2 (aj (k2 (aj h2 h3)) s2))) (aj h4 (aj (u2 (u2 (aj (k2 (aj h2 h5)) (al (ak h6))))) (al (u2 t2)))))) t8) ht
theorem dax_0(q:QD)(h1:(decide (iN q.far<iN q.n)=false))(h2:(q.n=(Uu iv q.d).length)):GoO UB (hU [70] (eD q) (cD q)) 0 (zC (zB Try.f71) 1) (zK (zB Try.f71) 1) (Jj q) (Fin UB Try.f71 0 [] (UA (Uu iv q.d))):=zF (σ:=[]) (fz:=[0]) (by kernel_rfl) (aj (aj (aj (al t3) (al h1)) (al (u2 s2))) (al h2))
theorem dai_0(q:QD)(h1:(decide (iN q.far<iN q.n)=true)){post:Exit->St->Prop}(ht:T UB 0 (.loop (zC (zC (zB Try.f71) 1) 0)) (St.mk 81 [(0,UA (gL q.g)),(1,UA (boL q.s)),(7,iv (iN q.n)),(8,AV.sl 0 0 q.n),(10,iv (iN q.far)),(33,iv (iN q.n)),(34,iv (iN q.far)),(37,iv (iN q.n)),(38,iv 0)] [some (Blk.mk (Uu iv q.d) 1 true true none)]) (TK UB 0 post (zK (zC (zB Try.f71) 1) 0))):GoP UB (hU [71] (eD q) (cD q)) 0 (zC (zB Try.f71) 1) (Jj q) post:=zR (σ:=[0]) (fz:=[]) (vars:=[0,1,7,8,10,33,34,37,38]) (by kernel_rfl) (aj (aj (al t3) (aj h1 (aj (u2 s2) (al (u2 t2))))) (k2 t9)) ht
theorem dbx_0(q:QD)(h1:(decide (iN q.v<iN q.n)=false)){post:Exit->St->Prop}{R:St->Prop}(hR:∀st,Ren 0 st (St.mk 81 [(0,UA (gL q.g)),(1,UA (boL q.s)),(7,iv (iN q.n)),(8,AV.sl 0 0 q.n),(33,iv (iN q.n)),(34,iv (i64.wrap (iN q.far+1)))] [some (Blk.mk (Uu iv q.d) 1 true true none)])->R st):GoO UB (hU [78] (eD q) (cD q)) 0 (zC (zC (zB Try.f71) 1) 0) (zK (zC (zB Try.f71) 1) 0) (DZ q) (andThen R post):=zN (σ:=[0]) (fz:=[]) (vars:=[0,1,7,8,33,34]) (by kernel_rfl) (aj (aj (aj (al t3) (al h1)) (al (u2 s2))) t8) hR
theorem dbn_0(q:QD)(h1:(decide (iN q.v<iN q.n)=true))(h2:(0<=iN q.v))(h3:((boL q.s)[(iN q.v).toNat]?=some (AV.bool q.b)))(h4:(q.b=true)){post:Exit->St->Prop}{R:St->Prop}(hR:∀st,Ren 0 st (St.mk 81 [(0,UA (gL q.g)),(1,UA (boL q.s)),(7,iv (iN q.n)),(8,AV.sl 0 0 q.n),(10,iv (iN q.far)),(33,iv (iN q.n)),(34,iv (iN q.far)),(37,iv (iN q.n)),(38,iv (i64.wrap (iN q.v+1)))] [some (Blk.mk (Uu iv q.d) 1 true true none)])->R st):GoP UB (hU [79,103,91] (eD q) (cD q)) 0 (zC (zC (zB Try.f71) 1) 0) (DZ q) (andThen R post):=zN (σ:=[0]) (fz:=[]) (vars:=[0,1,7,8,10,33,34,37,38]) (by kernel_rfl) (aj (aj (al t3) (aj h1 (aj (u2 s2) (aj (u2 (u2 (aj (k2 (aj h2 h3)) (u2 (u2 (aj h4 (aj h4 (aj h4 (aj h4 (aj h4 (al (aj h4 t2)))))))))))) (aj (show(true=true) by first | decide | exact Tc _) (al (u2 s2))))))) (k2 t9)) hR
theorem dbn_1(q:QD)(h1:(decide (iN q.v<iN q.n)=true))(h2:(0<=iN q.v))(h3:((boL q.s)[(iN q.v).toNat]?=some (AV.bool q.b)))(h4:(q.b=false))(h5:(iN q.v<iN q.n))(h6:((Uu iv q.d)[0+(iN q.v).toNat]?=some (iv q.e)))(h7:(decide (0<=q.e)=true)){post:Exit->St->Prop}{R:St->Prop}(hR:∀st,Ren 0 st (St.mk 81 [(0,UA (gL q.g)),(1,UA (boL q.s)),(7,iv (iN q.n)),(8,AV.sl 0 0 q.n),(10,iv (iN q.far)),(33,iv (iN q.n)),(34,iv (iN q.far)),(37,iv (iN q.n)),(38,iv (i64.wrap (iN q.v+1)))] [some (Blk.mk (Uu iv q.d) 1 true true none)])->R st):GoP UB (hU [79,103,90] (eD q) (cD q)) 0 (zC (zC (zB Try.f71) 1) 0) (DZ q) (andThen R post):=zN (σ:=[0]) (fz:=[]) (vars:=[0,1,7,8,10,33,34,37,38]) (by kernel_rfl) (aj (aj (al t3) (aj h1 (aj (u2 s2) (aj (u2 (u2 (aj (k2 (aj h2 h3)) (u2 (u2 (ag h4 (ag h4 (aj (aj h4 (k2 (aj h2 h5))) (aj (aj h4 (ak h6)) (ag h4 (al (aj h4 t2)))))))))))) (aj h7 (al (u2 s2))))))) (k2 t9)) hR
theorem dbi_0(q:QD)(h1:(decide (iN q.v<iN q.n)=true))(h2:(0<=iN q.v))(h3:((boL q.s)[(iN q.v).toNat]?=some (AV.bool q.b)))(h4:(q.b=false))(h5:(iN q.v<iN q.n))(h6:((Uu iv q.d)[0+(iN q.v).toNat]?=some (iv q.e)))(h7:(decide (0<=q.e)=false))(h8:((gL q.g)[(iN q.v).toNat]?=some (UA (Uu iv q.r)))){post:Exit->St->Prop}(ht:T UB 0 (.loop (zC (zC (zC (zB Try.f71) 1) 0) 0)) (St.mk 81 [(0,UA (gL q.g)),(1,UA (boL q.s)),(7,iv (iN q.n)),(8,AV.sl 0 0 q.n),(10,iv (iN q.far)),(11,iv (iN q.v)),(33,iv (iN q.n)),(34,iv (iN q.far)),(37,iv (iN q.n)),(38,iv (iN q.v)),(56,iv (iN (Uu iv q.r).length)),(57,iv 0)] [some (Blk.mk (Uu iv q.d) 1 true true none)]) (TK UB 0 post (zK (zC (zC (zB Try.f71) 1) 0) 0))):GoP UB (hU [79,90,102] (eD q) (cD q)) 0 (zC (zC (zB Try.f71) 1) 0) (DZ q) post:=zR (σ:=[0]) (fz:=[]) (vars:=[0,1,7,8,10,11,33,34,37,38,56,57]) (by kernel_rfl) (aj (aj (al t3) (aj h1 (aj (u2 s2) (aj (u2 (u2 (aj (k2 (aj h2 h3)) (u2 (u2 (ag h4 (ag h4 (aj (aj h4 (k2 (aj h2 h5))) (aj (aj h4 (ak h6)) (ag h4 (al (aj h4 t2)))))))))))) (aj h7 (al (u2 (u2 (aj (k2 (aj h2 h8)) (u2 (u2 t2))))))))))) (k5 t9)) ht
theorem dcx_0(q:QD)(h1:(decide (iN q.i<iN q.r.length)=false)){post:Exit->St->Prop}{R:St->Prop}(hR:∀st,Ren 0 st (St.mk 81 [(0,UA (gL q.g)),(1,UA (boL q.s)),(7,iv (iN q.n)),(8,AV.sl 0 0 q.n),(10,iv (iN q.far)),(33,iv (iN q.n)),(34,iv (iN q.far)),(37,iv (iN q.n)),(38,iv (i64.wrap (iN q.v+1)))] [some (Blk.mk (Uu iv q.d) 1 true true none)])->R st):GoO UB (hU [116] (eD q) (cD q)) 0 (zC (zC (zC (zB Try.f71) 1) 0) 0) (zK (zC (zC (zB Try.f71) 1) 0) 0) (H9 q) (andThen R post):=zN (σ:=[0]) (fz:=[]) (vars:=[0,1,7,8,10,33,34,37,38]) (by kernel_rfl) (aj (aj (aj (al t3) (al h1)) (al (u2 s2))) (k2 t9)) hR
theorem dcr_0(q:QD)(h1:(decide (iN q.i<iN q.r.length)=true))(h2:(0<=iN q.v))(h3:((gL q.g)[(iN q.v).toNat]?=some (UA (Uu iv q.r))))(h4:(0<=iN q.i))(h5:((Uu iv q.r)[(iN q.i).toNat]?=some (iv (iN q.w))))(h6:(0<=iN q.w))(h7:(iN q.w<iN q.n))(h8:((Uu iv q.d)[0+(iN q.w).toNat]?=some (iv q.e)))(h9:((q.e==iN q.far)=true))(h10:(iN q.v<iN q.n))(h11:((0+(iN q.v).toNat).succ.le (Uu iv q.d).length)){post:Exit->St->Prop}{R:St->Prop}(hR:∀st,Ren 0 st (St.mk 81 [(0,UA (gL q.g)),(1,UA (boL q.s)),(7,iv (iN q.n)),(8,AV.sl 0 0 q.n),(10,iv (iN q.far)),(11,iv (iN q.v)),(33,iv (iN q.n)),(34,iv (iN q.far)),(37,iv (iN q.n)),(38,iv (iN q.v)),(56,iv (iN q.r.length)),(57,iv (i64.wrap (iN q.i+1)))] [some (Blk.mk ((Uu iv q.d).set (0+(iN q.v).toNat) (iv (i64.wrap (iN q.far+1)))) 1 true true none)])->R st):GoP UB (hU [117,143] (eD q) (cD q)) 0 (zC (zC (zC (zB Try.f71) 1) 0) 0) (H9 q) (andThen R post):=zN (σ:=[0]) (fz:=[]) (vars:=[0,1,7,8,10,11,33,34,37,38,56,57]) (by kernel_rfl) (aj (aj (al t3) (aj h1 (aj (u2 s2) (aj (u2 (u2 (u2 (aj (k2 (aj h2 h3)) (u2 (u2 (aj (k2 (aj h4 h5)) (u2 (aj (k2 (aj h6 h7)) (aj (ak h8) (u2 (al t3)))))))))))) (aj h9 (aj (u2 (u2 (u2 (u2 (aj (k2 (aj h2 h10)) (al (k2 h11))))))) (al (u2 s2)))))))) (k5 t9)) hR
theorem dcr_1(q:QD)(h1:(decide (iN q.i<iN q.r.length)=true))(h2:(0<=iN q.v))(h3:((gL q.g)[(iN q.v).toNat]?=some (UA (Uu iv q.r))))(h4:(0<=iN q.i))(h5:((Uu iv q.r)[(iN q.i).toNat]?=some (iv (iN q.w))))(h6:(0<=iN q.w))(h7:(iN q.w<iN q.n))(h8:((Uu iv q.d)[0+(iN q.w).toNat]?=some (iv q.e)))(h9:((q.e==iN q.far)=false)){post:Exit->St->Prop}{R:St->Prop}(hR:∀st,Ren 0 st (St.mk 81 [(0,UA (gL q.g)),(1,UA (boL q.s)),(7,iv (iN q.n)),(8,AV.sl 0 0 q.n),(10,iv (iN q.far)),(11,iv (iN q.v)),(33,iv (iN q.n)),(34,iv (iN q.far)),(37,iv (iN q.n)),(38,iv (iN q.v)),(56,iv (iN q.r.length)),(57,iv (i64.wrap (iN q.i+1)))] [some (Blk.mk (Uu iv q.d) 1 true true none)])->R st):GoP UB (hU [117,142] (eD q) (cD q)) 0 (zC (zC (zC (zB Try.f71) 1) 0) 0) (H9 q) (andThen R post):=zN (σ:=[0]) (fz:=[]) (vars:=[0,1,7,8,10,11,33,34,37,38,56,57]) (by kernel_rfl) (aj (aj (al t3) (aj h1 (aj (u2 s2) (aj (u2 (u2 (u2 (aj (k2 (aj h2 h3)) (u2 (u2 (aj (k2 (aj h4 h5)) (u2 (aj (k2 (aj h6 h7)) (aj (ak h8) (u2 (al t3)))))))))))) (aj h9 (al (u2 s2))))))) (k5 t9)) hR
theorem ri_0(q:QD)(h1:(iN (gL q.g).length<=iN (gL q.g).length))(h2:(8 * iN (gL q.g).length<=281474976710656))(h3:(iN (gL q.g).length<=9223372036854775807)){post:Exit->St->Prop}(ht:T UB 0 (.loop (zC (zB Try.f125) 0)) (St.mk 82 [(0,UA (gL q.g)),(1,UA (boL q.s)),(2,iv (iN q.goal)),(7,AV.sl 0 0 (gL q.g).length),(8,iv 0)] [some (Blk.mk (Uv (gL q.g).length (iv 0)) 1 true true none)]) (TK UB 0 post (zK (zB Try.f125) 0))):GoP UB (hU [] (eR q) (cD q)) 0 (zB Try.f125) (st30 q) post:=zR (σ:=[0]) (fz:=[]) (vars:=[0,1,2,7,8]) (by kernel_rfl) (aj (u2 (aj (u2 (u2 (aj (k2 (aj (show(0<=iN (gL q.g).length) from(Int.natCast_nonneg _)) (aj h1 (aj h2 h3)))) s2))) s2)) t7) ht
theorem rfr_0(q:QD)(h1:(decide (iN q.i<iN (gL q.g).length)=true))(h2:(0<=iN q.i))(h3:(iN q.i<iN q.n))(h4:((0+(iN q.i).toNat).succ.le (Uu iv q.d).length)){post:Exit->St->Prop}{R:St->Prop}(hR:∀st,Ren 0 st (St.mk 82 [(0,UA (gL q.g)),(1,UA (boL q.s)),(2,iv (iN q.goal)),(7,AV.sl 0 0 q.n),(8,iv (i64.wrap (iN q.i+1)))] [some (Blk.mk ((Uu iv q.d).set (0+(iN q.i).toNat) (iv (-1))) 1 true true none)])->R st):GoP UB (hU [37] (eR q) (cD q)) 0 (zC (zB Try.f125) 0) (Hg q) (andThen R post):=zN (σ:=[0]) (fz:=[]) (vars:=[0,1,2,7,8]) (by kernel_rfl) (aj (aj (u2 (u2 (u2 (al t3)))) (aj h1 (aj (u2 (u2 (aj (k2 (aj h2 h3)) (al (ak h4))))) (al (u2 (u2 s2)))))) t7) hR
theorem rfs_0(q:QD)(h1:(decide (iN q.i<iN (gL q.g).length)=false))(h2:(0<=iN q.goal))(h3:((boL q.s)[(iN q.goal).toNat]?=some (AV.bool q.b)))(h4:(q.b=true))(h5:(q.n=(Uu iv q.d).length)):GoO UB (hU [36,55] (eR q) (cD q)) 0 (zC (zB Try.f125) 0) (zK (zB Try.f125) 0) (Hg q) (Fin UB Try.f125 0 [] (UA (Uu iv q.d))):=zF (σ:=[]) (fz:=[0]) (by kernel_rfl) (aj (aj (aj (u2 (u2 (u2 (al t3)))) (al h1)) (aj (u2 (u2 (aj (k2 (aj h2 h3)) s2))) (aj h4 (al (u2 s2))))) (al h5))
theorem rfx_0(q:QD)(h1:(decide (iN q.i<iN (gL q.g).length)=false))(h2:(0<=iN q.goal))(h3:((boL q.s)[(iN q.goal).toNat]?=some (AV.bool q.b)))(h4:(q.b=false))(h5:(iN q.goal<iN q.n))(h6:((0+(iN q.goal).toNat).succ.le (Uu iv q.d).length)){post:Exit->St->Prop}(ht:T UB 0 (.loop (zC (zB Try.f125) 1)) (St.mk 82 [(0,UA (gL q.g)),(1,UA (boL q.s)),(7,AV.sl 0 0 q.n),(9,iv 1)] [some (Blk.mk ((Uu iv q.d).set (0+(iN q.goal).toNat) (iv 0)) 1 true true none)]) (TK UB 0 post (zK (zB Try.f125) 1))):GoO UB (hU [36,54] (eR q) (cD q)) 0 (zC (zB Try.f125) 0) (zK (zB Try.f125) 0) (Hg q) post:=zR (σ:=[0]) (fz:=[]) (vars:=[0,1,7,9]) (by kernel_rfl) (aj (aj (aj (u2 (u2 (u2 (al t3)))) (al h1)) (aj (u2 (u2 (aj (k2 (aj h2 h3)) s2))) (aj h4 (aj (u2 (u2 (aj (k2 (aj h2 h5)) (al (ak h6))))) s2)))) t6) ht
theorem rax_0(q:QD)(h1:(decide (iN (q.far+1)<iN (gL q.g).length)=false))(h2:(q.n=(Uu iv q.d).length)):GoO UB (hU [70] (eR q) (cD q)) 0 (zC (zB Try.f125) 1) (zK (zB Try.f125) 1) (JA q) (Fin UB Try.f125 0 [] (UA (Uu iv q.d))):=zF (σ:=[]) (fz:=[0]) (by kernel_rfl) (aj (aj (aj (u2 (u2 (u2 (al t3)))) (al h1)) (al (u2 s2))) (al h2))
theorem rai_0(q:QD)(h1:(decide (iN (q.far+1)<iN (gL q.g).length)=true)){post:Exit->St->Prop}(ht:T UB 0 (.loop (zC (zC (zB Try.f125) 1) 0)) (St.mk 82 [(0,UA (gL q.g)),(1,UA (boL q.s)),(7,AV.sl 0 0 q.n),(9,iv (iN (q.far+1))),(10,iv 0)] [some (Blk.mk (Uu iv q.d) 1 true true none)]) (TK UB 0 post (zK (zC (zB Try.f125) 1) 0))):GoP UB (hU [71] (eR q) (cD q)) 0 (zC (zB Try.f125) 1) (JA q) post:=zR (σ:=[0]) (fz:=[]) (vars:=[0,1,7,9,10]) (by kernel_rfl) (aj (aj (u2 (u2 (u2 (al t3)))) (aj h1 s2)) t7) ht
theorem rbx_0(q:QD)(h1:(decide (iN q.v<iN (gL q.g).length)=false)){post:Exit->St->Prop}{R:St->Prop}(hR:∀st,Ren 0 st (St.mk 82 [(0,UA (gL q.g)),(1,UA (boL q.s)),(7,AV.sl 0 0 q.n),(9,iv (i64.wrap (iN (q.far+1)+1)))] [some (Blk.mk (Uu iv q.d) 1 true true none)])->R st):GoO UB (hU [82] (eR q) (cD q)) 0 (zC (zC (zB Try.f125) 1) 0) (zK (zC (zB Try.f125) 1) 0) (D4 q) (andThen R post):=zN (σ:=[0]) (fz:=[]) (vars:=[0,1,7,9]) (by kernel_rfl) (aj (aj (aj (u2 (u2 (u2 (al t3)))) (al h1)) (al (u2 (u2 s2)))) t6) hR
theorem rbn_0(q:QD)(h1:(decide (iN q.v<iN (gL q.g).length)=true))(h2:(0<=iN q.v))(h3:((boL q.s)[(iN q.v).toNat]?=some (AV.bool q.b)))(h4:(q.b=true)){post:Exit->St->Prop}{R:St->Prop}(hR:∀st,Ren 0 st (St.mk 82 [(0,UA (gL q.g)),(1,UA (boL q.s)),(7,AV.sl 0 0 q.n),(9,iv (iN (q.far+1))),(10,iv (i64.wrap (iN q.v+1)))] [some (Blk.mk (Uu iv q.d) 1 true true none)])->R st):GoP UB (hU [83,109,97] (eR q) (cD q)) 0 (zC (zC (zB Try.f125) 1) 0) (D4 q) (andThen R post):=zN (σ:=[0]) (fz:=[]) (vars:=[0,1,7,9,10]) (by kernel_rfl) (aj (aj (u2 (u2 (u2 (al t3)))) (aj h1 (aj (u2 (u2 (aj (k2 (aj h2 h3)) (u2 (u2 (aj h4 (aj h4 (aj h4 (aj h4 (aj h4 (al (aj h4 t2)))))))))))) (aj (show(true=true) by first | decide | exact Tc _) (al (u2 (u2 s2))))))) t7) hR
theorem rbn_1(q:QD)(h1:(decide (iN q.v<iN (gL q.g).length)=true))(h2:(0<=iN q.v))(h3:((boL q.s)[(iN q.v).toNat]?=some (AV.bool q.b)))(h4:(q.b=false))(h5:(iN q.v<iN q.n))(h6:((Uu iv q.d)[0+(iN q.v).toNat]?=some (iv q.e)))(h7:(decide (0<=q.e)=true)){post:Exit->St->Prop}{R:St->Prop}(hR:∀st,Ren 0 st (St.mk 82 [(0,UA (gL q.g)),(1,UA (boL q.s)),(7,AV.sl 0 0 q.n),(9,iv (iN (q.far+1))),(10,iv (i64.wrap (iN q.v+1)))] [some (Blk.mk (Uu iv q.d) 1 true true none)])->R st):GoP UB (hU [83,109,96] (eR q) (cD q)) 0 (zC (zC (zB Try.f125) 1) 0) (D4 q) (andThen R post):=zN (σ:=[0]) (fz:=[]) (vars:=[0,1,7,9,10]) (by kernel_rfl) (aj (aj (u2 (u2 (u2 (al t3)))) (aj h1 (aj (u2 (u2 (aj (k2 (aj h2 h3)) (u2 (u2 (ag h4 (ag h4 (aj (aj h4 (k2 (aj h2 h5))) (aj (aj h4 (ak h6)) (ag h4 (al (aj h4 t2)))))))))))) (aj h7 (al (u2 (u2 s2))))))) t7) hR
theorem rbi_0(q:QD)(h1:(decide (iN q.v<iN (gL q.g).length)=true))(h2:(0<=iN q.v))(h3:((boL q.s)[(iN q.v).toNat]?=some (AV.bool q.b)))(h4:(q.b=false))(h5:(iN q.v<iN q.n))(h6:((Uu iv q.d)[0+(iN q.v).toNat]?=some (iv q.e)))(h7:(decide (0<=q.e)=false)){post:Exit->St->Prop}(ht:T UB 0 (.loop (zC (zC (zC (zB Try.f125) 1) 0) 0)) (St.mk 82 [(0,UA (gL q.g)),(1,UA (boL q.s)),(7,AV.sl 0 0 q.n),(9,iv (iN (q.far+1))),(10,iv (iN q.v)),(11,iv 0)] [some (Blk.mk (Uu iv q.d) 1 true true none)]) (TK UB 0 post (zK (zC (zC (zB Try.f125) 1) 0) 0))):GoP UB (hU [83,96,108] (eR q) (cD q)) 0 (zC (zC (zB Try.f125) 1) 0) (D4 q) post:=zR (σ:=[0]) (fz:=[]) (vars:=[0,1,7,9,10,11]) (by kernel_rfl) (aj (aj (u2 (u2 (u2 (al t3)))) (aj h1 (aj (u2 (u2 (aj (k2 (aj h2 h3)) (u2 (u2 (ag h4 (ag h4 (aj (aj h4 (k2 (aj h2 h5))) (aj (aj h4 (ak h6)) (ag h4 (al (aj h4 t2)))))))))))) (aj h7 s2)))) t8) ht
theorem rcx_0(q:QD)(h1:(0<=iN q.v))(h2:((gL q.g)[(iN q.v).toNat]?=some (UA (Uu iv q.r))))(h3:(decide (iN q.i<iN (Uu iv q.r).length)=false)){post:Exit->St->Prop}{R:St->Prop}(hR:∀st,Ren 0 st (St.mk 82 [(0,UA (gL q.g)),(1,UA (boL q.s)),(7,AV.sl 0 0 q.n),(9,iv (iN (q.far+1))),(10,iv (i64.wrap (iN q.v+1)))] [some (Blk.mk (Uu iv q.d) 1 true true none)])->R st):GoO UB (hU [122] (eR q) (cD q)) 0 (zC (zC (zC (zB Try.f125) 1) 0) 0) (zK (zC (zC (zB Try.f125) 1) 0) 0) (H6 q) (andThen R post):=zN (σ:=[0]) (fz:=[]) (vars:=[0,1,7,9,10]) (by kernel_rfl) (aj (aj (aj (u2 (u2 (u2 (aj (k2 (aj h1 h2)) (u2 (u2 (al t3))))))) (al h3)) (al (u2 (u2 s2)))) t7) hR
theorem rcr_0(q:QD)(h1:(0<=iN q.v))(h2:((gL q.g)[(iN q.v).toNat]?=some (UA (Uu iv q.r))))(h3:(decide (iN q.i<iN (Uu iv q.r).length)=true))(h4:(0<=iN q.i))(h5:((Uu iv q.r)[(iN q.i).toNat]?=some (iv (iN q.w))))(h6:(0<=iN q.w))(h7:(iN q.w<iN q.n))(h8:((Uu iv q.d)[0+(iN q.w).toNat]?=some (iv q.e)))(h9:((q.e==i64.wrap (iN (q.far+1)-1))=true))(h10:(iN q.v<iN q.n))(h11:((0+(iN q.v).toNat).succ.le (Uu iv q.d).length)){post:Exit->St->Prop}{R:St->Prop}(hR:∀st,Ren 0 st (St.mk 82 [(0,UA (gL q.g)),(1,UA (boL q.s)),(7,AV.sl 0 0 q.n),(9,iv (iN (q.far+1))),(10,iv (iN q.v)),(11,iv (i64.wrap (iN q.i+1)))] [some (Blk.mk ((Uu iv q.d).set (0+(iN q.v).toNat) (iv (iN (q.far+1)))) 1 true true none)])->R st):GoP UB (hU [123,153] (eR q) (cD q)) 0 (zC (zC (zC (zB Try.f125) 1) 0) 0) (H6 q) (andThen R post):=zN (σ:=[0]) (fz:=[]) (vars:=[0,1,7,9,10,11]) (by kernel_rfl) (aj (aj (u2 (u2 (u2 (aj (k2 (aj h1 h2)) (u2 (u2 (al t3))))))) (aj h3 (aj (u2 (u2 (u2 (aj (k2 (aj h1 h2)) (u2 (u2 (aj (k2 (aj h4 h5)) (u2 (aj (k2 (aj h6 h7)) (aj (ak h8) (u2 (u2 (al t3))))))))))))) (aj h9 (aj (u2 (u2 (u2 (aj (k2 (aj h1 h10)) (al (k2 h11)))))) (al (u2 (u2 s2)))))))) t8) hR
theorem rcr_1(q:QD)(h1:(0<=iN q.v))(h2:((gL q.g)[(iN q.v).toNat]?=some (UA (Uu iv q.r))))(h3:(decide (iN q.i<iN (Uu iv q.r).length)=true))(h4:(0<=iN q.i))(h5:((Uu iv q.r)[(iN q.i).toNat]?=some (iv (iN q.w))))(h6:(0<=iN q.w))(h7:(iN q.w<iN q.n))(h8:((Uu iv q.d)[0+(iN q.w).toNat]?=some (iv q.e)))(h9:((q.e==i64.wrap (iN (q.far+1)-1))=false)){post:Exit->St->Prop}{R:St->Prop}(hR:∀st,Ren 0 st (St.mk 82 [(0,UA (gL q.g)),(1,UA (boL q.s)),(7,AV.sl 0 0 q.n),(9,iv (iN (q.far+1))),(10,iv (iN q.v)),(11,iv (i64.wrap (iN q.i+1)))] [some (Blk.mk (Uu iv q.d) 1 true true none)])->R st):GoP UB (hU [123,152] (eR q) (cD q)) 0 (zC (zC (zC (zB Try.f125) 1) 0) 0) (H6 q) (andThen R post):=zN (σ:=[0]) (fz:=[]) (vars:=[0,1,7,9,10,11]) (by kernel_rfl) (aj (aj (u2 (u2 (u2 (aj (k2 (aj h1 h2)) (u2 (u2 (al t3))))))) (aj h3 (aj (u2 (u2 (u2 (aj (k2 (aj h1 h2)) (u2 (u2 (aj (k2 (aj h4 h5)) (u2 (aj (k2 (aj h6 h7)) (aj (ak h8) (u2 (u2 (al t3))))))))))))) (aj h9 (al (u2 (u2 s2))))))) t8) hR
end Go.Proofs.Ytedjkebooffjpaa
set_option linter.unusedSimpArgs false
namespace Go.Proofs.Ytedjkebooffjpaa
def BO(v far:Nat)(d:List Int)(w:Int):List Int:=if (d.getD w.toNat 0==(far:Int))=true then d.set v ((far+1:Nat):Int) else d
def F4(r:List Int)(v far:Nat)(d:List Int):List Int:=r.foldl (BO v far) d
def Ba(g:List (List Int))(s:List Bool)(far:Nat)(d:List Int)(v:Nat):List Int:=if s.getD v false=true then d else if decide (0<=d.getD v 0)=true then d else F4 (g.getD v []) v far d
def BW(g:List (List Int))(s:List Bool)(d:List Int)(far:Nat):List Int:=(Uy g.length).foldl (Ba g s far) d
def Cq(g:List (List Int))(goal:Nat):List Int:=(Uv g.length (-1)).set goal 0
def AC(g:List (List Int))(s:List Bool)(goal N:Nat):List Int:=if s.getD goal false=true then Uv g.length (-1) else (Uy N).foldl (BW g s) (Cq g goal)
structure OkG(g:List (List Int))(s:List Bool):Prop where
 len:g.length<=24
 row:∀v,v<g.length->(g.getD v []).length<=9223372036854775807/\∀w∈g.getD v [],0<=w/\w<(g.length:Int)/\w≠(v:Int)
 sh:s.length=g.length
theorem JX(v far:Nat)(d:List Int)(w:Int):(BO v far d w).length=d.length:=by unfold BO;split<;>simp
theorem D8{β:Type}{f:List Int->β->List Int}(hf:∀d x,(f d x).length=d.length):∀(l:List β) (d:List Int),(l.foldl f d).length=d.length:=by
 intro l;induction l with
 | nil=>intro d;rfl
 | cons x l ih=>intro d;rw[List.foldl_cons,ih,hf]
theorem Q0(r:List Int)(v far:Nat)(d:List Int):(F4 r v far d).length=d.length:=D8 (JX v far) r d
theorem I3(g:List (List Int))(s:List Bool)(far:Nat)(d:List Int)(v:Nat):(Ba g s far d v).length=d.length:=by
 unfold Ba;split
 .rfl
 .split
  .rfl
  .exact Q0 _ _ _ _
theorem ID(g:List (List Int))(s:List Bool)(d:List Int)(far:Nat):(BW g s d far).length=d.length:=D8 (I3 g s far) _ d
theorem KD(g:List (List Int))(goal:Nat):(Cq g goal).length=g.length:=by simp[Cq]
theorem OM(g:List (List Int))(s:List Bool)(goal N:Nat):(AC g s goal N).length=g.length:=by
 unfold AC;split
 .simp
 .rw[D8 (ID g s),KD]
theorem BD(g:List (List Int)):(gL g).length=g.length:=by simp[gL]
theorem CX{g:List (List Int)}{v:Nat}(h:v<g.length):(gL g)[v]?=some (lI (g.getD v [])):=by unfold gL;rw[TH,Ty,Tx h];rfl
theorem CB(s:List Bool):(boL s).length=s.length:=by simp[boL]
theorem Gq{s:List Bool}{v:Nat}(h:v<s.length):(boL s)[v]?=some (.bool (s.getD v false)):=by unfold boL;rw[TH,Ty,Tx h];rfl
theorem BV(l:List Int):(l.map (AV.int .i64)).length=l.length:=by simp
theorem Bu{l:List Int}{j:Nat}(h:j<l.length):(l.map (AV.int .i64))[j]?=some (.int .i64 (l.getD j 0)):=by rw[TH,Ty,Tx h];rfl
theorem Ew{l:List Int}{j:Nat}(h:j<l.length):(l.map (AV.int .i64))[0+j]?=some (.int .i64 (l.getD j 0)):=by rw[TP];exact Bu h
def BE(n j:Nat):List Int:=(Uy n).map fun t=>if t<j then -1 else 0
theorem Gf(n j:Nat):(BE n j).length=n:=by simp[BE]
theorem PZ(n:Nat):Uv n (AV.int .i64 0)=(BE n 0).map (AV.int .i64):=by
 apply List.ext_getElem
 .simp[BE]
 .intro i h1 h2;simp[BE]
theorem JQ(n:Nat):BE n n=Uv n (-1):=by
 apply List.ext_getElem
 .simp[BE]
 .intro i h1 h2;simp[BE] at h1 ⊢;omega
theorem Pf(n j:Nat)(h:j<n):(BE n j).set j (-1)=BE n (j+1):=by
 apply List.ext_getElem
 .simp[BE]
 .intro i h1 h2;simp only[BE,List.getElem_set,List.getElem_map,List.getElem_range];split
  .rw[Tv (by omega)]
  .by_cases hij:i<j
   .rw[Tv hij,Tv (by omega)]
   .rw[Tw hij,Tw (by omega)]
theorem map_set(l:List Int)(j:Nat)(v:Int):(l.map (AV.int .i64)).set (0+j) (.int .i64 v)=(l.set j v).map (AV.int .i64):=by rw[TP,Uq]
theorem P6{β:Type}(f:List Int->β->List Int)(r:List β)(d:List Int)(i:Nat)(h:i<r.length):(r.take (i+1)).foldl f d=f ((r.take i).foldl f d) (r[i]):=by rw[List.take_add_one,Tx h,List.foldl_append];rfl
theorem FT(f:List Int->Nat->List Int)(d:List Int)(i:Nat):(Uy (i+1)).foldl f d=f ((Uy i).foldl f d) i:=by rw[Um,List.foldl_append];rfl
theorem iw(j:Nat)(h:j<9223372036854775807):i64.wrap (iN j+1)=((j+1:Nat):Int):=zW j h
def qd(g:List (List Int))(s:List Bool)(goal:Nat)(d:List Int)(far v i:Nat)(r:List Int):QD:=⟨g,s,goal,g.length,d,far,v,i,r,0,false,0⟩
theorem dc_run{g:List (List Int)}{s:List Bool}(hg:OkG g s)(goal far v:Nat)(d:List Int)(hd:d.length=g.length)(hf:far<1000)(hv:v<g.length){R:St->Prop}{post:Exit->St->Prop}
  (hR:∀st,Ren 0 st (DZ (qd g s goal (F4 (g.getD v []) v far d) far (v+1) 0 []))->R st):
  T UB 0 (.loop (zC (zC (zC (zB Try.f71) 1) 0) 0)) (H9 (qd g s goal d far v 0 (g.getD v []))) (TK UB 0 (andThen R post) (zK (zC (zC (zB Try.f71) 1) 0) 0)):=by
 obtain⟨hr1,hr2⟩:=hg.row v hv;have hgl:=hg.len;have hrow:=CX hv;generalize g.getD v []=r at hR hr1 hr2 hrow;refine T.loop (fun i:Nat=>H9 (qd g s goal ((r.take i).foldl (BO v far) d) far v i r)) (fun i=>i<=r.length) (fun i=>r.length+1-i) 0 (TJ _) ?_;intro i hi;have hdl:((r.take i).foldl (BO v far) d).length=g.length:=by rw[D8 (JX v far),hd]
 by_cases h:i<r.length
 .obtain⟨w0,w1,_⟩:=hr2 r[i] (T5 h);obtain⟨w,hw⟩:∃w:Nat,r[i]=(w:Int):=⟨r[i].toNat,by omega⟩;have hwn:w<g.length:=by omega
  have hget:(r.map (AV.int .i64))[i]?=some (.int .i64 (w:Int)):=by rw[TH,Tx h,hw];rfl
  have hstep:=P6 (BO v far) r d i h;generalize hdd:(r.take i).foldl (BO v far) d=d' at hdl hstep;rw[hw] at hstep;have hml:=BV d';by_cases he:(d'.getD w 0==(far:Int))=true
  .refine T.path mix (dcr_0 ⟨g,s,goal,g.length,d',far,v,i,r,w,false,d'.getD w 0⟩ (by simp[iN];omega) (by simp[iN]) hrow (by simp[iN]) hget (by simp[iN]) (by simp[iN];omega) (Ew (l:=d') (j:=w) (by omega)) he (by simp[iN];omega) (by simp[iN,hml];omega) ?_);intro st hst;refine⟨i+1,?_,h,by omega⟩;have e:BO v far d' ((w:Nat):Int)=d'.set v ((far+1:Nat):Int):=by unfold BO;rw[TG,Tv he]
   rw[hstep,e];simp only[iN,TG,iw i (by omega),zW far (by omega),zW i (by omega)] at hst;rw[map_set] at hst;exact hst
  .have hne:=he;have he:=Uk.2 he;refine T.path mix (dcr_1 ⟨g,s,goal,g.length,d',far,v,i,r,w,false,d'.getD w 0⟩ (by simp[iN];omega) (by simp[iN]) hrow (by simp[iN]) hget (by simp[iN]) (by simp[iN];omega) (Ew (l:=d') (j:=w) (by omega)) he ?_);intro st hst;refine⟨i+1,?_,h,by omega⟩;have e:BO v far d' ((w:Nat):Int)=d':=by unfold BO;rw[TG,Tw hne]
   rw[hstep,e];simp only[iN,zW i (show i<9223372036854775807 by omega)] at hst;exact hst
 .have hti:r.take i=r:=List.take_of_length_le (by omega);refine T.out mix (dcx_0 (qd g s goal ((r.take i).foldl (BO v far) d) far v i r) (TC (by simp only[iN,qd];omega)) ?_);intro st hst;refine hR st ?_;rw[hti] at hst;simp only[iN,qd,zW v (show v<9223372036854775807 by omega)] at hst;exact hst
theorem db_run{g:List (List Int)}{s:List Bool}(hg:OkG g s)(goal far:Nat)(d:List Int)(hd:d.length=g.length)(hf:far<1000){R:St->Prop}{post:Exit->St->Prop}
  (hR:∀st,Ren 0 st (Jj (qd g s goal (BW g s d far) (far+1) 0 0 []))->R st):
  T UB 0 (.loop (zC (zC (zB Try.f71) 1) 0)) (DZ (qd g s goal d far 0 0 [])) (TK UB 0 (andThen R post) (zK (zC (zB Try.f71) 1) 0)):=by
 have hgl:=hg.len;refine T.loop (fun v:Nat=>DZ (qd g s goal ((Uy v).foldl (Ba g s far) d) far v 0 [])) (fun v=>v<=g.length) (fun v=>g.length+1-v) 0 (TJ _) ?_;intro v hv;have hdl:((Uy v).foldl (Ba g s far) d).length=g.length:=by rw[D8 (I3 g s far),hd]
 by_cases h:v<g.length
 .have hstep:=FT (Ba g s far) d v;generalize (Uy v).foldl (Ba g s far) d=d' at hdl hstep;have hb:=Gq (s:=s) (v:=v) (by rw[hg.sh];exact h);have next:∀(d'':List Int) (st:St),Ba g s far d' v=d''->Ren 0 st (DZ (qd g s goal d'' far (v+1) 0 []))->∃j,Ren 0 st (DZ (qd g s goal ((Uy j).foldl (Ba g s far) d) far j 0 []))/\j<=g.length/\g.length+1-j<g.length+1-v:=by intro d'' st e hst;refine⟨v+1,?_,h,by omega⟩;rw[hstep,e];exact hst
  by_cases hs:s.getD v false=true
  .refine T.path mix (dbn_0 ⟨g,s,goal,g.length,d',far,v,0,[],0,s.getD v false,0⟩ (by simp[iN];omega) (by simp[iN]) hb hs ?_);intro st hst;simp only[iN,zW v (show v<9223372036854775807 by omega)] at hst;exact next d' st (by unfold Ba;rw[Tv hs]) hst
  .by_cases hd0:decide (0<=d'.getD v 0)=true
   .refine T.path mix (dbn_1 ⟨g,s,goal,g.length,d',far,v,0,[],0,s.getD v false,d'.getD v 0⟩ (by simp[iN];omega) (by simp[iN]) hb (Uk.2 hs) (by simp[iN];omega) (Ew (l:=d') (j:=v) (by omega)) hd0 ?_);intro st hst;simp only[iN,zW v (show v<9223372036854775807 by omega)] at hst;exact next d' st (by unfold Ba;rw[Tw hs,Tv hd0]) hst
   .refine T.path mix (dbi_0 ⟨g,s,goal,g.length,d',far,v,0,g.getD v [],0,s.getD v false,d'.getD v 0⟩ (by simp[iN];omega) (by simp[iN]) hb (Uk.2 hs) (by simp[iN];omega) (Ew (l:=d') (j:=v) (by omega)) (Uk.2 hd0) (CX h) ?_);have k:=dc_run hg goal far v d' hdl hf h (R:=fun st'=>∃j,Ren 0 st' (DZ (qd g s goal ((Uy j).foldl (Ba g s far) d) far j 0 []))/\j<=g.length/\g.length+1-j<g.length+1-v) (post:=TK UB 0 (andThen R post) (zK (zC (zB Try.f71) 1) 0)) fun st hst=>next _ st (by unfold Ba;rw[Tw hs,Tw hd0]) hst
    simp only[BV];exact k
 .obtain rfl:v=g.length:=by omega
  refine T.out mix (dbx_0 (qd g s goal ((Uy g.length).foldl (Ba g s far) d) far g.length 0 []) (by simp[iN,qd]) ?_);intro st hst;refine hR st ?_;simp only[iN,qd,zW far (show far<9223372036854775807 by omega)] at hst;exact hst
theorem QM{g:List (List Int)}{s:List Bool}(hg:OkG g s)(goal:Nat)(hgo:goal<g.length):CT UB 71 [] [.lst (gL g),.lst (boL s),.int .i64 (goal:Nat)] [] (lI (AC g s goal g.length)):=by
 have hgl:=hg.len;have hl:=BD g;refine CT.path mix Try.func71 (show Try.f71.body=some (zB Try.f71) by kernel_rfl) (nL rfl) (di_0 (qd g s goal [] 0 0 0 []) (Int.le_refl _) (by simp only[qd,iN,hl];omega) (by simp only[qd,iN,hl];omega) ?_);have hb:=Gq (s:=s) (v:=goal) (by rw[hg.sh];exact hgo);have key:T UB 0 (.loop (zC (zB Try.f71) 0)) (GU (qd g s goal (BE g.length 0) 0 0 0 [])) (TK UB 0 (Fin UB Try.f71 0 [] (lI (AC g s goal g.length))) (zK (zB Try.f71) 0)):=by
  refine T.loop (fun i:Nat=>GU (qd g s goal (BE g.length i) 0 0 i [])) (fun i=>i<=g.length) (fun i=>g.length+1-i) 0 (TJ _) ?_;intro i hi;have hfl:=Gf g.length i;have hml:=BV (BE g.length i);by_cases h:i<g.length
  .refine T.path mix (dfr_0 (qd g s goal (BE g.length i) 0 0 i []) (by simp[iN,qd];omega) (by simp[iN]) (by simp[iN,qd];omega) (by simp[iN,qd,Gf];omega) ?_);intro st hst;refine⟨i+1,?_,h,by omega⟩;simp only[iN,qd,TG,zW i (show i<9223372036854775807 by omega)] at hst;rw[map_set,Pf _ _ h] at hst;exact hst
  .obtain rfl:i=g.length:=by omega
   by_cases hs:s.getD goal false=true
   .have k:=dfs_0 ⟨g,s,goal,g.length,BE g.length g.length,0,0,g.length,[],0,s.getD goal false,0⟩ (by simp[iN]) (by simp[iN]) hb hs (by simp[Gf]);have e:AC g s goal g.length=BE g.length g.length:=by unfold AC;rw[Tv hs,JQ]
    rw[e];exact T.out mix k
   .have e:AC g s goal g.length=(Uy g.length).foldl (BW g s) (Cq g goal):=by unfold AC;rw[Tw hs]
    refine T.out mix (dfx_0 ⟨g,s,goal,g.length,BE g.length g.length,0,0,g.length,[],0,s.getD goal false,0⟩ (by simp[iN]) (by simp[iN]) hb (Uk.2 hs) (by simp[iN];omega) (by simp[iN,Gf];omega) ?_);simp only[iN,TG];rw[map_set,JQ,e];refine T.loop (fun far:Nat=>Jj (qd g s goal ((Uy far).foldl (BW g s) (Cq g goal)) far 0 0 [])) (fun far=>far<=g.length) (fun far=>g.length+1-far) 0 (TJ _) ?_;intro far hfar;have hdl:((Uy far).foldl (BW g s) (Cq g goal)).length=g.length:=by rw[D8 (ID g s),KD]
    by_cases hf:far<g.length
    .refine T.path mix (dai_0 (qd g s goal ((Uy far).foldl (BW g s) (Cq g goal)) far 0 0 []) (by simp[iN,qd];omega) ?_);refine db_run hg goal far _ hdl (by omega) fun st hst=>⟨far+1,?_,hf,by omega⟩
     rw[FT];exact hst
    .obtain rfl:far=g.length:=by omega
     exact T.out mix (dax_0 (qd g s goal ((Uy g.length).foldl (BW g s) (Cq g goal)) g.length 0 0 []) (by simp[iN,qd]) (by simp[qd,hdl]))
 unfold GU qd dB at key;simp only[qd,hl,PZ];exact key
structure QK where
 g:List (List Int)
 s:List Bool
 d:List Int
 v:Nat
 w:Nat
 a:Nat
 i:Nat
 r:List Int
 x:Int
 y:Int
 b:Bool
 e:Int
 p:List Int
 q:List (List Int)
def st27(q:QK):St:={n:=Try.f70.ntmps,fr:=[(0,.lst (gL q.g)),(1,.lst (boL q.s)),(2,.int .i64 q.x),(3,.int .i64 q.y)],hp:=[]}
def Er(q:QK):St:={n:=Try.f70.ntmps,fr:=[(0,.lst (gL q.g)),(1,.lst (boL q.s)),(2,.int .i64 q.x),(3,.int .i64 q.y),(9,.int .i64 (iN q.g.length)),(17,.int .i64 (iN q.g.length)),(18,.int .i64 (iN q.a))],hp:=[]}
def DH(q:QK):St:={n:=Try.f70.ntmps,fr:=[(0,.lst (gL q.g)),(1,.lst (boL q.s)),(2,.int .i64 q.x),(3,.int .i64 q.y),(9,.int .i64 (iN q.g.length)),(10,.int .i64 (iN q.a)),(17,.int .i64 (iN q.g.length)),(18,.int .i64 (iN q.a)),(25,.int .i64 (iN q.r.length)),(26,.int .i64 (iN q.i))],hp:=[]}
def cK(q:QK):Nat->FuncId->List AV->List (Option Blk)->AG:=fun dst f args _=>match f with
 | 70=>.call [] [] [] (.int .i64 q.e)
 | 71=>.call [] [] [] (lI q.d)
 | 139=>.call [] [] [] (.int .i64 q.x)
 | _=>.no
def e27(q:QK):List (Nat×AV):=[(23,lI q.r),(31,lI q.r),(34,.int .i64 (iN q.w)),(55,lI q.r),(59,.int .i64 q.e)]
def st33(q:QK):St:={n:=Try.f139.ntmps,fr:=[(0,.lst (gL q.g)),(1,lI q.d),(2,.int .i64 (iN q.v))],hp:=[]}
def FS(q:QK):St:={n:=Try.f139.ntmps,fr:=[(0,.lst (gL q.g)),(1,lI q.d),(2,.int .i64 (iN q.v)),(13,.int .i64 (iN q.r.length)),(14,.int .i64 (iN q.i))],hp:=[]}
def e33(q:QK):List (Nat×AV):=[(11,lI q.r),(19,lI q.r),(22,.int .i64 (iN q.w)),(26,.int .i64 q.x),(32,.int .i64 q.y),(36,.int .i64 q.x)]
def eK(q:QK):List (Nat×AV):=[]
def st16(q:QK):St:={n:=Try.f22.ntmps,fr:=[(0,lI q.p),(1,lI q.p)],hp:=[]}
def lo16(q:QK):St:={n:=Try.f22.ntmps,fr:=[(0,lI q.p),(1,lI q.p),(5,.int .i64 (iN q.i))],hp:=[]}
def e16(q:QK):List (Nat×AV):=[(19,.int .i64 q.x),(23,.int .i64 q.x)]
theorem ck_0(q:QK)(h1:(decide (24<iN (gL q.g).length)=false)){post:Exit->St->Prop}(ht:T UB 0 (.loop (zC (zB Try.f70) 0)) (St.mk 88 [(0,UA (gL q.g)),(1,UA (boL q.s)),(2,iv q.x),(3,iv q.y),(9,iv (iN (gL q.g).length)),(17,iv (iN (gL q.g).length)),(18,iv 0)] []) (TK UB 0 post (zK (zB Try.f70) 0))):GoP UB (hU [32] (e27 q) (cK q)) 0 (zB Try.f70) (st27 q) post:=zR (σ:=[]) (fz:=[]) (vars:=[0,1,2,3,9,17,18]) (by kernel_rfl) (aj (u2 (aj (u2 (u2 s2)) (aj (u2 s2) (aj h1 (al (u2 t2)))))) t8) ht
theorem ckb_0(q:QK)(h1:(decide (24<iN (gL q.g).length)=true)):GoP UB (hU [33] (e27 q) (cK q)) 0 (zB Try.f70) (st27 q) (Fin UB Try.f70 0 [] (iv 20)):=zF (σ:=[]) (fz:=[]) (by kernel_rfl) (aj (u2 (aj (u2 (u2 s2)) (aj (u2 s2) (aj h1 s2)))) t2)
theorem cka_0(q:QK)(h1:(decide (iN q.a<iN q.g.length)=true))(h2:(0<=iN q.a))(h3:((gL q.g)[(iN q.a).toNat]?=some (UA (Uu iv q.r)))){post:Exit->St->Prop}(ht:T UB 0 (.loop (zC (zC (zB Try.f70) 0) 0)) (St.mk 88 [(0,UA (gL q.g)),(1,UA (boL q.s)),(2,iv q.x),(3,iv q.y),(9,iv (iN q.g.length)),(10,iv (iN q.a)),(17,iv (iN q.g.length)),(18,iv (iN q.a)),(25,iv (iN (Uu iv q.r).length)),(26,iv 0)] []) (TK UB 0 post (zK (zC (zB Try.f70) 0) 0))):GoP UB (hU [39] (e27 q) (cK q)) 0 (zC (zB Try.f70) 0) (Er q) post:=zR (σ:=[]) (fz:=[]) (vars:=[0,1,2,3,9,10,17,18,25,26]) (by kernel_rfl) (aj (aj (al t3) (aj h1 (aj (u2 s2) (al (u2 (u2 (aj (k2 (aj h2 h3)) (u2 (u2 t2))))))))) (k2 t9)) ht
theorem ckx_0(q:QK)(h1:(decide (iN q.a<iN q.g.length)=false))(h2:((iN (boL q.s).length != iN q.g.length)=true)):GoO UB (hU [38,141] (e27 q) (cK q)) 0 (zC (zB Try.f70) 0) (zK (zB Try.f70) 0) (Er q) (Fin UB Try.f70 0 [] (iv 19)):=zF (σ:=[]) (fz:=[]) (by kernel_rfl) (aj (aj (aj (al t3) (al h1)) (aj (u2 (u2 (u2 (aj t3 (u2 (aj h2 (aj h2 (ag h2 (u2 (k3 (aj t3 (u2 (k2 (aj t3 (u2 (k3 (al t3))))))))))))))))) (ak s2))) t2)
theorem ckx_1(q:QK)(h1:(decide (iN q.a<iN q.g.length)=false))(h2:((iN (boL q.s).length != iN q.g.length)=false))(h3:(decide (q.x<0)=true)):GoO UB (hU [38,140,149] (e27 q) (cK q)) 0 (zC (zB Try.f70) 0) (zK (zB Try.f70) 0) (Er q) (Fin UB Try.f70 0 [] (iv 19)):=zF (σ:=[]) (fz:=[]) (by kernel_rfl) (aj (aj (aj (al t3) (al h1)) (aj (u2 (u2 (u2 (aj t3 (u2 (ag h2 (ag h2 (ag h2 (u2 (aj h3 (aj h3 (aj h3 (ag h3 (u2 (k2 (aj t3 (u2 (k3 (al t3))))))))))))))))))) (ak s2))) t2)
theorem ckx_2(q:QK)(h1:(decide (iN q.a<iN q.g.length)=false))(h2:((iN (boL q.s).length != iN q.g.length)=false))(h3:(decide (q.x<0)=false))(h4:(decide (iN q.g.length<=q.x)=true)):GoO UB (hU [38,140,148,159] (e27 q) (cK q)) 0 (zC (zB Try.f70) 0) (zK (zB Try.f70) 0) (Er q) (Fin UB Try.f70 0 [] (iv 19)):=zF (σ:=[]) (fz:=[]) (by kernel_rfl) (aj (aj (aj (al t3) (al h1)) (aj (u2 (u2 (u2 (aj t3 (u2 (ag h2 (ag h2 (ag h2 (u2 (ag h3 (ag h3 (aj (aj h3 t3) (ag h3 (u2 (aj h4 (aj h4 (ag h4 (u2 (k3 (al t3)))))))))))))))))))) (ak s2))) t2)
theorem ckx_3(q:QK)(h1:(decide (iN q.a<iN q.g.length)=false))(h2:((iN (boL q.s).length != iN q.g.length)=false))(h3:(decide (q.x<0)=false))(h4:(decide (iN q.g.length<=q.x)=false))(h5:(decide (q.y<0)=true)):GoO UB (hU [38,140,148,158,167] (e27 q) (cK q)) 0 (zC (zB Try.f70) 0) (zK (zB Try.f70) 0) (Er q) (Fin UB Try.f70 0 [] (iv 19)):=zF (σ:=[]) (fz:=[]) (by kernel_rfl) (aj (aj (aj (al t3) (al h1)) (aj (u2 (u2 (u2 (aj t3 (u2 (ag h2 (ag h2 (ag h2 (u2 (ag h3 (ag h3 (aj (aj h3 t3) (ag h3 (u2 (ag h4 (ag h4 (ag h4 (u2 (aj h5 (aj h5 (aj h5 (al (aj h5 t2))))))))))))))))))))))) (ak s2))) t2)
theorem ckx_4(q:QK)(h1:(decide (iN q.a<iN q.g.length)=false))(h2:((iN (boL q.s).length != iN q.g.length)=false))(h3:(decide (q.x<0)=false))(h4:(decide (iN q.g.length<=q.x)=false))(h5:(decide (q.y<0)=false))(h6:(decide (iN q.g.length<=q.y)=true)):GoO UB (hU [38,140,148,158,166,175] (e27 q) (cK q)) 0 (zC (zB Try.f70) 0) (zK (zB Try.f70) 0) (Er q) (Fin UB Try.f70 0 [] (iv 19)):=zF (σ:=[]) (fz:=[]) (by kernel_rfl) (aj (aj (aj (al t3) (al h1)) (aj (u2 (u2 (u2 (aj t3 (u2 (ag h2 (ag h2 (ag h2 (u2 (ag h3 (ag h3 (aj (aj h3 t3) (ag h3 (u2 (ag h4 (ag h4 (ag h4 (u2 (ag h5 (ag h5 (aj (aj h5 t3) (al (aj h5 t2))))))))))))))))))))))) (aj h6 s2))) t2)
theorem ckx_5(q:QK)(h1:(decide (iN q.a<iN q.g.length)=false))(h2:((iN (boL q.s).length != iN q.g.length)=false))(h3:(decide (q.x<0)=false))(h4:(decide (iN q.g.length<=q.x)=false))(h5:(decide (q.y<0)=false))(h6:(decide (iN q.g.length<=q.y)=false)):GoO UB (hU [38,140,148,158,166,174] (e27 q) (cK q)) 0 (zC (zB Try.f70) 0) (zK (zB Try.f70) 0) (Er q) (Fin UB Try.f70 0 [] (iv 0)):=zF (σ:=[]) (fz:=[]) (by kernel_rfl) (aj (aj (aj (al t3) (al h1)) (aj (u2 (u2 (u2 (aj t3 (u2 (ag h2 (ag h2 (ag h2 (u2 (ag h3 (ag h3 (aj (aj h3 t3) (ag h3 (u2 (ag h4 (ag h4 (ag h4 (u2 (ag h5 (ag h5 (aj (aj h5 t3) (al (aj h5 t2))))))))))))))))))))))) (aj h6 s2))) t2)
theorem ckbx_0(q:QK)(h1:(decide (iN q.i<iN q.r.length)=false)){post:Exit->St->Prop}{R:St->Prop}(hR:∀st,Ren 0 st (St.mk 88 [(0,UA (gL q.g)),(1,UA (boL q.s)),(2,iv q.x),(3,iv q.y),(9,iv (iN q.g.length)),(17,iv (iN q.g.length)),(18,iv (i64.wrap (iN q.a+1)))] [])->R st):GoO UB (hU [54] (e27 q) (cK q)) 0 (zC (zC (zB Try.f70) 0) 0) (zK (zC (zB Try.f70) 0) 0) (DH q) (andThen R post):=zN (σ:=[]) (fz:=[]) (vars:=[0,1,2,3,9,17,18]) (by kernel_rfl) (aj (aj (aj (al t3) (al h1)) (al (u2 s2))) t8) hR
theorem hp_0(q:QK)(h1:(0<=iN q.v))(h2:((gL q.g)[(iN q.v).toNat]?=some (UA (Uu iv q.r)))){post:Exit->St->Prop}(ht:T UB 0 (.loop (zC (zB Try.f139) 0)) (St.mk 43 [(0,UA (gL q.g)),(1,UA (Uu iv q.d)),(2,iv (iN q.v)),(13,iv (iN (Uu iv q.r).length)),(14,iv 0)] []) (TK UB 0 post (zK (zB Try.f139) 0))):GoP UB (hU [] (e33 q) (cK q)) 0 (zB Try.f139) (st33 q) post:=zR (σ:=[]) (fz:=[]) (vars:=[0,1,2,13,14]) (by kernel_rfl) (aj (u2 (al (u2 (u2 (aj (k2 (aj h1 h2)) (u2 (u2 t2))))))) t6) ht
theorem hpx_0(q:QK)(h1:(decide (iN q.i<iN q.r.length)=false)):GoO UB (hU [30] (e33 q) (cK q)) 0 (zC (zB Try.f139) 0) (zK (zB Try.f139) 0) (FS q) (Fin UB Try.f139 0 [] (iv (-1))):=zF (σ:=[]) (fz:=[]) (by kernel_rfl) (aj (aj (aj (al t3) (al h1)) s2) t2)
theorem hpr_0(q:QK)(h1:(decide (iN q.i<iN q.r.length)=true))(h2:(0<=iN q.v))(h3:((gL q.g)[(iN q.v).toNat]?=some (UA (Uu iv q.r))))(h4:(0<=iN q.i))(h5:((Uu iv q.r)[(iN q.i).toNat]?=some (iv (iN q.w))))(h6:((Uu iv q.d)[(iN q.v).toNat]?=some (iv q.x)))(h7:(decide (0<q.x)=true))(h8:(0<=iN q.w))(h9:((Uu iv q.d)[(iN q.w).toNat]?=some (iv q.y)))(h10:((q.y==i64.wrap (q.x-1))=true)):GoO UB (hU [31,59,81] (e33 q) (cK q)) 0 (zC (zB Try.f139) 0) (zK (zB Try.f139) 0) (FS q) (Fin UB Try.f139 0 [] (iv (iN q.w))):=zF (σ:=[]) (fz:=[]) (by kernel_rfl) (aj (al (aj (al t3) (aj h1 (aj (u2 s2) (aj (u2 (u2 (aj (k2 (aj h2 h3)) (u2 (u2 (aj (k2 (aj h4 h5)) (u2 s2))))))) (aj (u2 (u2 (aj (k2 (aj h2 h6)) (u2 (u2 (u2 (ag h7 (ag h7 (aj (aj h7 (k2 (aj h8 h9))) (ag h7 (ag h7 (ag h7 (aj (aj h7 (k2 (aj h2 h6))) (ag h7 (ag h7 (aj (aj h7 t3) (al (aj h7 t2)))))))))))))))))) (aj h10 (al (u2 s2))))))))) t2)
theorem hpr_1(q:QK)(h1:(decide (iN q.i<iN q.r.length)=true))(h2:(0<=iN q.v))(h3:((gL q.g)[(iN q.v).toNat]?=some (UA (Uu iv q.r))))(h4:(0<=iN q.i))(h5:((Uu iv q.r)[(iN q.i).toNat]?=some (iv (iN q.w))))(h6:((Uu iv q.d)[(iN q.v).toNat]?=some (iv q.x)))(h7:(decide (0<q.x)=true))(h8:(0<=iN q.w))(h9:((Uu iv q.d)[(iN q.w).toNat]?=some (iv q.y)))(h10:((q.y==i64.wrap (q.x-1))=false)){post:Exit->St->Prop}{R:St->Prop}(hR:∀st,Ren 0 st (St.mk 43 [(0,UA (gL q.g)),(1,UA (Uu iv q.d)),(2,iv (iN q.v)),(13,iv (iN q.r.length)),(14,iv (i64.wrap (iN q.i+1)))] [])->R st):GoP UB (hU [31,59,80] (e33 q) (cK q)) 0 (zC (zB Try.f139) 0) (FS q) (andThen R post):=zN (σ:=[]) (fz:=[]) (vars:=[0,1,2,13,14]) (by kernel_rfl) (aj (aj (al t3) (aj h1 (aj (u2 s2) (aj (u2 (u2 (aj (k2 (aj h2 h3)) (u2 (u2 (aj (k2 (aj h4 h5)) (u2 s2))))))) (aj (u2 (u2 (aj (k2 (aj h2 h6)) (u2 (u2 (u2 (ag h7 (ag h7 (aj (aj h7 (k2 (aj h8 h9))) (ag h7 (ag h7 (ag h7 (aj (aj h7 (k2 (aj h2 h6))) (ag h7 (ag h7 (aj (aj h7 t3) (al (aj h7 t2)))))))))))))))))) (aj h10 (al (u2 s2)))))))) t6) hR
theorem hpr_2(q:QK)(h1:(decide (iN q.i<iN q.r.length)=true))(h2:(0<=iN q.v))(h3:((gL q.g)[(iN q.v).toNat]?=some (UA (Uu iv q.r))))(h4:(0<=iN q.i))(h5:((Uu iv q.r)[(iN q.i).toNat]?=some (iv (iN q.w))))(h6:((Uu iv q.d)[(iN q.v).toNat]?=some (iv q.x)))(h7:(decide (0<q.x)=false)){post:Exit->St->Prop}{R:St->Prop}(hR:∀st,Ren 0 st (St.mk 43 [(0,UA (gL q.g)),(1,UA (Uu iv q.d)),(2,iv (iN q.v)),(13,iv (iN q.r.length)),(14,iv (i64.wrap (iN q.i+1)))] [])->R st):GoP UB (hU [31,58] (e33 q) (cK q)) 0 (zC (zB Try.f139) 0) (FS q) (andThen R post):=zN (σ:=[]) (fz:=[]) (vars:=[0,1,2,13,14]) (by kernel_rfl) (aj (aj (al t3) (aj h1 (aj (u2 s2) (aj (u2 (u2 (aj (k2 (aj h2 h3)) (u2 (u2 (aj (k2 (aj h4 h5)) (u2 s2))))))) (aj (u2 (u2 (aj (k2 (aj h2 h6)) (u2 (u2 (u2 (aj h7 (aj h7 (aj h7 (aj h7 (aj h7 (aj h7 (aj h7 (aj h7 (aj h7 (aj h7 (al (aj h7 t2)))))))))))))))))) (ak (al (u2 s2)))))))) t6) hR
theorem si_0(q:QK)(h1:((iN (Uu iv q.p).length != iN (Uu iv q.p).length)=false)){post:Exit->St->Prop}(ht:T UB 0 (.loop (zC (zB Try.f22) 0)) (St.mk 26 [(0,UA (Uu iv q.p)),(1,UA (Uu iv q.p)),(5,iv 0)] []) (TK UB 0 post (zK (zB Try.f22) 0))):GoP UB (hU [20] (e16 q) (cK q)) 0 (zB Try.f22) (st16 q) post:=zR (σ:=[]) (fz:=[]) (vars:=[0,1,5]) (by kernel_rfl) (aj (u2 (aj (u2 (u2 (u2 (u2 (al t3))))) (aj h1 s2))) t4) ht
theorem six_0(q:QK)(h1:(decide (iN q.i<iN (Uu iv q.p).length)=false)):GoO UB (hU [28] (e16 q) (cK q)) 0 (zC (zB Try.f22) 0) (zK (zB Try.f22) 0) (lo16 q) (Fin UB Try.f22 0 [] (AV.bool true)):=zF (σ:=[]) (fz:=[]) (by kernel_rfl) (aj (aj (aj (u2 (u2 (u2 (al t3)))) (al h1)) s2) t2)
theorem sir_0(q:QK)(h1:(decide (iN q.i<iN (Uu iv q.p).length)=true))(h2:(0<=iN q.i))(h3:((Uu iv q.p)[(iN q.i).toNat]?=some (iv q.x)))(h4:((q.x != q.x)=false)){post:Exit->St->Prop}{R:St->Prop}(hR:∀st,Ren 0 st (St.mk 26 [(0,UA (Uu iv q.p)),(1,UA (Uu iv q.p)),(5,iv (i64.wrap (iN q.i+1)))] [])->R st):GoP UB (hU [29,50] (e16 q) (cK q)) 0 (zC (zB Try.f22) 0) (lo16 q) (andThen R post):=zN (σ:=[]) (fz:=[]) (vars:=[0,1,5]) (by kernel_rfl) (aj (aj (u2 (u2 (u2 (al t3)))) (aj h1 (aj (u2 (u2 (aj (k2 (aj h2 h3)) (u2 (u2 (u2 (aj (k2 (aj h2 h3)) (u2 (al t3))))))))) (aj h4 (al (u2 (u2 s2))))))) t4) hR
def Asc(g:List (List Int)):Prop:=∀v,v<g.length->∀i,0<i->i<(g.getD v []).length->(g.getD v []).getD (i-1) 0<(g.getD v []).getD i 0
theorem F9{g:List (List Int)}{s:List Bool}(hg:OkG g s){v:Nat}(hv:v<g.length){i:Nat}(hi:i<(g.getD v []).length):∃w:Nat,(g.getD v []).getD i 0=(w:Int)/\w<g.length/\w≠v:=by
 have hr:=(hg.row v hv).2;generalize g.getD v []=r at hi hr ⊢
 have hm:r.getD i 0∈r:=by rw[Ty,Tx hi];exact T5 hi
 obtain⟨h1,h2,h3⟩:=hr _ hm;exact⟨(r.getD i 0).toNat,by omega,by omega,by omega⟩
def qk(g:List (List Int))(s:List Bool)(v w:Int)(a i:Nat)(r:List Int):QK:=⟨g,s,[],0,0,a,i,r,v,w,false,0,[],[]⟩
theorem FM(i:Nat)(h0:0<i)(h:i<9223372036854775808):i64.wrap ((i:Int)-1)=((i-1:Nat):Int):=by
 have e1:(2:Int) ^ i64.bits=18446744073709551616:=by decide
 have e2:(2:Int) ^ (i64.bits-1)=9223372036854775808:=by decide
 have e3:i64.signed=true:=by decide
 simp only[IntKind.wrap,e1,e2,e3,Bool.true_and,decide_eq_true_eq];split<;>omega
def fnd(p:Nat->Bool):Nat->Nat->Option Nat
 | _,0=>none
 | s,n+1=>match p s with
  | true=>some s
  | false=>fnd p (s+1) n
theorem CV{p:Nat->Bool}{s k:Nat}(h:s<k):fnd p s (k-s)=(match p s with | true=>some s | false=>fnd p (s+1) (k-(s+1))):=by rw[show k-s=(k-(s+1))+1 by omega,fnd]
theorem C1{p:Nat->Bool}{s k:Nat}(h:¬s<k):fnd p s (k-s)=none:=by rw[show k-s=0 by omega,fnd]
def DW(g:List (List Int))(d:List Int)(v i:Nat):Bool:=decide (0<d.getD v 0)&&(d.getD ((g.getD v []).getD i 0).toNat 0==d.getD v 0-1)
def DY(r:List Int)(o:Option Nat):Int:=match o with
 | some i=>r.getD i 0
 | none=> -1
def B2(g:List (List Int))(d:List Int)(v:Nat):Int:=DY (g.getD v []) (fnd (DW g d v) 0 (g.getD v []).length)
def Dz(d:List Int):Prop:=∀x∈d,x<=1000
theorem Dz.get{d:List Int}(h:Dz d){v:Nat}(hv:v<d.length):d.getD v 0<=1000:=by rw[Ty,Tx hv];exact h _ (T5 hv)
theorem Dz.set{d:List Int}(h:Dz d)(v:Nat)(x:Int)(hx:x<=1000):Dz (d.set v x):=by
 intro y hy;rcases List.mem_or_eq_of_mem_set hy with hy | rfl
 .exact h y hy
 .exact hx
theorem Ny{β:Type}{Q:List Int->Prop}{f:List Int->β->List Int}:∀(l:List β) (d:List Int),Q d->(∀d x,x∈l->Q d->Q (f d x))->Q (l.foldl f d):=by
 intro l;induction l with
 | nil=>intro d h _;exact h
 | cons x l ih=>intro d h hf;exact ih _ (hf d x (by simp) h) fun d y hy=>hf d y (TR _ hy)
theorem Pb(g:List (List Int))(s:List Bool)(goal N:Nat)(hN:N<=900):Dz (AC g s goal N):=by
 have h0:Dz (Uv g.length (-1)):=by intro x hx;rw[(List.mem_replicate.1 hx).2];omega
 unfold AC;split
 .exact h0
 .refine Ny _ _ (h0.set _ _ (by omega)) fun d far hfar hd=>?_
  unfold BW;refine Ny _ _ hd fun d v _ hd=>?_
  unfold Ba;split
  .exact hd
  .split
   .exact hd
   .refine Ny _ _ hd fun d w _ hd=>?_
    unfold BO;split
    .exact hd.set _ _ (by have:=Uo.1 hfar;omega)
    .exact hd
def qh(g:List (List Int))(d:List Int)(v i:Nat)(r:List Int):QK:=⟨g,[],d,v,0,0,i,r,0,0,false,0,[],[]⟩
theorem hop_ct{g:List (List Int)}{s:List Bool}(hg:OkG g s)(d:List Int)(hd:d.length=g.length)(hsm:Dz d)(v:Nat)(hv:v<g.length):CT UB 139 [] [.lst (gL g),lI d,.int .i64 (v:Nat)] [] (.int .i64 (B2 g d v)):=by
 have hr1:=(hg.row v hv).1;have hrow:=CX hv;have hget:=fun i=>F9 hg hv (i:=i)
 have hdv:=hsm.get (v:=v) (by omega);have hv1:=Bu (l:=d) (j:=v) (by omega);unfold B2;have hP:∀i,DW g d v i=(decide (0<d.getD v 0)&&(d.getD ((g.getD v []).getD i 0).toNat 0==d.getD v 0-1)):=fun i=>rfl
 generalize DW g d v=pp at hP;generalize g.getD v []=r at hr1 hrow hget hP;refine CT.path mix Try.func139 (show Try.f139.body=some (zB Try.f139) by kernel_rfl) (nL rfl) (hp_0 (qh g d v 0 r) (by simp[iN]) hrow ?_);simp only[qh,BV];generalize hrr:fnd pp 0 r.length=res;refine T.loop (fun i:Nat=>FS (qh g d v i r)) (fun i=>i<=r.length/\fnd pp i (r.length-i)=res) (fun i=>r.length+1-i) 0 ⟨TJ _,hrr⟩ ?_
 rintro i ⟨hi,hf⟩
 by_cases h:i<r.length
 .rw[CV h] at hf;obtain⟨w,hw,hw1,hw2⟩:=hget i h;have hg1:=Bu h;rw[hw] at hg1;have hw3:=Bu (l:=d) (j:=w) (by omega);have hpi:=hP i;rw[hw,TG] at hpi;have next:fnd pp (i+1) (r.length-(i+1))=res->∀st,Ren 0 st (FS (qh g d v (i+1) r))->∃j,Ren 0 st (FS (qh g d v j r))/\(j<=r.length/\fnd pp j (r.length-j)=res)/\r.length+1-j<r.length+1-i:=fun hf st hst=>⟨i+1,hst,⟨h,hf⟩,by omega⟩
  by_cases h0:0<d.getD v 0
  .obtain⟨m,hm⟩:∃m:Nat,d.getD v 0=(m:Int):=⟨(d.getD v 0).toNat,by omega⟩;have hwr:i64.wrap (d.getD v 0-1)=d.getD v 0-1:=by rw[hm,FM m (by omega) (by omega)];omega
   by_cases he:(d.getD w 0==d.getD v 0-1)=true
   .have hpt:pp i=true:=by rw[hpi,he,TD h0];rfl
    simp only[hpt] at hf;subst hf;show T UB 0 _ _ (andThen _ (TK UB 0 (Fin UB Try.f139 0 [] (.int .i64 (r.getD i 0))) _));rw[hw];exact T.out mix (hpr_0 ⟨g,[],d,v,w,0,i,r,d.getD v 0,d.getD w 0,false,0,[],[]⟩ (TD (by simp only[iN];omega)) (by simp[iN]) hrow (by simp[iN]) hg1 hv1 (TD h0) (by simp[iN]) hw3 (by simp only[hwr];exact he))
   .have he:=Uk.2 he;have hpt:pp i=false:=by rw[hpi,he,Bool.and_false]
    simp only[hpt] at hf;refine T.path mix (hpr_1 ⟨g,[],d,v,w,0,i,r,d.getD v 0,d.getD w 0,false,0,[],[]⟩ (TD (by simp only[iN];omega)) (by simp[iN]) hrow (by simp[iN]) hg1 hv1 (TD h0) (by simp[iN]) hw3 (by simp only[hwr];exact he) ?_);intro st hst;simp only[iN,zW i (show i<9223372036854775807 by omega)] at hst;exact next hf st hst
  .have hpt:pp i=false:=by rw[hpi,TC h0,Bool.false_and]
   simp only[hpt] at hf;refine T.path mix (hpr_2 ⟨g,[],d,v,w,0,i,r,d.getD v 0,0,false,0,[],[]⟩ (TD (by simp only[iN];omega)) (by simp[iN]) hrow (by simp[iN]) hg1 hv1 (TC h0) ?_);intro st hst;simp only[iN,zW i (show i<9223372036854775807 by omega)] at hst;exact next hf st hst
 .rw[C1 h] at hf;subst hf;exact T.out mix (hpx_0 (qh g d v i r) (TC (by simp only[iN,qh];omega)))
def BG(g:List (List Int))(d:List Int):List Int:=(Uy g.length).map (B2 g d)
def Br(g:List (List Int))(d:List Int)(j:Nat):List Int:=(Uy g.length).map fun t=>if t<j then B2 g d t else 0
theorem Nv(g:List (List Int))(d:List Int)(j:Nat):(Br g d j).length=g.length:=by simp[Br]
theorem NT(g:List (List Int))(d:List Int):Uv g.length (AV.int .i64 0)=(Br g d 0).map (AV.int .i64):=by
 apply List.ext_getElem
 .simp[Br]
 .intro i h1 h2;simp[Br]
theorem fillH_n(g:List (List Int))(d:List Int):Br g d g.length=BG g d:=by
 apply List.ext_getElem
 .simp[Br,BG]
 .intro i h1 h2;simp[Br,BG] at h1 ⊢;omega
theorem SY(g:List (List Int))(d:List Int)(j:Nat)(h:j<g.length):(Br g d j).set j (B2 g d j)=Br g d (j+1):=by
 apply List.ext_getElem
 .simp[Br]
 .intro i h1 h2;simp only[Br,List.getElem_set,List.getElem_map,List.getElem_range];split
  .rename_i e;subst e;rw[Tv (by omega)]
  .by_cases hij:i<j
   .rw[Tv hij,Tv (by omega)]
   .rw[Tw hij,Tw (by omega)]
theorem Qd(L:List Int)(hL:L.length<=1000000):CT UB 22 [] [lI L,lI L] [] (.bool true):=by
 refine CT.path mix Try.func22 (show Try.f22.body=some (zB Try.f22) by kernel_rfl) (nL rfl) (si_0 ⟨[],[],[],0,0,0,0,[],0,0,false,0,L,[]⟩ (by simp) ?_);refine T.loop (fun j:Nat=>lo16 ⟨[],[],[],0,0,0,j,[],0,0,false,0,L,[]⟩) (fun j=>j<=L.length) (fun j=>L.length+1-j) 0 (TJ _) ?_;intro j hj;by_cases h:j<L.length
 .refine T.path mix (sir_0 ⟨[],[],[],0,0,0,j,[],L.getD j 0,0,false,0,L,[]⟩ (by simp[iN];omega) (by simp[iN]) (Bu h) (by simp) ?_);intro st hst;rw[show i64.wrap (iN j+1)=((j+1:Nat):Int) from zW j (by omega)] at hst;exact⟨j+1,hst,h,by omega⟩
 .exact T.out mix (six_0 ⟨[],[],[],0,0,0,j,[],0,0,false,0,L,[]⟩ (by simp[iN];omega))
def wkZ(g:List (List Int))(d:List Int)(a:Nat):Nat->Int | 0=>(a:Int) | k+1=>B2 g d (wkZ g d a k).toNat
def wkL(g:List (List Int))(d:List Int)(a k:Nat):List Int:=(Uy (k+1)).map (wkZ g d a)
theorem Jv(g:List (List Int))(d:List Int)(a k:Nat):(wkL g d a k).length=k+1:=by simp[wkL]
theorem PI(g:List (List Int))(d:List Int)(a k:Nat):wkL g d a (k+1)=wkL g d a k++[wkZ g d a (k+1)]:=by unfold wkL;rw[Um,TM];rfl
def tabZ(g:List (List Int))(s:List Bool)(k:Nat):List (List Int):=(Uy k).map fun t=>BG g (AC g s t g.length)
def kg:List (List Int):=[[1],[2],[3],[0]]
def ks:List Bool:=[false,false,false,false]
def c8(u:Unit):Nat->FuncId->List AV->List (Option Blk)->AG:=fun dst f args _=>match f with
 | 32=>.call [] [] [] (.tup [lI [0,3,2,1],.int .i64 0])
 | 111=>.call [] [] [] (.tup [lI [1,2,3,0],.int .i64 0])
 | 22=>match args with
  | [_,.sl b _ _]=>.call [] [b] [] (.bool true)
  | _=>.call [] [] [] (.bool true)
 | _=>.no
theorem kt:tabZ kg ks 4=[[-1,2,3,0],[1,-1,3,0],[1,2,-1,0],[1,2,3,-1]]:=by
 have h1:BG kg (AC kg ks 0 4)=[-1,2,3,0]:=by decide +kernel
 have h2:BG kg (AC kg ks 1 4)=[1,-1,3,0]:=by decide +kernel
 have h3:BG kg (AC kg ks 2 4)=[1,2,-1,0]:=by decide +kernel
 have h4:BG kg (AC kg ks 3 4)=[1,2,3,-1]:=by decide +kernel
 show [BG kg (AC kg ks 0 4),BG kg (AC kg ks 1 4),BG kg (AC kg ks 2 4),BG kg (AC kg ks 3 4)]=_;rw[h1,h2,h3,h4]
structure QG where
 L:List Int
 g:List (List Int)
 l:List Int
 o:List Int
 s:List Bool
 kk:Nat
 n:Nat
 k:Int
 v:Nat
 w:Nat
 x:Int
 i:Nat
 e:Int
 b:Bool
def st23(q:QG):St:={n:=Try.f26.ntmps,fr:=[(0,lI q.l),(1,.int .i64 q.x)],hp:=[]}
def Kd(q:QG):St:={n:=Try.f26.ntmps,fr:=[(0,lI q.l),(1,.int .i64 q.x),(5,.int .i64 (iN q.i))],hp:=[]}
def Mb(L:List Int)(args:List AV)(hp:List (Option Blk))(v:Int):AG:=match args with
 | [.ptr b _ _,_]=>match nth hp b with
  | some blk=>match blk.es with
   | [.agg [_,.int _ e]]=>.call [b] [] [Ag L (e.toNat+1)] (.int .i64 v)
   | _=>.no
  | none=>.no
 | _=>.no
def cG(q:QG):Nat->FuncId->List AV->List (Option Blk)->AG:=fun dst f args hp=>match f with
 | 15=>Mb q.L args hp (match dst with | 13=>(iN q.n) | 20=>q.k | 27=>iN q.v | 30=>iN q.w | 10=>q.k | _=>iN q.v)
 | 26=>.call [] [] [] (.bool q.b)
 | 102=>.call [] [] [] (lI q.o)
 | _=>.no
def e23(q:QG):List (Nat×AV):=[(14,.int .i64 q.e)]
def st25(q:QG):St:={n:=Try.f102.ntmps,fr:=[(0,lI q.l),(1,.int .i64 q.x)],hp:=[]}
def Ki(q:QG):St:={n:=Try.f102.ntmps,fr:=[(0,lI q.l),(1,.int .i64 q.x),(5,.nils),(6,.bool false),(7,.int .i64 (iN q.i))],hp:=[]}
def DU(q:QG):St:={n:=Try.f102.ntmps,fr:=[(0,lI q.l),(1,.int .i64 q.x),(5,.sl 0 0 q.o.length),(6,.bool q.b),(7,.int .i64 (iN q.i))],hp:=[some (dB q.o)]}
def e25(q:QG):List (Nat×AV):=[(19,.int .i64 q.e),(31,.int .i64 q.e)]
theorem ha_0(q:QG){post:Exit->St->Prop}(ht:T UB 0 (.loop (zC (zB Try.f26) 0)) (St.mk 18 [(0,UA (Uu iv q.l)),(1,iv q.x),(5,iv 0)] []) (TK UB 0 post (zK (zB Try.f26) 0))):GoP UB (hU [] (e23 q) (cG q)) 0 (zB Try.f26) (st23 q) post:=zR (σ:=[]) (fz:=[]) (vars:=[0,1,5]) (by kernel_rfl) (aj (u2 s2) t4) ht
theorem hax_0(q:QG)(h1:(decide (iN q.i<iN (Uu iv q.l).length)=false)):GoO UB (hU [18] (e23 q) (cG q)) 0 (zC (zB Try.f26) 0) (zK (zB Try.f26) 0) (Kd q) (Fin UB Try.f26 0 [] (AV.bool false)):=zF (σ:=[]) (fz:=[]) (by kernel_rfl) (aj (aj (aj (u2 (u2 (u2 (al t3)))) (al h1)) s2) t2)
theorem hay_0(q:QG)(h1:(decide (iN q.i<iN (Uu iv q.l).length)=true))(h2:(0<=iN q.i))(h3:((Uu iv q.l)[(iN q.i).toNat]?=some (iv q.e)))(h4:((q.e==q.x)=true)):GoO UB (hU [19,35] (e23 q) (cG q)) 0 (zC (zB Try.f26) 0) (zK (zB Try.f26) 0) (Kd q) (Fin UB Try.f26 0 [] (AV.bool true)):=zF (σ:=[]) (fz:=[]) (by kernel_rfl) (aj (al (aj (u2 (u2 (u2 (al t3)))) (aj h1 (aj (u2 (u2 (aj (k2 (aj h2 h3)) (u2 (u2 (al t3)))))) (aj h4 s2))))) t2)
theorem har_0(q:QG)(h1:(decide (iN q.i<iN (Uu iv q.l).length)=true))(h2:(0<=iN q.i))(h3:((Uu iv q.l)[(iN q.i).toNat]?=some (iv q.e)))(h4:((q.e==q.x)=false)){post:Exit->St->Prop}{R:St->Prop}(hR:∀st,Ren 0 st (St.mk 18 [(0,UA (Uu iv q.l)),(1,iv q.x),(5,iv (i64.wrap (iN q.i+1)))] [])->R st):GoP UB (hU [19,34] (e23 q) (cG q)) 0 (zC (zB Try.f26) 0) (Kd q) (andThen R post):=zN (σ:=[]) (fz:=[]) (vars:=[0,1,5]) (by kernel_rfl) (aj (aj (u2 (u2 (u2 (al t3)))) (aj h1 (aj (u2 (u2 (aj (k2 (aj h2 h3)) (u2 (u2 (al t3)))))) (aj h4 (al (u2 (u2 s2))))))) t4) hR
theorem in_0(q:QG){post:Exit->St->Prop}(ht:T UB 0 (.loop (zC (zB Try.f102) 0)) (St.mk 42 [(0,UA (Uu iv q.l)),(1,iv q.x),(5,AV.nils),(6,AV.bool false),(7,iv 0)] []) (TK UB 0 post (zK (zB Try.f102) 0))):GoP UB (hU [] (e25 q) (cG q)) 0 (zB Try.f102) (st25 q) post:=zR (σ:=[]) (fz:=[]) (vars:=[0,1,5,6,7]) (by kernel_rfl) (aj (u2 (u2 (u2 s2))) t6) ht
theorem inzx_0(q:QG)(h1:(decide (iN q.i<iN (Uu iv q.l).length)=false))(h2:(1<=[iv q.x].length))(h3:([iv q.x].length<=9223372036854775807))(h4:([iv q.x].length * 8<=140737488355328)):GoO UB (hU [22] (e25 q) (cG q)) 0 (zC (zB Try.f102) 0) (zK (zB Try.f102) 0) (Ki q) (Fin UB Try.f102 0 [] (UA [iv q.x])):=zF (σ:=[]) (fz:=[0,1,2,3]) (by kernel_rfl) (aj (aj (aj (u2 (u2 (u2 (al t3)))) (al h1)) (aj (u2 s2) (ak (aj (u2 (u2 (u2 (aj (k2 (aj (aj (show(nat_lit 1=nat_lit 1) by first | decide | exact Tc _) h2) (aj h3 h4))) s2)))) (al (u2 s2)))))) (al (show([AV.int i64 q.x].length=[AV.int i64 q.x].length) from rfl)))
theorem inza_0(q:QG)(h1:(decide (iN q.i<iN (Uu iv q.l).length)=true))(h2:(0<=iN q.i))(h3:((Uu iv q.l)[(iN q.i).toNat]?=some (iv q.e)))(h4:(decide (q.x<q.e)=true))(h5:(1<=[iv q.x].length))(h6:([iv q.x].length<=9223372036854775807))(h7:([iv q.x].length * 8<=140737488355328))(h8:(1<=[iv q.e].length))(h9:([iv q.x].length+[iv q.e].length<=9223372036854775807))(h10:(([iv q.x].length+[iv q.e].length) * 8<=140737488355328)){post:Exit->St->Prop}{R:St->Prop}(hR:∀st,Ren 0 st (St.mk 42 [(0,UA (Uu iv q.l)),(1,iv q.x),(5,AV.sl 0 0 ([iv q.x].length+[iv q.e].length)),(6,AV.bool true),(7,iv (i64.wrap (iN q.i+1)))] [some (Blk.mk [iv q.x,iv q.e] 1 true true none)])->R st):GoP UB (hU [23,45] (e25 q) (cG q)) 0 (zC (zB Try.f102) 0) (Ki q) (andThen R post):=zN (σ:=[3]) (fz:=[]) (vars:=[0,1,5,6,7]) (by kernel_rfl) (aj (aj (u2 (u2 (u2 (al t3)))) (aj h1 (aj (u2 (u2 (u2 (aj t3 (aj t3 (aj (k3 (aj h2 h3)) (aj t3 (aj t3 (aj t4 (al (ak (al h4)))))))))))) (ak (aj (u2 (u2 (u2 (aj (k2 (aj (aj (show(nat_lit 1=nat_lit 1) by first | decide | exact Tc _) h5) (aj h6 h7))) (u2 t2))))) (aj (u2 (u2 (u2 (aj (k2 (aj h2 h3)) (u2 (u2 (aj (k2 (aj (show([AV.int i64 q.x].length=[AV.int i64 q.x].length) from rfl) (aj (aj (show(nat_lit 1=nat_lit 1) by first | decide | exact Tc _) h8) (aj h9 h10)))) s2))))))) (al (u2 (u2 s2))))))))) t7) hR
theorem inzb_0(q:QG)(h1:(decide (iN q.i<iN (Uu iv q.l).length)=true))(h2:(0<=iN q.i))(h3:((Uu iv q.l)[(iN q.i).toNat]?=some (iv q.e)))(h4:(decide (q.x<q.e)=false))(h5:(1<=[iv q.e].length))(h6:([iv q.e].length<=9223372036854775807))(h7:([iv q.e].length * 8<=140737488355328)){post:Exit->St->Prop}{R:St->Prop}(hR:∀st,Ren 0 st (St.mk 42 [(0,UA (Uu iv q.l)),(1,iv q.x),(5,AV.sl 0 0 [iv q.e].length),(6,AV.bool false),(7,iv (i64.wrap (iN q.i+1)))] [some (Blk.mk [iv q.e] 1 true true none)])->R st):GoP UB (hU [23,44] (e25 q) (cG q)) 0 (zC (zB Try.f102) 0) (Ki q) (andThen R post):=zN (σ:=[1]) (fz:=[]) (vars:=[0,1,5,6,7]) (by kernel_rfl) (aj (aj (u2 (u2 (u2 (al t3)))) (aj h1 (aj (u2 (u2 (u2 (aj t3 (aj t3 (aj (k3 (aj h2 h3)) (aj t3 (aj t3 (aj t4 (al (ak (al h4)))))))))))) (ak (aj (u2 (u2 (u2 (aj (k2 (aj h2 h3)) (u2 (u2 (aj (k2 (aj (aj (show(nat_lit 1=nat_lit 1) by first | decide | exact Tc _) h5) (aj h6 h7))) s2))))))) (al (u2 (u2 s2)))))))) t7) hR
theorem inox_0(q:QG)(h1:(decide (iN q.i<iN (Uu iv q.l).length)=false))(h2:((!q.b)=true))(h3:((Uu iv q.o).length=q.o.length))(h4:(1<=[iv q.x].length))(h5:((Uu iv q.o).length+[iv q.x].length<=9223372036854775807))(h6:(((Uu iv q.o).length+[iv q.x].length) * 8<=140737488355328))(h7:((Uu iv q.o).length+[iv q.x].length=(Uu iv q.o++[iv q.x]).length)):GoO UB (hU [22,73] (e25 q) (cG q)) 0 (zC (zB Try.f102) 0) (zK (zB Try.f102) 0) (DU q) (Fin UB Try.f102 0 [] (UA (Uu iv q.o++[iv q.x]))):=zF (σ:=[]) (fz:=[0,1,2,3]) (by kernel_rfl) (aj (aj (aj (u2 (u2 (u2 (al t3)))) (al h1)) (aj (u2 s2) (aj h2 (aj (u2 (u2 (u2 (aj (k2 (aj h3 (aj (aj (show(nat_lit 1=nat_lit 1) by first | decide | exact Tc _) h4) (aj h5 h6)))) s2)))) (al (u2 s2)))))) (al h7))
theorem inox_1(q:QG)(h1:(decide (iN q.i<iN (Uu iv q.l).length)=false))(h2:((!q.b)=false))(h3:(q.o.length=(Uu iv q.o).length)):GoO UB (hU [22,72] (e25 q) (cG q)) 0 (zC (zB Try.f102) 0) (zK (zB Try.f102) 0) (DU q) (Fin UB Try.f102 0 [] (UA (Uu iv q.o))):=zF (σ:=[]) (fz:=[0,1,2,3]) (by kernel_rfl) (aj (aj (aj (u2 (u2 (u2 (al t3)))) (al h1)) (aj (u2 s2) (aj h2 (al (u2 s2))))) (al h3))
theorem inod_0(q:QG)(h1:(decide (iN q.i<iN (Uu iv q.l).length)=true))(h2:((!q.b)=false))(h3:(0<=iN q.i))(h4:((Uu iv q.l)[(iN q.i).toNat]?=some (iv q.e)))(h5:((Uu iv q.o).length=q.o.length))(h6:(1<=[iv q.e].length))(h7:((Uu iv q.o).length+[iv q.e].length<=9223372036854775807))(h8:(((Uu iv q.o).length+[iv q.e].length) * 8<=140737488355328)){post:Exit->St->Prop}{R:St->Prop}(hR:∀st,Ren 0 st (St.mk 42 [(0,UA (Uu iv q.l)),(1,iv q.x),(5,AV.sl 0 0 ((Uu iv q.o).length+[iv q.e].length)),(6,AV.bool q.b),(7,iv (i64.wrap (iN q.i+1)))] [some (Blk.mk (Uu iv q.o++[iv q.e]) 1 true true none)])->R st):GoP UB (hU [23,30,32,46] (e25 q) (cG q)) 0 (zC (zB Try.f102) 0) (DU q) (andThen R post):=zN (σ:=[2]) (fz:=[]) (vars:=[0,1,5,6,7]) (by kernel_rfl) (aj (aj (u2 (u2 (u2 (al t3)))) (aj h1 (aj (u2 (u2 (aj (al h2) (aj (show(false=false) by first | decide | exact Tc _) (aj (show(false=false) by first | decide | exact Tc _) (aj (show(false=false) by first | decide | exact Tc _) (aj (show(false=false) by first | decide | exact Tc _) (aj (show(false=false) by first | decide | exact Tc _) (aj (show(false=false) by first | decide | exact Tc _) (al (aj (show(false=false) by first | decide | exact Tc _) t2))))))))))) (aj (show(false=false) by first | decide | exact Tc _) (aj (u2 (u2 (u2 (aj (k2 (aj h3 h4)) (u2 (u2 (aj (k2 (aj h5 (aj (aj (show(nat_lit 1=nat_lit 1) by first | decide | exact Tc _) h6) (aj h7 h8)))) s2))))))) (al (u2 (u2 s2)))))))) t7) hR
theorem inoa_0(q:QG)(h1:(decide (iN q.i<iN (Uu iv q.l).length)=true))(h2:((!q.b)=true))(h3:(0<=iN q.i))(h4:((Uu iv q.l)[(iN q.i).toNat]?=some (iv q.e)))(h5:(decide (q.x<q.e)=true))(h6:((Uu iv q.o).length=q.o.length))(h7:(1<=[iv q.x].length))(h8:((Uu iv q.o).length+[iv q.x].length<=9223372036854775807))(h9:(((Uu iv q.o).length+[iv q.x].length) * 8<=140737488355328))(h10:((Uu iv q.o++[iv q.x]).length=(Uu iv q.o).length+[iv q.x].length))(h11:(1<=[iv q.e].length))(h12:((Uu iv q.o++[iv q.x]).length+[iv q.e].length<=9223372036854775807))(h13:(((Uu iv q.o++[iv q.x]).length+[iv q.e].length) * 8<=140737488355328)){post:Exit->St->Prop}{R:St->Prop}(hR:∀st,Ren 0 st (St.mk 42 [(0,UA (Uu iv q.l)),(1,iv q.x),(5,AV.sl 0 0 ((Uu iv q.o++[iv q.x]).length+[iv q.e].length)),(6,AV.bool true),(7,iv (i64.wrap (iN q.i+1)))] [some (Blk.mk (Uu iv q.o++[iv q.x]++[iv q.e]) 1 true true none)])->R st):GoP UB (hU [23,31,33,45,47] (e25 q) (cG q)) 0 (zC (zB Try.f102) 0) (DU q) (andThen R post):=zN (σ:=[4]) (fz:=[]) (vars:=[0,1,5,6,7]) (by kernel_rfl) (aj (aj (u2 (u2 (u2 (al t3)))) (aj h1 (aj (u2 (u2 (aj (al h2) (ag (show(true=true) by first | decide | exact Tc _) (ag (show(true=true) by first | decide | exact Tc _) (aj (aj (show(true=true) by first | decide | exact Tc _) (k2 (aj h3 h4))) (ag (show(true=true) by first | decide | exact Tc _) (ag (show(true=true) by first | decide | exact Tc _) (aj (aj (show(true=true) by first | decide | exact Tc _) t3) (al (aj (show(true=true) by first | decide | exact Tc _) (al h5)))))))))))) (aj (show(true=true) by first | decide | exact Tc _) (aj (u2 (u2 (u2 (aj (k2 (aj h6 (aj (aj (show(nat_lit 1=nat_lit 1) by first | decide | exact Tc _) h7) (aj h8 h9)))) (u2 t2))))) (aj (u2 (u2 (u2 (aj (k2 (aj h3 h4)) (u2 (u2 (aj (k2 (aj h10 (aj (aj (show(nat_lit 1=nat_lit 1) by first | decide | exact Tc _) h11) (aj h12 h13)))) s2))))))) (al (u2 (u2 s2))))))))) t7) hR
theorem inob_0(q:QG)(h1:(decide (iN q.i<iN (Uu iv q.l).length)=true))(h2:((!q.b)=true))(h3:(0<=iN q.i))(h4:((Uu iv q.l)[(iN q.i).toNat]?=some (iv q.e)))(h5:(decide (q.x<q.e)=false))(h6:((Uu iv q.o).length=q.o.length))(h7:(1<=[iv q.e].length))(h8:((Uu iv q.o).length+[iv q.e].length<=9223372036854775807))(h9:(((Uu iv q.o).length+[iv q.e].length) * 8<=140737488355328)){post:Exit->St->Prop}{R:St->Prop}(hR:∀st,Ren 0 st (St.mk 42 [(0,UA (Uu iv q.l)),(1,iv q.x),(5,AV.sl 0 0 ((Uu iv q.o).length+[iv q.e].length)),(6,AV.bool q.b),(7,iv (i64.wrap (iN q.i+1)))] [some (Blk.mk (Uu iv q.o++[iv q.e]) 1 true true none)])->R st):GoP UB (hU [23,31,33,44,46] (e25 q) (cG q)) 0 (zC (zB Try.f102) 0) (DU q) (andThen R post):=zN (σ:=[2]) (fz:=[]) (vars:=[0,1,5,6,7]) (by kernel_rfl) (aj (aj (u2 (u2 (u2 (al t3)))) (aj h1 (aj (u2 (u2 (aj (al h2) (ag (show(true=true) by first | decide | exact Tc _) (ag (show(true=true) by first | decide | exact Tc _) (aj (aj (show(true=true) by first | decide | exact Tc _) (k2 (aj h3 h4))) (ag (show(true=true) by first | decide | exact Tc _) (ag (show(true=true) by first | decide | exact Tc _) (aj (aj (show(true=true) by first | decide | exact Tc _) t3) (al (aj (show(true=true) by first | decide | exact Tc _) (al h5)))))))))))) (aj (show(false=false) by first | decide | exact Tc _) (aj (u2 (u2 (u2 (aj (k2 (aj h3 h4)) (u2 (u2 (aj (k2 (aj h6 (aj (aj (show(nat_lit 1=nat_lit 1) by first | decide | exact Tc _) h7) (aj h8 h9)))) s2))))))) (al (u2 (u2 s2)))))))) t7) hR
theorem CC{p:Nat->Bool}:∀{n s:Nat},fnd p s n=none->∀i,s<=i->i<s+n->p i=false:=by
 intro n;induction n with
 | zero=>intro s _ i h1 h2;omega
 | succ n ih=>
  intro s h i h1 h2;rw[fnd] at h;cases hp:p s with
  | true=>rw[hp] at h;cases h
  | false=>
   rw[hp] at h;by_cases e:i=s
   .rw[e];exact hp
   .exact ih h i (by omega) (by omega)
def Ay(l:List Int)(x:Int):Bool:=(fnd (fun i=>l.getD i 0==x) 0 l.length).isSome
theorem Kw{l:List Int}{x:Int}(h:Ay l x=false):x∉l:=by
 intro hm;unfold Ay at h;have hn:fnd (fun i=>l.getD i 0==x) 0 l.length=none:=by simpa using h
 obtain⟨i,hi,rfl⟩:=Ua.1 hm;have:=CC hn i (TJ _) (by omega);rw[Ty,Tx hi] at this;simp at this
theorem Fl(l:List Int)(x:Int)(hl:l.length<=9223372036854775807):CT UB 26 [] [lI l,.int .i64 x] [] (.bool (Ay l x)):=by
 have hll:=BV l;refine CT.path mix Try.func26 (show Try.f26.body=some (zB Try.f26) by kernel_rfl) (nL rfl) (ha_0 ⟨[],[],l,[],[],0,0,0,0,0,x,0,0,false⟩ ?_);unfold Ay;generalize hr:fnd (fun i=>l.getD i 0==x) 0 l.length=r;refine T.loop (fun i:Nat=>Kd ⟨[],[],l,[],[],0,0,0,0,0,x,i,0,false⟩) (fun i=>i<=l.length/\fnd (fun i=>l.getD i 0==x) i (l.length-i)=r) (fun i=>l.length+1-i) 0 ⟨TJ _,hr⟩ ?_
 rintro i ⟨hi,hf⟩
 by_cases h:i<l.length
 .rw[CV h] at hf;by_cases he:(l.getD i 0==x)=true
  .simp only[he] at hf;subst hf;exact T.out mix (hay_0 ⟨[],[],l,[],[],0,0,0,0,0,x,i,l.getD i 0,false⟩ (TD (by simp only[iN,hll];omega)) (by simp[iN]) (Bu h) he)
  .have he:=Uk.2 he;simp only[he] at hf;refine T.path mix (har_0 ⟨[],[],l,[],[],0,0,0,0,0,x,i,l.getD i 0,false⟩ (TD (by simp only[iN,hll];omega)) (by simp[iN]) (Bu h) he ?_);intro st hst;simp only[iN,zW i (show i<9223372036854775807 by omega)] at hst;exact⟨i+1,hst,⟨h,hf⟩,by omega⟩
 .rw[C1 h] at hf;subst hf;exact T.out mix (hax_0 ⟨[],[],l,[],[],0,0,0,0,0,x,i,0,false⟩ (TC (by simp only[iN,hll];omega)))
def BK(x:Int):List Int->List Int | []=>[x] | a::r=>if x<a then x::a::r else a::BK x r
def inS(l:List Int)(x:Int)(y:Nat×List Int×Bool):St:=match y.2.1 with
 | []=>Ki ⟨[],[],l,[],[],0,0,0,0,0,x,y.1,0,false⟩
 | _=>DU ⟨[],[],l,y.2.1,[],0,0,0,0,0,x,y.1,0,y.2.2⟩
theorem OY(l:List Int)(x:Int)(hl:l.length<=1000000):CT UB 102 [] [lI l,.int .i64 x] [] (lI (BK x l)):=by
 have hll:=BV l;refine CT.path mix Try.func102 (show Try.f102.body=some (zB Try.f102) by kernel_rfl) (nL rfl) (in_0 ⟨[],[],l,[],[],0,0,0,0,0,x,0,0,false⟩ ?_);generalize hres:BK x l=res
 refine T.loop (fun y:Nat×List Int×Bool=>inS l x y) (fun y=>y.1<=l.length/\y.2.1.length<=y.1+1/\(y.2.2=false->y.2.1=l.take y.1/\res=y.2.1++BK x (l.drop y.1))/\(y.2.2=true->res=y.2.1++l.drop y.1/\y.2.1≠[])) (fun y=>l.length+1-y.1) (0,[],false)
  ⟨TJ _,by simp,fun _=>⟨by simp,by simp[hres]⟩,fun h=>by cases h⟩ ?_
 rintro⟨i,o,b⟩ ⟨hi,ho,hF,hT⟩
 simp only at hi ho hF hT;have step:∀(h:i<l.length),l.drop i=l.getD i 0::l.drop (i+1)/\l.take (i+1)=l.take i++[l.getD i 0]:=by
  intro h;have e:l.getD i 0=l[i]:=by rw[Ty,Tx h];rfl
  rw[e];exact⟨Ui h,by rw[List.take_add_one,Tx h];rfl⟩
 have hw:i64.wrap (iN i+1)=((i+1:Nat):Int):=zW i (by omega);have lenE:∀(u:List Int) (y:AV),(u.map (AV.int .i64)).length+[y].length=u.length+1:=by intro u y;simp
 cases ho':o with
 | nil=>
  subst ho';cases hb:b with
  | true=>exact absurd rfl (hT hb).2
  | false=>
   subst hb;obtain⟨h1,h2⟩:=hF rfl;simp only[List.nil_append] at h2;by_cases h:i<l.length
   .obtain⟨e1,e2⟩:=step h;by_cases hx:x<l.getD i 0
    .refine T.path mix (inza_0 ⟨[],[],l,[],[],0,0,0,0,0,x,i,l.getD i 0,false⟩ (TD (by simp only[iN,hll];omega)) (by simp[iN]) (Bu h) (TD hx) (by simp) (by simp) (by simp) (by simp) (by simp) (by simp) ?_);intro st hst;rw[hw] at hst;refine⟨(i+1,[x,l.getD i 0],true),hst,⟨h,by simp only[Ud,Ue];omega,fun h=>(by cases h),fun _=>⟨?_,by simp⟩⟩,by simp only;omega⟩;rw[h2,e1,BK,Tv hx];rfl
    .refine T.path mix (inzb_0 ⟨[],[],l,[],[],0,0,0,0,0,x,i,l.getD i 0,false⟩ (TD (by simp only[iN,hll];omega)) (by simp[iN]) (Bu h) (TC hx) (by simp) (by simp) (by simp) ?_);intro st hst;rw[hw] at hst;refine⟨(i+1,[l.getD i 0],false),hst,⟨h,by simp only[Ud,Ue];omega,fun _=>⟨by rw[e2,<-h1];rfl,?_⟩,fun h=>by cases h⟩,by simp only;omega⟩;rw[h2,e1,BK,Tw hx];rfl
   .have e:l.drop i=[]:=List.drop_of_length_le (by omega);rw[e] at h2;rw[h2];exact T.out mix (inzx_0 ⟨[],[],l,[],[],0,0,0,0,0,x,i,0,false⟩ (TC (by simp only[iN,hll];omega)) (by simp) (by simp) (by simp))
 | cons o0 o1=>
  rw[<-ho'];have hS:inS l x (i,o,b)=DU ⟨[],[],l,o,[],0,0,0,0,0,x,i,0,b⟩:=by rw[ho'];rfl
  have next:∀(o':List Int) (b':Bool) (st:St),o'≠[]->Ren 0 st (DU ⟨[],[],l,o',[],0,0,0,0,0,x,i+1,0,b'⟩)->Ren 0 st (inS l x (i+1,o',b')):=by
   intro o' b' st hne hst;cases o' with
   | nil=>exact absurd rfl hne
   | cons _ _=>exact hst
  show T UB 0 _ (inS l x (i,o,b)) _;rw[hS];by_cases h:i<l.length
  .obtain⟨e1,e2⟩:=step h;cases hb:b with
   | true=>subst hb;obtain⟨h1,h2⟩:=hT rfl;refine T.path mix (inod_0 ⟨[],[],l,o,[],0,0,0,0,0,x,i,l.getD i 0,true⟩ (TD (by simp only[iN,hll];omega)) rfl (by simp[iN]) (Bu h) (by simp) (by simp) (by simp;omega) (by simp;omega) ?_);intro st hst;rw[hw,lenE] at hst;refine⟨(i+1,o++[l.getD i 0],true),next _ _ _ (by simp) ?_,⟨h,by simp only[TU,Ud,Ue];omega,fun h=>(by cases h),fun _=>⟨by rw[h1,e1];simp,by simp⟩⟩,by simp only;omega⟩;unfold DU dB;simp only[TM,TU,Ud,Ue,TP,Tu,List.map_nil];exact hst
   | false=>
    subst hb;obtain⟨h1,h2⟩:=hF rfl;by_cases hx:x<l.getD i 0
    .refine T.path mix (inoa_0 ⟨[],[],l,o,[],0,0,0,0,0,x,i,l.getD i 0,false⟩ (TD (by simp only[iN,hll];omega)) rfl (by simp[iN]) (Bu h) (TD hx) (by simp) (by simp) (by simp;omega) (by simp;omega) (by simp) (by simp) (by simp;omega) (by simp;omega) ?_);intro st hst;rw[hw] at hst;have hlen2:o.length<=i:=by rw[h1];simp;omega
     refine⟨(i+1,o++[x,l.getD i 0],true),next _ _ _ (by simp) ?_,⟨h,by simp only[TU,Ud,Ue];omega,fun h=>(by cases h),fun _=>⟨by rw[h2,e1,BK,Tv hx];simp,by simp⟩⟩,by simp only;omega⟩;have e5:(o.map (AV.int .i64)++[AV.int .i64 x]).length+[AV.int .i64 (l.getD i 0)].length=(o++[x,l.getD i 0]).length:=by simp
     simp only at hst;rw[e5] at hst;unfold DU dB;simp only[TM,Tu,List.map_nil];rw[List.append_assoc] at hst;exact hst
    .refine T.path mix (inob_0 ⟨[],[],l,o,[],0,0,0,0,0,x,i,l.getD i 0,false⟩ (TD (by simp only[iN,hll];omega)) rfl (by simp[iN]) (Bu h) (TC hx) (by simp) (by simp) (by simp;omega) (by simp;omega) ?_);intro st hst;rw[hw,lenE] at hst;refine⟨(i+1,o++[l.getD i 0],false),next _ _ _ (by simp) ?_,⟨h,by simp only[TU,Ud,Ue];omega,fun _=>⟨by rw[e2,<-h1],by rw[h2,e1,BK,Tw hx];simp⟩,fun h=>by cases h⟩,by simp only;omega⟩;unfold DU dB;simp only[TM,TU,Ud,Ue,TP,Tu,List.map_nil];exact hst
  .have e:l.drop i=[]:=List.drop_of_length_le (by omega);cases hb:b with
   | true=>subst hb;obtain⟨h1,_⟩:=hT rfl;rw[e,List.append_nil] at h1;rw[h1];exact T.out mix (inox_1 ⟨[],[],l,o,[],0,0,0,0,0,x,i,0,true⟩ (TC (by simp only[iN,hll];omega)) rfl (by simp))
   | false=>subst hb;obtain⟨_,h2⟩:=hF rfl;rw[e] at h2;rw[show lI res = .lst (o.map (AV.int .i64)++[AV.int .i64 x]) by rw[h2];simp[lI,BK]];exact T.out mix (inox_0 ⟨[],[],l,o,[],0,0,0,0,0,x,i,0,false⟩ (TC (by simp only[iN,hll];omega)) rfl (by simp) (by simp) (by simp;omega) (by simp;omega) (by simp))
theorem A6(z:Int)(h0 : -1000000<=z)(h1:z<=1000000):i64.wrap z=z:=by
 have e1:(2:Int) ^ i64.bits=18446744073709551616:=by decide
 have e2:(2:Int) ^ (i64.bits-1)=9223372036854775808:=by decide
 have e3:i64.signed=true:=by decide
 simp only[IntKind.wrap,e1,e2,e3,Bool.true_and,decide_eq_true_eq];split<;>omega
theorem A3(L:List Int)(k:Nat)(n:Int)(h1:1<=n)(h2:n<=100000):0<=Ae L k n/\Ae L k n<n:=by
 unfold Ae EA;split
 .omega
 .have ha:=Int.tmod_lt_of_pos (Jt L k) (show 0<n by omega);have hb:=Int.lt_tmod_of_pos (Jt L k) (show 0<n by omega);split
  .rw[A6 _ (by omega) (by omega)];omega
  .omega
theorem Mi{x y:Int}:∀{l:List Int},y∈BK x l↔y=x\/y∈l:=by
 intro l;induction l with
 | nil=>simp[BK]
 | cons a r ih=>
  rw[BK];split
  .simp
  .simp only[T2,ih];constructor
   .rintro(h | h | h)
    .exact .inr (.inl h)
    .exact .inl h
    .exact .inr (.inr h)
   .rintro(h | h | h)
    .exact .inr (.inl h)
    .exact .inl h
    .exact .inr (.inr h)
theorem insB_asc{x:Int}:∀{l:List Int},l.Pairwise (· < ·)->x∉l->(BK x l).Pairwise (· < ·):=by
 intro l;induction l with
 | nil=>intro _ _;simp[BK]
 | cons a r ih=>
  intro h hx;rw[List.pairwise_cons] at h;rw[BK];have hxa:x≠a:=fun e=>hx (by simp[e])
  split
  .rename_i hlt;refine List.pairwise_cons.2 ⟨fun y hy=>?_,List.pairwise_cons.2 h⟩;rcases T2.1 hy with rfl | hy
   .exact hlt
   .exact Int.lt_trans hlt (h.1 y hy)
  .rename_i hge;refine List.pairwise_cons.2 ⟨fun y hy=>?_,ih h.2 fun hm=>hx (TR _ hm)⟩;rcases Mi.1 hy with rfl | hy
   .omega
   .exact h.1 y hy
theorem insB_len(x:Int):∀(l:List Int),(BK x l).length=l.length+1:=by
 intro l;induction l with
 | nil=>rfl
 | cons a r ih=>rw[BK];split<;>simp[ih]
structure GI(n m:Nat)(g:List (List Int)):Prop where
 len:g.length=n
 row:∀v,v<n->(g.getD v []).length<=m/\(g.getD v []).Pairwise (· < ·)/\∀w∈g.getD v [],0<=w/\w<(n:Int)/\w≠(v:Int)
theorem GI.ok{n m:Nat}{g:List (List Int)}(h:GI n m g)(hn:n<=24)(hm:m<=1000){s:List Bool}(hs:s.length=n):OkG g s/\Asc g:=by
 refine⟨⟨by rw[h.len];exact hn,fun v hv=>?_,by rw[hs,h.len]⟩,fun v hv i h0 hi=>?_⟩
 .rw[h.len] at hv ⊢
  obtain⟨g1,_,g3⟩:=h.row v hv;exact⟨by omega,g3⟩
 .rw[h.len] at hv;obtain⟨_,g2,_⟩:=h.row v hv;generalize g.getD v []=r at g2 hi;have:=List.pairwise_iff_getElem.1 g2 (i-1) i (by omega) hi (by omega);rw[Ty,Tx (by omega),Ty,Tx hi];exact this
theorem JG(d:List Int)(v u:Nat)(x:Int)(hv:v<d.length):(d.set v x).getD u 0=if v=u then x else d.getD u 0:=by
 rw[Ty,Ur,Ty];split
 .first | rfl | (rw[Tv hv];rfl)
 .rfl
theorem edges_eq(v far:Nat):∀(r d:List Int),v<d.length->(∀w∈r,w.toNat≠v)->
  F4 r v far d=if (r.any fun w=>d.getD w.toNat 0==(far:Int))=true then d.set v ((far+1:Nat):Int) else d:=by
 intro r;induction r with
 | nil=>intro d _ _;simp[F4]
 | cons w r ih=>
  intro d hv hr;have hw:=hr w (by simp);have hr':=fun x hx=>hr x (TR _ hx)
  show F4 r v far (BO v far d w)=_;have key:∀d':List Int,(∀u,u≠v->d'.getD u 0=d.getD u 0)->(r.any fun w=>d'.getD w.toNat 0==(far:Int))=(r.any fun w=>d.getD w.toNat 0==(far:Int)):=by
   intro d' h;rw[Bool.eq_iff_iff,List.any_eq_true,List.any_eq_true];constructor
   .rintro⟨x,hx,he⟩;exact⟨x,hx,by rw[<-h _ (hr' x hx)];exact he⟩
   .rintro⟨x,hx,he⟩;exact⟨x,hx,by rw[h _ (hr' x hx)];exact he⟩
  rw[ih _ (by rw[JX];exact hv) hr',List.any_cons];unfold BO;by_cases he:(d.getD w.toNat 0==(far:Int))=true
  .rw[Tv he,he,Bool.true_or,Tv rfl,List.set_set];split<;>rfl
  .rw[Tw he,Uk.2 he,Ts]
def rdV(g:List (List Int))(s:List Bool)(d:List Int)(far v:Nat):Int:=if s.getD v false=true then d.getD v 0 else if 0<=d.getD v 0 then d.getD v 0 else if ((g.getD v []).any fun w=>d.getD w.toNat 0==(far:Int))=true then ((far+1:Nat):Int) else d.getD v 0
theorem NJ{g:List (List Int)}{s:List Bool}(hg:OkG g s)(d:List Int)(hd:d.length=g.length)(far:Nat):∀v,v<g.length->(BW g s d far).getD v 0=rdV g s d far v:=by
 have key:∀j,j<=g.length->∀v,v<g.length->((Uy j).foldl (Ba g s far) d).getD v 0=if v<j then rdV g s d far v else d.getD v 0:=by
  intro j;induction j with
  | zero=>intro _ v _;rw[Tw (by omega)];rfl
  | succ j ih=>
   intro hj v hv;have ih:=ih (by omega);rw[FT];have hlen:((Uy j).foldl (Ba g s far) d).length=g.length:=by rw[D8 (I3 g s far),hd]
   generalize (Uy j).foldl (Ba g s far) d=e at ih hlen;have hej:e.getD j 0=d.getD j 0:=by rw[ih j (by omega),Tw (by omega)]
   have hw:∀w∈g.getD j [],w.toNat≠j:=fun w hw=>by have:=(hg.row j (by omega)).2 w hw;omega
   have hany:((g.getD j []).any fun w=>e.getD w.toNat 0==(far:Int))=((g.getD j []).any fun w=>d.getD w.toNat 0==(far:Int)):=by
    have pt:∀w∈g.getD j [],(e.getD w.toNat 0==(far:Int))=(d.getD w.toNat 0==(far:Int)):=by
     intro w hwm;have:=(hg.row j (by omega)).2 w hwm;rw[ih w.toNat (by omega)];split
     .unfold rdV;split
      .rfl
      .split
       .rfl
       .split
        .rw[Bool.eq_iff_iff,beq_iff_eq,beq_iff_eq];constructor<;>intro h<;>omega
        .rfl
     .rfl
    rw[Bool.eq_iff_iff,List.any_eq_true,List.any_eq_true];constructor
    .rintro⟨x,hx,he⟩;exact⟨x,hx,by rw[<-pt x hx];exact he⟩
    .rintro⟨x,hx,he⟩;exact⟨x,hx,by rw[pt x hx];exact he⟩
   have hv1:(Ba g s far e j).getD v 0=if v=j then rdV g s d far j else e.getD v 0:=by
    unfold Ba rdV;rw[hej];by_cases h1:s.getD j false=true
    .rw[Tv h1,Tv h1];split
     .rename_i h;subst h;exact hej
     .rfl
    .rw[Tw h1,Tw h1];by_cases h2:0<=d.getD j 0
     .rw[TD h2,Tv rfl,Tv h2];split
      .rename_i h;subst h;exact hej
      .rfl
     .rw[Tw (by simpa using h2),Tw h2,edges_eq j far _ e (by omega) hw,hany];by_cases h3:((g.getD j []).any fun w=>d.getD w.toNat 0==(far:Int))=true
      .rw[Tv h3,Tv h3,JG e j v _ (by omega)];by_cases h4:v=j
       .rw[Tv h4.symm,Tv h4]
       .rw[Tw fun h=>h4 h.symm,Tw h4]
      .rw[Tw h3,Tw h3];split
       .rename_i h;subst h;exact hej
       .rfl
   rw[hv1];by_cases h:v=j
   .subst h;rw[Tv rfl,Tv (by omega)]
   .rw[Tw h,ih v hv];by_cases h2:v<j
    .rw[Tv h2,Tv (by omega)]
    .rw[Tw h2,Tw (by omega)]
 intro v hv;rw[BW,key g.length (TI _) v hv,Tv hv]
structure Lev(g:List (List Int))(s:List Bool)(goal k:Nat)(d:List Int):Prop where
 len:d.length=g.length
 zero:d.getD goal 0=0
 bnd:∀v,v<g.length->-1<=d.getD v 0/\d.getD v 0<=k
 back:∀v,v<g.length->0<=d.getD v 0->v=goal\/(s.getD v false=false/\∃w∈g.getD v [],0<=d.getD w.toNat 0/\d.getD v 0=d.getD w.toNat 0+1)
 fwd:∀v,v<g.length->s.getD v false=false->∀w∈g.getD v [],0<=d.getD w.toNat 0->d.getD w.toNat 0<k->0<=d.getD v 0/\d.getD v 0<=d.getD w.toNat 0+1
theorem Lev.step{g:List (List Int)}{s:List Bool}(hg:OkG g s){goal k:Nat}{d:List Int}(hgo:goal<g.length)(h:Lev g s goal k d):Lev g s goal (k+1) (BW g s d k):=by
 have rg:=NJ hg d h.len k;have same:∀v,v<g.length->0<=d.getD v 0->rdV g s d k v=d.getD v 0:=by
  intro v hv h0;unfold rdV;by_cases h1:s.getD v false=true
  .rw[Tv h1]
  .rw[Tw h1,Tv h0]
 have inr:∀v,v<g.length->∀w∈g.getD v [],w.toNat<g.length:=fun v hv w hw=>by have:=(hg.row v hv).2 w hw;omega
 have cases':∀v,v<g.length->rdV g s d k v=d.getD v 0\/(s.getD v false=false/\d.getD v 0<0/\rdV g s d k v=((k+1:Nat):Int)/\∃w∈g.getD v [],d.getD w.toNat 0=(k:Int)):=by
  intro v hv;unfold rdV;by_cases h1:s.getD v false=true
  .rw[Tv h1];exact .inl rfl
  .rw[Tw h1];by_cases h2:0<=d.getD v 0
   .rw[Tv h2];exact .inl rfl
   .rw[Tw h2];by_cases h3:((g.getD v []).any fun w=>d.getD w.toNat 0==(k:Int))=true
    .rw[Tv h3];obtain⟨w,hw,he⟩:=List.any_eq_true.1 h3;exact .inr ⟨Uk.2 h1,by omega,rfl,w,hw,by simpa using he⟩
    .rw[Tw h3];exact .inl rfl
 refine⟨by rw[ID,h.len],?_,fun v hv=>?_,fun v hv h0=>?_,fun v hv hs w hw h0 hk=>?_⟩
 .rw[rg goal hgo,same goal hgo (by rw[h.zero];omega),h.zero]
 .rw[rg v hv];have:=h.bnd v hv;rcases cases' v hv with e | ⟨_,_,e,_⟩<;>rw[e]<;>omega
 .rw[rg v hv] at h0 ⊢
  rcases cases' v hv with e | ⟨e1,e2,e3,w,hw,e4⟩
  .rw[e] at h0 ⊢
   rcases h.back v hv h0 with hgl | ⟨h1,w,hw,h2,h3⟩
   .exact .inl hgl
   .refine .inr ⟨h1,w,hw,?_⟩;rw[rg _ (inr v hv w hw),same _ (inr v hv w hw) h2];exact⟨h2,h3⟩
  .refine .inr ⟨e1,w,hw,?_⟩;rw[rg _ (inr v hv w hw),same _ (inr v hv w hw) (by omega),e3,e4];exact⟨by omega,by omega⟩
 .have hwr:=inr v hv w hw;rw[rg _ hwr] at h0 hk ⊢
  rw[rg v hv];have hbv:=h.bnd v hv;have hbw:=h.bnd _ hwr;rcases cases' _ hwr with e | ⟨_,_,e,_⟩
  .rw[e] at h0 hk ⊢
   by_cases hlt:d.getD w.toNat 0<k
   .obtain⟨g1,g2⟩:=h.fwd v hv hs w hw h0 hlt;rw[same v hv g1];exact⟨g1,g2⟩
   .have hwk:d.getD w.toNat 0=(k:Int):=by omega
    by_cases hv0:0<=d.getD v 0
    .rw[same v hv hv0];exact⟨hv0,by omega⟩
    .unfold rdV;rw[Tw (by rw[hs];simp),Tw hv0,Tv (List.any_eq_true.2 ⟨w,hw,by simpa using hwk⟩)];exact⟨by omega,by omega⟩
  .rw[e] at hk;omega
theorem Lev.start{g:List (List Int)}{s:List Bool}(hg:OkG g s){goal:Nat}(hgo:goal<g.length):Lev g s goal 0 (Cq g goal):=by
 have rep:∀v,v<g.length->(Uv g.length (-1:Int)).getD v 0 = -1:=by intro v hv;simp[Ty,hv]
 have e:∀v,v<g.length->(Cq g goal).getD v 0=if goal=v then 0 else -1:=by intro v hv;unfold Cq;rw[JG _ _ _ _ (by simpa using hgo),rep v hv]
 refine⟨KD g goal,by rw[e goal hgo,Tv rfl],fun v hv=>?_,fun v hv h0=>?_,fun v hv hs w hw h0 hk=>?_⟩
 .rw[e v hv];split<;>omega
 .rw[e v hv] at h0;split at h0
  .rename_i h;exact .inl h.symm
  .omega
 .omega
theorem Lev.run{g:List (List Int)}{s:List Bool}(hg:OkG g s){goal:Nat}(hgo:goal<g.length):∀k,Lev g s goal k ((Uy k).foldl (BW g s) (Cq g goal)):=by
 intro k;induction k with
 | zero=>exact Lev.start hg hgo
 | succ k ih=>rw[FT];exact ih.step hg hgo
theorem IX:∀{l d:List Int},l.Nodup->(∀x∈l,x∈d)->l.length<=d.length:=by
 intro l;induction l with
 | nil=>intro d _ _;simp
 | cons a l ih=>
  intro d hn hs;rw[List.nodup_cons] at hn;have ha:=hs a (by simp);have:=ih (d:=d.erase a) hn.2 fun x hx=>(List.mem_erase_of_ne (fun e=>hn.1 (by rw[<-e];exact hx))).2 (hs x (TR _ hx))
  rw[List.length_erase_of_mem ha] at this;have:0<d.length:=Us ha;simp only[Ud];omega
theorem Lev.top{g:List (List Int)}{s:List Bool}(hg:OkG g s){goal k:Nat}{d:List Int}(h:Lev g s goal k d){v:Nat}(hv:v<g.length):d.getD v 0<g.length:=by
 rcases Int.lt_or_le (d.getD v 0) 0 with hneg | hpos
 .omega
 obtain⟨m,hm⟩:∃m:Nat,d.getD v 0=(m:Int):=⟨(d.getD v 0).toNat,by omega⟩;have occ:∀j,j<=m->∃u,u<g.length/\d.getD u 0=((m-j:Nat):Int):=by
  intro j;induction j with
  | zero=>intro _;exact⟨v,hv,by rw[hm];rfl⟩
  | succ j ih=>
   intro hj;obtain⟨u,hu,he⟩:=ih (by omega);rcases h.back u hu (by omega) with rfl | ⟨_,w,hw,h1,h2⟩
   .rw[h.zero] at he;omega
   .have:=(hg.row u hu).2 w hw;exact⟨w.toNat,by omega,by omega⟩
 have sub:∀x∈(Uy (m+1)).map (fun j:Nat=>(j:Int)),x∈d:=by intro x hx;obtain⟨j,hj,rfl⟩:=T4.1 hx;have hj:=Uo.1 hj;obtain⟨u,hu,he⟩:=occ (m-j) (by omega);rw[show m-(m-j)=j by omega] at he;rw[<-he,Ty,Tx (by rw[h.len];exact hu)];exact T5 _
 have nd:((Uy (m+1)).map (fun j:Nat=>(j:Int))).Nodup:=by refine List.pairwise_map.2 ((List.nodup_range (n:=m+1)).imp fun hne e=>hne (Int.ofNat_inj.1 e))
 have:=IX nd sub;simp only[TA,Ug,h.len] at this;omega
structure Dst(g:List (List Int))(s:List Bool)(goal:Nat)(d:List Int):Prop where
 len:d.length=g.length
 shut:s.getD goal false=true->∀v,v<g.length->d.getD v 0 = -1
 zero:s.getD goal false=false->d.getD goal 0=0
 bnd:∀v,v<g.length->-1<=d.getD v 0/\d.getD v 0<g.length
 back:∀v,v<g.length->0<=d.getD v 0->v=goal\/(s.getD v false=false/\∃w∈g.getD v [],0<=d.getD w.toNat 0/\d.getD v 0=d.getD w.toNat 0+1)
 fwd:∀v,v<g.length->s.getD v false=false->∀w∈g.getD v [],0<=d.getD w.toNat 0->0<=d.getD v 0/\d.getD v 0<=d.getD w.toNat 0+1
theorem FG{g:List (List Int)}{s:List Bool}(hg:OkG g s){goal:Nat}(hgo:goal<g.length):Dst g s goal (AC g s goal g.length):=by
 have hl:=OM g s goal g.length;by_cases hs:s.getD goal false=true
 .have e:AC g s goal g.length=Uv g.length (-1):=by unfold AC;rw[Tv hs]
  rw[e] at hl ⊢
  have rep:∀v,v<g.length->(Uv g.length (-1:Int)).getD v 0 = -1:=by intro v hv;simp[Ty,hv]
  refine⟨hl,fun _=>rep,fun h=>by(rw[hs] at h;cases h),fun v hv=>by rw[rep v hv];omega,fun v hv h0=>by(rw[rep v hv] at h0;omega),fun v hv _ w hw h0=>?_⟩;have:=(hg.row v hv).2 w hw;rw[rep _ (by omega)] at h0;omega
 .have e:AC g s goal g.length=(Uy g.length).foldl (BW g s) (Cq g goal):=by unfold AC;rw[Tw hs]
  rw[e] at hl ⊢
  have h:=Lev.run hg hgo g.length;exact⟨h.len,fun h'=>absurd h' hs,fun _=>h.zero,fun v hv=>⟨(h.bnd v hv).1,h.top hg hv⟩,h.back,fun v hv h1 w hw h0=>h.fwd v hv h1 w hw h0 (h.top hg (by have:=(hg.row v hv).2 w hw;omega))⟩
structure QT where
 L:List Int
 g:List (List Int)
 s:List Bool
 goal:Nat
 d:List Int
 v:Nat
 k:Nat
 r:List Int
 w:Nat
 b:Bool
 sb:Bool
 x:Int
 y:Int
 m1:Nat
 m2:Nat
def cT(q:QT):Nat->FuncId->List AV->List (Option Blk)->AG:=fun dst f args hp=>match f with
 | 32=>.call [] [] [] (.tup [lI q.d,.int .i64 0])
 | _=>.no
def e4(q:QT):List (Nat×AV):=[(49,.bool q.sb),(53,.int .i64 q.x),(70,.int .i64 q.x),(77,lI q.r),(85,lI q.r),(88,.int .i64 (iN q.w)),(92,.bool q.sb),(97,.int .i64 q.y),(103,.int .i64 q.x),(109,.int .i64 q.x),(113,.int .i64 q.y),(122,.int .i64 q.x),(126,.int .i64 q.y)]
def c5(q:QT):Nat->FuncId->List AV->List (Option Blk)->AG:=fun dst f args hp=>match f with
 | 15=>Mb q.L args hp (match dst with | 33=>iN q.v | _=>iN q.goal)
 | 32=>.call [] [] [] (.tup [lI (match dst with | 43=>q.d | _=>q.r),.int .i64 0])
 | _=>cT q dst f args hp
def e5(q:QT):List (Nat×AV):=[(81,.int .i64 q.y),(87,.int .i64 q.x),(93,.int .i64 q.y),(97,.int .i64 q.x)]
end Go.Proofs.Ytedjkebooffjpaa

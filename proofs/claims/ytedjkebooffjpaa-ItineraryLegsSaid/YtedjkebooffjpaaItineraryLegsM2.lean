/- Parts of the proof:AxU,AxMp,AxSt,AxMv,AxIm,AxAz,AxCl,AxV,AxW,AxX,AxY,AxZ,AxZa,AxBr,AxRd,AxWk,AxNe,AxLs,AxTr. -/
import Derived.MapKept
import Derived.Lib.ConvBytes
import Derived.Laws.IdiomStrings
import Derived.Laws.Strings
import Derived.Below
import Derived.OpenShut
import Derived.ChangeOld
import Derived.ChangeArms
import Derived.Carry
import Derived.Test.YtedjkebooffjpaaItineraryLegsM1
set_option linter.unusedVariables false
set_option linter.unusedSimpArgs false
open Go.IntKind (i64 u64)
namespace Go.AX
variable {P:Program}
def aIdx(P:Program)(t:TypeId)(x y:AV)(hp:List (Option Blk))(hint:AN):Option (OpR×Prop):=
 match x,y,B7 P t with
 | .sl b i n,.int _ m,some (none,z)=>
  match nth hp b with
  | some blk=>match Nat.beq blk.z z with
   | true=>some ({v:=.ptr b (i+m.toNat) 0},0<=m/\m<n)
   | false=>none
  | none=>none
 | .lst es,.int _ m,some (none,z)=>
  match hint with
  | .el e=>match Nat.beq e.cells.length z with
   | true=>some ({v:=.iptr e.cells},0<=m/\es[m.toNat]?=some e)
   | false=>none
  | _=>match es[m.toNat]? with
   | some e=>match Nat.beq e.cells.length z with
    | true=>some ({v:=.iptr e.cells},0<=m)
    | false=>none
   | none=>none
 | .ptr b i j,.int _ m,some (some n,z)=>some ({v:=.ptr b i (j+m.toNat * z)},0<=m/\m<n)
 | _,_,_=>none
theorem Sf{o:Oper}{ev:Operand->AV}{hp:List (Option Blk)}{nb:Nat}{t:TypeId}{x y:Operand}{hint:AN}{R:OpR}{p:Prop}
  (ho:o.op = .indexAddr t x y) (hr:aIdx P t (ev x) (ev y) hp hint=some (R,p)) (hpp:p):Ay P o ev (nth hp) nb R/\R.fits (nth hp)/\R.dead=[]:=by
 generalize hx:ev x=u at hr;generalize hy:ev y=v at hr;unfold aIdx at hr;split at hr
 .rename_i b i n k m z ht;split at hr
  case h_2=>cases hr
  rename_i blk hb;split at hr
  .rename_i hz;cases hr;exact⟨SZ ho hx hy ht hb (TB hz) hpp,OpR.fits_value _ _,rfl⟩
  .cases hr
 .rename_i es k m z ht;split at hr
  .rename_i e;split at hr
   .rename_i hz;cases hr;exact⟨PY ho hx hy ht hpp.1 hpp.2 (TB hz),OpR.fits_value _ _,rfl⟩
   .cases hr
  .split at hr
   case h_2=>cases hr
   rename_i e he;split at hr
   .rename_i hz;cases hr;exact⟨PY ho hx hy ht hpp he (TB hz),OpR.fits_value _ _,rfl⟩
   .cases hr
 .rename_i b i j k m n z ht;cases hr;exact⟨SB ho hx hy ht hpp,OpR.fits_value _ _,rfl⟩
 .cases hr
def cutL(es:List AV)(l u:Int):AV:=.lst ((es.drop l.toNat).take (u.toNat-l.toNat))
def cutC(es:List AV)(l u:Int):AV:=.lstc ((es.drop l.toNat).take (u.toNat-l.toNat))
def Mp(P:Program)(t:TypeId)(x:AV)(lo hi mx:Option AV):Bool:=
 match x,lo,hi,mx,B7 P t with
 | .lst _,none,some (.int _ u),some (.int _ m),some (none,_)=>match u,m with
  | .ofNat 0,.ofNat 0=>true
  | _,_=>false
 | _,_,_,_,_=>false
theorem Q7{t:TypeId}{x:AV}{lo hi mx:Option AV}(h:Mp P t x lo hi mx=true):∃es ky kq z,x = .lst es/\lo=none/\hi=some (.int ky 0)/\mx=some (.int kq 0)/\B7 P t=some (none,z):=by
 unfold Mp at h;split at h
 case h_2=>cases h
 rename_i es ky u kq m z he;split at h
 case h_2=>cases h
 exact⟨es,ky,kq,z,rfl,rfl,rfl,rfl,he⟩
def K0(P:Program)(t:TypeId)(x:AV)(lo hi mx:Option AV)(hp:List (Option Blk)):Option (OpR×Prop):=
 match Mp P t x lo hi mx with
 | true=>some ({v:=.sl 1000000 0 0},True)
 | false=>
 let bd (o:Option AV) (d:Int):Option Int:=match o with | none=>some d | some (.int _ n)=>some n | _=>none
 match mx.isSome&&!hi.isSome with
 | true=>none
 | false=>
  match x,B7 P t with
  | .sl b i n,some (none,z)=>
   match nth hp b,bd lo 0,bd hi n,bd mx n with
   | some blk,some l,some u,some m=>match Nat.beq blk.z z with
    | true=>some ({v:=.sl b (i+l.toNat) (u.toNat-l.toNat)},0<=l/\l<=u/\u<=m/\m<=n)
    | false=>none
   | _,_,_,_=>none
  | .lst es,some (none,z)=>
   match bd lo 0,bd hi es.length,bd mx es.length with
   | some l,some u,some m=>match mx.isSome with
    | true=>some ({v:=cutC es l u},(∀e∈es,e.cells.length=z)/\0<=l/\l<=u/\u=m/\m<=es.length)
    | false=>some ({v:=cutL es l u},(∀e∈es,e.cells.length=z)/\0<=l/\l<=u/\u<=m/\m<=es.length)
   | _,_,_=>none
  | .ptr b i 0,some (some n,z)=>
   match nth hp b,bd lo 0,bd hi n,bd mx n with
   | some blk,some l,some u,some m=>match Nat.beq blk.z z&&blk.mp.isNone with
    | true=>some ({v:=.sl b (i+l.toNat) (u.toNat-l.toNat)},(0<=l/\l<=u/\u<=m/\m<=n)/\i+n<=blk.es.length)
    | false=>none
   | _,_,_,_=>none
  | _,_=>none
theorem Rl{o:Oper}{ev:Operand->AV}{hp:List (Option Blk)}{nb:Nat}{t:TypeId}{x:Operand}{lo hi mx:Option Operand}{R:OpR}{p:Prop}
  (ho:o.op = .slice t x lo hi mx) (hr:K0 P t (ev x) (lo.map ev) (hi.map ev) (mx.map ev) hp=some (R,p)) (hpp:p):Ay P o ev (nth hp) nb R/\R.fits (nth hp)/\R.dead=[]:=by
 have bdeq:∀(q:Option Operand) (d:Int),(match q.map ev with | none=>some d | some (.int _ n)=>some n | _=>none:Option Int)=bnd ev q d:=by
  intro q d;cases q with
  | none=>rfl
  | some q=>simp only[Option.map_some,bnd]
            cases ev q<;>rfl
 generalize hx:ev x=u at hr;unfold K0 at hr;split at hr
 .rename_i hE;cases hr;obtain⟨es,ky,kq,z,rfl,h2,h3,h4,h5⟩:=Q7 hE;cases lo with
  | some _=>simp at h2
  | none=>
   cases hi with
   | none=>simp at h3
   | some y=>
    cases mx with
    | none=>simp at h4
    | some q=>simp only[Option.map_some,Ta] at h3 h4;exact⟨SY ho hx h5 h3 h4,OpR.fits_value _ _,rfl⟩
 rename_i hF;clear hF;simp only[bdeq] at hr;split at hr
 case h_1=>cases hr
 rename_i hmx;have hmx:mx.isSome=true->hi.isSome=true:=by intro h;simp[h] at hmx;simpa using hmx
 split at hr
 .rename_i b i n z ht;split at hr
  .rename_i blk l u m hb hl hu hm;split at hr
   .rename_i hz;cases hr;exact⟨Qo ho hx ht hb (TB hz) hl hu hm hmx hpp,OpR.fits_value _ _,rfl⟩
   .cases hr
  .cases hr
 .rename_i es z ht;split at hr
  .rename_i l u m hl hu hm;split at hr
   .rename_i hms;cases hr;exact⟨QR ho hx ht hpp.1 hl hu hm hmx (by simpa using hms) hpp.2,OpR.fits_value _ _,rfl⟩
   .cases hr;exact⟨S2 ho hx ht hpp.1 hl hu hm hmx hpp.2,OpR.fits_value _ _,rfl⟩
  .cases hr
 .rename_i b i n z ht;split at hr
  .rename_i blk l u m hb hl hu hm;split at hr
   .rename_i hz;cases hr;simp only[TC,Uj] at hz;exact⟨SN ho hx ht hb (TB hz.1) hl hu hm hmx hpp.1 hpp.2 hz.2,OpR.fits_value _ _,rfl⟩
   .cases hr
  .cases hr
 .cases hr
def aLen(P:Program)(t:TypeId)(x:AV):Option (OpR×Prop):=
 match unL P t,x with
 | true,.sl _ _ n=>vOp (.int .i64 n)
 | true,.lst es=>vOp (.int .i64 es.length)
 | true,.lstc es=>vOp (.int .i64 es.length)
 | true,.nils=>vOp (.int .i64 (0:Nat))
 | false,.str s=>match unS P t with
  | true=>vOp (.int .i64 s.size)
  | false=>none
 | false,_=>match unA P t with
  | some n=>vOp (.int .i64 n)
  | none=>none
 | _,_=>none
theorem Rk{o:Oper}{ev:Operand->AV}{h:Hp}{nb:Nat}{ts:Array TypeId}{t:TypeId}{x:Operand}{R:OpR}{p:Prop}
  (ho:o.op = .call {callee:=.builtin .len,args:=#[x],argTypes:=ts}) (hts:ts[0]?=some t) (hr:aLen P t (ev x)=some (R,p)):Ay P o ev h nb R/\R.fits h/\R.dead=[]:=by
 have hsl:unL P t=true->∃e,P.underlying t=some (.slice e):=by
  intro hu;unfold unL at hu;split at hu
  .rename_i e he;exact⟨e,he⟩
  .cases hu
 generalize hx:ev x=u at hr;unfold aLen at hr;split at hr
 .rename_i b i n hu;cases hr;obtain⟨e,he⟩:=hsl hu;exact⟨Jd ho hts he (.inl ⟨_,_,hx⟩),OpR.fits_value _ _,rfl⟩
 .rename_i es hu;cases hr;obtain⟨e,he⟩:=hsl hu;exact⟨Jd ho hts he (.inr (.inl ⟨_,hx,rfl⟩)),OpR.fits_value _ _,rfl⟩
 .rename_i es hu;cases hr;obtain⟨e,he⟩:=hsl hu;exact⟨ok_len_c ho hts he hx,OpR.fits_value _ _,rfl⟩
 .rename_i hu;cases hr;obtain⟨e,he⟩:=hsl hu;exact⟨Jd ho hts he (.inr (.inr ⟨hx,rfl⟩)),OpR.fits_value _ _,rfl⟩
 .split at hr
  .rename_i hu;cases hr;refine⟨RV ho hts ?_ hx,OpR.fits_value _ _,rfl⟩;unfold unS at hu;split at hu
   .assumption
   .cases hu
  .cases hr
 .split at hr
  .rename_i n hu;cases hr;unfold unA at hu;split at hu
   .rename_i m e he;cases hu;exact⟨RR ho hts he,OpR.fits_value _ _,rfl⟩
   .cases hu
  .cases hr
 .cases hr
def JZ(P:Program)(t:TypeId)(x y:AV)(hp:List (Option Blk)):Option (OpR×Prop):=
 match EH P t,FW (nth hp) y with
 | some (_,z,by_),some src=>
  match x with
  | .nils=>some ({v:=.sl hp.length 0 src.length,new:=[{es:=src,z,flat:=CD (nth hp) y}]},
    EL (nth hp) z y/\src.length<=9223372036854775807/\src.length * by_<=140737488355328)
  | .sl b 0 n=>match nth hp b with
   | some blk=>match blk.wr&&Nat.beq blk.z z with
    | true=>some ({v:=.sl hp.length 0 (blk.es.length+src.length),dead:=[b],new:=[{es:=blk.es++src,z,flat:=blk.flat&&CD (nth hp) y}]},
      blk.es.length=n/\EL (nth hp) z y/\blk.es.length+src.length<=9223372036854775807/\(blk.es.length+src.length) * by_<=140737488355328)
    | false=>none
   | none=>match n with
    | 0=>match Nat.ble hp.length b with
     | true=>some ({v:=.sl hp.length 0 src.length,new:=[{es:=src,z,flat:=CD (nth hp) y}]},
       EL (nth hp) z y/\src.length<=9223372036854775807/\src.length * by_<=140737488355328)
     | false=>none
    | _=>none
  | .lstc es=>some ({v:=.sl hp.length 0 (es.length+src.length),new:=[{es:=es++src,z,flat:=CD (nth hp) y}]},
    (∀e∈es,e.cells.length=z)/\EL (nth hp) z y/\0<src.length/\es.length+src.length<=9223372036854775807/\(es.length+src.length) * by_<=140737488355328)
  | _=>none
 | _,_=>none
theorem Px{o:Oper}{ev:Operand->AV}{hp:List (Option Blk)}{t:TypeId}{x y:Operand}{R:OpR}{p:Prop}
  (ho:o.op = .call {callee:=.builtin .append,args:=#[x,y],argTypes:=#[t,t]}) (hr:JZ P t (ev x) (ev y) hp=some (R,p)) (hpp:p):
  Ay P o ev (nth hp) hp.length R/\R.fits (nth hp):=by
 generalize hx:ev x=u at hr;unfold JZ at hr;split at hr
 case h_2=>cases hr
 rename_i e z by_ src ht hs;split at hr
 .cases hr;refine⟨?_,fun b blk hm=>by simp at hm,fun b hm=>by simp at hm⟩;have:=Lu (nb:=hp.length) (old:=[]) (dead:=[]) (fl:=true) ho ht (.inl ⟨.inl hx,rfl,rfl,rfl⟩) hs hpp.1 (by simpa using hpp.2.1) (by simpa using hpp.2.2);simpa using this
 .rename_i b n;split at hr
  case h_2=>
   split at hr
   case h_2=>cases hr
   split at hr
   case h_2=>cases hr
   rename_i hble;cases hr;refine⟨?_,fun b blk hm=>by simp at hm,fun b hm=>by simp at hm⟩;have:=Lu (nb:=hp.length) (old:=[]) (dead:=[]) (fl:=true) ho ht (.inl ⟨.inr ⟨b,TV hble,hx⟩,rfl,rfl,rfl⟩) hs hpp.1 (by simpa using hpp.2.1) (by simpa using hpp.2.2);simpa using this
  rename_i blk hb;split at hr
  case h_2=>cases hr
  rename_i hc;simp only[TC] at hc;cases hr;refine⟨?_,fun b blk hm=>by simp at hm,fun b' hm=>?_⟩
  .exact Lu (nb:=hp.length) (old:=blk.es) (dead:=[b]) (fl:=blk.flat) ho ht (.inr ⟨b,n,blk,hx,hb,TB hc.2,hc.1,rfl,rfl,hpp.1,rfl⟩) hs hpp.2.1 hpp.2.2.1 hpp.2.2.2
  .simp at hm;subst hm;exact⟨⟨blk,hb,hc.1⟩,rfl⟩
 .cases hr;exact⟨SX ho ht hx hpp.1 hs hpp.2.1 hpp.2.2.1 hpp.2.2.2.1 hpp.2.2.2.2,fun b blk hm=>by simp at hm,fun b hm=>by simp at hm⟩
 .cases hr
variable {φ:Phi} {A:Nat->Prop} {w:World} {P:Program}
def EK:AV->Option Value | .int k n=>some (.int k n) | .str s=>some (.string s) | .bool b=>some (.bool b) | _=>none
theorem KL{a:AV}{kv v:Value}(h:EK a=some kv)(hv:VR φ A w a v):v=kv:=by
 cases a<;>simp only[EK] at h<;>try (cases h)
 .exact hv.bool_inv
 .exact hv.int_inv
 .exact hv.str_inv
def A9:TypeDesc->Value->Bool | .bool,.bool _=>true | .int k,.int k' _=>decide (k'=k) | .string,.string _=>true | _,_=>false
theorem ID{d:TypeDesc}{v:Value}(h:A9 d v=true):MapKept.IsKey d v:=by
 unfold A9 at h;split at h
 .trivial
 .have h:=of_decide_eq_true h;subst h;exact rfl
 .trivial
 .cases h
def El(P:Program)(t:TypeId):Option (TypeId×TypeDesc×TypeId):=match P.underlying t with
 | some (.map kt et)=>match P.underlying kt with
  | some d=>some (kt,d,et)
  | none=>none
 | _=>none
theorem KR{t kt et:TypeId}{d:TypeDesc}(h:El P t=some (kt,d,et)):P.underlying t=some (.map kt et)/\P.underlying kt=some d:=by
 unfold El at h;split at h
 .rename_i kt' et' h1;split at h
  .rename_i d' h2;simp at h;obtain⟨rfl,rfl,rfl⟩:=h;exact⟨h1,h2⟩
  .cases h
 .cases h
def Ir(d:TypeDesc)(l:List MapEntry):Prop:=∀x∈l,MapKept.IsKey d x.key
def Cf(d:TypeDesc)(k:Value)(l:List MapEntry):Option (Nat×Value):=match Instr.findNow d k l 0 with
 | some r=>r
 | none=>none
theorem JW{d:TypeDesc}{k:Value}{l:List MapEntry}(hk:MapKept.IsKey d k)(hl:Ir d l):
  (Instr.findNow d k l 0=some none/\Cf d k l=none/\∀x∈l,x.key≠k)\/∃j e,Instr.findNow d k l 0=some (some (j,e.val))/\Cf d k l=some (j,e.val)/\l[j]?=some e/\e.key=k:=by
 rcases MapKept.findNow_spec hk l 0 hl with ⟨h1,h2⟩ | ⟨j,e,h1,h2,h3⟩
 .exact .inl ⟨h1,by unfold Cf;rw[h1],h2⟩
 .rw[TJ] at h1;exact .inr ⟨j,e,h1,by unfold Cf;rw[h1],h2,h3⟩
def F2(d:TypeDesc)(k:Value)(l:List MapEntry):Bool:=match Cf d k l with | some (_,.bool b)=>b | _=>false
def Eb(d:TypeDesc)(k:Value)(l:List MapEntry):Int:=match Cf d k l with | some (_,.int _ n)=>n | _=>0
def mStamp(d:TypeDesc)(k:Value)(l:List MapEntry)(c:Nat):Nat:=match Cf d k l with | some (i,_)=>((l[i]?).map (·.born)).getD 0 | none=>c
def mEnt(d:TypeDesc)(k z:Value)(l:List MapEntry)(c:Nat):List MapEntry:=match Cf d k l with | some _=>l | none=>l++[{key:=k,val:=z,born:=c}]
def CM(d:TypeDesc)(k:Value)(l:List MapEntry)(c:Nat):Nat:=match Cf d k l with | some _=>c | none=>c+1
def mPut(s:Int)(v:Value)(l:List MapEntry):List MapEntry:=match l.findIdx? (fun e=>((e.born:Nat):Int)==s) with | some i=>l.modify i (fun e=>{e with val:=v}) | none=>l
def BP(d:TypeDesc)(k v:Value)(l:List MapEntry)(c:Nat):List MapEntry:=match Cf d k l with | some (i,_)=>l.modify i (fun e=>{e with val:=v}) | none=>l++[{key:=k,val:=v,born:=c}]
def CL(d:TypeDesc)(k:Value)(l:List MapEntry):List MapEntry:=match Cf d k l with | some (i,_)=>l.eraseIdx i | none=>l
theorem Eff.wmap{h:Hp}{nb b r z:Nat}{blk:Blk}{m m':List MapEntry×Nat}{v:AV}{v':Value}
  (hA:∀r,A r->r<w.heap.size/\¬Mut φ h r) (hn:∀b,nb<=b->φ b=none) (hb:h b=some blk) (hw:blk.wr=true) (hφ:φ b=some (r,z)) (hm:blk.mp=some m) (hh:HR φ A w h) (hv:VR φ A w v v'):
  Eff φ A w h nb {v,chg:=[(b,{blk with mp:=some m'})]} v' {w with heap:=w.heap.setIfInBounds r (.map m'.1.toArray m'.2)} φ:=by
 have hr:blk.z=z/\blk.es=[]/\blk.z=0/\w.heap[r]?=some (.map m.1.toArray m.2):=by
  rcases hh.blk b blk hb with ⟨_,h0,_⟩ | ⟨_,_,_,_,_,⟨_,h0⟩,_⟩ | ⟨m2,r2,h1,h2,⟨h3,h4⟩,h5⟩
  .rw[hφ] at h0;cases h0
  .rw[hm] at h0;cases h0
  .rw[hφ] at h2;simp at h2;rw[hm] at h1;cases h1;exact⟨h2.2.symm,h3,h4,by rw[h2.1];exact h5⟩
 obtain⟨hz,hes,hz0,hr⟩:=hr;have hne:∀q,q≠r->({w with heap:=w.heap.setIfInBounds r (.map m'.1.toArray m'.2)}:World).heap[q]?=w.heap[q]?:=fun q hq=>(MapKept.heap_set hr).2 q hq
 have hAr:∀q,A q->q≠r:=fun q hq he=>(hA q hq).2 ⟨b,blk,z,hb,hw,by rw[he];exact hφ⟩
 have hrow:∀q,Bm w q<=Bm ({w with heap:=w.heap.setIfInBounds r (.map m'.1.toArray m'.2)}:World) q:=by
  intro q;by_cases hq:q=r
  .subst hq;unfold Bm;rw[hr];exact TG _
  .unfold Bm;rw[hne q hq];exact TF _
 refine⟨⟨rfl,rfl,rfl,by simp,fun q _ hq=>hne q fun he=>hq ⟨b,z,.inr ⟨{blk with mp:=some m'},Tj.2 rfl⟩,(by rw[he];exact hφ)⟩,hrow⟩,fun _ _=>rfl,
  fun b' hb'=>hn b' (by simpa using hb'),fun b' q z' hb' h1=>?_,fun b1 b2 q z1 z2 h1 _ h2 _=>?_,hv.mono (fun _ _ h=>h) (fun _ h=>.inl h) (fun q hq=>hne q (hAr q hq)) hrow,
  fun b' blk'' hmm=>(by simp at hmm;obtain⟨_,rfl⟩:=hmm;intro _;simp only;rw[hes];intro e he;cases he),fun blk'' hmm=>by simp at hmm,fun b' blk'' hmm=>?_,fun k blk'' hmm=>by simp at hmm⟩
 .rw[hn b' hb'] at h1;cases h1
 .rw[hn b1 h1] at h2;cases h2
 .simp only[Tj,Ti] at hmm;obtain⟨rfl,rfl⟩:=hmm;exact .inr (.inr ⟨m',r,rfl,by rw[hφ,hz],⟨hes,hz0⟩,(MapKept.heap_set hr).1⟩)
theorem HR.map{h:Hp}(hh:HR φ A w h){b:Nat}{blk:Blk}(hb:h b=some blk){m:List MapEntry×Nat}(hm:blk.mp=some m){r z:Nat}(hφ:φ b=some (r,z)):w.heap[r]?=some (.map m.1.toArray m.2):=by
 rcases hh.blk b blk hb with ⟨_,h0,_⟩ | ⟨_,_,_,_,_,⟨_,h0⟩,_⟩ | ⟨m2,r2,h1,h2,⟨h3,h4⟩,h5⟩
 .rw[hφ] at h0;cases h0
 .rw[hm] at h0;cases h0
 .rw[hφ] at h2;simp at h2;rw[hm] at h1;cases h1;rw[h2.1];exact h5
theorem Sw{o:Oper}{ev:Operand->AV}{h:Hp}{nb:Nat}{t:TypeId}(ho:o.op = .makeMap t none):Ay P o ev h nb {v:=.map nb,new:=[{es:=[],z:=0,mp:=some ([],0)}]}:=by
 intro φ A w a K Q hA hv hh hn k;unfold Oper.wp;have hrun:(execOp a.eval o).run P w = .ok (.value (.map (some w.heap.size))) (w.alloc (.map #[] 0)):=by generalize a.eval=ρ;simp[execOp,ho,Instr.makeMap,Result.andThen]
 rw[hrun];have hnew:=(MapKept.heap_alloc w (.map #[] 0)).1;let φ':Phi:=fun b=>if b=nb then some (w.heap.size,0) else φ b
 have hφ:∀b x,φ b=some x->φ' b=some x:=fun b x hb=>by
  simp only[φ'];split
  .rename_i he;subst he;rw[hn b (TF _)] at hb;cases hb
  .exact hb
 refine k _ _ φ' ⟨⟨rfl,rfl,rfl,by simp,fun r hr _=>RowKit.Below.heap_alloc w _ r hr,IV w _ _ rfl⟩,fun b hb=>?_,fun b hb=>?_,fun b r z' hb h1=>?_,fun b b' r z1 z2 hb hb' h1 h2=>?_,.map nb _ 0 (by simp[φ']),fun b blk hm=>(by simp at hm),fun blk hm=>(by simp at hm;subst hm;intro _ e he;cases he),fun b blk hm=>(by simp at hm),fun j blk hj=>?_⟩
 .simp only[φ'];rw[Tt (by omega)]
 .simp at hb;simp only[φ'];rw[Tt (by omega)];exact hn b (by omega)
 .simp only[φ'] at h1;split at h1
  .simp at h1;left;simp;omega
  .rw[hn b hb] at h1;cases h1
 .simp only[φ'] at h1 h2;by_cases e1:b=nb
  .by_cases e2:b'=nb
   .omega
   .rw[Tt e2,hn b' hb'] at h2;cases h2
  .rw[Tt e1,hn b hb] at h1;cases h1
 .match j,hj with
  | 0,hj=>simp at hj;subst hj;exact .inr (.inr ⟨([],0),w.heap.size,rfl,by simp[φ'],⟨rfl,rfl⟩,hnew⟩)
theorem Sb{o:Oper}{ev:Operand->AV}{h:Hp}{nb:Nat}{t kt et:TypeId}{d:TypeDesc}{x y:Operand}{b:Nat}{blk:Blk}{l:List MapEntry}{c:Nat}{kv zv:Value}{ti:TypeInfo}{v:AV}
  (ho:o.op = .lookup t x y false) (hx:ev x = .map b) (hb:h b=some blk) (hm:blk.mp=some (l,c)) (ht:El P t=some (kt,d,et)) (hk:EK (ev y)=some kv) (hkd:A9 d kv=true) (hl:Ir d l)
  (hti:P.info? et=some ti) (hz:ti.zero=some zv) (hv:∀u,(Cf d kv l=none/\u=zv)\/(∃j e,Cf d kv l=some (j,e.val)/\l[j]?=some e/\u=e.val)->∀(φ:Phi) (A:Nat->Prop) (w:World),VR φ A w v u):Ay P o ev h nb {v}:=by
 refine .value fun φ A w ρ _ hvv hh=>?_
 obtain⟨h1,h2⟩:=KR ht;have hx':=hvv x;rw[hx] at hx';obtain⟨r,z,hφ,hp⟩:=hx'.map_inv;have hy:=KL hk (hvv y);have hr:=hh.map hb hm hφ;have hkk:=ID hkd;have hzr:(zeroValue et).run P w = .ok zv w:=by simp[zeroValue,typeInfo,hti,hz,Result.andThen]
 rcases JW hkk hl with ⟨g1,g2,_⟩ | ⟨j,e,g1,g2,g3,_⟩
 .refine⟨zv,?_,hv zv (.inl ⟨g2,rfl⟩) φ A w⟩;simp[execOp,ho,hp,hy,Instr.lookup,run_underlying h1,MapKept.run_getObj_map hr,MapKept.run_checkKey h2 hkk,MapKept.run_findKey h2 g1,hzr,Result.andThen]
 .refine⟨e.val,?_,hv e.val (.inr ⟨j,e,g2,g3,rfl⟩) φ A w⟩;simp[execOp,ho,hp,hy,Instr.lookup,run_underlying h1,MapKept.run_getObj_map hr,MapKept.run_checkKey h2 hkk,MapKept.run_findKey h2 g1,Result.andThen]
theorem R6{o:Oper}{ev:Operand->AV}{h:Hp}{nb:Nat}{t kt et:TypeId}{d:TypeDesc}{x:Operand}{ts:Array TypeId}{b:Nat}{blk:Blk}{l:List MapEntry}{c:Nat}
  (ho:o.op = .call {callee:=.builtin .len,args:=#[x],argTypes:=ts}) (hts:ts[0]?=some t) (hx:ev x = .map b) (hb:h b=some blk) (hm:blk.mp=some (l,c)) (ht:El P t=some (kt,d,et)):Ay P o ev h nb {v:=.int .i64 l.length}:=by
 refine .value fun φ A w ρ _ hv hh=>⟨.int .i64 l.length,?_,.imm _ _ (.int _ _)⟩
 obtain⟨h1,h2⟩:=KR ht;have hx':=hv x;rw[hx] at hx';obtain⟨r,z,hφ,hp⟩:=hx'.map_inv;have hr:=hh.map hb hm hφ;simp[execOp,ho,resolve,invoke,builtin,Builtin.len_,hts,run_underlying h1,hp,MapKept.run_getObj_map hr,goInt,Result.andThen]
theorem QZ{o:Oper}{ev:Operand->AV}{h:Hp}{nb:Nat}{t kt et:TypeId}{d:TypeDesc}{x y q:Operand}{b:Nat}{blk:Blk}{l:List MapEntry}{c:Nat}{kv vv:Value}
  (ho:o.op = .mapUpdate t x y q) (hx:ev x = .map b) (hb:h b=some blk) (hw:blk.wr=true) (hm:blk.mp=some (l,c)) (ht:El P t=some (kt,d,et)) (hk:EK (ev y)=some kv) (hkd:A9 d kv=true) (hl:Ir d l) (hq:EK (ev q)=some vv):
  Ay P o ev h nb {v:=.unk,chg:=[(b,{blk with mp:=some (BP d kv vv l c,CM d kv l c)})]}:=by
 intro φ A w a K Q hA hvv hh hn k;obtain⟨h1,h2⟩:=KR ht;have hx':=hvv x;rw[hx] at hx';obtain⟨r,z,hφ,hp⟩:=hx'.map_inv;have hy:=KL hk (hvv y);have hq':=KL hq (hvv q);have hr:=hh.map hb hm hφ;have hkk:=ID hkd;unfold Oper.wp;have hrun:(execOp a.eval o).run P w = .ok .skip {w with heap:=w.heap.setIfInBounds r (.map (BP d kv vv l c).toArray (CM d kv l c))}:=by
  rcases JW hkk hl with ⟨g1,g2,_⟩ | ⟨j,e,g1,g2,g3,g4⟩
  .have e1:BP d kv vv l c=l++[{key:=kv,val:=vv,born:=c}]:=by unfold BP;rw[g2]
   have e2:CM d kv l c=c+1:=by unfold CM;rw[g2]
   rw[e1,e2];generalize a.eval=ρ at *;simp[execOp,ho,hp,hy,hq',Instr.mapUpdate,run_underlying h1,MapKept.run_getObj_map hr,MapKept.run_checkKey h2 hkk,MapKept.run_findKey h2 g1,MapKept.run_setObj_map _ hr,Result.andThen]
  .have e1:BP d kv vv l c=l.modify j (fun e=>{e with val:=vv}):=by unfold BP;rw[g2]
   have e2:CM d kv l c=c:=by unfold CM;rw[g2]
   have hmod:l.modify j (fun e=>{e with key:=kv,val:=vv})=l.modify j (fun e=>{e with val:=vv}):=by
    apply List.ext_getElem?;intro i;rw[List.getElem?_modify,List.getElem?_modify];by_cases hij:j=i
    .subst hij;rw[g3];cases e;simp_all
    .simp[hij]
   rw[e1,e2];generalize a.eval=ρ at *;simp[execOp,ho,hp,hy,hq',Instr.mapUpdate,run_underlying h1,MapKept.run_getObj_map hr,MapKept.run_checkKey h2 hkk,MapKept.run_findKey h2 g1,g3,g4,MapKept.run_keyThatStays hkk,MapKept.run_setObj_map _ hr,hmod,Result.andThen]
 rw[hrun];exact k undef _ φ (Eff.wmap (m:=(l,c)) (m':=(BP d kv vv l c,CM d kv l c)) hA hn hb hw hφ hm hh (.imm _ _ (.unk _)))
theorem Ra{o:Oper}{ev:Operand->AV}{h:Hp}{nb:Nat}{t kt et:TypeId}{d:TypeDesc}{x y:Operand}{b:Nat}{blk:Blk}{l:List MapEntry}{c:Nat}{kv:Value}{ts:Array TypeId}
  (ho:o.op = .call {callee:=.builtin .delete,args:=#[x,y],argTypes:=ts}) (hts:ts[0]?=some t) (hx:ev x = .map b) (hb:h b=some blk) (hw:blk.wr=true) (hm:blk.mp=some (l,c)) (ht:El P t=some (kt,d,et)) (hk:EK (ev y)=some kv) (hkd:A9 d kv=true) (hl:Ir d l):
  Ay P o ev h nb {v:=.unk,chg:=[(b,{blk with mp:=some (CL d kv l,c)})]}:=by
 intro φ A w a K Q hA hvv hh hn k;obtain⟨h1,h2⟩:=KR ht;have hx':=hvv x;rw[hx] at hx';obtain⟨r,z,hφ,hp⟩:=hx'.map_inv;have hy:=KL hk (hvv y);have hr:=hh.map hb hm hφ;have hkk:=ID hkd;unfold Oper.wp;have hrun:(execOp a.eval o).run P w = .ok (.value (.tuple #[])) {w with heap:=w.heap.setIfInBounds r (.map (CL d kv l).toArray c)}:=by
  rcases JW hkk hl with ⟨g1,g2,_⟩ | ⟨j,e,g1,g2,g3,g4⟩
  .have e1:CL d kv l=l:=by unfold CL;rw[g2]
   rw[e1];generalize a.eval=ρ at *;simp[execOp,ho,hp,hy,resolve,invoke,builtin,Builtin.delete_,hts,run_underlying h1,MapKept.run_getObj_map hr,MapKept.run_checkKey h2 hkk,MapKept.run_findKey h2 g1,MapKept.run_setObj_map _ hr,Result.andThen]
  .have e1:CL d kv l=l.eraseIdx j:=by unfold CL;rw[g2]
   rw[e1];generalize a.eval=ρ at *;have hjl:j<l.length:=(Tw.1 g3).1;simp[execOp,ho,hp,hy,resolve,invoke,builtin,Builtin.delete_,hts,run_underlying h1,MapKept.run_getObj_map hr,MapKept.run_checkKey h2 hkk,MapKept.run_findKey h2 g1,MapKept.run_setObj_map _ hr,Result.andThen,Array.eraseIdxIfInBounds,hjl]
 rw[hrun];exact k _ _ φ (Eff.wmap (m:=(l,c)) (m':=(CL d kv l,c)) hA hn hb hw hφ hm hh (.imm _ _ (.unk _)))
attribute [irreducible] Cf F2 Eb mStamp mEnt CM mPut BP CL
def bAt(s:ByteArray)(i:Nat):Int:=((s.data.toList.getD i 0).toNat:Int)
def AU(s:ByteArray):List AV:=s.data.toList.map fun b=>.int .u8 (b.toNat:Int)
theorem SK{o:Oper}{ev:Operand->AV}{h:Hp}{nb:Nat}{t:TypeId}{x y:Operand}{s:ByteArray}{k:IntKind}{i:Int}
  (ho:o.op = .index t x y) (ht:P.underlying t=some .string) (hx:ev x = .str s) (hy:ev y = .int k i) (h0:0<=i) (h1:i<s.size):Ay P o ev h nb {v:=.int .u8 (bAt s i.toNat)}:=by
 refine .value fun φ A w ρ _ hv _=>⟨.int .u8 (bAt s i.toNat),?_,.imm _ _ (.int _ _)⟩
 have e1:=hv x;rw[hx] at e1;have e1:=e1.str_inv;have e2:=hv y;rw[hy] at e2;have e2:=e2.int_inv;have hlt:i.toNat<s.data.size:=by have:s.size=s.data.size:=rfl;omega
 have e3:bAt s i.toNat=((s[i.toNat]'hlt).toNat:Int):=by unfold bAt;rw[Tv,Tu (by simpa using hlt)];rfl
 rw[e3];simp[execOp,ho,e1,e2,run_index_string w t s k i ht,h0,h1]
theorem RP{o:Oper}{ev:Operand->AV}{h:Hp}{nb:Nat}{t:TypeId}{x y y':Operand}{s:ByteArray}{k k':IntKind}{i j:Int}
  (ho:o.op = .slice t x (some y) (some y') none) (ht:P.underlying t=some .string) (hx:ev x = .str s) (hy:ev y = .int k i) (hy':ev y' = .int k' j) (h0:0<=i) (h1:i<=j) (h2:j<=s.size):Ay P o ev h nb {v:=.str (s.extract i.toNat j.toNat)}:=by
 refine .value fun φ A w ρ _ hv _=>⟨.string (s.extract i.toNat j.toNat),?_,.imm _ _ (.str _)⟩
 have e1:=hv x;rw[hx] at e1;have e1:=e1.str_inv;have e2:=hv y;rw[hy] at e2;have e2:=e2.int_inv;have e3:=hv y';rw[hy'] at e3;have e3:=e3.int_inv;simp[execOp,ho,e1,e2,e3,run_sliceAt_string (w:=w) t _ _ _ _ ht,run_slice_string w t s k k' i j ht h0 h1 h2]
theorem RX{o:Oper}{ev:Operand->AV}{h:Hp}{nb:Nat}{src dst e:TypeId}{x:Operand}{s:ByteArray}{u:TypeDesc}
  (ho:o.op = .convert src dst x) (hs:P.underlying src=some u) (hd:P.underlying dst=some (.slice e)) (he:P.underlying e=some (.int .u8)) (hx:ev x = .str s):Ay P o ev h nb {v:=.lst (AU s)}:=by
 intro φ A w a K Q hA hvv hh hn k;have e1:=hvv x;rw[hx] at e1;have e1:=e1.str_inv;unfold Oper.wp;have hrun:(execOp a.eval o).run P w = .ok (.value (.slice (some ⟨w.heap.size,0,none⟩) s.size (grownCap w s.size 0 e))) (Lib.bytesWorld w e s):=by generalize a.eval=ρ at *;simp[execOp,ho,e1,Lib.run_convert_string_bytes w src dst e s hs hd he,Result.andThen]
 rw[hrun];have hlen:(AU s).length=s.size:=by simp[AU]
 have hsz:=Lib.bytesWorld_size w e s;have hrow:∀r,Bm w r<=Bm (Lib.bytesWorld w e s) r:=by
  intro r;by_cases hr:r<w.heap.size
  .unfold Bm;rw[Lib.bytesWorld_at_old w e s r hr];exact TF _
  .unfold Bm;rw[Array.getElem?_eq_none (by omega)];exact TG _
 refine k _ _ φ ⟨⟨rfl,rfl,rfl,by omega,fun r hr _=>Lib.bytesWorld_at_old w e s r hr,hrow⟩,fun _ _=>rfl,fun b hb=>hn b (by simpa using hb),fun b r z hb h=>?_,fun b b' r z z' hb _ h _=>?_,?_,fun b blk hm=>(by simp at hm),fun blk hm=>(by simp at hm),fun b blk hm=>(by simp at hm),fun b blk hm=>(by simp at hm)⟩
 .rw[hn b hb] at h;cases h
 .rw[hn b hb] at h;cases h
 .refine .imm _ _ ?_;have:=RT.lst (A:=BH A φ nb w (Lib.bytesWorld w e s)) (w:=Lib.bytesWorld w e s) (AU s) w.heap.size 0 (grownCap w s.size 0 e) 1 (fun i _=>.int .u8 (bAt s i)) ?_ ?_ ?_ ?_ ?_ ?_
  .rw[hlen] at this;exact this
  .rw[hlen];exact grownCap_ge w s.size 0 e
  .intro _;refine .inr ⟨TF _,by rw[hsz];omega,?_⟩
   rintro⟨b,z,hb,h1⟩
   rw[hn b hb] at h1;cases h1
  .intro e' he';obtain⟨b,_,rfl⟩:=T1.1 he';rfl
  .intro e' he' c hc;obtain⟨b,_,rfl⟩:=T1.1 he';simp[AV.cells] at hc;subst hc;rfl
  .intro i j hi hj;have hj0:j=0:=by omega
   subst hj0;rw[hlen] at hi;have:=Lib.bytesWorld_cell w e s i hi;simpa [bAt] using this
  .intro i j e' c hi hj;unfold AU at hi;rw[TE] at hi;cases hg:s.data.toList[i]? with
   | none=>rw[hg] at hi;cases hi
   | some b=>
    rw[hg] at hi;simp at hi;subst hi;match j,hj with
    | 0,hj=>simp[AV.cells] at hj;subst hj;simp only[bAt];rw[Tv,hg];exact .int _ _
def MV:AV->Option UInt8 | .int .u8 n=>some (UInt8.ofNat n.toNat) | _=>none
def FE:AV->Bool | .int .u8 n=>decide (0<=n)&&decide (n<256) | _=>false
def Cy(es:List AV):ByteArray:=⟨(es.filterMap MV).toArray⟩
theorem Sn{a:AV}(h:FE a=true):∃b:UInt8,a = .int .u8 (b.toNat:Int)/\MV a=some b:=by
 unfold FE at h;split at h
 .rename_i n;simp only[TC,decide_eq_true_eq] at h;refine⟨UInt8.ofNat n.toNat,?_,rfl⟩;have:(UInt8.ofNat n.toNat).toNat=n.toNat:=by simp;omega
  rw[this,TX h.1]
 .cases h
theorem OC:∀{es:List AV},es.all FE=true->∃l:List UInt8,es=l.map (fun b=>AV.int .u8 (b.toNat:Int))/\es.filterMap MV=l
 | [],_=>⟨[],rfl,rfl⟩
 | a::es,h=>by simp only[List.all_cons,TC] at h;obtain⟨b,h1,h2⟩:=Sn h.1;obtain⟨l,h3,h4⟩:=OC h.2;exact⟨b::l,by rw[h1,h3];rfl,by rw[List.filterMap_cons,h2,h4]⟩
theorem Si{o:Oper}{ev:Operand->AV}{h:Hp}{nb:Nat}{src dst e:TypeId}{x:Operand}{b n:Nat}{blk:Blk}
  (ho:o.op = .convert src dst x) (hs:P.underlying src=some (.slice e)) (he:P.underlying e=some (.int .u8)) (hd:P.underlying dst=some .string)
  (hx:ev x = .sl b 0 n) (hb:h b=some blk) (hz:blk.z=1) (hn:blk.es.length=n) (h0:n≠0) (hmp:blk.mp=none) (hby:blk.es.all FE=true):Ay P o ev h nb {v:=.str (Cy blk.es)}:=by
 refine .value fun φ A w ρ _ hv hh=>⟨.string (Cy blk.es),?_,.imm _ _ (.str _)⟩
 have hx':=hv x;rw[hx] at hx';obtain⟨l,hl1,hl2⟩:=OC hby;have hln:l.length=n:=by rw[<-hn,hl1];simp
 rcases hx'.sl_inv with ⟨h1,_⟩ | ⟨r,z,cap,hφ,hnc,hr,he'⟩
 .exact absurd h1 h0
 .rw[Nat.zero_mul,<-hln] at he';rcases hh.blk b blk hb with ⟨_,g0,_⟩ | ⟨r',cs,T,hφ',hrow,_,hel⟩ | ⟨_,_,g0,_⟩
  .rw[hφ] at g0;cases g0
  case inr.inr=>rw[hmp] at g0;cases g0
  rw[hφ] at hφ';cases hφ';have hcell:∀j (hj:j<l.length),w.cell? ((⟨r,0,none⟩:Addr).add j)=some (.int .u8 (l[j].toNat:Int)):=by
   intro j hj;have hej:blk.es[j]?=some (.int .u8 (l[j].toNat:Int)):=by rw[hl1];simp[hj]
   obtain⟨_,g⟩:=hel j _ hej;obtain⟨_,v,hv1,hv2⟩:=g 0 _ rfl;have hv2:=hv2.int_inv;subst hv2;rw[Addr.add_lit];simp only[World.cell?];rw[hrow];simpa [hz] using hv1
  simp[execOp,ho,he',run_convert_bytes_back w src dst e ⟨r,0,none⟩ cap l hs he hd hcell,Cy,hl2,Result.andThen]
attribute [irreducible] bAt AU Cy
inductive MK where | b | i (k:IntKind)
def Jh:MK->Value | .b=>.bool false | .i k=>.int k 0
def BS:MK->Value->Prop | .b,.bool _=>True | .i k,.int k' _=>k'=k | _,_=>False
def CY(d:TypeDesc)(mk:MK)(l:List MapEntry):Prop:=∀x∈l,A9 d x.key=true/\BS mk x.val
def Gl(mk:MK)(d:TypeDesc)(kv:Value)(l:List MapEntry):AV:=match mk with
 | .b=>.bool (F2 d kv l)
 | .i k=>.int k (Eb d kv l)
def KQ(P:Program)(et:TypeId):Option MK:=match P.info? et with
 | some ti=>match ti.zero with
  | some (.bool false)=>some .b
  | some (.int k n)=>match n with
   | .ofNat 0=>some (.i k)
   | _=>none
  | _=>none
 | none=>none
theorem QW{et:TypeId}{mk:MK}(h:KQ P et=some mk):∃ti,P.info? et=some ti/\ti.zero=some (Jh mk):=by
 unfold KQ at h;split at h
 .rename_i ti hi;split at h
  .rename_i hz;cases h;exact⟨ti,hi,hz⟩
  .rename_i k n hz;split at h
   .cases h;exact⟨ti,hi,hz⟩
   .cases h
  .cases h
 .cases h
def IL(P:Program)(t:TypeId):Option (TypeDesc×MK):=match El P t with
 | some (_,d,et)=>match KQ P et with
  | some mk=>some (d,mk)
  | none=>none
 | none=>none
theorem MG{t:TypeId}{d:TypeDesc}{mk:MK}(h:IL P t=some (d,mk)):∃kt et,El P t=some (kt,d,et)/\KQ P et=some mk:=by
 unfold IL at h;split at h
 .rename_i kt d' et h1;split at h
  .rename_i mk' h2;simp at h;obtain⟨rfl,rfl⟩:=h;exact⟨kt,et,h1,h2⟩
  .cases h
 .cases h
theorem CY.keys{d:TypeDesc}{mk:MK}{l:List MapEntry}(h:CY d mk l):Ir d l:=fun x hx=>ID (h x hx).1
theorem CY.val{d:TypeDesc}{mk:MK}{l:List MapEntry}{kv:Value}(h:CY d mk l):∀u,(Cf d kv l=none/\u=Jh mk)\/(∃j e,Cf d kv l=some (j,e.val)/\l[j]?=some e/\u=e.val)->∀(φ:Phi) (A:Nat->Prop) (w:World),VR φ A w (Gl mk d kv l) u:=by
 intro u hu φ A w;rcases hu with ⟨h1,rfl⟩ | ⟨j,e,h1,h2,rfl⟩
 .cases mk with
  | b=>simp only[Gl,F2,h1,Jh];exact .imm _ _ (.bool _)
  | i k=>simp only[Gl,Eb,h1,Jh];exact .imm _ _ (.int _ _)
 .have:=(h e (Ty h2)).2;cases mk with
  | b=>
   cases hv:e.val<;>rw[hv] at this<;>simp[BS] at this;simp only[Gl,F2,h1,hv];exact .imm _ _ (.bool _)
  | i k=>cases hv:e.val<;>rw[hv] at this<;>simp[BS] at this;subst this;simp only[Gl,Eb,h1,hv];exact .imm _ _ (.int _ _)
def HH(x:AV)(hp:List (Option Blk)):Option (Nat×Blk×List MapEntry×Nat):=match x with
 | .map b=>match nth hp b with
  | some blk=>match blk.mp with
   | some (l,c)=>some (b,blk,l,c)
   | none=>none
  | none=>none
 | _=>none
theorem JH{x:AV}{hp:List (Option Blk)}{b:Nat}{blk:Blk}{l:List MapEntry}{c:Nat}(h:HH x hp=some (b,blk,l,c)):x = .map b/\nth hp b=some blk/\blk.mp=some (l,c):=by
 unfold HH at h;split at h
 case h_2=>cases h
 split at h
 case h_2=>cases h
 rename_i b' blk' h1;split at h
 case h_2=>cases h
 rename_i l' c' h2;simp at h;obtain⟨rfl,rfl,rfl,rfl⟩:=h;exact⟨rfl,h1,h2⟩
def HP(d:TypeDesc)(y:AV):Option Value:=match EK y with
 | some kv=>match A9 d kv with
  | true=>some kv
  | false=>none
 | none=>none
theorem MT{d:TypeDesc}{y:AV}{kv:Value}(h:HP d y=some kv):EK y=some kv/\A9 d kv=true:=by
 unfold HP at h;split at h
 case h_2=>cases h
 rename_i kv' h1;split at h
 case h_2=>cases h
 rename_i h2;cases h;exact⟨h1,h2⟩
def LM(P:Program)(t:TypeId)(x y:AV)(hp:List (Option Blk)):Option (OpR×Prop):=
 match HH x hp,IL P t with
 | some (_,_,l,_),some (d,mk)=>match HP d y with
  | some kv=>some ({v:=Gl mk d kv l},CY d mk l)
  | none=>none
 | _,_=>none
theorem RY{o:Oper}{ev:Operand->AV}{hp:List (Option Blk)}{nb:Nat}{t:TypeId}{x y:Operand}{R:OpR}{p:Prop}
  (ho:o.op = .lookup t x y false) (hr:LM P t (ev x) (ev y) hp=some (R,p)) (hpp:p):Ay P o ev (nth hp) nb R/\R.fits (nth hp)/\R.dead=[]:=by
 unfold LM at hr;split at hr
 case h_2=>cases hr
 rename_i b blk l c d mk h1 h2;split at hr
 case h_2=>cases hr
 rename_i kv h3;cases hr;obtain⟨hx,hb,hm⟩:=JH h1;obtain⟨kt,et,ht,hz⟩:=MG h2;obtain⟨ti,hti,hzv⟩:=QW hz;obtain⟨hk,hkd⟩:=MT h3;exact⟨Sb ho hx hb hm ht hk hkd hpp.keys hti hzv hpp.val,OpR.fits_value _ _,rfl⟩
def MH(P:Program)(t:TypeId)(x:AV)(hp:List (Option Blk)):Option (OpR×Prop):=
 match HH x hp,El P t with
 | some (_,_,l,_),some _=>some ({v:=.int .i64 l.length},True)
 | _,_=>none
theorem Sp{o:Oper}{ev:Operand->AV}{hp:List (Option Blk)}{nb:Nat}{ts:Array TypeId}{t:TypeId}{x:Operand}{R:OpR}{p:Prop}
  (ho:o.op = .call {callee:=.builtin .len,args:=#[x],argTypes:=ts}) (hts:ts[0]?=some t) (hr:MH P t (ev x) hp=some (R,p)):Ay P o ev (nth hp) nb R/\R.fits (nth hp)/\R.dead=[]:=by
 unfold MH at hr;split at hr
 case h_2=>cases hr
 rename_i b blk l c r h1 h2;obtain⟨kt,d,et⟩:=r;cases hr;obtain⟨hx,hb,hm⟩:=JH h1;exact⟨R6 ho hts hx hb hm h2,OpR.fits_value _ _,rfl⟩
theorem LS{hp:List (Option Blk)}{v:AV}{b:Nat}{blk blk':Blk}(hb:nth hp b=some blk)(hw:blk.wr=true):OpR.fits {v,chg:=[(b,blk')]} (nth hp):=⟨fun b' blk'' hm=>by simp at hm;obtain⟨rfl,rfl⟩:=hm;exact⟨blk,hb,hw⟩,fun b hm=>by simp at hm⟩
def L4(P:Program)(t:TypeId)(x y q:AV)(hp:List (Option Blk)):Option (OpR×Prop):=
 match HH x hp,IL P t with
 | some (b,blk,l,c),some (d,mk)=>match HP d y,EK q,blk.wr with
  | some kv,some vv,true=>some ({v:=.unk,chg:=[(b,{blk with mp:=some (BP d kv vv l c,CM d kv l c)})]},CY d mk l)
  | _,_,_=>none
 | _,_=>none
theorem RN{o:Oper}{ev:Operand->AV}{hp:List (Option Blk)}{nb:Nat}{t:TypeId}{x y q:Operand}{R:OpR}{p:Prop}
  (ho:o.op = .mapUpdate t x y q) (hr:L4 P t (ev x) (ev y) (ev q) hp=some (R,p)) (hpp:p):Ay P o ev (nth hp) nb R/\R.fits (nth hp)/\R.dead=[]:=by
 unfold L4 at hr;split at hr
 case h_2=>cases hr
 rename_i b blk l c d mk h1 h2;split at hr
 case h_2=>cases hr
 rename_i kv vv h3 h4 hw;cases hr;obtain⟨hx,hb,hm⟩:=JH h1;obtain⟨kt,et,ht,hz⟩:=MG h2;obtain⟨hk,hkd⟩:=MT h3;exact⟨QZ ho hx hb hw hm ht hk hkd hpp.keys h4,LS hb hw,rfl⟩
def K2(P:Program)(t:TypeId)(x y:AV)(hp:List (Option Blk)):Option (OpR×Prop):=
 match HH x hp,IL P t with
 | some (b,blk,l,c),some (d,mk)=>match HP d y,blk.wr with
  | some kv,true=>some ({v:=.unk,chg:=[(b,{blk with mp:=some (CL d kv l,c)})]},CY d mk l)
  | _,_=>none
 | _,_=>none
theorem RJ{o:Oper}{ev:Operand->AV}{hp:List (Option Blk)}{nb:Nat}{ts:Array TypeId}{t:TypeId}{x y:Operand}{R:OpR}{p:Prop}
  (ho:o.op = .call {callee:=.builtin .delete,args:=#[x,y],argTypes:=ts}) (hts:ts[0]?=some t) (hr:K2 P t (ev x) (ev y) hp=some (R,p)) (hpp:p):Ay P o ev (nth hp) nb R/\R.fits (nth hp)/\R.dead=[]:=by
 unfold K2 at hr;split at hr
 case h_2=>cases hr
 rename_i b blk l c d mk h1 h2;split at hr
 case h_2=>cases hr
 rename_i kv h3 hw;cases hr;obtain⟨hx,hb,hm⟩:=JH h1;obtain⟨kt,et,ht,hz⟩:=MG h2;obtain⟨hk,hkd⟩:=MT h3;exact⟨Ra ho hts hx hb hw hm ht hk hkd hpp.keys,LS hb hw,rfl⟩
def Jn(P:Program)(t:TypeId):Bool:=match P.underlying t with
 | some (.slice e)=>match P.underlying e with
  | some (.int .u8)=>true
  | _=>false
 | _=>false
theorem Qw{t:TypeId}(h:Jn P t=true):∃e,P.underlying t=some (.slice e)/\P.underlying e=some (.int .u8):=by
 unfold Jn at h;split at h
 .rename_i e h1;split at h
  .rename_i h2;exact⟨e,h1,h2⟩
  .cases h
 .cases h
def Mk(P:Program)(s t:TypeId)(x:AV)(hp:List (Option Blk)):Option (OpR×Prop):=
 match x with
 | .int _ n=>match unI P t,unK P s with
  | some k',true=>vOp (.int k' (k'.wrap n))
  | _,_=>none
 | .str b=>match Jn P t,unK P s with
  | true,true=>some ({v:=.lst (AU b)},True)
  | _,_=>none
 | .sl b 0 n=>match nth hp b,Jn P s,unS P t with
  | some blk,true,true=>match Nat.beq blk.z 1&&blk.mp.isNone with
   | true=>some ({v:=.str (Cy blk.es)},blk.es.length=n/\n≠0/\blk.es.all FE=true)
   | false=>none
  | _,_,_=>none
 | _=>none
theorem NV{t:TypeId}(h:unK P t=true):∃d,P.underlying t=some d:=by
 unfold unK at h;split at h
 .rename_i d hd;exact⟨d,hd⟩
 .cases h
theorem Nv{t:TypeId}(h:unS P t=true):P.underlying t=some .string:=by
 unfold unS at h;split at h
 .assumption
 .cases h
theorem Rc{o:Oper}{ev:Operand->AV}{hp:List (Option Blk)}{nb:Nat}{s t:TypeId}{x:Operand}{R:OpR}{p:Prop}
  (ho:o.op = .convert s t x) (hr:Mk P s t (ev x) hp=some (R,p)) (hpp:p):Ay P o ev (nth hp) nb R/\R.fits (nth hp)/\R.dead=[]:=by
 generalize hx:ev x=xv at hr;unfold Mk at hr;split at hr
 .rename_i k n;split at hr
  case h_2=>cases hr
  rename_i k' hu hs;cases hr;refine⟨ok_convI ho hx (NV hs) ?_,OpR.fits_value _ _,rfl⟩;unfold unI at hu;split at hu
  .cases hu;assumption
  .cases hu
 .rename_i b;split at hr
  case h_2=>cases hr
  rename_i h1 h2;cases hr;obtain⟨e,g1,g2⟩:=Qw h1;obtain⟨u,g3⟩:=NV h2;exact⟨RX ho g3 g1 g2 hx,OpR.fits_value _ _,rfl⟩
 .rename_i b n;split at hr
  case h_2=>cases hr
  rename_i blk hb h1 h2;split at hr
  case h_2=>cases hr
  rename_i h3;simp only[TC,Uj] at h3;cases hr;obtain⟨e,g1,g2⟩:=Qw h1;exact⟨Si ho g1 g2 (Nv h2) hx hb (TB h3.1) hpp.1 hpp.2.1 h3.2 hpp.2.2,OpR.fits_value _ _,rfl⟩
 .cases hr
def LQ(P:Program)(t:TypeId)(x y:AV):Option (OpR×Prop):=
 match x,y with
 | .str s,.int _ i=>match unS P t with
  | true=>some ({v:=.int .u8 (bAt s i.toNat)},0<=i/\i<s.size)
  | false=>none
 | _,_=>none
theorem Rm{o:Oper}{ev:Operand->AV}{h:Hp}{nb:Nat}{t:TypeId}{x y:Operand}{R:OpR}{p:Prop}
  (ho:o.op = .index t x y) (hr:LQ P t (ev x) (ev y)=some (R,p)) (hpp:p):Ay P o ev h nb R/\R.fits h/\R.dead=[]:=by
 generalize hx:ev x=xv at hr;generalize hy:ev y=yv at hr;unfold LQ at hr;split at hr
 case h_2=>cases hr
 rename_i s k i;split at hr
 case h_2=>cases hr
 rename_i hu;cases hr;exact⟨SK ho (Nv hu) hx hy hpp.1 hpp.2,OpR.fits_value _ _,rfl⟩
def L0(P:Program)(t:TypeId)(x:AV)(lo hi mx:Option AV):Option (OpR×Prop):=
 match x,lo,hi,mx with
 | .str s,some (.int _ i),some (.int _ j),none=>match unS P t with
  | true=>some ({v:=.str (s.extract i.toNat j.toNat)},0<=i/\i<=j/\j<=s.size)
  | false=>none
 | _,_,_,_=>none
theorem Ro{o:Oper}{ev:Operand->AV}{h:Hp}{nb:Nat}{t:TypeId}{x:Operand}{lo hi mx:Option Operand}{R:OpR}{p:Prop}
  (ho:o.op = .slice t x lo hi mx) (hr:L0 P t (ev x) (lo.map ev) (hi.map ev) (mx.map ev)=some (R,p)) (hpp:p):Ay P o ev h nb R/\R.fits h/\R.dead=[]:=by
 generalize hx:ev x=xv at hr;unfold L0 at hr;split at hr
 case h_2=>cases hr
 rename_i s k i k' j h1 h2 h3;split at hr
 case h_2=>cases hr
 rename_i hu;cases hr;cases lo with
 | none=>cases h1
 | some y=>
  cases hi with
  | none=>cases h2
  | some y'=>
   cases mx with
   | some z=>cases h3
   | none=>exact⟨RP ho (Nv hu) hx (Option.some.inj h1) (Option.some.inj h2) hpp.1 hpp.2.1 hpp.2.2,OpR.fits_value _ _,rfl⟩
theorem VR.rt_of_noref{φ:Phi}{A:Nat->Prop}{w:World}{a:AV}{v:Value}(h:VR φ A w a v)(hn:a.noref=true):RT A w a v:=by
 cases h with
 | imm a v h=>exact h
 | ptr=>simp[AV.noref] at hn
 | sl=>simp[AV.noref] at hn
 | slnil=>simp[AV.noref] at hn
 | agg=>simp[AV.noref] at hn
 | tup=>simp[AV.noref] at hn
 | fn=>simp[AV.noref] at hn
 | map=>simp[AV.noref] at hn
theorem Ay.toImm{o:Oper}{ev:Operand->AV}{h:Hp}{nb n:Nat}{blk:Blk}(hok:Ay P o ev h nb {v:=.sl nb 0 n,new:=[blk]})(hn:blk.es.length=n)(hmp:blk.mp=none)
  (hnr:∀e∈blk.es,∀c∈e.cells,c.noref=true):Ay P o ev h nb {v:=.lst blk.es}:=by
 intro φ A w a K Q hA hv hh hnone k;refine hok φ A w a K Q hA hv hh hnone fun v' w' φ' E=>k v' w' φ ?_
 have hgrow:∀r,w.heap.size<=r->r<w'.heap.size->BH A φ nb w w' r:=fun r h1 h2=>.inr ⟨h1,h2,by rintro⟨b,z,hb,h3⟩;rw[hnone b hb] at h3;cases h3⟩
 have hA':∀r,BH A φ' nb w w' r->BH A φ nb w w' r:=by
  rintro r (h1 | ⟨h1,h2,_⟩)
  .exact .inl h1
  .exact hgrow r h1 h2
 refine⟨E.keep.mono fun r hr=>?_,fun _ _=>rfl,fun b hb=>hnone b (by simpa using hb),fun b r z hb h1=>?_,fun b b' r z z' hb _ h1 _=>?_,?_,fun b blk hm=>(by simp at hm),fun blk hm=>(by simp at hm),fun b blk hm=>(by simp at hm),fun b blk hm=>(by simp at hm)⟩
 .obtain⟨b,z,hd,_⟩:=hr;simp[OpR.dirty] at hd
 .rw[hnone b hb] at h1;cases h1
 .rw[hnone b hb] at h1;cases h1
 .have hval:=E.val;rcases hval.sl_inv with ⟨h0,a',he⟩ | ⟨r,z,cap,hφ,hnc,hr,he⟩
  .have:blk.es=[]:=List.length_eq_zero_iff.1 (by omega);simp only[he,this];exact .imm _ _ (.lnil a')
  .have hb:=E.newb 0 blk rfl;rcases hb with ⟨_,h0,_⟩ | ⟨r',cs,T,hφ',hrow,_,hel⟩ | ⟨m,r',h0,_⟩
   .rw[Tg,hφ] at h0;cases h0
   case inr.inr=>rw[hmp] at h0;cases h0
   rw[Tg,hφ] at hφ';simp only[Ta,Ti] at hφ';obtain⟨rfl,rfl⟩:=hφ';have hfr:w.heap.size<=r/\r<w'.heap.size:=by
    rcases E.fresh nb r _ (TF _) hφ with h1 | ⟨b0,z0,blk0,hd,_⟩
    .exact h1
    .simp at hd
   simp only[he,Nat.zero_mul];rw[<-hn];refine .imm _ _ (.lst blk.es r 0 cap blk.z (fun i j=>(cs[i * blk.z+j]?).getD undef) (by omega) (fun _=>hgrow r hfr.1 hfr.2) (fun e he=>?_) (fun e he c hc=>?_) (fun i j hi hj=>?_) fun i j e c hi hj=>?_)
   .obtain⟨i,hi⟩:=List.mem_iff_getElem?.1 he;exact(hel i e hi).1
   .obtain⟨i,hi⟩:=List.mem_iff_getElem?.1 he;obtain⟨j,hj⟩:=List.mem_iff_getElem?.1 hc;exact((hel i e hi).2 j c hj).1
   .have hie:=Tu hi;obtain⟨h1,h2⟩:=hel i _ hie;have hje:=Tu (l:=(blk.es[i]).cells) (i:=j) (by rw[h1];exact hj);obtain⟨_,v,hv1,_⟩:=h2 j _ hje;simp only[World.cell?];rw[hrow];simpa using hv1.trans (by rw[hv1];rfl)
   .obtain⟨_,h2⟩:=hel i e hi;obtain⟨_,v,hv1,hv2⟩:=h2 j c hj;rw[hv1];exact(hv2.rt_of_noref (hnr e (Ty hi) c (Ty hj))).mono hA' fun _ _=>rfl
theorem Ay.toImmF{o:Oper}{ev:Operand->AV}{h:Hp}{nb n:Nat}{blk:Blk}(hok:Ay P o ev h nb {v:=.sl nb 0 n,new:=[blk]})(hn:blk.es.length=n)(hmp:blk.mp=none)
  (hfl:blk.flat=true):Ay P o ev h nb {v:=.lst blk.es}:=by
 intro φ A w a K Q hA hv hh hnone k;refine hok φ A w a K Q hA hv hh hnone fun v' w' φ' E=>k v' w' φ ?_
 have hnr:=E.fln blk (Tj.2 rfl) hfl;have hgrow:∀r,w.heap.size<=r->r<w'.heap.size->BH A φ nb w w' r:=fun r h1 h2=>.inr ⟨h1,h2,by rintro⟨b,z,hb,h3⟩;rw[hnone b hb] at h3;cases h3⟩
 have hA':∀r,BH A φ' nb w w' r->BH A φ nb w w' r:=by
  rintro r (h1 | ⟨h1,h2,_⟩)
  .exact .inl h1
  .exact hgrow r h1 h2
 refine⟨E.keep.mono fun r hr=>?_,fun _ _=>rfl,fun b hb=>hnone b (by simpa using hb),fun b r z hb h1=>?_,fun b b' r z z' hb _ h1 _=>?_,?_,fun b blk hm=>(by simp at hm),fun blk hm=>(by simp at hm),fun b blk hm=>(by simp at hm),fun b blk hm=>(by simp at hm)⟩
 .obtain⟨b,z,hd,_⟩:=hr;simp[OpR.dirty] at hd
 .rw[hnone b hb] at h1;cases h1
 .rw[hnone b hb] at h1;cases h1
 .have hval:=E.val;rcases hval.sl_inv with ⟨h0,a',he⟩ | ⟨r,z,cap,hφ,hnc,hr,he⟩
  .have:blk.es=[]:=List.length_eq_zero_iff.1 (by omega);simp only[he,this];exact .imm _ _ (.lnil a')
  .have hb:=E.newb 0 blk rfl;rcases hb with ⟨_,h0,_⟩ | ⟨r',cs,T,hφ',hrow,_,hel⟩ | ⟨m,r',h0,_⟩
   .rw[Tg,hφ] at h0;cases h0
   case inr.inr=>rw[hmp] at h0;cases h0
   rw[Tg,hφ] at hφ';simp only[Ta,Ti] at hφ';obtain⟨rfl,rfl⟩:=hφ';have hfr:w.heap.size<=r/\r<w'.heap.size:=by
    rcases E.fresh nb r _ (TF _) hφ with h1 | ⟨b0,z0,blk0,hd,_⟩
    .exact h1
    .simp at hd
   simp only[he,Nat.zero_mul];rw[<-hn];refine .imm _ _ (.lst blk.es r 0 cap blk.z (fun i j=>(cs[i * blk.z+j]?).getD undef) (by omega) (fun _=>hgrow r hfr.1 hfr.2) (fun e he=>?_) (fun e he c hc=>?_) (fun i j hi hj=>?_) fun i j e c hi hj=>?_)
   .obtain⟨i,hi⟩:=List.mem_iff_getElem?.1 he;exact(hel i e hi).1
   .obtain⟨i,hi⟩:=List.mem_iff_getElem?.1 he;obtain⟨j,hj⟩:=List.mem_iff_getElem?.1 hc;exact((hel i e hi).2 j c hj).1
   .have hie:=Tu hi;obtain⟨h1,h2⟩:=hel i _ hie;have hje:=Tu (l:=(blk.es[i]).cells) (i:=j) (by rw[h1];exact hj);obtain⟨_,v,hv1,_⟩:=h2 j _ hje;simp only[World.cell?];rw[hrow];simpa using hv1.trans (by rw[hv1];rfl)
   .obtain⟨_,h2⟩:=hel i e hi;obtain⟨_,v,hv1,hv2⟩:=h2 j c hj;rw[hv1];exact(hv2.rt_of_noref (hnr e (Ty hi) c (Ty hj))).mono hA' fun _ _=>rfl
def immR(nb:Nat):OpR×Prop->Option (OpR×Prop)
 | (⟨.sl b 0 n,[],[],[blk]⟩,p)=>match Nat.beq b nb&&blk.flat,blk.mp with
  | true,none=>some ({v:=.lst blk.es},p/\blk.es.length=n)
  | _,_=>none
 | _=>none
theorem SC{o:Oper}{ev:Operand->AV}{h:Hp}{nb:Nat}{r:OpR×Prop}{R:OpR}{p:Prop}(hr:immR nb r=some (R,p))(hpp:p)(hok:r.2->Ay P o ev h nb r.1):Ay P o ev h nb R/\R.fits h:=by
 unfold immR at hr;split at hr
 .rename_i b n blk q;split at hr
  .rename_i hb hm;cases hr;simp only[TC] at hb;have:=TB hb.1;subst this;exact⟨(hok hpp.1).toImmF hpp.2 hm hb.2,OpR.fits_value _ _⟩
  .cases hr
 .cases hr
def wkq:AV->AV | .nils=>.lst [] | e=>e
def wkr:AV->AV | .nils=>.lst [] | .agg cs=>.agg (cs.map wkq) | e=>e
theorem Qq{φ:Phi}{A:Nat->Prop}{w:World}{c:AV}{v:Value}(h:VR φ A w c v):VR φ A w (wkq c) v:=by
 cases c with
 | nils=>rw[h.nils_inv];exact .imm _ _ (.lnil none)
 | _=>exact h
theorem wkr_len(e:AV):(wkr e).cells.length=e.cells.length:=by cases e<;>simp[wkr,AV.cells]
theorem Oz{φ:Phi}{A:Nat->Prop}{w:World}(c:AV):(c.one=true->(wkq c).one=true)/\(c.noref=true->(wkq c).noref=true)/\∀v,VR φ A w c v->VR φ A w (wkq c) v:=by refine⟨fun h=>?_,fun h=>?_,fun v h=>Qq h⟩<;>cases c<;>first | exact h | rfl
theorem Ox{φ:Phi}{A:Nat->Prop}{w:World}{e c:AV}{j:Nat}(hc:(wkr e).cells[j]?=some c):∃c',e.cells[j]?=some c'/\(c'.one=true->c.one=true)/\(c'.noref=true->c.noref=true)/\∀v,VR φ A w c' v->VR φ A w c v:=by
 cases e with
 | nils=>
  match j,hc with
  | 0,hc=>simp[wkr,AV.cells] at hc;subst hc;exact⟨.nils,rfl,Oz .nils⟩
 | agg cs=>simp only[wkr,AV.cells,TE] at hc;obtain⟨c',h1,rfl⟩:=Option.map_eq_some_iff.1 hc;exact⟨c',h1,Oz c'⟩
 | _=>exact⟨c,hc,id,id,fun _ h=>h⟩
theorem Ay.wkNew{o:Oper}{ev:Operand->AV}{h:Hp}{nb:Nat}{v:AV}{blk:Blk}(hok:Ay P o ev h nb {v,new:=[blk]})(hfl:blk.flat=true->Cl blk.es):Ay P o ev h nb {v,new:=[{blk with es:=blk.es.map wkr}]}:=by
 intro φ A w a K Q hA hv hh hnone k;refine hok φ A w a K Q hA hv hh hnone fun v' w' φ' E=>k v' w' φ' ?_
 refine⟨E.keep,E.old,E.out,E.fresh,E.inj,E.val,fun b blk' hm=>(by simp at hm),fun blk' hm=>?_,fun b blk' hm=>(by simp at hm),fun k blk' hk=>?_⟩
 .simp at hm;subst hm;intro hf e he c hc;obtain⟨e0,he0,rfl⟩:=T1.1 he;obtain⟨j,hj⟩:=List.mem_iff_getElem?.1 hc;obtain⟨c',h1,_,h3,_⟩:=Ox (φ:=φ) (A:=A) (w:=w) hj;exact h3 (hfl hf e0 he0 c' (Ty h1))
 .match k,hk with
  | 0,hk=>
   simp at hk;subst hk;rcases E.newb 0 blk rfl with ⟨h1,h2,h3,h4⟩ | ⟨r,cs,T,h1,h2,⟨h3,h4⟩,h5⟩ | ⟨m,r,h1,h2,⟨h3,h4⟩,h5⟩
   .exact .inl ⟨by simp[h1],h2,h3,h4⟩
   .refine .inr (.inl ⟨r,cs,T,h1,h2,⟨by simpa using h3,h4⟩,fun i e he=>?_⟩);simp only[TE] at he;cases hi:blk.es[i]? with
    | none=>rw[hi] at he;cases he
    | some e0=>rw[hi] at he;simp at he;subst he;obtain⟨g1,g2⟩:=h5 i e0 hi;refine⟨by rw[wkr_len];exact g1,fun j c hc=>?_⟩;obtain⟨c',k1,k2,_,k4⟩:=Ox (φ:=φ') (A:=BH A φ' nb w w') (w:=w') hc;obtain⟨g3,v,g4,g5⟩:=g2 j c' k1;exact⟨k2 g3,v,g4,k4 v g5⟩
   .exact .inr (.inr ⟨m,r,h1,h2,⟨by simp[h3],h4⟩,h5⟩)
theorem wkr_vr{φ:Phi}{A:Nat->Prop}{w:World}{c:AV}{v:Value}(h:VR φ A w c v):VR φ A w (wkr c) v:=by
 cases c with
 | nils=>rw[h.nils_inv];exact .imm _ _ (.lnil none)
 | agg cs=>
  obtain⟨vs,rfl,hl,hh⟩:=h.agg_inv;refine .agg (cs.map wkq) vs (by simpa using hl) fun i d u hd hu=>?_
  rw[TE] at hd;obtain⟨c',h1,rfl⟩:=Option.map_eq_some_iff.1 hd;exact Qq (hh i c' u h1 hu)
 | _=>exact h
theorem Ay.lessEv{o:Oper}{ev:Operand->AV}{h:Hp}{nb:Nat}{R:OpR}(hk:Ay P o (fun x=>wkr (ev x)) h nb R):Ay P o ev h nb R:=by intro φ A w a K Q hA hv hh hn k;exact hk φ A w a K Q hA (fun x=>wkr_vr (hv x)) hh hn k
theorem Rf{t:TypeId}{x y:AV}{hp:List (Option Blk)}{hint:AN}:Gd P t (wkr x) y hp hint=Gd P t x y hp hint:=by cases x<;>first | rfl | (simp only[wkr];unfold Gd J2 KD;split<;>rfl)
theorem RK(w:World)(t tx ty e:TypeId)(i:TypeInfo)(z:Value)(kx:IntKind)(ht:P.underlying t=some (.slice e))(htx:P.underlying tx=some (.int kx))(hi:P.info? e=some i)(hz:i.zero=some z)
  (n:Nat) (h0:0<n) (hpos:0<i.size) (h63:(n:Int)<=9223372036854775807) (h48:n * i.bytes<=281474976710656):
  (Builtin.append_ #[t,tx] ty #[.slice none 0 0,.int .i64 n]).run P w =
   .ok (.slice (some ⟨w.heap.size,0,none⟩) n (grownCap w n 0 e)) (w.drew.alloc (.cells (Builtin.zeroCells z.cells n++Builtin.zeroCells z.cells (grownCap w n 0 e-n)) e)):=by
 have hn:n≠0:=by omega
 have h63':¬(9223372036854775807<(n:Int)):=by omega
 have h48':¬(281474976710656<Builtin.nextslicecap n 0 * i.bytes):=by rw[nextslicecap_zero h0];omega
 have h48'':¬(281474976710656<(n:Int) * i.bytes):=by have:((n * i.bytes:Nat):Int)=(n:Int) * i.bytes:=by simp
                                                     omega
 have hw:i64.wrap (n:Int)=n:=by simp only[IntKind.wrap,IntKind.bits,IntKind.signed];simp;omega
 have hns:¬(n * i.size=0):=by have:=Nat.mul_pos h0 hpos;omega
 have hneg:¬((n:Int)<0):=by omega
 simp[Builtin.append_,run_underlying ht,run_underlying htx,sizeOf,typeInfo,zeroValue,hi,hz,asInt,asIntOf,hw,hneg,h48'',hns,hn,h63',h48',Question.forced,run_firstCells_none,newRow,grownCap]
theorem SG{o:Oper}{ev:Operand->AV}{h:Hp}{nb:Nat}{t tx:TypeId}{x y:Operand}{e:AV}{z by_:Nat}{n:Int}
  (ho:o.op = .call {callee:=.builtin .append,args:=#[x,y],argTypes:=#[t,tx]}) (ht:EH P t=some (e,z,by_)) (htx:P.underlying tx=some (.int .i64)) (hx:ev x = .nils) (hy:ev y = .int .i64 n)
  (h0:0<n) (h63:n<=9223372036854775807) (hb:n.toNat * by_<=140737488355328):
  Ay P o ev h nb {v:=.sl nb 0 n.toNat,new:=[{es:=List.replicate n.toNat e,z,flat:=BE e.cells}]}:=by
 intro φ A w ac K Q hA hv hh hn k;obtain⟨el,i,zv,hu,hi,hz,rfl,hsz,hby,hkn,hzl,hone,hpos⟩:=Jy ht;have hx':=hv x;rw[hx] at hx';have hx':=hx'.nils_inv;have hy':=hv y;rw[hy] at hy';have hy':=hy'.int_inv;have hcr:=(VR.imm (φ:=φ) (A:=A) (w:=w) _ _ (RT.absV zv)).cr hkn;have hzs:zv.cells.size=z:=by have:=hcr.1;simp at this;omega
 obtain⟨m,rfl⟩:∃m:Nat,n=(m:Int):=⟨n.toNat,by omega⟩;rw[TD] at hb;simp only[TD] at k ⊢
 have hrun:=RK (P:=P) w t tx o.type el i zv .i64 hu htx hi hz m (by omega) (by omega) h63 (by rw[hby];omega);have hsize:∀n,(Builtin.zeroCells zv.cells n).toList.length=n * z:=by intro n;simp[size_zeroCells,hzs]
 have hrow:Row φ A w z (List.replicate m (absV zv)) (Builtin.zeroCells zv.cells m).toList:=by
  refine⟨by rw[hsize,TR],fun k e' he=>?_⟩;have hlt:=(Tw.1 he).1;rw[TR] at hlt;rw[TW,Ts hlt] at he;cases he;refine⟨hzl,fun j c' hj=>?_⟩;have hjl:=(Tw.1 hj).1;have hidx:k * z+j<m * z:=by have:=TM z (show k+1<=m by omega);rw[Nat.succ_mul] at this;omega
  have hmod:(k * z+j) % z=j:=by rw[Tb,Nat.mul_add_mod];exact Tk (by omega)
  have hju:j<zv.cells.toList.length:=by simp;omega
  refine⟨TI.1 hone c' (Ty hj),zv.cells.toList[j],?_,hcr.2 j c' _ hj (by simp)⟩;simp[Builtin.zeroCells,hidx,hzs,hmod,getElem!_pos zv.cells j (by omega)]
 have hg:=grownCap_ge w m 0 el;unfold Oper.wp;have hex:(execOp ac.eval o).run P w = .ok (.value (.slice (some ⟨w.heap.size,0,none⟩) m (grownCap w m 0 el))) (w.drew.alloc (.cells (Builtin.zeroCells zv.cells m++Builtin.zeroCells zv.cells (grownCap w m 0 el-m)) el)):=by rw[<-hx',<-hy'] at hrun;generalize ac.eval=ρ at *;simp[execOp,ho,resolve,invoke,builtin,hrun]
 rw[hex];refine k _ _ (upd φ nb (w.heap.size,z)) ?_
 have:=Eff.grow (dead:=[]) (T:=el) (n:=m) (cap:=grownCap w m 0 el) (flat:=BE (absV zv).cells) (fun hf e' he c' hc=>by rw[(List.mem_replicate.1 he).2] at hc;exact TI.1 hf c' hc) (extra:=(Builtin.zeroCells zv.cells (grownCap w m 0 el-m)).toList) hA hn hrow (by simp) hg
  (by rw[hsize,hsize,Nat.sub_mul];have:=TM z hg;omega)
 rw[<-IZ] at this;simpa using this
theorem Row.rep{φ:Phi}{A:Nat->Prop}{w:World}{zv:Value}{z:Nat}(hkn:(absV zv).known=true)(hzl:(absV zv).cells.length=z)(hone:Cb (absV zv).cells=true)(m:Nat):
  Row φ A w z (List.replicate m (absV zv)) (Builtin.zeroCells zv.cells m).toList:=by
 have hcr:=(VR.imm (φ:=φ) (A:=A) (w:=w) _ _ (RT.absV zv)).cr hkn;have hzs:zv.cells.size=z:=by have:=hcr.1;simp at this;omega
 have hsize:∀n,(Builtin.zeroCells zv.cells n).toList.length=n * z:=by intro n;simp[size_zeroCells,hzs]
 refine⟨by rw[hsize,TR],fun k e' he=>?_⟩;have hlt:=(Tw.1 he).1;rw[TR] at hlt;rw[TW,Ts hlt] at he;cases he;refine⟨hzl,fun j c' hj=>?_⟩;have hjl:=(Tw.1 hj).1;have hidx:k * z+j<m * z:=by have:=TM z (show k+1<=m by omega);rw[Nat.succ_mul] at this;omega
 have hmod:(k * z+j) % z=j:=by rw[Tb,Nat.mul_add_mod];exact Tk (by omega)
 have hju:j<zv.cells.toList.length:=by simp;omega
 refine⟨TI.1 hone c' (Ty hj),zv.cells.toList[j],?_,hcr.2 j c' _ hj (by simp)⟩;simp[Builtin.zeroCells,hidx,hzs,hmod,getElem!_pos zv.cells j (by omega)]
def liveW(hp:List (Option Blk))(b:Nat):Bool:=match nth hp b with | some blk=>blk.wr | none=>false
def immOK(fz:List Nat)(outs:List Blk):Prop:=match fz with
 | []=>True
 | _=>∀blk∈outs,B2 blk
def Mm(P:Program)(x:AV)(args:List AV)(hp:List (Option Blk))(hint:AN):Option (OpR×Prop):=
 match x,hint with
 | .fn f caps,.call σ fz outs res=>
  match DT σ fz hp,KZ P f&&Ex σ&&fz.all (fun b=> !Bp σ b)&&σ.all (liveW hp)&&outs.all (·.wr)&&(match fz with | []=>true | _=>Dc 3 res) with
  | some hpl,true=>some (FV σ hp.length outs res,
    ((args++caps).map fun a=>(BB σ fz hp 3 a).2).foldr And ((hpl.map (·.2)).foldr And
      (CT P f (hpl.map (·.1)) ((args++caps).map fun a=>(BB σ fz hp 3 a).1) (BT outs) res/\immOK fz outs)))
  | _,_=>none
 | _,_=>none
theorem Q9{o:Oper}{ev:Operand->AV}{hp:List (Option Blk)}{x:Operand}{xs:Array Operand}{ts:Array TypeId}{hint:AN}{R:OpR}{p:Prop}
  (ho:o.op = .call {callee:=.value x,args:=xs,argTypes:=ts}) (hr:Mm P (ev x) (xs.toList.map ev) hp hint=some (R,p)) (hpp:p):
  Ay P o ev (nth hp) hp.length R/\R.fits (nth hp)/\R.dead=[]:=by
 generalize hx:ev x=u at hr;unfold Mm at hr;split at hr
 case h_2=>cases hr
 rename_i f caps σ fz outs res;split at hr
 case h_2=>cases hr
 rename_i hpl hh hc;cases hr;simp only[TC] at hc;obtain⟨⟨⟨⟨⟨h1,h2⟩,h3⟩,h4⟩,h5⟩,h6⟩:=hc;obtain⟨p1,hpp⟩:=Ji hpp;obtain⟨p2,p3,p4⟩:=Ji hpp;have hlive:∀b∈σ,∃blk,nth hp b=some blk/\blk.wr=true:=by
  intro b hb;have:=TI.1 h4 b hb;unfold liveW at this;split at this
  .rename_i blk hblk;exact⟨blk,hblk,this⟩
  .cases this
 refine⟨ok_call ho hx h1 (fun a ha=>p1 _ (T1.2 ⟨a,ha,rfl⟩)) hh p2 h2 (fun b hb hm=>?_) hlive p3 (fun blk hb=>TI.1 h5 blk hb) ?_,⟨fun b blk hm=>?_,fun b hm=>by simp[FV] at hm⟩,rfl⟩
 .have:=TI.1 h3 b hb;rw[Eg.2 hm] at this;cases this
 .cases fz with
  | nil=>exact .inl rfl
  | cons y r=>exact .inr ⟨h6,p4⟩
 .obtain⟨k,g1,_⟩:=M1 hm;exact hlive b (Ty g1)
def J9:AN->Bool | .el (.lst [])=>true | _=>false
def wkHn:AN->Bool | .el (.tup [])=>true | _=>false
def M6(P:Program)(t:TypeId)(x:AV)(lo:Option Operand)(hi:Option AV)(mx:Option Operand):Bool:=match x,lo,hi,mx,B7 P t with
 | .nils,none,some (.int _ k),none,some (none,_)=>match k with
  | .ofNat 0=>true
  | _=>false
 | _,_,_,_,_=>false
theorem SL{t:TypeId}{x:AV}{lo:Option Operand}{hi:Option AV}{mx:Option Operand}(h:M6 P t x lo hi mx=true):∃ky z,x = .nils/\lo=none/\hi=some (.int ky 0)/\mx=none/\B7 P t=some (none,z):=by
 unfold M6 at h;split at h
 case h_2=>cases h
 rename_i ky k z he;split at h
 case h_2=>cases h
 exact⟨ky,z,rfl,rfl,rfl,rfl,he⟩
def Lb(P:Program)(t:TypeId):Bool:=match P.underlying t with
 | some (.int .i64)=>true
 | _=>false
theorem RW{t:TypeId}(h:Lb P t=true):P.underlying t=some (.int .i64):=by
 unfold Lb at h;split at h
 .assumption
 .cases h
def trcH:AN->Bool | .el .unk=>true | _=>false
theorem Ay.shorten{o:Oper}{ev:Operand->AV}{h:Hp}{nb b k:Nat}{v:AV}{blk:Blk}(hop:Ay P o ev h nb {v})(hb:h b=some blk)(hlt:b<nb):Ay P o ev h nb {v,chg:=[(b,{blk with es:=blk.es.take k})]}:=by
 intro φ A w a K Q hA hv hh hn kk;refine hop φ A w a K Q hA hv hh hn fun v' w' φ' he=>kk v' w' φ' ⟨he.keep.mono fun r ⟨b',z,hd,_⟩=>?_,he.old,fun b' h'=>he.out b' (by simpa using h'),he.fresh,he.inj,he.val,fun b' blk' hm hfl=>?_,fun blk' hm=>by simp at hm,fun b' blk' hm=>?_,fun kq blk' hk=>by simp at hk⟩
 .rcases hd with hd | ⟨_,hd⟩<;>simp at hd
 .simp at hm;obtain⟨rfl,rfl⟩:=hm;exact fun e hm=>hh.flat b' blk hb hfl e (List.mem_of_mem_take hm)
 .simp at hm;obtain⟨rfl,rfl⟩:=hm;have hkeep:∀r,r<w.heap.size->w'.heap[r]?=w.heap[r]?:=fun r hr=>he.keep.block r hr fun⟨b',z,hd,_⟩=>by rcases hd with hd | ⟨_,hd⟩<;>simp at hd
  have hφ:∀c x,φ c=some x->φ' c=some x:=fun c x hc=>by
   rcases Up c nb with h | h
   .rw[he.old c h];exact hc
   .rw[hn c h] at hc;cases hc
  have mono:∀{c u},VR φ A w c u->VR φ' (BH A φ' nb w w') w' c u:=fun h=>h.mono hφ (fun r hr=>.inl hr) (fun r hr=>hkeep r (hA r hr).1) he.keep.row
  rcases hh.blk b' blk hb with ⟨h1,h2,h3⟩ | ⟨r,cs,T,h1,h2,⟨h3,hmp⟩,h4⟩ | ⟨m,r,h1,h2,⟨h3,h4⟩,h5⟩
  .exact .inl ⟨by simp[h1],by rw[he.old b' hlt];exact h2,h3⟩
  .refine .inr (.inl ⟨r,cs,T,hφ _ _ h1,by rw[hkeep r (Ue.1 h2).1];exact h2,⟨?_,hmp⟩,fun i e hi=>?_⟩)
   .refine Uc (TM _ ?_) h3;simp only[TY];exact Nat.min_le_right _ _
   .simp only[TP] at hi;split at hi
    .obtain⟨g1,g2⟩:=h4 i e hi;refine⟨g1,fun j c hj=>?_⟩;obtain⟨g3,u,g4,g5⟩:=g2 j c hj;exact⟨g3,u,g4,mono g5⟩
    .cases hi
  .exact .inr (.inr ⟨m,r,h1,hφ _ _ h2,⟨by simp[h3],h4⟩,by rw[hkeep r (Ue.1 h5).1];exact h5⟩)
def Nn(P:Program)(t:TypeId)(x:AV)(lo hi mx:Option AV)(hp:List (Option Blk)):Option (OpR×Prop):=
 match x,lo,hi,mx,B7 P t with
 | .sl b 0 n,none,some (.int _ u),none,some (none,z)=>
  match nth hp b with
  | some blk=>match Nat.beq blk.z z&&blk.wr with
   | true=>some ({v:=.sl b 0 u.toNat,chg:=[(b,{blk with es:=blk.es.take u.toNat})]},0<=u/\u<=n)
   | false=>none
  | none=>none
 | _,_,_,_,_=>none
theorem S3{α:Type}{l:List (Option α)}{b:Nat}{x:α}(h:nth l b=some x):b<l.length:=by
 rw[DE] at h;rcases Up b l.length with h1 | h1
 .exact h1
 .rw[TU h1] at h;cases h
theorem Q3{o:Oper}{ev:Operand->AV}{hp:List (Option Blk)}{t:TypeId}{x:Operand}{lo hi mx:Option Operand}{R:OpR}{p:Prop}
  (ho:o.op = .slice t x lo hi mx) (hr:Nn P t (ev x) (lo.map ev) (hi.map ev) (mx.map ev) hp=some (R,p)) (hpp:p):Ay P o ev (nth hp) hp.length R/\R.fits (nth hp)/\R.dead=[]:=by
 generalize hx:ev x=u at hr;unfold Nn at hr;split at hr
 case h_2=>cases hr
 rename_i b n k u z h1 h2 h3 h4;split at hr
 case h_2=>cases hr
 rename_i blk hb;split at hr
 case h_2=>cases hr
 rename_i hc;simp only[TC] at hc;cases hr;cases lo with
 | some _=>cases h1
 | none=>
  cases hi with
  | none=>cases h2
  | some y=>
   cases mx with
   | some _=>cases h3
   | none=>have hy:ev y = .int k u:=Option.some.inj h2;have key:=Qo (h:=nth hp) (nb:=hp.length) (l:=0) (u:=u) (m:=n) ho hx h4 hb (TB hc.1) rfl (by simp only[bnd,hy]) rfl (fun h=>by cases h) ⟨Int.le_refl _,hpp.1,hpp.2,Int.le_refl _⟩;simp only[Int.toNat_zero,Tg,Nat.sub_zero] at key;exact⟨key.shorten hb (S3 hb),LS hb hc.2,rfl⟩
def isStr:AV->Bool | .str _=>true | _=>false
def aop(P:Program)(o:Oper)(ev:Operand->AV)(hp:List (Option Blk))(hint:AN):Option (OpR×Prop):=
 match o.op with
 | .move x=>vOp (ev x)
 | .assign x=>vOp (ev x)
 | .pick c x y=>match ev c with
  | .bool t=>vOp (JA t (ev x) (ev y))
  | _=>none
 | .nilCheck x=>match ev x with
  | .ptr b i j=>vOp (.ptr b i j)
  | .iptr cs=>vOp (.iptr cs)
  | _=>none
 | .binOp op t x y _=>aBin P op t (ev x) (ev y)
 | .unOp .not _ x=>match ev x with
  | .bool b=>vOp (.bool (!b))
  | _=>none
 | .unOp .neg _ x=>match ev x with
  | .int k n=>vOp (.int k (k.wrap (0-n)))
  | _=>none
 | .convert s t x=>Mk P s t (ev x) hp
 | .index t x y=>LQ P t (ev x) (ev y)
 | .makeMap _ none=>some ({v:=.map hp.length,new:=[{es:=[],z:=0,mp:=some ([],0)}]},True)
 | .lookup t x y false=>LM P t (ev x) (ev y) hp
 | .mapUpdate t x y q=>L4 P t (ev x) (ev y) (ev q) hp
 | .extract x i=>match ev x with
  | .tup vs=>match vs[i]? with
   | some v=>vOp v
   | none=>none
  | _=>none
 | .fieldAddr t x f=>match ev x,HS P t f with
  | .ptr b i j,some off=>vOp (.ptr b i (j+off))
  | .iptr cs,some off=>vOp (.iptr (cs.drop off))
  | _,_=>none
 | .indexAddr t x y=>aIdx P t (ev x) (ev y) hp hint
 | .load t x=>MX P t (ev x) hp hint
 | .store t x y=>match J9 hint with
  | true=>Gd P t (ev x) (wkr (ev y)) hp hint
  | false=>Gd P t (ev x) (ev y) hp hint
 | .alloc t=>match P.info? t with
  | some i=>match i.zero with
   | some zv=>match (absV zv).known&&Cb (absV zv).cells with
    | true=>some ({v:=.ptr hp.length 0 0,new:=[{es:=[absV zv],z:=(absV zv).cells.length,flat:=BE (absV zv).cells}]},True)
    | false=>none
   | none=>none
  | none=>none
 | .box _ x=>match (ev x).known&&Cb (ev x).cells with
  | true=>some ({v:=.ptr hp.length 0 0,new:=[{es:=[ev x],z:=(ev x).cells.length,flat:=BE (ev x).cells}]},True)
  | false=>none
 | .build t parts=>match LG P t (parts.toList.map fun p=>(p.1,ev p.2)) with
  | some v=>vOp v
  | none=>none
 | .buildSlice t n parts=>match litA P t n (parts.toList.map fun p=>(p.1,ev p.2)) with
  | some (es,z)=>match J9 hint&&Df es&&Nat.beq es.length n with
   | true=>some ({v:=.lst es},True)
   | false=>match wkHn hint with
    | true=>some ({v:=.sl hp.length 0 n,new:=[{es:=es.map wkr,z,flat:=Df es}]},True)
    | false=>some ({v:=.sl hp.length 0 n,new:=[{es,z,flat:=Df es}]},True)
  | none=>none
 | .makeSlice t x y=>match ev x,ev y,EH P t with
  | .int _ l,.int _ c,some (e,z,by_)=>match J9 hint&&BE e.cells with
   | true=>some ({v:=.lst (List.replicate l.toNat e)},0<=l/\l<=c/\(by_:Int) * c<=281474976710656/\c<=9223372036854775807)
   | false=>some ({v:=.sl hp.length 0 l.toNat,new:=[{es:=List.replicate l.toNat e,z,flat:=BE e.cells}]},
    0<=l/\l<=c/\(by_:Int) * c<=281474976710656/\c<=9223372036854775807)
  | _,_,_=>none
 | .slice t x lo hi mx=>match trcH hint with
  | true=>Nn P t (ev x) (lo.map ev) (hi.map ev) (mx.map ev) hp
  | false=>match M6 P t (ev x) lo (hi.map ev) mx with
   | true=>vOp .nils
   | false=>match isStr (ev x) with
    | true=>L0 P t (ev x) (lo.map ev) (hi.map ev) (mx.map ev)
    | false=>K0 P t (ev x) (lo.map ev) (hi.map ev) (mx.map ev) hp
 | .makeFunc fn first caps=>match fn,first.toList with
  | .func f,[]=>vOp (.fn f (caps.toList.map ev))
  | _,_=>none
 | .call c=>match c.callee,c.args.toList,c.argTypes.toList with
  | .value x,xs,_=>Mm P (ev x) (xs.map ev) hp hint
  | .builtin .len,[x],t::_=>match ev x with
   | .map b=>MH P t (.map b) hp
   | v=>aLen P t v
  | .builtin .cap,[x],t::_=>match ev x,unL P t with
   | .nils,true=>vOp (.int .i64 0)
   | _,_=>none
  | .builtin .delete,[x,y],t::_=>K2 P t (ev x) (ev y) hp
  | .builtin .append,[x,y],[t,t']=>match Nat.beq t t' with
   | true=>match J9 hint with
    | true=>match JZ P t (ev x) (ev y) hp with
     | some r=>immR hp.length r
     | none=>none
    | false=>JZ P t (ev x) (ev y) hp
   | false=>match ev x,ev y,EH P t,Lb P t' with
    | .nils,.int .i64 n,some (e,z,by_),true=>some ({v:=.sl hp.length 0 n.toNat,new:=[{es:=List.replicate n.toNat e,z,flat:=BE e.cells}]},0<n/\n<=9223372036854775807/\n.toNat * by_<=140737488355328)
    | _,_,_,_=>none
  | .builtin .min,[x,y],_=>match ev x,ev y with
   | .int k a,.int k' b=>match decide (k=k') with
    | true=>vOp (.int k (if b<a then b else a))
    | false=>none
   | _,_=>none
  | .builtin .max,[x,y],_=>match ev x,ev y with
   | .int k a,.int k' b=>match decide (k=k') with
    | true=>vOp (.int k (if a<b then b else a))
    | false=>none
   | _,_=>none
  | _,_,_=>none
 | _=>none
theorem CQ{α:Type}{a:Array α}{l:List α}(h:a.toList=l):a=l.toArray:=by rw[<-h]
theorem Hz{o:Oper}{ev:Operand->AV}{hp:List (Option Blk)}{hint:AN}{R:OpR}{p:Prop}(hr:aop P o ev hp hint=some (R,p))(hpp:p):
  Ay P o ev (nth hp) hp.length R/\R.fits (nth hp):=by
 have value:∀{v:AV},vOp v=some (R,p)->Ay P o ev (nth hp) hp.length {v}->Ay P o ev (nth hp) hp.length R/\R.fits (nth hp):=by intro v h hk;cases h;exact⟨hk,OpR.fits_value _ _⟩
 have new:∀{v:AV} {blk:Blk},OpR.fits {v,new:=[blk]} (nth hp):=⟨fun b blk hm=>by simp at hm,fun b hm=>by simp at hm⟩;unfold aop at hr;split at hr
 .rename_i x ho;exact value hr (Oo (.inl ho))
 .rename_i x ho;exact value hr (Oo (.inr ho))
 .rename_i c x y ho;split at hr
  .rename_i t hc;exact value hr (ok_pick ho hc)
  .cases hr
 .rename_i x ho;split at hr
  .rename_i b i j hx;have:=Pg (P:=P) (h:=nth hp) (nb:=hp.length) ho (.inl ⟨b,i,j,hx⟩);rw[hx] at this;exact value hr this
  .rename_i cs hx;have:=Pg (P:=P) (h:=nth hp) (nb:=hp.length) ho (.inr ⟨cs,hx⟩);rw[hx] at this;exact value hr this
  .cases hr
 .rename_i op t x y t' ho;obtain⟨h1,h2,_⟩:=Rb ho hr hpp (h:=nth hp) (nb:=hp.length);exact⟨h1,h2⟩
 .rename_i t x ho;split at hr
  .rename_i b hx;exact value hr (ok_not ho hx)
  .cases hr
 .rename_i t x ho;split at hr
  .rename_i k n hx;exact value hr (ok_neg ho hx)
  .cases hr
 .rename_i s t x ho;obtain⟨h1,h2,_⟩:=Rc ho hr hpp (nb:=hp.length);exact⟨h1,h2⟩
 .rename_i t x y ho;obtain⟨h1,h2,_⟩:=Rm ho hr hpp (h:=nth hp) (nb:=hp.length);exact⟨h1,h2⟩
 .rename_i t ho;cases hr;exact⟨Sw ho,new⟩
 .rename_i t x y ho;obtain⟨h1,h2,_⟩:=RY ho hr hpp (nb:=hp.length);exact⟨h1,h2⟩
 .rename_i t x y q ho;obtain⟨h1,h2,_⟩:=RN ho hr hpp (nb:=hp.length);exact⟨h1,h2⟩
 .rename_i x i ho;split at hr
  .rename_i vs hx;split at hr
   .rename_i v hv;exact value hr (RH ho hx hv)
   .cases hr
  .cases hr
 .rename_i t x f ho;split at hr
  .rename_i b i j off hx hf;exact value hr (QU ho hx hf)
  .rename_i cs off hx hf;exact value hr (Ru ho hx hf)
  .cases hr
 .rename_i t x y ho;obtain⟨h1,h2,_⟩:=Sf ho hr hpp (nb:=hp.length);exact⟨h1,h2⟩
 .rename_i t x ho;obtain⟨h1,h2,_⟩:=QX ho hr hpp (nb:=hp.length);exact⟨h1,h2⟩
 .rename_i t x y ho;split at hr
  .rw[<-Rf] at hr;obtain⟨h1,h2,_⟩:=QB (ev:=fun z=>wkr (ev z)) ho hr hpp (nb:=hp.length);exact⟨h1.lessEv,h2⟩
  .obtain⟨h1,h2,_⟩:=QB ho hr hpp (nb:=hp.length);exact⟨h1,h2⟩
 .rename_i t ho;split at hr
  .rename_i i hi;split at hr
   .rename_i zv hz;split at hr
    .rename_i hc;simp only[TC] at hc;cases hr;exact⟨ok_alloc ho hi hz hc.1 hc.2,new⟩
    .cases hr
   .cases hr
  .cases hr
 .rename_i t x ho;split at hr
  .rename_i hc;simp only[TC] at hc;cases hr;exact⟨ok_box ho hc.1 hc.2,new⟩
  .cases hr
 .rename_i t parts ho;split at hr
  .rename_i v hv;exact value hr (ok_build ho hv)
  .cases hr
 .rename_i t n parts ho;split at hr
  .rename_i es z hv;split at hr
   .rename_i hc;simp only[TC] at hc;cases hr;refine⟨(ND ho hv).toImm (TB hc.2) rfl fun e he c hcc=>?_,OpR.fits_value _ _⟩;exact TI.1 (TI.1 hc.1.2 e he) c hcc
   .split at hr
    .cases hr;exact⟨(ND ho hv).wkNew (Kc es),new⟩
    .cases hr;exact⟨ND ho hv,new⟩
  .cases hr
 .rename_i t x y ho;split at hr
  .rename_i kl l kc c e z by_ hx hy ht;split at hr
   .rename_i hc;simp only[TC] at hc;cases hr;refine⟨(OI ho hx hy ht hpp.1 hpp.2.1 hpp.2.2.1 hpp.2.2.2).toImm (by simp) rfl fun e' he c hcc=>?_,OpR.fits_value _ _⟩;rw[(List.mem_replicate.1 he).2] at hcc;exact TI.1 hc.2 c hcc
   .cases hr;exact⟨OI ho hx hy ht hpp.1 hpp.2.1 hpp.2.2.1 hpp.2.2.2,new⟩
  .cases hr
 .rename_i t x lo hi mx ho;split at hr
  .obtain⟨h1,h2,_⟩:=Q3 ho hr hpp;exact⟨h1,h2⟩
  split at hr
  .rename_i hn;obtain⟨ky,z,g1,rfl,g3,rfl,g5⟩:=SL hn;cases hi with
   | none=>simp at g3
   | some y=>simp only[Option.map_some,Ta] at g3;exact value hr (Rj ho g1 g5 g3)
  .split at hr
   .obtain⟨h1,h2,_⟩:=Ro ho hr hpp (h:=nth hp) (nb:=hp.length);exact⟨h1,h2⟩
   .obtain⟨h1,h2,_⟩:=Rl ho hr hpp (nb:=hp.length);exact⟨h1,h2⟩
 .rename_i fn first caps ho;split at hr
  .rename_i f hfn hf;have:=CQ hf;subst this;exact value hr (QS ho)
  .cases hr
 .rename_i c ho;obtain⟨callee,args,argTypes⟩:=c;simp only at hr;split at hr
  .rename_i x xs ts _;obtain⟨h1,h2,_⟩:=Q9 ho hr hpp;exact⟨h1,h2⟩
  .rename_i x t ts ha ht;have:=CQ ha;subst this;split at hr
   .rename_i b hx;rw[<-hx] at hr;obtain⟨h1,h2,_⟩:=Sp (nb:=hp.length) (t:=t) ho (by rw[CQ ht];simp) hr;exact⟨h1,h2⟩
   .obtain⟨h1,h2,_⟩:=Rk (h:=nth hp) (nb:=hp.length) (t:=t) ho (by rw[CQ ht];simp) hr;exact⟨h1,h2⟩
  .rename_i x t ts ha ht;have:=CQ ha;subst this;split at hr
   .rename_i hx hu;unfold unL at hu;split at hu
    .rename_i e he;exact value hr (Rx ho (by rw[CQ ht];simp) he hx)
    .cases hu
   .cases hr
  .rename_i x y t ts ha ht;have:=CQ ha;subst this;obtain⟨h1,h2,_⟩:=RJ (nb:=hp.length) (t:=t) ho (by rw[CQ ht];simp) hr hpp;exact⟨h1,h2⟩
  .rename_i x y t t' ha ht;split at hr
   .rename_i hb;have hb:=TB hb;subst hb;have:=CQ ha;subst this;have:=CQ ht;subst this;split at hr
    .split at hr
     .rename_i r hq;exact SC hr hpp fun h2=>(Px ho (R:=r.1) (p:=r.2) hq h2).1
     .cases hr
    .exact Px ho hr hpp
   .split at hr
    .rename_i n e z by_ hx hy hz hi;have:=CQ ha;subst this;have:=CQ ht;subst this;cases hr;exact⟨SG ho hz (RW hi) hx hy hpp.1 hpp.2.1 hpp.2.2,new⟩
    .cases hr
  .rename_i x y ts ha;have:=CQ ha;subst this;split at hr
   .rename_i k a k' b hx hy;split at hr
    .rename_i hk;have hk:=of_decide_eq_true hk;subst hk;exact value hr (PW ho hx hy (.inl ⟨rfl,rfl⟩))
    .cases hr
   .cases hr
  .rename_i x y ts ha;have:=CQ ha;subst this;split at hr
   .rename_i k a k' b hx hy;split at hr
    .rename_i hk;have hk:=of_decide_eq_true hk;subst hk;exact value hr (PW ho hx hy (.inr ⟨rfl,rfl⟩))
    .cases hr
   .cases hr
  .cases hr
 .cases hr
structure JR(A0:Nat->Prop)(n0 m n:Nat)(φ:Phi)(fr:Nat->AV)(h:Hp)(a:Act)(w:World):Prop where
 defs:a.defers=[]
 size:a.tmps.size=n
 slot:∀s,VR φ (Ok A0 n0 φ h w) w (fr s) (a.tmps.getD s undef)
 heap:HR φ (Ok A0 n0 φ h w) w h
 base:n0<=w.heap.size
 own:∀b r z,m<=b->φ b=some (r,z)->n0<=r
def HZ:Nat->AV->List Nat
 | 0,_=>[]
 | d+1,v=>match v with
  | .ptr b _ _=>[b]
  | .sl b _ _=>[b]
  | .agg cs=>(cs.map (HZ d)).flatten
  | .tup cs=>(cs.map (HZ d)).flatten
  | .fn _ cs=>(cs.map (HZ d)).flatten
  | _=>[]
def Bk(nb:Nat):Nat->AV->Bool
 | 0,_=>false
 | d+1,v=>match v with
  | .ptr b _ _=>Nat.blt b nb
  | .sl b _ _=>Nat.blt b nb
  | .map b=>Nat.blt b nb
  | .agg cs=>cs.all (Bk nb d)
  | .tup cs=>cs.all (Bk nb d)
  | .fn _ cs=>cs.all (Bk nb d)
  | _=>true
def GY(nb:Nat)(blk:Blk):Bool:=match blk.flat with
 | true=>true
 | false=>blk.es.all fun e=>e.cells.all (Bk nb 3)
def Cn(nb:Nat)(φ:Phi):Phi:=fun b=>if b<nb then φ b else none
theorem VR.cut{φ:Phi}{A:Nat->Prop}{w:World}{nb:Nat}:∀(d:Nat) (c:AV) (v:Value),VR φ A w c v->Bk nb d c=true->VR (Cn nb φ) A w c v:=by
 intro d;induction d with
 | zero=>intro c v _ h;simp[Bk] at h
 | succ d ih=>
  intro c v h hb
  have kids:∀(cs:List AV) (vs:List Value),cs.all (Bk nb d)=true->(∀(i:Nat) c u,cs[i]?=some c->vs[i]?=some u->VR φ A w c u)->
    ∀(i:Nat) c u,cs[i]?=some c->vs[i]?=some u->VR (Cn nb φ) A w c u:=by
   intro cs vs hall hh i c u hc hu;exact ih c u (hh i c u hc hu) (TI.1 hall _ (Ty hc))
  cases h with
  | imm a v h=>exact .imm _ _ h
  | ptr b i j r z hφ=>simp only[Bk,Nat.blt,Nat.ble_eq] at hb;exact .ptr b i j r z (by simp only[Cn];rw[Ts (by omega)];exact hφ)
  | sl b i n r z cap hφ hn hr=>simp only[Bk,Nat.blt,Nat.ble_eq] at hb;exact .sl b i n r z cap (by simp only[Cn];rw[Ts (by omega)];exact hφ) hn hr
  | slnil b i a=>exact .slnil b i a
  | map b r z hφ=>simp only[Bk,Nat.blt,Nat.ble_eq] at hb;exact .map b r z (by simp only[Cn];rw[Ts (by omega)];exact hφ)
  | agg cs vs hl hh=>exact .agg _ _ hl (kids cs vs hb hh)
  | tup cs vs hl hh=>exact .tup _ _ hl (kids cs vs hb hh)
  | fn f cs vs hl hh=>exact .fn f _ _ hl (kids cs vs hb hh)
theorem Eu{nb:Nat}{φ:Phi}{b:Nat}{x:Nat×Nat}(h:Cn nb φ b=some x):b<nb/\φ b=some x:=by
 unfold Cn at h;split at h
 .exact⟨by assumption,h⟩
 .cases h
def BK(nb:Nat)(R:OpR)(b:Nat):Option (Option Blk):=
 if b<nb then (match Cp R.chg b with
  | some blk=>some (some blk)
  | none=>match Bp R.dead b with | true=>some none | false=>none) else if b<nb+R.new.length then some R.new[b-nb]? else none
def Cg(nb:Nat)(R:OpR)(h:Hp):Hp:=fun b=>(BK nb R b).getD (h b)
def G1(dst:Option Nat)(v:AV)(fr:Nat->AV):Nat->AV:=fun s=>if dst=some s then v else fr s
theorem JR.step{A0:Nat->Prop}{n0 m n nb:Nat}{φ:Phi}{fr:Nat->AV}{h h0:Hp}{a:Act}{w:World}(hr:JR A0 n0 m n φ fr h a w){dst:Option Nat}{R:OpR}{v':Value}{w':World}{φ0:Phi}
  (hm:m<=nb) (hmd:∀b,b∈R.dead->m<=b) (hd:∀d,dst=some d->d<n) (hf:R.fits h0)
  (hsub:∀b blk,h0 b=some blk->b<nb/\h b=some blk) (hnew:∀b,nb<=b->b<nb+R.new.length->φ b=none)
  (he:Eff (Cn nb φ) (Ok A0 n0 φ h w) w h0 nb R v' w' φ0):
  ∃φ',JR A0 n0 m n φ' (G1 dst R.v fr) (Cg nb R h) (a.put dst v') w'/\Tr m φ h w φ' (Cg nb R h) w'/\(∀b,φ' b≠none->φ b≠none\/(nb<=b/\b<nb+R.new.length)):=by
 let φ':Phi:=fun b=>if nb<=b/\b<nb+R.new.length then φ0 b else φ b
 have hin:∀b,nb<=b->b<nb+R.new.length->φ' b=φ0 b:=fun b h1 h2=>Ts ⟨h1,h2⟩
 have hoff:∀b,¬(nb<=b/\b<nb+R.new.length)->φ' b=φ b:=fun b h1=>Tt h1
 have hφ0:∀b x,φ0 b=some x->φ' b=some x:=by
  intro b x hb
  rcases Up b nb with h1 | h1
  .rw[he.old b h1] at hb
   rw[hoff b (by omega)]
   exact(Eu hb).2
  .rcases Up b (nb+R.new.length) with h2 | h2
   .rw[hin b h1 h2];exact hb
   .rw[he.out b h2] at hb;cases hb
 have hφ:∀b x,φ b=some x->φ' b=some x:=fun b x hb=>by
  by_cases h1:nb<=b/\b<nb+R.new.length
  .rw[hnew b h1.1 h1.2] at hb;cases hb
  .rw[hoff b h1];exact hb
 have hlive:∀b blk r z,h b=some blk->φ b=some (r,z)->r<w.heap.size:=by
  intro b blk r z hb hbr
  rcases hr.heap.blk b blk hb with ⟨_,h0,_⟩ | ⟨r',cs,T,h1,h2,_⟩ | ⟨_,r',_,h1,_,h2⟩
  .rw[hbr] at h0;cases h0
  .rw[hbr] at h1;simp at h1;rw[h1.1];exact(Ue.1 h2).1
  .rw[hbr] at h1;simp at h1;rw[h1.1];exact(Ue.1 h2).1
 have hnone:∀b blk,h b=some blk->φ b=none->blk.es=[]:=by
  intro b blk hb hbr
  rcases hr.heap.blk b blk hb with ⟨h1,_⟩ | ⟨r',cs,T,h1,h2,_⟩ | ⟨_,_,_,_,⟨h1,_⟩,_⟩
  .exact h1
  .rw[hbr] at h1;cases h1
  .exact h1
 -- what acts on b
 have Bb:∀b blk,Cg nb R h b=some blk->(b<nb/\(b,blk)∈R.chg)\/(BK nb R b=none/\h b=some blk)\/∃k,b=nb+k/\R.new[k]?=some blk:=by
  intro b blk hb
  unfold Cg at hb
  cases ha:BK nb R b with
  | none=>rw[ha] at hb;exact .inr (.inl ⟨rfl,hb⟩)
  | some ob=>
   rw[ha] at hb
   simp only[Option.getD_some] at hb
   subst hb
   unfold BK at ha
   split at ha
   .rename_i hlt
    split at ha
    .rename_i blk' hc;cases ha;exact .inl ⟨hlt,JM hc⟩
    .split at ha<;>cases ha
   .split at ha
    .rename_i h1 h2;simp at ha;exact .inr (.inr ⟨b-nb,by omega,ha⟩)
    .cases ha
 have hnact:∀b,BK nb R b=none->b<nb->Cp R.chg b=none/\b∉R.dead:=by
  intro b ha hb
  unfold BK at ha
  rw[Ts hb] at ha
  split at ha
  .cases ha
  .rename_i hc
   split at ha
   .cases ha
   .rename_i hd0;exact⟨hc,fun hm=>by rw[Eg.2 hm] at hd0;cases hd0⟩
 have hnact2:∀b,BK nb R b=none->¬(nb<=b/\b<nb+R.new.length):=by
  intro b ha hb
  unfold BK at ha
  rw[Tt (by omega),Ts hb.2] at ha
  cases ha
 have hdirtyb:∀b,R.dirty b->∃blk0,h0 b=some blk0/\blk0.wr=true:=by
  intro b hb
  rcases hb with hb | ⟨blk,hb⟩
  .exact(hf.2 b hb).1
  .exact hf.1 b blk hb
 have hmut:∀r,Mut φ' (Cg nb R h) r->Mut φ h r\/(w.heap.size<=r/\New φ0 nb r):=by
  rintro r ⟨b,blk,z,hb,hw,hbr⟩
  rcases Bb b blk hb with ⟨hlt,hc⟩ | ⟨ha,hb⟩ | ⟨k,rfl,hk⟩
  .rw[hoff b (by omega)] at hbr
   obtain⟨blk0,g0,g1⟩:=hf.1 b blk hc
   exact .inl ⟨b,blk0,z,(hsub b blk0 g0).2,g1,hbr⟩
  .rw[hoff b (hnact2 b ha)] at hbr
   exact .inl ⟨b,blk,z,hb,hw,hbr⟩
  .have hlt:k<R.new.length:=(Tw.1 hk).1
   rw[hin _ (by omega) (by omega)] at hbr
   rcases he.fresh _ r z (by omega) hbr with ⟨h1,_⟩ | ⟨b0,z0,blk0,h1,h2,h3,h4⟩
   .exact .inr ⟨h1,nb+k,z,by omega,hbr⟩
   .exact .inl ⟨b0,blk0,z0,(hsub b0 blk0 h2).2,h3,(Eu h4).2⟩
 have hdirty:∀r,(∃b z,R.dirty b/\Cn nb φ b=some (r,z))->Mut φ h r:=by
  rintro r ⟨b,z,hb,hbr⟩
  obtain⟨blk0,g0,g1⟩:=hdirtyb b hb
  exact⟨b,blk0,z,(hsub b blk0 g0).2,g1,(Eu hbr).2⟩
 have hmutlt:∀r,Mut φ h r->r<w.heap.size:=fun r ⟨b,blk,z,hb,_,hbr⟩=>hlive b blk r z hb hbr
 have hG:∀r,BH (Ok A0 n0 φ h w) φ0 nb w w' r->Ok A0 n0 φ' (Cg nb R h) w' r:=by
  rintro r (⟨h1,h2,h3⟩ | ⟨h1,h2,h3⟩)
  .refine⟨h1,Nat.lt_of_lt_of_le h2 he.keep.size,fun hmm=>?_⟩
   rcases hmut r hmm with h | ⟨h,_⟩
   .exact h3 h
   .omega
  .refine⟨.inr (Uc hr.base h1),h2,fun hmm=>?_⟩
   rcases hmut r hmm with h | ⟨_,h⟩
   .have:=hmutlt r h;omega
   .exact h3 h
 have hA:∀r,Ok A0 n0 φ h w r->Ok A0 n0 φ' (Cg nb R h) w' r:=fun r h=>hG r (.inl h)
 have hblk:∀r,Ok A0 n0 φ h w r->w'.heap[r]?=w.heap[r]?:=fun r h=>he.keep.block r h.2.1 fun hd=>h.2.2 (hdirty r hd)
 have hmono:∀{c u},VR φ (Ok A0 n0 φ h w) w c u->VR φ' (Ok A0 n0 φ' (Cg nb R h) w') w' c u:=fun h=>h.mono hφ hA hblk he.keep.row
 have hmono2:∀{c u},VR φ0 (BH (Ok A0 n0 φ h w) φ0 nb w w') w' c u->VR φ' (Ok A0 n0 φ' (Cg nb R h) w') w' c u:=fun h=>
  h.mono hφ0 hG (fun _ _=>rfl) (fun _=>TF _)
 have hbr2:∀{b blk},(φ0 b=none->φ' b=none)->BR φ0 (BH (Ok A0 n0 φ h w) φ0 nb w w') w' b blk->BR φ' (Ok A0 n0 φ' (Cg nb R h) w') w' b blk:=by
  rintro b blk hb0 (⟨h1,h2,h3⟩ | ⟨r,cs,T,h1,h2,h3,h4⟩ | ⟨m,r,h1,h2,h3,h4⟩)
  .exact .inl ⟨h1,hb0 h2,h3⟩
  case inr.inr=>exact .inr (.inr ⟨m,r,h1,hφ0 _ _ h2,h3,h4⟩)
  .refine .inr (.inl ⟨r,cs,T,hφ0 _ _ h1,h2,h3,fun i e hi=>⟨(h4 i e hi).1,fun j c hj=>?_⟩⟩)
   obtain⟨g1,u,g2,g3⟩:=(h4 i e hi).2 j c hj
   exact⟨g1,u,g2,hmono2 g3⟩
 have hold:∀b,(Cg nb R h b).isSome=true->¬(nb<=b/\b<nb+R.new.length)->(h b).isSome=true/\(b∈R.dead->False):=by
  intro b hs hnr
  obtain⟨blk,hb⟩:=Option.isSome_iff_exists.1 hs
  rcases Bb b blk hb with ⟨_,h⟩ | ⟨h1,h2⟩ | ⟨k,h1,h2⟩
  .obtain⟨blk0,h0,_⟩:=hf.1 b blk h
   refine⟨by simp[(hsub _ _ h0).2],fun hd0=>?_⟩
   exact absurd h (Ja (hf.2 b hd0).2 blk)
  .refine⟨by simp[h2],fun hd0=>?_⟩
   obtain⟨⟨blk0,g0,_⟩,_⟩:=hf.2 b hd0
   exact(hnact b h1 (hsub _ _ g0).1).2 hd0
  .have hlt:k<R.new.length:=(Tw.1 h2).1
   omega
 refine⟨φ',⟨?_,?_,fun s=>?_,⟨fun b blk hb=>?_,fun b blk hb hfl=>?_,fun b b' r z z' hb hb' h1 h2=>?_⟩,Uc hr.base he.keep.size,fun b r z hb hbr=>?_⟩,⟨fun b hb=>hoff b (by omega),?_,fun r h=>(hmut r h).imp id (·.1)⟩,fun b hb=>?_⟩
 .cases ho:dst<;>simpa [Act.put,ho] using hr.defs
 .cases ho:dst<;>simpa [Act.put,ho] using hr.size
 .show VR _ _ _ (G1 dst R.v fr s) _
  unfold G1
  cases ho:dst with
  | none=>have:=hmono (hr.slot s);simpa [Act.put,ho] using this
  | some d=>
   by_cases hds:d=s
   .subst hds
    rw[Ts rfl]
    have:d<a.tmps.size:=by rw[hr.size];exact hd d ho
    have e1:(a.put (some d) v').tmps.getD d undef=v':=by simp[Act.put,this]
    rw[e1]
    exact hmono2 he.val
   .rw[Tt (by simpa using hds)]
    have e1:(a.put (some d) v').tmps.getD s undef=a.tmps.getD s undef:=by simp[Act.put,Tl hds]
    rw[e1]
    exact hmono (hr.slot s)
 .rcases Bb b blk hb with ⟨hlt,h⟩ | ⟨ha,h2⟩ | ⟨k,rfl,hk⟩
  .exact hbr2 (fun h0=>by
    rw[he.old b hlt] at h0
    rw[hoff b (by omega)]
    unfold Cn at h0
    rwa [Ts hlt] at h0) (he.chgd b blk h)
  .have hkp:∀r z,φ b=some (r,z)->w'.heap[r]?=w.heap[r]?:=by
    intro r z g1
    refine he.keep.block r (hlive b blk r _ h2 g1) ?_
    rintro⟨b',z',hdd,hb'⟩
    obtain⟨blk0,q0,_⟩:=hdirtyb b' hdd
    obtain⟨q1,q2⟩:=hsub _ _ q0
    have hbb:=hr.heap.inj b b' r _ _ (by simp[h2]) (by simp[q2]) g1 (Eu hb').2
    subst hbb
    obtain⟨k1,k2⟩:=hnact b ha q1
    rcases hdd with hdd | ⟨blk',hdd⟩
    .exact k2 hdd
    .exact Ja k1 blk' hdd
   rcases hr.heap.blk b blk h2 with ⟨g1,g2,g3⟩ | ⟨r,cs,T,g1,g2,g3,g4⟩ | ⟨m,r,g1,g2,g3,g4⟩
   .exact .inl ⟨g1,by rw[hoff b (hnact2 b ha)];exact g2,g3⟩
   case inr.inr=>exact .inr (.inr ⟨m,r,g1,hφ _ _ g2,g3,by rw[hkp _ _ g2];exact g4⟩)
   .refine .inr (.inl ⟨r,cs,T,hφ _ _ g1,by rw[hkp _ _ g1];exact g2,g3,fun i e he=>⟨(g4 i e he).1,fun j c hj=>?_⟩⟩)
    obtain⟨k1,u,k2,k3⟩:=(g4 i e he).2 j c hj
    exact⟨k1,u,k2,hmono k3⟩
  .have hlt:k<R.new.length:=(Tw.1 hk).1
   exact hbr2 (fun h0=>by rw[hin _ (by omega) (by omega)];exact h0) (he.newb k blk hk)
 .rcases Bb b blk hb with ⟨hlt,h⟩ | ⟨_,h2⟩ | ⟨k,rfl,hk⟩
  .exact he.flc b blk h hfl
  .exact hr.heap.flat b blk h2 hfl
  .exact he.fln blk (Ty hk) hfl
 .have mixed:∀b b' r z z',¬(nb<=b/\b<nb+R.new.length)->(nb<=b'/\b'<nb+R.new.length)->(Cg nb R h b).isSome=true->φ' b=some (r,z)->φ' b'=some (r,z')->False:=by
   intro b b' r z z' hlt hge hs h1 h2
   obtain⟨g1,g2⟩:=hold b hs hlt
   obtain⟨blk,hblk⟩:=Option.isSome_iff_exists.1 g1
   rw[hoff b hlt] at h1
   rw[hin b' hge.1 hge.2] at h2
   rcases he.fresh b' r z' hge.1 h2 with ⟨k1,_⟩ | ⟨b0,z0,blk0,k1,k2,k3,k4⟩
   .have:=hlive b blk r z hblk h1;omega
   .have:=hr.heap.inj b b0 r _ _ g1 (by simp[(hsub _ _ k2).2]) h1 (Eu k4).2
    subst this;exact g2 k1
  by_cases e1:nb<=b/\b<nb+R.new.length
  .by_cases e2:nb<=b'/\b'<nb+R.new.length
   .rw[hin b e1.1 e1.2] at h1;rw[hin b' e2.1 e2.2] at h2
    exact he.inj b b' r z z' e1.1 e2.1 h1 h2
   .exact(mixed b' b r z' z e2 e1 hb' h2 h1).elim
  .by_cases e2:nb<=b'/\b'<nb+R.new.length
   .exact(mixed b b' r z z' e1 e2 hb h1 h2).elim
   .rw[hoff b e1] at h1;rw[hoff b' e2] at h2
    exact hr.heap.inj b b' r z z' (hold b hb e1).1 (hold b' hb' e2).1 h1 h2
 .by_cases e1:nb<=b/\b<nb+R.new.length
  .rw[hin b e1.1 e1.2] at hbr
   rcases he.fresh b r z e1.1 hbr with ⟨h1,_⟩ | ⟨b0,z0,blk0,h1,_,_,h4⟩
   .exact Uc hr.base h1
   .exact hr.own b0 r z0 (hmd b0 h1) (Eu h4).2
  .rw[hoff b e1] at hbr;exact hr.own b r z hb hbr
 .exact he.keep.mono hdirty
 .by_cases e1:nb<=b/\b<nb+R.new.length
  .exact .inr e1
  .rw[hoff b e1] at hb;exact .inl hb
structure HT where
 dec:List (Nat×Bool):=[]
 els:List (Nat×AV):=[]
 calls:Nat->FuncId->List AV->List (Option Blk)->AN:=fun _ _ _ _=>.no
 unroll:Bool:=false
def F3{α:Type}:List (Nat×α)->Nat->Option α
 | [],_=>none
 | (k,v)::r,s=>match Nat.beq k s with | true=>some v | false=>F3 r s
def MJ(H:HT)(s:Nat):AN:=match F3 H.els s with | some e=>.el e | none=>.no
def hintOf(H:HT)(o:Oper)(ev:Operand->AV)(hp:List (Option Blk)):AN:=
 match o.op with
 | .call c=>match c.callee with
  | .value x=>match ev x with
   | .fn f caps=>H.calls (match o.dst with | some d=>d | none=>0) f (c.args.toList.map ev++caps) hp
   | _=>.no
  | .builtin _=>match o.dst with
   | some d=>MJ H d
   | none=>.no
  | .invoke _ _=>H.calls (match o.dst with | some d=>d | none=>0) 0 [] hp
 | .store _ (.tmp s) _=>MJ H s
 | _=>match o.dst with
  | some d=>MJ H d
  | none=>.no
structure Pl where
 run:Bool
 fr:List (Nat×AV)
 hp:List (Option Blk)
 R:OpR
 reads:List Nat
def Dt(T:List Nat):Nat->List (Option Blk)->List (Option Blk)
 | _,[]=>[]
 | i,x::r=>(match Bp T i with | true=>x | false=>none)::Dt T (i+1) r
theorem Me(T:List Nat):∀(i:Nat) (l:List (Option Blk)),(Dt T i l).length=l.length | _,[]=>rfl | i,x::r=>by simp[Dt,Me T (i+1) r]
theorem N3(T:List Nat):∀(l:List (Option Blk)) (i b:Nat) (blk:Blk),nth (Dt T i l) b=some blk->nth l b=some blk:=by
 intro l;induction l with
 | nil=>intro i b blk h;simp[Dt,nth] at h
 | cons x r ih=>
  intro i b blk h;cases b with
  | zero=>
   simp only[Dt,nth] at h ⊢
   split at h
   .exact h
   .cases h
  | succ b=>simp only[Dt,nth] at h ⊢;exact ih _ _ _ h
def refsB(blk:Blk):List Nat:=match blk.flat with
 | true=>[]
 | false=>(blk.es.map fun e=>(e.cells.map (HZ 3)).flatten).flatten
def M4(hp:List (Option Blk)):Nat->List Nat->List Nat
 | 0,T=>T
 | k+1,T=>M4 hp k (T++(T.map fun b=>match nth hp b with | some blk=>refsB blk | none=>[]).flatten)
def Jc(o:Oper):List Nat:=o.op.operands.toList.filterMap fun x=>match x with | .tmp t=>some t | _=>none
def Hr(nb:Nat):Option Blk->Bool | some blk=>GY nb blk | none=>true
def gd(H:HT)(g:Nat)(b:Bool):Bool×Prop:=match F3 H.dec g with
 | some d=>(d,b=d)
 | none=>(b,True)
theorem EJ{H:HT}{g:Nat}{b:Bool}(h:(gd H g b).2):b=(gd H g b).1:=by
 unfold gd at *;split at h
 .rename_i d hd;exact h
 .rfl
def Iz(H:HT)(s:Nat)(v:AV):AV:=match v with
 | .bool b=>.bool (gd H s b).1
 | v=>v
def IJ(H:HT)(s:Nat)(v:AV):Prop:=match v with
 | .bool b=>(gd H s b).2
 | _=>True
theorem refV_eq{H:HT}{s:Nat}{v:AV}(h:IJ H s v):Iz H s v=v:=by
 cases v<;>first | rfl | skip
 rename_i b;simp only[Iz,IJ] at *;rw[<-EJ h]
def touch(o:Oper):Bool:=match o.op with
 | .load _ _=>true
 | .store _ _ _=>true
 | .indexAddr _ _ _=>true
 | .slice _ _ _ _ _=>true
 | .call c=>match c.callee with
  | .builtin .len=>false
  | .builtin .min=>false
  | .builtin .max=>false
  | _=>true
 | _=>false
def roots(o:Oper)(fr:List (Nat×AV)):List Nat:=match touch o with
 | true=>(fr.map fun x=>HZ 3 x.2).flatten
 | false=>[]
def Qk(o:Oper):Nat:=match o.op with
 | .call c=>match c.callee with
  | .builtin _=>0
  | _=>2
 | .load _ _=>0
 | .store _ _ _=>0
 | .indexAddr _ _ _=>0
 | _=>2
def Js(k:Nat)(es:List AV):Prop:=∀e∈es,∀c∈e.cells,Bk k 3 c=true
def FP(H:HT)(nb:Nat):Nat->List (Option Blk)->Bool
 | _,[]=>true
 | i,x::r=>(match F3 H.els (5000+i) with | some (.sl k _ _)=>Nat.ble k nb | _=>Hr nb x)&&FP H nb (i+1) r
def Ev(H:HT)(p:Prop):Nat->List (Option Blk)->Prop
 | _,[]=>p
 | i,x::r=>match F3 H.els (5000+i),x with
  | some (.sl k _ _),some blk=>Js k blk.es/\Ev H p (i+1) r
  | _,_=>Ev H p (i+1) r
theorem Rr{k nb:Nat}(h:k<=nb):∀(d:Nat) (v:AV),Bk k d v=true->Bk nb d v=true:=by
 intro d;induction d with
 | zero=>intro v hv;simp[Bk] at hv
 | succ d ih=>
  intro v hv;have lt:∀b,Nat.blt b k=true->Nat.blt b nb=true:=fun b hb=>Nat.ble_eq_true_of_le (Uc (TV (show Nat.ble (b+1) k=true from hb)) h)
  have al:∀cs:List AV,cs.all (Bk k d)=true->cs.all (Bk nb d)=true:=fun cs hc=>TI.2 fun x hx=>ih x (TI.1 hc x hx)
  cases v<;>simp only[Bk] at hv ⊢ <;> first | exact lt _ hv | exact al _ hv | rfl
theorem SU{H:HT}{nb:Nat}{p:Prop}:∀(l:List (Option Blk)) (i:Nat),Ev H p i l->p/\(FP H nb i l=true->∀x∈l,Hr nb x=true):=by
 intro l;induction l with
 | nil=>intro i h;exact⟨h,fun _ x hx=>by cases hx⟩
 | cons x r ih=>
  intro i h;have plain:Ev H p (i+1) r->p/\((Hr nb x&&FP H nb (i+1) r)=true->∀y∈x::r,Hr nb y=true):=fun h=>by
   obtain⟨h1,h2⟩:=ih (i+1) h;refine⟨h1,fun hb y hy=>?_⟩;simp only[TC] at hb;rcases TZ.1 hy with rfl | hy
   .exact hb.1
   .exact h2 hb.2 y hy
  have none':x=none->Ev H p (i+1) r->∀b0:Bool,p/\((b0&&FP H nb (i+1) r)=true->∀y∈x::r,Hr nb y=true):=fun hx h b0=>by
   obtain⟨h1,h2⟩:=ih (i+1) h;refine⟨h1,fun hb y hy=>?_⟩;simp only[TC] at hb;rcases TZ.1 hy with hy | hy
   .rw[hy,hx];rfl
   .exact h2 hb.2 y hy
  unfold FP;cases ha:F3 H.els (5000+i) with
  | none=>exact plain (by unfold Ev at h;rw[ha] at h;exact h)
  | some e=>
   unfold Ev at h;rw[ha] at h;cases e with
   | sl k a b=>
    cases x with
    | none=>exact none' rfl h _
    | some blk=>
     have h:Js k blk.es/\Ev H p (i+1) r:=h;obtain⟨h1,h2⟩:=ih (i+1) h.2;refine⟨h1,fun hb y hy=>?_⟩;simp only[TC] at hb;rcases TZ.1 hy with hy | hy
     .rw[hy];show GY nb blk=true;unfold GY;split
      .rfl
      .exact TI.2 fun e he=>TI.2 fun c hc=>Rr (TV hb.1) 3 c (h.1 e he c hc)
     .exact h2 hb.2 y hy
   | _=>exact plain h
def GF(P:Program)(H:HT)(dr:Bool)(m:Nat)(o:Oper)(st:St)(rs:List Nat):Option (Pl×Prop):=
 let sl:=Jc o
 let fr:=sl.map fun s=>(s,Iz H s (Ao st.fr s))
 let ev:=St.ev {n:=st.n,fr,hp:=[]}
 let hp:=match dr with | true=>Dt (M4 st.hp (Qk o) (roots o fr)) 0 st.hp | false=>st.hp
 match aop P o ev hp (hintOf H o ev hp) with
 | some (R,p)=>match R.dead.all (Nat.ble m)&&(!dr||(fr.all (fun x=>Bk st.hp.length 4 x.2)&&FP H st.hp.length 0 hp)) with
  | true=>some ({run:=true,fr,hp,R,reads:=rs++sl},match dr with | true=>Ev H ((sl.map fun s=>IJ H s (Ao st.fr s)).foldr And p) 0 hp | false=>(sl.map fun s=>IJ H s (Ao st.fr s)).foldr And p)
  | false=>none
 | none=>none
def Hy(g:Nat)(st:St):Pl:={run:=false,fr:=[],hp:=Dt [] 0 st.hp,R:={v:=.tup []},reads:=[g]}
def dstOk:Option Nat->Nat->Bool | some d,n=>Nat.blt d n | none,_=>true
def LX(P:Program)(H:HT)(dr:Bool)(m:Nat)(ops:Array Oper)(o:Oper)(st:St):Option (Pl×Prop):=
 match dstOk o.dst st.n with
 | false=>none
 | true=>
  match o.guard with
  | none=>GF P H dr m o st []
  | some (k,want)=>
   match (ops[k]?).bind (·.dst) with
   | none=>none
   | some g=>match Ao st.fr g with
    | .bool b=>match (gd H g b).1,want with
     | true,true=>match GF P H dr m o st [g] with
      | some (pl,p)=>some (pl,(gd H g b).2/\p)
      | none=>none
     | false,false=>match GF P H dr m o st [g] with
      | some (pl,p)=>some (pl,(gd H g b).2/\p)
      | none=>none
     | _,_=>some (Hy g st,(gd H g b).2)
    | .tup l=>match l with
     | []=>some (Hy g st,True)
     | _=>none
    | _=>none
structure PlF(P:Program)(dr:Bool)(m:Nat)(ops:Array Oper)(o:Oper)(st:St)(pl:Pl):Prop where
 dst:∀d,o.dst=some d->d<st.n
 len:pl.hp.length=st.hp.length
 hsub:∀b blk,nth pl.hp b=some blk->nth st.hp b=some blk
 whole:dr=false->pl.run=true->pl.hp=st.hp
 dead:∀b,b∈pl.R.dead->m<=b
 fits:pl.R.fits (nth pl.hp)
 below:dr=true->∀b blk,nth pl.hp b=some blk->GY st.hp.length blk=true
 slots:∀s,Ao pl.fr s = .unk\/(s∈pl.reads/\Ao pl.fr s=Ao st.fr s)
 belowS:dr=true->∀s,Bk st.hp.length 4 (Ao pl.fr s)=true
 run:pl.run=true->Ay P o (St.ev {n:=st.n,fr:=pl.fr,hp:=[]}) (nth pl.hp) st.hp.length pl.R/\
  (∀k want,o.guard=some (k,want)->∃g,(ops[k]?).bind (·.dst)=some g/\g∈pl.reads/\Ao st.fr g = .bool want)
 skip:pl.run=false->pl.R={v:=.tup []}/\∃k want g,o.guard=some (k,want)/\(ops[k]?).bind (·.dst)=some g/\g∈pl.reads/\(Ao st.fr g = .bool (!want)\/Ao st.fr g = .tup [])
theorem Sk(f:Nat->AV):∀(l:List Nat) (s:Nat),Ao (l.map fun s=>(s,f s)) s = .unk\/(s∈l/\Ao (l.map fun s=>(s,f s)) s=f s):=by
 intro l;induction l with
 | nil=>intro s;exact .inl rfl
 | cons x r ih=>
  intro s;simp only[Tq,Ao];cases hb:Nat.beq x s with
  | true=>have:=TB hb;subst this;exact .inr ⟨by simp,rfl⟩
  | false=>exact(ih s).imp id fun h=>⟨TN _ h.1,h.2⟩
theorem R3{p:AV->Prop}{l:List (Nat×AV)}(h0:p .unk)(h:∀x∈l,p x.2)(s:Nat):p (Ao l s):=by
 induction l with
 | nil=>exact h0
 | cons x r ih=>
  obtain⟨k,v⟩:=x;simp only[Ao];split
  .exact h (k,v) (by simp)
  .exact ih fun y hy=>h y (TN _ hy)
theorem OS{H:HT}{dr:Bool}{m:Nat}{o:Oper}{st:St}{rs:List Nat}{pl:Pl}{p:Prop}(h:GF P H dr m o st rs=some (pl,p))(hp:p):
  pl.run=true/\(∀g∈rs,g∈pl.reads)/\pl.hp.length=st.hp.length/\(∀b blk,nth pl.hp b=some blk->nth st.hp b=some blk)/\(dr=false->pl.hp=st.hp)/\(∀b,b∈pl.R.dead->m<=b)/\
  pl.R.fits (nth pl.hp)/\(dr=true->∀b blk,nth pl.hp b=some blk->GY st.hp.length blk=true)/\(∀s,Ao pl.fr s = .unk\/(s∈pl.reads/\Ao pl.fr s=Ao st.fr s))/\
  (dr=true->∀s,Bk st.hp.length 4 (Ao pl.fr s)=true)/\Ay P o (St.ev {n:=st.n,fr:=pl.fr,hp:=[]}) (nth pl.hp) st.hp.length pl.R:=by
 unfold GF at h;simp only at h;generalize hhp:(match dr with | true=>Dt (M4 st.hp (Qk o) (roots o ((Jc o).map fun s=>(s,Iz H s (Ao st.fr s))))) 0 st.hp | false=>st.hp)=hp' at h;have hlen:hp'.length=st.hp.length:=by
  rw[<-hhp];cases dr
  .rfl
  .exact Me _ _ _
 have hsub:∀b blk,nth hp' b=some blk->nth st.hp b=some blk:=by
  intro b blk hb;rw[<-hhp] at hb;cases dr
  .exact hb
  .exact N3 _ _ _ _ _ hb
 have hwhole:dr=false->hp'=st.hp:=by rintro rfl;exact hhp.symm
 split at h
 case h_2=>cases h
 rename_i R q hop;split at h
 case h_2=>cases h
 rename_i hc;cases h;simp only[TC,T6,Uf] at hc;obtain⟨hp,hbq⟩:((Jc o).map fun s=>IJ H s (Ao st.fr s)).foldr And q/\(dr=true->FP H st.hp.length 0 hp'=true->∀x∈hp',Hr st.hp.length x=true):=by
  cases dr
  .exact⟨hp,fun h=>by cases h⟩
  .obtain⟨a,b⟩:=SU (nb:=st.hp.length) _ _ hp;exact⟨a,fun _=>b⟩
 obtain⟨hrf,hp⟩:=Ji hp;obtain⟨h1,h2⟩:=Hz hop hp;rw[hlen] at h1;refine⟨rfl,fun g hg=>List.mem_append_left _ hg,hlen,hsub,hwhole,fun b hb=>TV (TI.1 hc.1 b hb),h2,fun hd b blk hb=>?_,fun s=>?_,fun hd s=>?_,h1⟩
 .rcases hc.2 with hc | hc
  .rw[hd] at hc;cases hc
  .have hm:some blk∈hp':=by
    rw[DE] at hb;cases hq:hp'[b]? with
    | none=>simp[hq] at hb
    | some ob=>simp[hq] at hb;subst hb;exact Ty hq
   exact hbq hd hc.2 _ hm
 .exact(Sk (fun s=>Iz H s (Ao st.fr s)) (Jc o) s).imp id fun h=>⟨List.mem_append_right _ h.1,h.2.trans (refV_eq (hrf _ (T1.2 ⟨s,h.1,rfl⟩)))⟩
 .rcases hc.2 with hc | hc
  .rw[hd] at hc;cases hc
  .exact R3 (p:=fun v=>Bk st.hp.length 4 v=true) rfl (fun x hx=>TI.1 hc.1 x hx) s
theorem Qu{dr:Bool}{m:Nat}{ops:Array Oper}{o:Oper}{st:St}{k g:Nat}{want:Bool}(hd:∀d,o.dst=some d->d<st.n)(hg:o.guard=some (k,want))(hk:(ops[k]?).bind (·.dst)=some g)
  (hv:Ao st.fr g = .bool (!want)\/Ao st.fr g = .tup []):PlF P dr m ops o st (Hy g st):=by
 refine⟨hd,Me _ _ _,fun b blk h=>N3 _ _ _ _ _ h,fun _ h=>(by cases h),fun b h=>(by simp[Hy] at h),OpR.fits_value _ _,fun _ b blk h=>?_,fun s=>.inl rfl,fun _ s=>rfl,fun h=>(by cases h),fun _=>⟨rfl,k,want,g,hg,hk,by simp[Hy],hv⟩⟩;exfalso;have:∀(l:List (Option Blk)) (i b:Nat),nth (Dt [] i l) b=none:=by
  intro l;induction l with
  | nil=>intro i b;rfl
  | cons x r ih=>intro i b;cases b with
   | zero=>rfl
   | succ b=>exact ih _ _
 simp only[Hy] at h;rw[this] at h;cases h
theorem OT{H:HT}{dr:Bool}{m:Nat}{ops:Array Oper}{o:Oper}{st:St}{pl:Pl}{p:Prop}(h:LX P H dr m ops o st=some (pl,p))(hp:p):PlF P dr m ops o st pl:=by
 unfold LX at h;split at h
 case h_1=>cases h
 rename_i hdst;have hd:∀d,o.dst=some d->d<st.n:=by intro d hd;rw[hd] at hdst;exact TV (show Nat.ble (d+1) st.n=true from hdst)
 split at h
 .rename_i hg;obtain⟨h1,h2,h3,h4,h5,h6,h7,h8,h9,h10,h11⟩:=OS h hp;exact⟨hd,h3,h4,fun h _=>h5 h,h6,h7,h8,h9,h10,fun _=>⟨h11,fun k want hk=>by rw[hg] at hk;cases hk⟩,fun h=>by rw[h1] at h;cases h⟩
 rename_i k want hg;split at h
 case h_1=>cases h
 rename_i g hk;split at h
 .rename_i b hb;have main:∀p0,(gd H g b).2->(gd H g b).1=want->GF P H dr m o st [g]=some (pl,p0)->p0->PlF P dr m ops o st pl:=by intro p0 hgp hw hr hp0;obtain⟨h1,h2,h3,h4,h5,h6,h7,h8,h9,h10,h11⟩:=OS hr hp0;refine⟨hd,h3,h4,fun h _=>h5 h,h6,h7,h8,h9,h10,fun _=>⟨h11,fun k' want' hk'=>?_⟩,fun h=>by rw[h1] at h;cases h⟩;rw[hg] at hk';cases hk';exact⟨g,hk,h2 g (by simp),by rw[hb,EJ hgp,hw]⟩
  split at h
  .rename_i hw;split at h
   .rename_i pl' p' hr;cases h;exact main _ hp.1 hw hr hp.2
   .cases h
  .rename_i hw;split at h
   .rename_i pl' p' hr;cases h;exact main _ hp.1 hw hr hp.2
   .cases h
  .rename_i n1 n2;cases h;refine Qu hd hg hk (.inl ?_);rw[hb,EJ hp];congr 1;revert n1 n2;cases (gd H g b).1<;>(intro n1 n2;simp at n1 n2;first | (simp[n1];done) | (simp[n2];done))
 .rename_i l hl;split at h
  .cases h;exact Qu hd hg hk (.inr hl)
  .cases h
 .cases h
def E0(P:Program)(H:HT)(dr:Bool)(m:Nat)(ops:Array Oper):List Oper->St->Option (List (Option Nat×Pl)×St×Prop)
 | [],st=>some ([],st,True)
 | o::r,st=>match LX P H dr m ops o st with
  | some (pl,p)=>match E0 P H dr m ops r (st.app o.dst pl.R) with
   | some (pls,st',q)=>some ((o.dst,pl)::pls,st',p/\q)
   | none=>none
  | none=>none
def AZ(st:St)(pls:List (Option Nat×Pl)):Nat->St
 | 0=>st
 | j+1=>match pls[j]? with
  | some x=>(AZ st pls j).app x.1 x.2.R
  | none=>AZ st pls j
theorem O7(st:St)(x:Option Nat×Pl)(pls:List (Option Nat×Pl)):∀j,AZ st (x::pls) (j+1)=AZ (st.app x.1 x.2.R) pls j:=by
 intro j;induction j with
 | zero=>rfl
 | succ j ih=>show(match (x::pls)[j+1]? with | some x=>_ | none=>_)=_;simp only[List.getElem?_cons_succ];rw[ih];rfl
theorem RS{H:HT}{dr:Bool}{m:Nat}{ops:Array Oper}:∀{l:List Oper} {st st':St} {pls:List (Option Nat×Pl)} {p:Prop},E0 P H dr m ops l st=some (pls,st',p)->p->
  pls.length=l.length/\st'=AZ st pls l.length/\∀(j:Nat) o,l[j]?=some o->∃pl,pls[j]?=some (o.dst,pl)/\PlF P dr m ops o (AZ st pls j) pl:=by
 intro l;induction l with
 | nil=>intro st st' pls p h hp;simp only[E0,Ta,Ti] at h;obtain⟨rfl,rfl,_⟩:=h;exact⟨rfl,rfl,fun j o h=>by simp at h⟩
 | cons o r ih=>
  intro st st' pls p h hp;simp only[E0] at h;split at h
  case h_2=>cases h
  rename_i pl p1 h1;split at h
  case h_2=>cases h
  rename_i pls' st1 q h2;cases h;obtain⟨g1,g2,g3⟩:=ih h2 hp.2;refine⟨by simp[g1],by rw[g2,Ua,O7],fun j o' hj=>?_⟩;cases j with
  | zero=>simp at hj;subst hj;exact⟨pl,rfl,OT h1 hp.1⟩
  | succ j=>obtain⟨pl',k1,k2⟩:=g3 j o' (by simpa using hj);exact⟨pl',by simpa using k1,by rw[O7];exact k2⟩
theorem NM{φ:Phi}{A:Nat->Prop}{w:World}{a:Act}{fr:List (Nat×AV)}{n:Nat}{hp:List (Option Blk)}(h:∀s,VR φ A w (Ao fr s) (a.tmps.getD s undef))(x:Operand):
  VR φ A w (St.ev {n,fr,hp} x) (a.eval x):=by
 cases x with
 | tmp t=>exact h t
 | const v=>exact .imm _ _ (RT.absC v)
 | global g=>exact .imm _ _ (.unk _)
 | func f=>exact VR.fn (φ:=φ) (A:=A) (w:=w) f [] [] rfl (fun i c v hc=>by simp at hc)
theorem Jf{φ:Phi}{A:Nat->Prop}{w:World}{a:Act}{ops:Array Oper}{o:Oper}(h:∀k want,o.guard=some (k,want)->∃g,(ops[k]?).bind (·.dst)=some g/\VR φ A w (.bool want) (a.tmps.getD g undef)):
  Region.wanted o (yielded ops a.tmps)=true:=by
 unfold Region.wanted;split
 .rfl
 .rename_i k want hg;obtain⟨g,h1,h2⟩:=h k want hg;have h3:=h2.bool_inv;unfold yielded;rw[h1];simp only[Option.bind_some];cases hq:a.tmps[g]? with
  | none=>simp[hq,undef] at h3
  | some v=>simp[hq] at h3;simp[h3]
theorem Nj{φ:Phi}{A:Nat->Prop}{w:World}{a:Act}{ops:Array Oper}{o:Oper}{k g:Nat}{want:Bool}{v:AV}(hg:o.guard=some (k,want))(h1:(ops[k]?).bind (·.dst)=some g)
  (hv:v = .bool (!want)\/v = .tup []) (h2:VR φ A w v (a.tmps.getD g undef)):Region.wanted o (yielded ops a.tmps)=false:=by
 unfold Region.wanted;rw[hg];unfold yielded;simp only[h1,Option.bind_some];rcases hv with rfl | rfl
 .have h3:=h2.bool_inv;cases hq:a.tmps[g]? with
  | none=>simp
  | some u=>simp[hq] at h3;simp[h3]
 .obtain⟨vs,h3,hl,_⟩:=h2.tup_inv;have hvs:vs=[]:=List.eq_nil_of_length_eq_zero hl;subst hvs;cases hq:a.tmps[g]? with
  | none=>simp
  | some u=>simp[hq] at h3;simp[h3]
theorem Eff.skip{φ:Phi}{A:Nat->Prop}{w:World}{h:Hp}{nb:Nat}(hn:∀b,nb<=b->φ b=none):Eff φ A w h nb {v:=.tup []} undef w φ:=⟨B6.refl _ w,fun _ _=>rfl,fun b hb=>hn b (by simpa using hb),fun b r z hb h=>(by rw[hn b hb] at h;cases h),fun b b' r z z' hb _ h _=>(by rw[hn b hb] at h;cases h),.tup [] [] rfl (fun i c v hc=>by simp at hc),fun b blk hm=>(by simp at hm),fun blk hm=>(by simp at hm),fun b blk hm=>(by simp at hm),fun b blk hm=>(by simp at hm)⟩
theorem RC{H:HT}{m:Nat}{ops:Array Oper}{Q:Exit->Act->World->Prop}{A0:Nat->Prop}{n0:Nat}:∀{l:List Oper} {st st':St} {pls:List (Option Nat×Pl)} {p:Prop},E0 P H false m ops l st=some (pls,st',p)->p->
  ∀{φ:Phi} {a:Act} {w:World},m<=st.hp.length->Rel A0 n0 m φ st a w->
   (∀φ' a' w',m<=st'.hp.length->Rel A0 n0 m φ' st' a' w'->Tr m φ st.h w φ' st'.h w'->Q .normal a' w')->wpList P ops Q l a w:=by
 intro l;induction l with
 | nil=>intro st st' pls p h hp φ a w hm hr k;simp only[E0,Ta,Ti] at h;obtain⟨_,rfl,_⟩:=h;exact k φ a w hm hr (.refl _ _ _ _)
 | cons o r ih=>
  intro st st' pls p h hp φ a w hm hr k;simp only[E0] at h;split at h
  case h_2=>cases h
  rename_i pl p1 h1;split at h
  case h_2=>cases h
  rename_i pls' st1 q h2;cases h;have F:=OT h1 hp.1;have hm':m<=(st.app o.dst pl.R).hp.length:=by simp[St.app,EN,EY];omega
  have hslots:∀s,VR φ (Ok A0 n0 φ st.h w) w (Ao pl.fr s) (a.tmps.getD s undef):=fun s=>by
   rcases F.slots s with h | h
   .rw[h];exact .imm _ _ (.unk _)
   .rw[h.2];exact hr.slot s
  unfold wpList;cases hrun:pl.run with
  | true=>
   obtain⟨hop,hgd⟩:=F.run hrun;rw[Ts (Jf (φ:=φ) (A:=Ok A0 n0 φ st.h w) (w:=w) fun k want hg=>by
    obtain⟨g,g1,_,g2⟩:=hgd k want hg;exact⟨g,g1,by rw[<-g2];exact hr.slot g⟩)]
   left;have hhp:=F.whole rfl hrun;rw[hhp] at hop;refine hop φ (Ok A0 n0 φ st.h w) w a _ _ (fun r hA=>⟨hA.2.1,hA.2.2⟩) (NM hslots) hr.heap hr.out fun v' w' φ' he=>?_
   have hfit:=F.fits;rw[hhp] at hfit;obtain⟨s1,s2⟩:=hr.step hm F.dead F.dst hfit he;exact ih h2 hp.2 hm' s1 fun φ2 a2 w2 g1 g2 g3=>k φ2 a2 w2 g1 g2 (s2.trans g3)
  | false=>
   obtain⟨hR,kk,want,g,hg,hk,_,hv⟩:=F.skip hrun;rw[Tt (by rw[Nj hg hk hv (hr.slot g)];simp)];have he:Eff φ (Ok A0 n0 φ st.h w) w st.h st.hp.length pl.R undef w φ:=by rw[hR];exact Eff.skip hr.out
   obtain⟨s1,s2⟩:=hr.step hm F.dead F.dst (by rw[hR];exact OpR.fits_value _ _) he;exact ih h2 hp.2 hm' s1 fun φ2 a2 w2 g1 g2 g3=>k φ2 a2 w2 g1 g2 (s2.trans g3)
section cur
variable {κ ν:Type} (act:Nat->κ->Option ν) (base:κ->ν)
def cur(S:Nat->Bool):Nat->κ->ν
 | 0,x=>base x
 | n+1,x=>match S n with
  | true=>(act n x).getD (cur S n x)
  | false=>cur S n x
theorem IR{S S':Nat->Bool}(x:κ):∀n,(∀k,k<n->act k x≠none->S k=S' k)->cur act base S n x=cur act base S' n x:=by
 intro n;induction n with
 | zero=>intro _;rfl
 | succ n ih=>
  intro h;have h1:=ih fun k hk=>h k (by omega)
  simp only[cur];cases ha:act n x with
  | none=>rw[h1];cases S n<;>cases S' n<;>rfl
  | some v=>rw[h n (by omega) (by simp[ha]),h1]
theorem Sj(x:κ)(j:Nat):∀n,j<=n->cur act base (fun k=>decide (k<j)) n x=cur act base (fun _=>true) j x:=by
 intro n;induction n with
 | zero=>intro h;have:j=0:=by omega
         subst this;rfl
 | succ n ih=>
  intro h;rcases Up n j with h1 | h1
  .have:j=n+1:=by omega
   subst this;exact IR act base x _ fun k hk _=>by simpa using hk
  .have:decide (n<j)=false:=by simp;omega
   simp only[cur,this];exact ih h1
theorem H7{S:Nat->Bool}{x:κ}{j n:Nat}(hj:j<=n)(h:∀k,k<n->act k x≠none->S k=decide (k<j)):cur act base S n x=cur act base (fun _=>true) j x:=(IR act base x n h).trans (Sj act base x j n hj)
theorem Pn{S:Nat->Bool}{x:κ}{j:Nat}(hSj:S j=false):∀n,j<n->(∀k,j<k->k<n->S k=true->act k x=none\/act j x=none)->
  cur act base (fun k=>if k=j then true else S k) n x=(act j x).getD (cur act base S n x):=by
 intro n;induction n with
 | zero=>intro h;omega
 | succ n ih=>
  intro hj h;rcases Up j n with h1 | h1
  .have h2:=ih h1 fun k a b=>h k a (by omega)
   have hne:¬n=j:=by omega
   simp only[cur,Tt hne];cases hS:S n with
   | false=>exact h2
   | true=>
    rcases h n h1 (by omega) hS with h3 | h3
    .simp only[h3,Option.getD_none];exact h2
    .simp only[h3,Option.getD_none] at h2 ⊢;rw[h2]
  .have:j=n:=by omega
   subst this;simp only[cur,Ts,hSj];rw[IR act base x j (S':=S) fun k hk _=>Tt (by omega)]
end cur
def Db(o:Oper):List Nat:=(o.after.toList.filter (Region.binds .any)).map (·.on)
inductive Pre (ops:Array Oper):Nat->Nat->Prop | direct {j k:Nat} {o:Oper} (h:ops[j]?=some o) (hk:k∈Db o):Pre ops j k | trans {j k i:Nat} (h:Pre ops j k) (g:Pre ops k i):Pre ops j i
structure Ap(x y:Option Nat×Pl):Prop where
 ww:∀d,x.1=some d->y.1≠some d
 wr:∀d,x.1=some d->d∉y.2.reads
 rw_:∀d,y.1=some d->d∉x.2.reads
 hx:∀b blk,nth y.2.hp b=some blk->BK x.2.hp.length x.2.R b=none
 hy:∀b blk,nth x.2.hp b=some blk->BK y.2.hp.length y.2.R b=none
def CV(pls:List (Option Nat×Pl))(k s:Nat):Option AV:=match pls[k]? with
 | some x=>if x.1=some s then some x.2.R.v else none
 | none=>none
def Bb(pls:List (Option Nat×Pl))(k b:Nat):Option (Option Blk):=match pls[k]? with
 | some x=>BK x.2.hp.length x.2.R b
 | none=>none
def seen(listed:Array Bool):Nat->Bool:=fun k=>listed.getD k false
theorem Pb{hp:List (Option Blk)}{R:OpR}{b:Nat}(hf:R.fits (nth hp))(h:BK hp.length R b≠none):(∃blk,nth hp b=some blk)\/(hp.length<=b/\b<hp.length+R.new.length):=by
 unfold BK at h;split at h
 .left;split at h
  .rename_i blk hc;obtain⟨b0,h0,_⟩:=hf.1 b blk (JM hc);exact⟨b0,h0⟩
  .split at h
   .rename_i hd;obtain⟨⟨b0,h0,_⟩,_⟩:=hf.2 b (Eg.1 hd);exact⟨b0,h0⟩
   .exact absurd rfl h
 .split at h
  .exact .inr ⟨by omega,by assumption⟩
  .exact absurd rfl h
theorem RO(st:St)(dst:Option Nat)(R:OpR)(b:Nat):(st.app dst R).h b=Cg st.hp.length R st.h b:=by
 rw[Nl];unfold Cg BK;split
 .cases hc:Cp R.chg b with
  | some blk=>rfl
  | none=>cases hd:Bp R.dead b<;>rfl
 .rename_i hb;split
  .rfl
  .rename_i h2;simp only[Option.getD_none];rw[TU (by omega)];unfold St.h;rw[DE,TU (by omega)];rfl
theorem SI{p q:Nat->Bool}{j:Nat}:∀{l:List Nat},j∈l->p j=true->q j=false->(∀x,q x=true->p x=true)->l.countP q<l.countP p:=by
 intro l;induction l with
 | nil=>intro h;simp at h
 | cons x r ih=>
  intro hj hp hq hqp;have hle:r.countP q<=r.countP p:=List.countP_mono_left fun y _=>hqp y
  rcases TZ.1 hj with rfl | hj
  .simp[hp,hq];omega
  .have:=ih hj hp hq hqp;simp only[List.countP_cons];cases hqx:q x with
   | true=>simp[hqp x hqx];omega
   | false=>simp;omega
structure DR(P:Program)(m:Nat)(ops:Array Oper)(st0:St)(pls:List (Option Nat×Pl)):Prop where
 len:pls.length=ops.size
 pl:∀(j:Nat) o,ops[j]?=some o->∃pl,pls[j]?=some (o.dst,pl)/\PlF P true m ops o (AZ st0 pls j) pl
 dir:∀(j:Nat) o,ops[j]?=some o->∀k,k∈Db o->k<j
 ap:∀(i j:Nat) x y,i<j->pls[i]?=some x->pls[j]?=some y->Pre ops j i\/Ap x y
 base:m<=st0.hp.length
namespace DR
variable {m:Nat} {ops:Array Oper} {st0:St} {pls:List (Option Nat×Pl)}
theorem of_pl(D:DR P m ops st0 pls){j:Nat}{x:Option Nat×Pl}(h:pls[j]?=some x):∃o,ops[j]?=some o/\x.1=o.dst/\PlF P true m ops o (AZ st0 pls j) x.2:=by
 have hj:j<ops.size:=by rw[<-D.len];exact(Tw.1 h).1
 obtain⟨pl,h1,h2⟩:=D.pl j _ (Array.getElem?_eq_getElem hj);rw[h] at h1;cases h1;exact⟨_,Array.getElem?_eq_getElem hj,rfl,h2⟩
theorem text(D:DR P m ops st0 pls):∀j,j<=ops.size->(∀s,Ao (AZ st0 pls j).fr s=cur (CV pls) (Ao st0.fr) (fun _=>true) j s)/\(∀b,(AZ st0 pls j).h b=cur (Bb pls) st0.h (fun _=>true) j b)/\(AZ st0 pls j).n=st0.n:=by
 intro j;induction j with
 | zero=>intro _;exact⟨fun _=>rfl,fun _=>rfl,rfl⟩
 | succ j ih=>
  intro hj;obtain⟨h1,h2,h3⟩:=ih (by omega);have hjl:j<pls.length:=by rw[D.len];omega
  have hp:=Tu hjl;obtain⟨o,ho,hd,F⟩:=D.of_pl hp;have e:AZ st0 pls (j+1)=(AZ st0 pls j).app pls[j].1 pls[j].2.R:=by show(match pls[j]? with | some x=>_ | none=>_)=_;rw[hp]
  rw[e];refine⟨fun s=>?_,fun b=>?_,h3⟩
  .show Ao (put _ _ _) s=_;rw[OW];simp only[cur,CV,hp];split
   .rfl
   .exact h1 s
  .rw[RO];simp only[cur,Bb,hp];unfold Cg;rw[F.len,h2 b]
theorem nums(D:DR P m ops st0 pls){i:Nat}{x:Option Nat×Pl}(hi:pls[i]?=some x):∀j,i<j->j<=ops.size->x.2.hp.length+x.2.R.new.length<=(AZ st0 pls j).hp.length:=by
 intro j;induction j with
 | zero=>intro h;omega
 | succ j ih=>
  intro hij hj;have hjl:j<pls.length:=by rw[D.len];omega
  have hp:=Tu hjl;have e:AZ st0 pls (j+1)=(AZ st0 pls j).app pls[j].1 pls[j].2.R:=by show(match pls[j]? with | some x=>_ | none=>_)=_;rw[hp]
  rw[e];have e2:((AZ st0 pls j).app pls[j].1 pls[j].2.R).hp.length=(AZ st0 pls j).hp.length+pls[j].2.R.new.length:=by simp[St.app,EN,EY]
  rw[e2];rcases Up i j with h | h
  .have:=ih h (by omega);omega
  .have:i=j:=by omega
   subst this;rw[hp] at hi;cases hi;obtain⟨o,ho,hd,F⟩:=D.of_pl hp;rw[F.len];omega
theorem mono(_:DR P m ops st0 pls):∀j,st0.hp.length<=(AZ st0 pls j).hp.length:=by
 intro j;induction j with
 | zero=>exact TF _
 | succ j ih=>
  show _<=(match pls[j]? with | some x=>(AZ st0 pls j).app x.1 x.2.R | none=>AZ st0 pls j).hp.length;split
  .simp[St.app,EN,EY];omega
  .exact ih
end DR
structure Inv(A0:Nat->Prop)(n0 m:Nat)(ops:Array Oper)(st0:St)(pls:List (Option Nat×Pl))(φ0:Phi)(w0:World)(listed:Array Bool)(φ:Phi)(a:Act)(w:World):Prop where
 size:listed.size=ops.size
 closed:∀(j:Nat) o,ops[j]?=some o->seen listed j=true->∀k,k∈Db o->seen listed k=true
 rel:JR A0 n0 m st0.n φ (cur (CV pls) (Ao st0.fr) (seen listed) ops.size) (cur (Bb pls) st0.h (seen listed) ops.size) a w
 tr:Tr m φ0 st0.h w0 φ (cur (Bb pls) st0.h (seen listed) ops.size) w
 dom:∀b,φ b≠none->b<st0.hp.length\/∃k x,seen listed k=true/\pls[k]?=some x/\x.2.hp.length<=b/\b<x.2.hp.length+x.2.R.new.length
theorem Pre.seen{ops:Array Oper}{S:Nat->Bool}(hc:∀(j:Nat) o,ops[j]?=some o->S j=true->∀k,k∈Db o->S k=true){j k:Nat}(h:Pre ops j k):S j=true->S k=true:=by
 induction h with
 | direct h hk=>exact fun hj=>hc _ _ h hj _ hk
 | trans _ _ ih1 ih2=>exact fun hj=>ih2 (ih1 hj)
theorem Pre.ready{ops:Array Oper}{S:Nat->Bool}(hc:∀(j:Nat) o,ops[j]?=some o->S j=true->∀k,k∈Db o->S k=true){j k:Nat}(h:Pre ops j k):
  (∀o,ops[j]?=some o->∀k,k∈Db o->S k=true)->S k=true:=by
 induction h with
 | direct h hk=>exact fun hr=>hr _ h _ hk
 | trans h1 h2 ih1 _=>exact fun hr=>Pre.seen hc h2 (ih1 hr)
theorem Gc{listed:Array Bool}{j:Nat}(hj:j<listed.size):seen (listed.setIfInBounds j true)=fun k=>if k=j then true else seen listed k:=by
 funext k;unfold seen;by_cases h:k=j
 .subst h;simp[hj]
 .rw[Tt h];simp[Tl (Ne.symm h)]
theorem Sl{m:Nat}{ops:Array Oper}{st0:St}{pls:List (Option Nat×Pl)}(D:DR P m ops st0 pls){A0:Nat->Prop}{n0:Nat}{φ0:Phi}{w0:World}{post:Exit->St->Prop}(hpost:post .normal (AZ st0 pls ops.size)):
  ∀(fuel:Nat) (listed:Array Bool) (φ:Phi) (a:Act) (w:World),Inv A0 n0 m ops st0 pls φ0 w0 listed φ a w->(List.range ops.size).countP (fun k=> !seen listed k)<=fuel->
   wpAny P .any ops (RQ A0 n0 m φ0 st0.h w0 post) fuel listed a w:=by
 have fin:∀(listed:Array Bool) (φ:Phi) (a:Act) (w:World),Inv A0 n0 m ops st0 pls φ0 w0 listed φ a w->(∀k,k<ops.size->seen listed k=true)->RQ A0 n0 m φ0 st0.h w0 post .normal a w:=by
  intro listed φ a w I hall
  obtain⟨t1,t2,t3⟩:=D.text ops.size (TF _)
  have e1:cur (CV pls) (Ao st0.fr) (seen listed) ops.size=Ao (AZ st0 pls ops.size).fr:=by
   funext s;rw[t1 s];exact IR _ _ _ _ fun k hk _=>hall k hk
  have e2:cur (Bb pls) st0.h (seen listed) ops.size=(AZ st0 pls ops.size).h:=by
   funext s;rw[t2 s];exact IR _ _ _ _ fun k hk _=>hall k hk
  have hr:=I.rel
  have ht:=I.tr
  rw[e1,e2] at hr
  rw[e2] at ht
  refine⟨φ,_,hpost,⟨hr.defs,by rw[t3];exact hr.size,hr.slot,hr.heap,fun b hb=>?_,hr.base,hr.own⟩,Uc D.base (D.mono _),ht⟩
  cases hq:φ b with
  | none=>rfl
  | some v=>
   rcases I.dom b (by simp[hq]) with h | ⟨k,x,_,h2,h3,h4⟩
   .have:=D.mono ops.size;omega
   .have hk:k<ops.size:=by rw[<-D.len];exact(Tw.1 h2).1
    have:=D.nums h2 ops.size hk (TF _);omega
 have done:∀(listed:Array Bool) (φ:Phi) (a:Act) (w:World),Inv A0 n0 m ops st0 pls φ0 w0 listed φ a w->Region.ready .any ops listed=[]->RQ A0 n0 m φ0 st0.h w0 post .normal a w:=by
  intro listed φ a w I hr
  refine fin listed φ a w I fun k=>?_
  induction k using Nat.strongRecOn with
  | _ k ih=>
   intro hk
   cases hs:seen listed k with
   | true=>rfl
   | false=>
    exfalso
    have hmem:k∈Region.ready .any ops listed:=by
     rw[mem_ready]
     refine⟨?_,_,Array.getElem?_eq_getElem hk,fun e he hb=>?_⟩
     .unfold seen at hs
      have:k<listed.size:=by rw[I.size];exact hk
      simpa [this] using hs
     .have hmp:e.on∈Db ops[k]:=T1.2 ⟨e,List.mem_filter.2 ⟨by simpa using he,hb⟩,rfl⟩
      have hlt:=D.dir k _ (Array.getElem?_eq_getElem hk) _ hmp
      exact ih e.on hlt (by omega)
    rw[hr] at hmem;cases hmem
 intro fuel
 induction fuel with
 | zero=>
  intro listed φ a w I hf
  have hall:∀k,k<ops.size->seen listed k=true:=by
   intro k hk
   have h0:(List.range ops.size).countP (fun k=> !seen listed k)=0:=by omega
   have:=List.countP_eq_zero.1 h0 k (by simpa using hk)
   simpa using this
  refine⟨?_,fin listed φ a w I hall⟩
  cases hr:Region.ready .any ops listed with
  | nil=>rfl
  | cons j r=>
   exfalso
   have hj:j∈Region.ready .any ops listed:=by rw[hr];simp
   obtain⟨h0,o,ho,_⟩:=mem_ready.1 hj
   have hlt:j<ops.size:=(Ue.1 ho).1
   have h1:=hall j hlt
   unfold seen at h1
   have:j<listed.size:=by rw[I.size];exact hlt
   simp[this] at h0 h1
   rw[h0] at h1;cases h1
 | succ fuel ih=>
  intro listed φ a w I hf
  refine⟨done listed φ a w I,fun j hj=>?_⟩
  obtain⟨h0,o,ho,hall⟩:=mem_ready.1 hj
  have hlt:j<ops.size:=(Ue.1 ho).1
  have hltl:j<listed.size:=by rw[I.size];exact hlt
  have hSj:seen listed j=false:=by unfold seen;simpa [hltl] using h0
  have hpre:∀k,k∈Db o->seen listed k=true:=by
   intro k hk
   obtain⟨e,he,rfl⟩:=T1.1 hk
   obtain⟨he1,he2⟩:=List.mem_filter.1 he
   exact hall e (by simpa using he1) he2
  have hpre2:∀k,Pre ops j k->seen listed k=true:=fun k h=>Pre.ready I.closed h fun o' ho'=>by rw[ho] at ho';cases ho';exact hpre
  have hpost2:∀k,seen listed k=true->¬Pre ops k j:=fun k hk h=>by
   have:=Pre.seen I.closed h hk;rw[hSj] at this;cases this
  obtain⟨pl,hpl,F⟩:=D.pl j o ho
  obtain⟨t1,t2,t3⟩:=D.text j (by omega)
  -- what it reads is as in the text
  have readS:∀s,s∈pl.reads->cur (CV pls) (Ao st0.fr) (seen listed) ops.size s=Ao (AZ st0 pls j).fr s:=by
   intro s hs
   rw[t1 s]
   refine H7 _ _ (by omega) fun k hk hne=>?_
   have hkl:k<pls.length:=by rw[D.len];exact hk
   have hx:=Tu hkl
   have hd:pls[k].1=some s:=by
    unfold CV at hne
    rw[hx] at hne
    simp only at hne
    split at hne
    .assumption
    .exact absurd rfl hne
   rcases Nat.lt_trichotomy k j with h | h | h
   .rw[TA h]
    rcases D.ap k j _ _ h hx hpl with hp | hp
    .exact hpre2 k hp
    .exact absurd hs (hp.wr s hd)
   .subst h;rw[hSj];simp
   .rw[Tz (by omega)]
    cases hsk:seen listed k with
    | false=>rfl
    | true=>
     rcases D.ap j k _ _ h hpl hx with hp | hp
     .exact absurd hp (hpost2 k hsk)
     .exact absurd hs (hp.rw_ s hd)
  have readH:∀b blk,nth pl.hp b=some blk->cur (Bb pls) st0.h (seen listed) ops.size b=(AZ st0 pls j).h b:=by
   intro b blk hb
   rw[t2 b]
   refine H7 _ _ (by omega) fun k hk hne=>?_
   have hkl:k<pls.length:=by rw[D.len];exact hk
   have hx:=Tu hkl
   have hd:BK pls[k].2.hp.length pls[k].2.R b≠none:=by unfold Bb at hne;rw[hx] at hne;exact hne
   rcases Nat.lt_trichotomy k j with h | h | h
   .rw[TA h]
    rcases D.ap k j _ _ h hx hpl with hp | hp
    .exact hpre2 k hp
    .exact absurd (hp.hx b blk hb) hd
   .subst h;rw[hSj];simp
   .rw[Tz (by omega)]
    cases hsk:seen listed k with
    | false=>rfl
    | true=>
     rcases D.ap j k _ _ h hpl hx with hp | hp
     .exact absurd hp (hpost2 k hsk)
     .exact absurd (hp.hy b blk hb) hd
  -- what it writes stands
  have writeS:∀s,cur (CV pls) (Ao st0.fr) (seen (listed.setIfInBounds j true)) ops.size s=G1 o.dst pl.R.v (cur (CV pls) (Ao st0.fr) (seen listed) ops.size) s:=by
   intro s
   rw[Gc hltl,Pn _ _ hSj _ hlt]
   .unfold CV G1
    rw[hpl]
    simp only
    split<;>rfl
   .intro k hjk hk hsk
    have hkl:k<pls.length:=by rw[D.len];exact hk
    have hx:=Tu hkl
    rcases D.ap j k _ _ hjk hpl hx with hp | hp
    .exact absurd hp (hpost2 k hsk)
    .unfold CV
     rw[hpl,hx]
     simp only
     by_cases hd:o.dst=some s
     .left;rw[Tt (hp.ww s hd)]
     .right;rw[Tt hd]
  have writeH:∀b,cur (Bb pls) st0.h (seen (listed.setIfInBounds j true)) ops.size b=Cg (AZ st0 pls j).hp.length pl.R (cur (Bb pls) st0.h (seen listed) ops.size) b:=by
   intro b
   rw[Gc hltl,Pn _ _ hSj _ hlt]
   .unfold Cg
    have:Bb pls j b=BK (AZ st0 pls j).hp.length pl.R b:=by unfold Bb;rw[hpl];simp only;rw[F.len]
    rw[this]
   .intro k hjk hk hsk
    have hkl:k<pls.length:=by rw[D.len];exact hk
    have hx:=Tu hkl
    rcases D.ap j k _ _ hjk hpl hx with hp | hp
    .exact absurd hp (hpost2 k hsk)
    .have e1:Bb pls j b=BK pl.hp.length pl.R b:=by unfold Bb;rw[hpl]
     have e2:Bb pls k b=BK pls[k].2.hp.length pls[k].2.R b:=by unfold Bb;rw[hx]
     rw[e1,e2]
     by_cases ha:BK pl.hp.length pl.R b=none
     .exact .inr ha
     .left
      rcases Pb F.fits ha with ⟨blk,hb⟩ | hb
      .exact hp.hy b blk hb
      .cases hk2:BK pls[k].2.hp.length pls[k].2.R b with
       | none=>rfl
       | some v=>
        exfalso
        obtain⟨ok,hok,_,Fk⟩:=D.of_pl hx
        rcases Pb (b:=b) Fk.fits (by simp[hk2]) with ⟨blk,hb2⟩ | hb2
        .exact ha (hp.hx b blk hb2)
        .have:=D.nums hpl k hjk (by omega)
         have e3:=Fk.len
         simp only at this
         omega
  have hsub:∀b blk,nth pl.hp b=some blk->b<(AZ st0 pls j).hp.length/\cur (Bb pls) st0.h (seen listed) ops.size b=some blk:=by
   intro b blk hb
   refine⟨?_,by rw[readH b blk hb];exact F.hsub b blk hb⟩
   rcases Up b (AZ st0 pls j).hp.length with h | h
   .exact h
   .have:=F.hsub b blk hb
    rw[DE,TU h] at this;cases this
  have hnew:∀b,(AZ st0 pls j).hp.length<=b->b<(AZ st0 pls j).hp.length+pl.R.new.length->φ b=none:=by
   intro b h1 h2
   cases hq:φ b with
   | none=>rfl
   | some v=>
    exfalso
    rcases I.dom b (by simp[hq]) with h | ⟨k,x,g1,g2,g3,g4⟩
    .have:=D.mono j;omega
    .have hk:k<ops.size:=by rw[<-D.len];exact(Tw.1 g2).1
     obtain⟨ok,hok,_,Fk⟩:=D.of_pl g2
     rcases Nat.lt_trichotomy k j with h | h | h
     .have:=D.nums g2 j h (by omega);omega
     .subst h;rw[hSj] at g1;cases g1
     .have:=D.nums hpl k h (by omega)
      have e3:=Fk.len
      have e4:=F.len
      simp only at this
      omega
  have hslots:∀s,VR (Cn (AZ st0 pls j).hp.length φ) (Ok A0 n0 φ (cur (Bb pls) st0.h (seen listed) ops.size) w) w (Ao pl.fr s) (a.tmps.getD s undef):=by
   intro s
   refine VR.cut 4 _ _ ?_ (F.belowS rfl s)
   rcases F.slots s with h | ⟨h1,h2⟩
   .rw[h];exact .imm _ _ (.unk _)
   .rw[h2,<-readS s h1];exact I.rel.slot s
  have hheap:HR (Cn (AZ st0 pls j).hp.length φ) (Ok A0 n0 φ (cur (Bb pls) st0.h (seen listed) ops.size) w) w (nth pl.hp):=by
   refine⟨fun b blk hb=>?_,fun b blk hb=>I.rel.heap.flat b blk (hsub b blk hb).2,fun b b' r z z' hb hb' h1 h2=>?_⟩
   .obtain⟨k1,k2⟩:=hsub b blk hb
    have hcut:Cn (AZ st0 pls j).hp.length φ b=φ b:=Ts k1
    rcases I.rel.heap.blk b blk k2 with ⟨g1,g2,g3⟩ | ⟨r,cs,T,g1,g2,g3,g4⟩ | ⟨m,r,g1,g2,g3,g4⟩
    .exact .inl ⟨g1,by rw[hcut];exact g2,g3⟩
    case inr.inr=>exact .inr (.inr ⟨m,r,g1,by rw[hcut];exact g2,g3,g4⟩)
    .refine .inr (.inl ⟨r,cs,T,by rw[hcut];exact g1,g2,g3,fun i e hi=>⟨(g4 i e hi).1,fun q c hq=>?_⟩⟩)
     obtain⟨f1,u,f2,f3⟩:=(g4 i e hi).2 q c hq
     refine⟨f1,u,f2,?_⟩
     have hbl:=F.below rfl b blk hb
     unfold GY at hbl
     split at hbl
     .rename_i hfl
      exact .imm _ _ (f3.noref_rt (I.rel.heap.flat b blk k2 hfl e (Ty hi) c (Ty hq)))
     .exact VR.cut 3 _ _ f3 (TI.1 (TI.1 hbl e (Ty hi)) c (Ty hq))
   .obtain⟨c1,e1⟩:=Option.isSome_iff_exists.1 hb
    obtain⟨c2,e2⟩:=Option.isSome_iff_exists.1 hb'
    exact I.rel.heap.inj b b' r z z' (by simp[(hsub _ _ e1).2]) (by simp[(hsub _ _ e2).2]) (Eu h1).2 (Eu h2).2
  -- behind the step
  have behind:∀(v':Value) (w':World) (φ1:Phi),Eff (Cn (AZ st0 pls j).hp.length φ) (Ok A0 n0 φ (cur (Bb pls) st0.h (seen listed) ops.size) w) w (nth pl.hp) (AZ st0 pls j).hp.length pl.R v' w' φ1->
    wpAny P .any ops (RQ A0 n0 m φ0 st0.h w0 post) fuel (listed.setIfInBounds j true) (a.put o.dst v') w':=by
   intro v' w' φ1 he
   obtain⟨φ',s1,s2,s3⟩:=I.rel.step (Uc D.base (D.mono j)) F.dead (fun d hd=>by have:=F.dst d hd;rw[t3] at this;exact this) F.fits hsub hnew he
   have eS:cur (CV pls) (Ao st0.fr) (seen (listed.setIfInBounds j true)) ops.size=G1 o.dst pl.R.v (cur (CV pls) (Ao st0.fr) (seen listed) ops.size):=funext writeS
   have eH:cur (Bb pls) st0.h (seen (listed.setIfInBounds j true)) ops.size=Cg (AZ st0 pls j).hp.length pl.R (cur (Bb pls) st0.h (seen listed) ops.size):=funext writeH
   refine ih _ φ' _ w' ⟨by simpa using I.size,fun i oi hoi hsi k hk=>?_,by rw[eS,eH];exact s1,by rw[eH];exact I.tr.trans s2,fun b hb=>?_⟩ ?_
   .rw[Gc hltl] at hsi ⊢
    simp only at hsi ⊢
    split
    .rfl
    .split at hsi
     .rename_i _ he;subst he;rw[ho] at hoi;cases hoi;exact hpre k hk
     .exact I.closed i oi hoi hsi k hk
   .rcases s3 b hb with h | ⟨h1,h2⟩
    .rcases I.dom b h with h | ⟨k,x,g1,g2,g3,g4⟩
     .exact .inl h
     .refine .inr ⟨k,x,?_,g2,g3,g4⟩
      rw[Gc hltl];simp[g1]
    .refine .inr ⟨j,(o.dst,pl),?_,hpl,by rw[F.len];exact h1,by rw[F.len];exact h2⟩
     rw[Gc hltl];simp
   .have:=SI (p:=fun k=> !seen listed k) (q:=fun k=> !seen (listed.setIfInBounds j true) k) (j:=j) (l:=List.range ops.size) (by simpa using hlt) (by simp[hSj]) (by rw[Gc hltl];simp) fun x hx=>by
     rw[Gc hltl] at hx
     simp only at hx ⊢
     split at hx
     .simp at hx
     .exact hx
    omega
  unfold wpOp
  rw[ho]
  simp only
  have hcutn:∀b,(AZ st0 pls j).hp.length<=b->Cn (AZ st0 pls j).hp.length φ b=none:=fun b hb=>Tt (by omega)
  cases hrun:pl.run with
  | true=>
   obtain⟨hop,hgd⟩:=F.run hrun
   rw[Ts (Jf (φ:=φ) (A:=Ok A0 n0 φ (cur (Bb pls) st0.h (seen listed) ops.size) w) (w:=w) fun k want hg=>by
    obtain⟨g,g1,g2,g3⟩:=hgd k want hg
    exact⟨g,g1,by rw[<-g3,<-readS g g2];exact I.rel.slot g⟩)]
   left
   refine hop (Cn (AZ st0 pls j).hp.length φ) (Ok A0 n0 φ (cur (Bb pls) st0.h (seen listed) ops.size) w) w a _ _ (fun r hA=>⟨hA.2.1,fun hm=>hA.2.2 ?_⟩) (NM hslots) hheap hcutn behind
   obtain⟨b,blk,z,k1,k2,k3⟩:=hm
   exact⟨b,blk,z,(hsub b blk k1).2,k2,(Eu k3).2⟩
  | false=>
   obtain⟨hR,kk,want,g,hg,hk,hgr,hv⟩:=F.skip hrun
   rw[Tt (by
    have:=I.rel.slot g
    rw[readS g hgr] at this
    rw[Nj hg hk hv this];simp)]
   refine behind undef w (Cn (AZ st0 pls j).hp.length φ) ?_
   rw[hR]
   exact Eff.skip hcutn
variable {P:Program}
def Gs(l:List Nat)(k:Nat):List Nat:=match Bp l k with | true=>l | false=>k::l
def uniN(l r:List Nat):List Nat:=r.foldl Gs l
def F7(acc:List (List Nat))(o:Oper):List Nat:=(Db o).foldl (fun l k=>uniN (Gs l k) (acc.getD k [])) []
def L7:List Oper->List (List Nat)->List (List Nat) | [],acc=>acc | o::r,acc=>L7 r (acc++[F7 acc o])
theorem Pj{l:List Nat}{k x:Nat}(h:x∈Gs l k):x=k\/x∈l:=by
 unfold Gs at h;split at h
 .exact .inr h
 .exact TZ.1 h
theorem mem_uniN{r:List Nat}:∀{l:List Nat} {x:Nat},x∈uniN l r->x∈l\/x∈r:=by
 induction r with
 | nil=>intro l x h;exact .inl h
 | cons y r ih=>
  intro l x h;rcases ih (l:=Gs l y) h with h | h
  .rcases Pj h with rfl | h
   .exact .inr (by simp)
   .exact .inl h
  .exact .inr (TN _ h)
theorem Ry{acc:List (List Nat)}{o:Oper}{x:Nat}(h:x∈F7 acc o):∃k∈Db o,x=k\/x∈acc.getD k []:=by
 have key:∀(r l:List Nat) (x:Nat),x∈r.foldl (fun l k=>uniN (Gs l k) (acc.getD k [])) l->x∈l\/∃k∈r,x=k\/x∈acc.getD k []:=by
  intro r;induction r with
  | nil=>intro l x h;exact .inl h
  | cons y r ih=>
   intro l x h;rcases ih _ x h with h | ⟨k,h1,h2⟩
   .rcases mem_uniN h with h | h
    .rcases Pj h with rfl | h
     .exact .inr ⟨_,by simp,.inl rfl⟩
     .exact .inl h
    .exact .inr ⟨y,by simp,.inr h⟩
   .exact .inr ⟨k,TN _ h1,h2⟩
 rcases key _ _ _ h with h | h
 .simp at h
 .exact h
theorem SW{ops:Array Oper}:∀{l:List Oper} {acc:List (List Nat)},(∀(j:Nat) o,l[j]?=some o->ops[acc.length+j]?=some o)->(∀j k,k∈acc.getD j []->Pre ops j k)->
  ∀j k,k∈(L7 l acc).getD j []->Pre ops j k:=by
 intro l;induction l with
 | nil=>intro acc _ h;exact h
 | cons o r ih=>
  intro acc hl h;refine ih (acc:=acc++[F7 acc o]) (fun j o' hj=>?_) fun j k hk=>?_
  .have:=hl (j+1) o' (by simpa using hj);simpa [Nat.add_assoc,Nat.add_comm 1 j] using this
  .rcases Nat.lt_trichotomy j acc.length with hlt | he | hlt
   .have:(acc++[F7 acc o]).getD j []=acc.getD j []:=by simp[List.getD,T4,hlt]
    rw[this] at hk;exact h j k hk
   .subst he;have:(acc++[F7 acc o]).getD acc.length []=F7 acc o:=by simp[List.getD]
    rw[this] at hk;obtain⟨q,h1,h2⟩:=Ry hk;have ho:=hl 0 o rfl;simp only[Tg] at ho;rcases h2 with rfl | h2
    .exact .direct ho h1
    .exact .trans (.direct ho h1) (h q k h2)
   .have:(acc++[F7 acc o]).getD j []=[]:=by simp only[List.getD];rw[TU (by simp;omega)];rfl
    rw[this] at hk;simp at hk
def Jt(nb:Nat)(R:OpR):Nat->List (Option Blk)->Bool
 | _,[]=>true
 | i,x::r=>(match x with | none=>true | some _=>(BK nb R i).isNone)&&Jt nb R (i+1) r
def J0(hp:List (Option Blk))(pl:Pl):Bool:=
 match pl.R.dead,pl.R.chg,pl.R.new with
 | [],[],[]=>true
 | _,_,_=>Jt pl.hp.length pl.R 0 hp
theorem Sq{nb:Nat}{R:OpR}:∀{l:List (Option Blk)} {i:Nat},Jt nb R i l=true->∀b blk,nth l b=some blk->BK nb R (i+b)=none:=by
 intro l;induction l with
 | nil=>intro i _ b blk h;simp[nth] at h
 | cons x r ih=>
  intro i h b blk hb;simp only[Jt,TC] at h;cases b with
  | zero=>simp only[nth] at hb;subst hb;simpa using h.1
  | succ b=>have:=ih h.2 b blk hb;rwa [show i+(b+1)=i+1+b by omega]
theorem Qt{hp:List (Option Blk)}{pl:Pl}(h:J0 hp pl=true)(b:Nat)(blk:Blk)(hb:nth hp b=some blk):BK pl.hp.length pl.R b=none:=by
 unfold J0 at h;split at h
 .rename_i h1 h2 h3;unfold BK;rw[h1,h2,h3];split
  .rfl
  .rw[Tt (by simp;omega)]
 .have:=Sq h b blk hb
  rwa [TJ] at this
def optIs:Option Nat->Nat->Bool | some x,d=>Nat.beq x d | none,_=>false
def JT(x y:Option Nat×Pl):Bool:=
 (match x.1 with | none=>true | some d=> !optIs y.1 d&&!Bp y.2.reads d)&&(match y.1 with | none=>true | some d=> !Bp x.2.reads d)&&J0 y.2.hp x.2&&J0 x.2.hp y.2
theorem Sr{x y:Option Nat×Pl}(h:JT x y=true):Ap x y:=by
 simp only[JT,TC] at h;obtain⟨⟨⟨h1,h2⟩,h3⟩,h4⟩:=h;have nm:∀{l:List Nat} {d:Nat},(!Bp l d)=true->d∉l:=fun h hm=>by rw[Eg.2 hm] at h;cases h
 refine⟨fun d hd he=>?_,fun d hd=>?_,fun d hd=>?_,Qt h3,Qt h4⟩
 .rw[hd] at h1;simp only[TC] at h1;rw[he] at h1;simp[optIs] at h1
 .rw[hd] at h1;simp only[TC] at h1;exact nm h1.2
 .rw[hd] at h2;exact nm h2
def JP(pres:List (List Nat)):Nat->List (Option Nat×Pl)->List (Nat×(Option Nat×Pl))->Bool | _,[],_=>true | j,y::r,es=>es.all (fun x=>Bp (pres.getD j []) x.1||JT x.2 y)&&JP pres (j+1) r ((j,y)::es)
theorem Rq{pres:List (List Nat)}{pls:List (Option Nat×Pl)}:∀{l:List (Option Nat×Pl)} {j:Nat} {es:List (Nat×(Option Nat×Pl))},JP pres j l es=true->
  (∀k,l[k]?=pls[j+k]?)->(∀i x,i<j->pls[i]?=some x->(i,x)∈es)->∀i k x y,j<=k->i<k->pls[i]?=some x->pls[k]?=some y->Bp (pres.getD k []) i=true\/JT x y=true:=by
 intro l;induction l with
 | nil=>intro j es _ hl _ i k x y hjk _ _ hy;have:=hl (k-j);rw[show j+(k-j)=k by omega,hy] at this;simp at this
 | cons z r ih=>
  intro j es h hl hes i k x y hjk hik hx hy;simp only[JP,TC] at h;have hz:pls[j]?=some z:=by have:=hl 0;simpa using this.symm
  rcases Up j k with hlt | hge
  .refine ih h.2 (fun q=>?_) (fun i' x' hi' hx'=>?_) i k x y (by omega) hik hx hy
   .have:=hl (q+1);simpa [Nat.add_assoc,Nat.add_comm 1 q] using this
   .rcases Up i' j with h1 | h1
    .exact TN _ (hes i' x' h1 hx')
    .have:i'=j:=by omega
     subst this;rw[hz] at hx';cases hx';simp
  .have:k=j:=by omega
   subst this;rw[hz] at hy;cases hy;have:=TI.1 h.1 _ (hes i x hik hx);simpa using this
def Jv:Nat->List Oper->Bool | _,[]=>true | j,o::r=>(Db o).all (fun k=>Nat.blt k j)&&Jv (j+1) r
theorem Rz:∀{l:List Oper} {j:Nat},Jv j l=true->∀(k:Nat) o,l[k]?=some o->∀q,q∈Db o->q<j+k:=by
 intro l;induction l with
 | nil=>intro j _ k o h;simp at h
 | cons x r ih=>
  intro j h k o hk q hq;simp only[Jv,TC] at h;cases k with
  | zero=>simp at hk;subst hk;exact TV (show Nat.ble (q+1) j=true from TI.1 h.1 q hq)
  | succ k=>have:=ih h.2 k o (by simpa using hk) q hq;omega
def H5(P:Program)(H:HT)(m:Nat)(ops:Array Oper)(dr:Bool)(st:St):Option (St×Prop):=
 match E0 P H dr m ops ops.toList st with
 | some (pls,st',p)=>match dr with
  | false=>some (st',p)
  | true=>match Jv 0 ops.toList&&JP (L7 ops.toList []) 0 pls [] with
   | true=>some (st',p)
   | false=>none
 | none=>none
theorem VR.drawn{φ:Phi}{A:Nat->Prop}{w:World}{n:Nat}{c:AV}{v:Value}(h:VR φ A w c v):VR φ A {w with drawn:=n} c v:=h.mono (fun _ _ h=>h) (fun _ h=>h) (fun _ _=>rfl) (fun _=>TF _)
theorem T.region{H:HT}{m id:Nat}{ops:Array Oper}{dr:Bool}{st st':St}{p:Prop}{post:Exit->St->Prop}(hmix:P.follows .mixedOrders=true)(h:H5 P H m ops dr st=some (st',p))(hp:p)
  (hpost:post .normal st'):T P m (.region id ops dr) st post:=by
 intro A0 n0 φ a w hm hr;unfold H5 at h;split at h
 case h_2=>cases h
 rename_i pls st1 q hev;split at h
 .cases h;exact wp_region_list (RC hev hp hm hr fun φ' a' w' g1 g2 g3=>⟨φ',_,hpost,g2,g1,g3⟩)
 .split at h
  case h_2=>cases h
  rename_i hc;cases h;simp only[TC] at hc;obtain⟨g1,g2,g3⟩:=RS hev hp;have hlen:ops.toList.length=ops.size:=by simp
  rw[hlen] at g2 g1;have D:DR P m ops st pls:=by
   refine⟨g1,fun j o ho=>g3 j o (by simpa using ho),fun j o ho k hk=>?_,fun i j x y hij hx hy=>?_,hm⟩
   .have:=Rz hc.1 j o (by simpa using ho) k hk;omega
   .rcases Rq hc.2 (pls:=pls) (fun k=>by rw[TJ]) (fun i x hi=>by omega) i j x y (TG _) hij hx hy with h | h
    .left;refine SW (ops:=ops) (l:=ops.toList) (acc:=[]) (fun j o hj=>by simpa using hj) (fun j k hk=>by simp at hk) j i (Eg.1 h)
    .exact .inr (Sr h)
  refine wp_region_any hmix (Sl D (by rw[<-g2];exact hpost) ops.size _ φ a _ ⟨by simp,fun j o ho hs=>?_,?_,?_,fun b hb=>?_⟩ ?_)
  .have:seen (Array.replicate ops.size false) j=false:=by unfold seen;simp only[Array.getD_eq_getD_getElem?,Array.getElem?_replicate];split<;>rfl
   rw[this] at hs;cases hs
  .have hseen:∀k,seen (Array.replicate ops.size false) k=false:=by intro k;unfold seen;simp only[Array.getD_eq_getD_getElem?,Array.getElem?_replicate];split<;>rfl
   have e1:cur (CV pls) (Ao st.fr) (seen (Array.replicate ops.size false)) ops.size=Ao st.fr:=by funext s;exact H7 (CV pls) (Ao st.fr) (j:=0) (TG _) fun k _ _=>by rw[hseen];simp
   have e2:cur (Bb pls) st.h (seen (Array.replicate ops.size false)) ops.size=st.h:=by funext s;exact H7 (Bb pls) st.h (j:=0) (TG _) fun k _ _=>by rw[hseen];simp
   rw[e1,e2];refine⟨hr.defs,hr.size,fun s=>(hr.slot s).drawn,⟨fun b blk hb=>?_,hr.heap.flat,hr.heap.inj⟩,hr.base,hr.own⟩;rcases hr.heap.blk b blk hb with h | ⟨r,cs,T,k1,k2,k3,k4⟩ | h
   .exact .inl h
   .exact .inr (.inl ⟨r,cs,T,k1,k2,k3,fun i e hi=>⟨(k4 i e hi).1,fun j c hj=>by
     obtain⟨f1,u,f2,f3⟩:=(k4 i e hi).2 j c hj;exact⟨f1,u,f2,f3.drawn⟩⟩⟩)
   .exact .inr (.inr h)
  .have hseen:∀k,seen (Array.replicate ops.size false) k=false:=by intro k;unfold seen;simp only[Array.getD_eq_getD_getElem?,Array.getElem?_replicate];split<;>rfl
   have e2:cur (Bb pls) st.h (seen (Array.replicate ops.size false)) ops.size=st.h:=by funext s;exact H7 (Bb pls) st.h (j:=0) (TG _) fun k _ _=>by rw[hseen];simp
   rw[e2];exact⟨fun _ _=>rfl,⟨rfl,rfl,rfl,TF _,fun _ _ _=>rfl,fun _=>TF _⟩,fun _ h=>.inl h⟩
  .rcases Up b st.hp.length with h | h
   .exact .inl h
   .exact absurd (hr.out b h) hb
  .exact Uc List.countP_le_length (by simp)
inductive Kt where | code (c:Code) | blk (id:Nat) | rnd (c:Code)
def TL(P:Program)(m:Nat)(c:Code)(st:St)(post:Exit->St->Prop):Prop:=∀A0 n0 φ a w,m<=st.hp.length->Rel A0 n0 m φ st a w->∀b k cs,∃e a' w',RQ A0 n0 m φ st.h w post e a' w'/\Arrives P (lone (b.at a (.code c:: .inLoop c::k)) cs w) b k cs e a' w'
theorem T.of_TL{m:Nat}{c:Code}{st:St}{post:Exit->St->Prop}(h:TL P m c st post):T P m (.loop c) st post:=by intro A0 n0 φ a w hm hr b k cs;obtain⟨e,a',w',hq,harr⟩:=h A0 n0 φ a w hm hr b k cs;exact⟨e,a',w',hq,.of_steps (.one step_loop) harr⟩
theorem TL.round{m:Nat}{c:Code}{st:St}{post:Exit->St->Prop}(h:T P m c st (andThen (fun s=>TL P m c s post) post)):TL P m c st post:=by
 intro A0 n0 φ a w hm hr b k cs;obtain⟨e,a1,w1,hq,harr⟩:=h A0 n0 φ a w hm hr b (.inLoop c::k) cs;obtain⟨φ1,st1,h1,h2,h3,h4⟩:=hq;cases e with
 | normal=>obtain⟨e2,a2,w2,hq2,harr2⟩:=h1 A0 n0 φ1 a1 w1 h3 h2 b k cs;exact⟨e2,a2,w2,hq2.trans h4,.of_steps (Steps.trans harr (.one step_inLoop)) harr2⟩
 | exit id=>exact⟨_,a1,w1,⟨φ1,st1,h1,h2,h3,h4⟩,.pass (x:=.inLoop c) rfl (fun _ _=>.inl (by simp)) harr⟩
 | goto l=>exact⟨_,a1,w1,⟨φ1,st1,h1,h2,h3,h4⟩,.pass (x:=.inLoop c) rfl (fun _ _=>.inl (by simp)) harr⟩
 | ret=>exact⟨_,a1,w1,⟨φ1,st1,h1,h2,h3,h4⟩,.pass (x:=.inLoop c) rfl (fun _ _=>.inl (by simp)) harr⟩
 | panic ch=>exact⟨_,a1,w1,⟨φ1,st1,h1,h2,h3,h4⟩,.pass (x:=.inLoop c) rfl (fun _ _=>.inl (by simp)) harr⟩
 | outgrown=>exact⟨_,a1,w1,⟨φ1,st1,h1,h2,h3,h4⟩,.pass (x:=.inLoop c) rfl (fun _ _=>.inl (by simp)) harr⟩
inductive Out where | done (e:Exit) | loop (c:Code) (k:List Kt)
def TK(P:Program)(m:Nat)(post:Exit->St->Prop):List Kt->Exit->St->Prop
 | [],e,st=>post e st
 | .code c::k,e,st=>match e with
  | .normal=>T P m c st (TK P m post k)
  | e=>TK P m post k e st
 | .blk id::k,e,st=>Ea id (TK P m post k) e st
 | .rnd c::k,e,st=>match e with
  | .normal=>TL P m c st (TK P m post k)
  | e=>TK P m post k e st
def HD(id:Nat):Exit->Exit
 | .exit id'=>match Nat.beq id' id with | true=>.normal | false=>.exit id'
 | e=>e
def C4:Operand->Nat | .tmp g=>g | _=>1000000
def EQ(p:Prop):Option (Out×St×Prop)->Option (Out×St×Prop) | some (o,s,q)=>some (o,s,p/\q) | none=>none
def go(P:Program)(H:HT)(m:Nat):Nat->Code⊕Exit->List Kt->St->Option (Out×St×Prop)
 | 0,_,_,_=>none
 | n+1,.inl c,k,st=>match c with
  | .seq a b=>go P H m n (.inl a) (.code b::k) st
  | .block id c=>go P H m n (.inl c) (.blk id::k) st
  | .region _ ops dr=>match H5 P H m ops dr st with
   | some (st',p)=>EQ p (go P H m n (.inr .normal) k st')
   | none=>none
  | .cond x c d=>match st.ev x with
   | .bool b=>match (gd H (C4 x) b).1 with
    | true=>EQ (gd H (C4 x) b).2 (go P H m n (.inl c) k st)
    | false=>EQ (gd H (C4 x) b).2 (go P H m n (.inl d) k st)
   | _=>none
  | .skip=>go P H m n (.inr .normal) k st
  | .ret=>go P H m n (.inr .ret) k st
  | .exit id=>go P H m n (.inr (.exit id)) k st
  | .loop c=>match H.unroll with
   | true=>go P H m n (.inl c) (.rnd c::k) st
   | false=>some (.loop c k,st,True)
  | _=>none
 | n+1,.inr e,k,st=>match k with
  | []=>some (.done e,st,True)
  | .code c::k=>match e with
   | .normal=>go P H m n (.inl c) k st
   | e=>go P H m n (.inr e) k st
  | .blk id::k=>go P H m n (.inr (HD id e)) k st
  | .rnd c::k=>match e with
   | .normal=>go P H m n (.inl c) (.rnd c::k) st
   | e=>go P H m n (.inr e) k st
def CB(P:Program)(m:Nat)(post:Exit->St->Prop)(st:St):Out->Prop | .done e=>post e st | .loop c k=>T P m (.loop c) st (TK P m post k)
theorem Od{H:HT}{m:Nat}{post:Exit->St->Prop}(hmix:P.follows .mixedOrders=true):∀(n:Nat) (c:Code⊕Exit) (k:List Kt) (st:St) (o:Out) (st':St) (p:Prop),
  go P H m n c k st=some (o,st',p)->p->CB P m post st' o->match c with
   | .inl c=>T P m c st (TK P m post k)
   | .inr e=>TK P m post k e st:=by
 have hcj:∀{p:Prop} {x:Option (Out×St×Prop)} {o:Out} {st':St} {q:Prop},EQ p x=some (o,st',q)->∃q',x=some (o,st',q')/\q=(p/\q'):=by
  intro p x o st' q h;unfold EQ at h;split at h
  .cases h;exact⟨_,rfl,rfl⟩
  .cases h
 intro n;induction n with
 | zero=>intro c k st o st' p h;simp[go] at h
 | succ n ih=>
  intro c k st o st' p h hp hrest;cases c with
  | inl c=>
   cases c<;>simp only[go] at h
   case seq a b=>refine T.seq ((ih _ _ _ _ _ _ h hp hrest).mono fun e s hs=>?_);cases e<;>exact hs
   case block id c=>refine T.block ((ih _ _ _ _ _ _ h hp hrest).mono fun e s hs=>?_);exact hs
   case region id ops dr=>
    split at h
    .rename_i st1 p1 h1;obtain⟨q,h2,rfl⟩:=hcj h;exact T.region hmix h1 hp.1 (ih _ _ _ _ _ _ h2 hp.2 hrest)
    .cases h
   case cond x c d=>
    split at h
    .rename_i b hb;split at h
     .rename_i hg;obtain⟨q,h2,rfl⟩:=hcj h;exact T.cond_true (by rw[hb,EJ hp.1,hg]) (ih _ _ _ _ _ _ h2 hp.2 hrest)
     .rename_i hg;obtain⟨q,h2,rfl⟩:=hcj h;exact T.cond_false (by rw[hb,EJ hp.1,hg]) (ih _ _ _ _ _ _ h2 hp.2 hrest)
    .cases h
   case skip=>exact T.skip (ih _ _ _ _ _ _ h hp hrest)
   case ret=>exact T.ret (ih _ _ _ _ _ _ h hp hrest)
   case exit id=>exact T.exit (ih _ _ _ _ _ _ h hp hrest)
   case loop c=>
    split at h
    .refine T.of_TL (TL.round ((ih _ _ _ _ _ _ h hp hrest).mono fun e s hs=>?_));cases e<;>exact hs
    .cases h;exact hrest
   all_goals cases h
  | inr e=>
   cases k with
   | nil=>simp only[go] at h;cases h;exact hrest
   | cons x k=>
    cases x with
    | code c=>
     cases e<;>simp only[go] at h
     case normal=>exact ih _ _ _ _ _ _ h hp hrest
     all_goals exact ih _ _ _ _ _ _ h hp hrest
    | rnd c=>
     cases e<;>simp only[go] at h
     case normal=>refine TL.round ((ih _ _ _ _ _ _ h hp hrest).mono fun e s hs=>?_);cases e<;>exact hs
     all_goals exact ih _ _ _ _ _ _ h hp hrest
    | blk id=>
     simp only[go] at h;have:=ih _ _ _ _ _ _ h hp hrest;cases e<;>simp only[HD] at this
     case exit id'=>
      show Ea id _ _ _;simp only[Ea];split at this
      .rename_i hb;rw[Ts (TB hb)];exact this
      .rename_i hb;rw[Tt (fun e=>by rw[e,Nat.beq_refl] at hb;cases hb)];exact this
     all_goals exact this
theorem T.run{H:HT}{m n:Nat}{c:Code}{st:St}{post:Exit->St->Prop}{o:Out}{st':St}{p:Prop}(hmix:P.follows .mixedOrders=true)(h:go P H m n (.inl c) [] st=some (o,st',p))(hp:p)(hr:CB P m post st' o): T P m c st post:=Od hmix n (.inl c) [] st o st' p h hp hr
def FF(m:Nat)(σ fz:List Nat):Bool:=Ex σ&&GA m 0 σ&&fz.all (fun b=>Nat.ble m b&&!Bp σ b)
theorem GQ{m:Nat}{σ fz vars:List Nat}{st st':St}{p:Prop}(h:FF m σ fz=true)(hr:st.ren σ fz vars=some (st',p))(hp:p):Ren m st st':=by simp only[FF,TC] at h;exact Ren.of σ fz vars hr hp h.1.1 h.1.2 h.2
def endR(m:Nat)(σ fz vars:List Nat):Option (Out×St×Prop)->Option (Code×List Kt×St×Prop)
 | some (.loop c k,st,p)=>match FF m σ fz,st.ren σ fz vars with
  | true,some (s,q)=>some (c,k,s,p/\q)
  | _,_=>none
 | _=>none
theorem zR{m:Nat}{σ fz vars:List Nat}{x:Option (Out×St×Prop)}{c:Code}{k:List Kt}{s:St}{p:Prop}{post:Exit->St->Prop}(h:endR m σ fz vars x=some (c,k,s,p))(hp:p)
  (ht:T P m (.loop c) s (TK P m post k)):∃o st q,x=some (o,st,q)/\q/\CB P m post st o:=by
 unfold endR at h;split at h
 case h_2=>cases h
 rename_i c' k' st q;split at h
 .rename_i s' q' h1 h2;cases h;exact⟨_,_,_,rfl,hp.1,T.ren (GQ h1 h2 hp.2) ht⟩
 .cases h
def Hk:Exit->Bool | .normal=>true | .ret=>true | _=>false
def endF(P:Program)(fn:Func)(m:Nat)(σ fz:List Nat):Option (Out×St×Prop)->Option (List (Option Blk)×AV×Prop)
 | some (.done e,st,p)=>match Hk e&&Nat.blt 0 st.n,GC P fn st with
  | true,some v=>match FF m σ fz,St.ren {st with fr:=[(0,v)]} σ fz [0] with
   | true,some (s,q)=>some (s.hp,Ao s.fr 0,p/\q)
   | _,_=>none
  | _,_=>none
 | _=>none
theorem zF{fn:Func}{m:Nat}{σ fz:List Nat}{x:Option (Out×St×Prop)}{hout:List (Option Blk)}{res:AV}{p:Prop}(h:endF P fn m σ fz x=some (hout,res,p))(hp:p):
  ∃o st q,x=some (o,st,q)/\q/\CB P m (Fin P fn m hout res) st o:=by
 unfold endF at h;split at h
 case h_2=>cases h
 rename_i e st q;split at h
 case h_2=>cases h
 rename_i v h1 h2;split at h
 case h_2=>cases h
 rename_i s q' h3 h4;cases h;simp only[TC] at h1;refine⟨_,_,_,rfl,hp.1,?_,v,s,h2,GQ h3 h4 hp.2,rfl,rfl,TV h1.2⟩;cases e<;>simp[Hk] at h1<;>simp
def endN(m:Nat)(σ fz vars:List Nat):Option (Out×St×Prop)->Option (St×Prop)
 | some (.done .normal,st,p)=>match FF m σ fz,st.ren σ fz vars with
  | true,some (s,q)=>some (s,p/\q)
  | _,_=>none
 | _=>none
theorem zN{m:Nat}{σ fz vars:List Nat}{x:Option (Out×St×Prop)}{s:St}{p:Prop}{post:Exit->St->Prop}{R:St->Prop}(h:endN m σ fz vars x=some (s,p))(hp:p)(hR:∀st,Ren m st s->R st):
  ∃o st q,x=some (o,st,q)/\q/\CB P m (andThen R post) st o:=by
 unfold endN at h;split at h
 case h_2=>cases h
 rename_i st q;split at h
 .rename_i s' q' h1 h2;cases h;exact⟨_,_,_,rfl,hp.1,hR _ (GQ h1 h2 hp.2)⟩
 .cases h
def go2(P:Program)(H:HT)(m n:Nat)(c:Code)(k:List Kt)(st:St):Option (Out×St×Prop):=
 match go P H m n (.inl c) [] st with
 | some (.done e,st',p)=>match e with
  | .normal=>none
  | e=>EQ p (go P H m n (.inr e) k st')
 | _=>none
theorem T.path{H:HT}{m n:Nat}{c:Code}{st:St}{post:Exit->St->Prop}(hmix:P.follows .mixedOrders=true)(h:∃o st' q,go P H m n (.inl c) [] st=some (o,st',q)/\q/\CB P m post st' o):T P m c st post:=by obtain⟨o,st',q,h1,h2,h3⟩:=h;exact T.run hmix h1 h2 h3
theorem T.out{H:HT}{m n:Nat}{c:Code}{k:List Kt}{st:St}{post:Exit->St->Prop}{R:St->Prop}(hmix:P.follows .mixedOrders=true)(h:∃o st' q,go2 P H m n c k st=some (o,st',q)/\q/\CB P m post st' o):
  T P m c st (andThen R (TK P m post k)):=by
 obtain⟨o,st',q,h1,h2,h3⟩:=h;unfold go2 at h1;split at h1
 case h_2=>cases h1
 rename_i e st1 p hg;have key:∀{o:Out} {st':St} {q:Prop},EQ p (go P H m n (.inr e) k st1)=some (o,st',q)->q->CB P m post st' o->e≠.normal->T P m c st (andThen R (TK P m post k)):=by
  intro o st' q hc hq hr hne;unfold EQ at hc;split at hc
  .rename_i o' s' q' hg2;cases hc;have h4:=Od hmix n (.inr e) k st1 _ _ _ hg2 hq.2 hr;refine T.run hmix hg hq.1 ?_;show andThen R (TK P m post k) e st1;cases e<;>first | exact absurd rfl hne | exact h4
  .cases hc
 cases e<;>simp only at h1
 case normal=>cases h1
 all_goals exact key h1 h2 h3 (by simp)
theorem CT.path{f:FuncId}{fn:Func}{c:Code}{hin hout:List (Option Blk)}{args:List AV}{res:AV}{H:HT}{n:Nat}(hmix:P.follows .mixedOrders=true)(hf:P.funcs[f]?=some fn)(hb:fn.body=some c)(hn:args.length<=fn.ntmps) (h:∃o st' q,go P H hin.length n (.inl c) [] {n:=fn.ntmps,fr:=AI 0 args,hp:=hin}=some (o,st',q)/\q/\CB P hin.length (Fin P fn hin.length hout res) st' o):CT P f hin args hout res:=CT.of hf hb hn (T.path hmix h)
abbrev iN(n:Nat):Int:=n
def zB(f:Func):Code:=f.body.getD .skip
def Gf:Code->List Kt->List (Code×List Kt) | .seq a b,k=>Gf a (.code b::k)++Gf b k | .block id c,k=>Gf c (.blk id::k) | .cond _ c d,k=>Gf c k++Gf d k | .loop c,k=>[(c,k)] | _,_=>[]
def zC(c:Code)(i:Nat):Code:=match (Gf c [])[i]? with | some x=>x.1 | none=>.skip
def zK(c:Code)(i:Nat):List Kt:=match (Gf c [])[i]? with | some x=>x.2 | none=>[]
theorem aj{a b:Prop}(x:a)(y:b):a/\b:=⟨x,y⟩
theorem ak{b:Prop}(y:b):True/\b:=⟨trivial,y⟩
theorem al{a:Prop}(x:a):a/\True:=⟨x,trivial⟩
theorem t2:True/\True:=⟨trivial,trivial⟩
theorem s2:(True/\True)/\True:=⟨t2,trivial⟩
theorem t3:True/\True/\True:=⟨trivial,t2⟩
theorem t4:True/\True/\True/\True:=⟨trivial,t3⟩
theorem t5:True/\True/\True/\True/\True:=⟨trivial,t4⟩
theorem t6:True/\True/\True/\True/\True/\True:=⟨trivial,t5⟩
theorem t7:True/\True/\True/\True/\True/\True/\True:=⟨trivial,t6⟩
theorem t8:True/\True/\True/\True/\True/\True/\True/\True:=⟨trivial,t7⟩
theorem t9:True/\True/\True/\True/\True/\True/\True/\True/\True:=⟨trivial,t8⟩
theorem n11:Nat.le (nat_lit 1) (nat_lit 1):=TV rfl
theorem ag{a b:Prop}(x:a)(y:b):(a/\True/\True)/\b:=⟨⟨x,t2⟩,y⟩
theorem u2{b:Prop}(y:b):(True/\True)/\b:=⟨t2,y⟩
theorem k2{b:Prop}(y:b):True/\True/\b:=⟨trivial,trivial,y⟩
theorem k3{b:Prop}(y:b):True/\True/\True/\b:=⟨trivial,trivial,trivial,y⟩
theorem k5{b:Prop}(y:b):True/\True/\True/\True/\True/\b:=⟨trivial,trivial,trivial,trivial,trivial,y⟩
abbrev iv(n:Int):AV:=.int .i64 n
def ds(l:List Nat):List (Nat×Bool):=l.map fun k=>(k / 2,k % 2==1)
def hU(dec:List Nat)(els:List (Nat×AV))(calls:Nat->FuncId->List AV->List (Option Blk)->AN):HT:={dec:=ds dec,els,calls}
def hc(r:AV):AN:=.call [] [] [] r
abbrev GoP(P:Program)(H:HT)(m:Nat)(c:Code)(st:St)(post:Exit->St->Prop):Prop:=∃o st' q,go P H m 4000 (.inl c) [] st=some (o,st',q)/\q/\CB P m post st' o
abbrev GoO(P:Program)(H:HT)(m:Nat)(c:Code)(k:List Kt)(st:St)(post:Exit->St->Prop):Prop:=∃o st' q,go2 P H m 4000 c k st=some (o,st',q)/\q/\CB P m post st' o
theorem CT.calls{f:FuncId}{args:List AV}(h:CT P f [] args [] (.bool true))(w:World)(vs:List Value)(hl:vs.length=args.length)
  (hv:∀(i:Nat) c v,args[i]?=some c->vs[i]?=some v->RT (fun r=>r<w.heap.size) w c v):
  Calls P f vs.toArray w fun e w'=>e = .returned (.bool true)/\Go.RowKit.Below w.heap.size w w':=by
 have hno:∀r,¬Mut (fun _=>none) (nth ([]:List (Option Blk))) r:=by
  rintro r ⟨b,blk,z,hb,_⟩
  simp[nth] at hb
 refine(h (fun _=>none) (fun r=>r<w.heap.size) w vs (fun r hr=>⟨hr,hno r⟩) ⟨fun b blk hb=>(by simp[nth] at hb),fun b blk hb=>(by simp[nth] at hb),fun b b' r z z' hb=>(by simp[nth] at hb)⟩ (fun _ _=>rfl) hl
  fun i c v hc hvv=>.imm _ _ (hv i c v hc hvv)).mono fun e w' ⟨v,φ',he,cp⟩=>?_
 have hb:=cp.val.bool_inv;subst hb;exact⟨he,cp.keep.os,cp.keep.tape,cp.keep.output,cp.keep.size,fun k hk=>cp.keep.block k hk (hno k)⟩
def Cw(P:Program)(t:TypeId):Bool:=match P.underlying t with
 | some (.struct _)=>true
 | some (.array _ _)=>true
 | _=>false
def C5(ag:Bool)(ys:List AV):AV:=match ag with
 | true=>.agg ys
 | false=>match ys with
  | [y]=>y
  | _=>.unk
def ShL(R:TypeId->List AV->Prop):List TypeId->List (List AV)->Prop | [],[]=>True | t::ts,p::ps=>R t p/\ShL R ts ps | _,_=>False
def Sh(P:Program):Nat->TypeId->List AV->Prop
 | 0,_,_=>False
 | n+1,t,cs=>match P.underlying t with
  | some .bool=>∃b,cs=[.bool b]
  | some (.int k)=>∃i,(Lit.int k i).wf=true/\cs=[.int k i]
  | some .string=>∃s:ByteArray,s.size<=maxLen/\cs=[.str s]
  | some (.slice e)=>∃es:List AV,es.length<=maxLen/\(∀x∈es,∃ys,Sh P n e ys/\x=C5 (Cw P e) ys)/\cs=[.lst es]
  | some (.struct fs)=>∃ps,ShL (Sh P n) (fs.toList.map (·.type)) ps/\cs=ps.flatten
  | some (.array k e)=>∃ps,ShL (Sh P n) (List.replicate k e) ps/\cs=ps.flatten
  | _=>False
def Fq(P:Program):Nat->List (Nat×TypeId)->Option Nat
 | o,[]=>some o
 | o,(a,t)::r=>match Nat.beq a o with
  | true=>Fq P (o+P.cellsOf t) r
  | false=>none
def okT(P:Program):Nat->TypeId->Bool
 | 0,_=>false
 | n+1,t=>match P.underlying t with
  | some .bool=>true
  | some (.int _)=>true
  | some .string=>true
  | some (.slice e)=>okT P n e&&Nat.ble 1 (P.cellsOf e)
  | some (.struct fs)=>(match Fq P 0 (fs.toList.map fun f=>(f.offset,f.type)) with | some l=>Nat.beq l (P.cellsOf t) | none=>false)&&(fs.toList.all fun f=>okT P n f.type)
  | some (.array k e)=>okT P n e&&Nat.beq (P.cellsOf t) (k * P.cellsOf e)
  | _=>false
theorem ShL.one{R:TypeId->List AV->Prop}(h:∀t p,R t p->∀c∈p,c.one=true):∀{ts:List TypeId} {ps:List (List AV)},ShL R ts ps->∀c∈ps.flatten,c.one=true:=by
 intro ts;induction ts with
 | nil=>intro ps hs c hc;cases ps<;>simp_all [ShL]
 | cons t ts ih=>
  intro ps hs c hc;cases ps with
  | nil=>simp at hc
  | cons p ps=>simp only[List.flatten_cons,T0] at hc;exact hc.elim (h t p hs.1 c) (ih hs.2 c)
theorem Sh.one:∀{n:Nat} {t:TypeId} {cs:List AV},Sh P n t cs->∀c∈cs,c.one=true:=by
 intro n;induction n with
 | zero=>intro t cs h;exact h.elim
 | succ n ih=>
  intro t cs h c hc;unfold Sh at h;split at h
  .obtain⟨b,rfl⟩:=h;simp at hc;subst hc;rfl
  .obtain⟨i,_,rfl⟩:=h;simp at hc;subst hc;rfl
  .obtain⟨s,_,rfl⟩:=h;simp at hc;subst hc;rfl
  .obtain⟨es,_,_,rfl⟩:=h;simp at hc;subst hc;rfl
  .obtain⟨ps,hp,rfl⟩:=h;exact ShL.one (fun _ _=>ih) hp c hc
  .obtain⟨ps,hp,rfl⟩:=h;exact ShL.one (fun _ _=>ih) hp c hc
  .exact h.elim
theorem Sh.el{n:Nat}{t:TypeId}{ys:List AV}(h:Sh P n t ys):(C5 (Cw P t) ys).cells=ys:=by
 cases n with
 | zero=>exact h.elim
 | succ n=>
  unfold Sh at h;unfold Cw;cases hu:P.underlying t with
  | none=>rw[hu] at h;exact h.elim
  | some u=>
   rw[hu] at h;cases u
   case bool=>obtain⟨b,rfl⟩:=h;rfl
   case int=>obtain⟨b,_,rfl⟩:=h;rfl
   case string=>obtain⟨b,_,rfl⟩:=h;rfl
   case slice=>obtain⟨es,_,_,rfl⟩:=h;rfl
   case struct=>rfl
   case array=>rfl
   all_goals exact h.elim
def H2(A:Nat->Prop)(w:World)(avs:List AV)(cs:List Value):Prop:=avs.length=cs.length/\∀(i:Nat) c v,avs[i]?=some c->cs[i]?=some v->RT A w c v
theorem Pw{A:Nat->Prop}{w:World}{R:TypeId->List AV->Prop}{cs:List Value}:∀{segs:List (Nat×TypeId)} {o l:Nat},Fq P o segs=some l->l<=cs.length->
  (∀s∈segs,∃avs,R s.2 avs/\H2 A w avs ((cs.drop s.1).take (P.cellsOf s.2)))->∃ps,ShL R (segs.map (·.2)) ps/\H2 A w ps.flatten ((cs.drop o).take (l-o))/\o<=l:=by
 intro segs;induction segs with
 | nil=>intro o l h hl _;simp only[Fq,Ta] at h;subst h;exact⟨[],trivial,⟨by simp,fun i c v hc=>by simp at hc⟩,TF _⟩
 | cons s r ih=>
  intro o l h hl hs;obtain⟨a,t⟩:=s;simp only[Fq] at h;split at h
  case h_2=>cases h
  rename_i ha;have ha:=TB ha;subst ha;obtain⟨ps,h1,h2,h3⟩:=ih h hl fun s hm=>hs s (TN _ hm)
  obtain⟨avs,g1,g2,g3⟩:=hs (a,t) (by simp);simp only at g1 g2 g3;have hlen:avs.length=P.cellsOf t:=by rw[g2];simp;omega
  refine⟨avs::ps,⟨g1,h1⟩,⟨?_,fun i c v hc hv=>?_⟩,by omega⟩
  .have:=h2.1;simp only[List.flatten_cons,TQ,this,hlen,TY,Th];omega
  .simp only[List.flatten_cons] at hc;rw[T4] at hc;split at hc
   .rename_i hi;refine g3 i c v hc ?_;rw[TP] at hv ⊢
    rw[Ts (by omega)];split at hv
    .exact hv
    .cases hv
   .rename_i hi;refine h2.2 (i-avs.length) c v hc ?_;rw[TP] at hv ⊢
    split at hv
    .rw[Ts (by omega)];rw[Tf] at hv ⊢
     rw[show a+P.cellsOf t+(i-avs.length)=a+i by omega];exact hv
    .cases hv
theorem Hh{A:Nat->Prop}{w:World}{c:AV}{v:Value}(hr:RT A w c v):H2 A w [c] [v]:=by
 refine⟨rfl,fun i c' v' hc hv=>?_⟩;cases i with
 | zero=>simp at hc hv;subst hc hv;exact hr
 | succ i=>simp at hc
theorem plus(b off i:Nat):(⟨b,off,none⟩:Addr).add i=⟨b,off+i,none⟩:=by unfold Addr.add;split<;>simp_all
theorem RG{H:Type}{enc:TypeId×Value->H}{w:World}{base:Nat}{spare:Nat->Bool}{held:Bool}{n k:Nat}{t e:TypeId}{cs:List Value}{x:DataW H×List MemPlace}(hu:P.underlying t=some (.array k e))
  (h:DataW.trod enc P w base spare held (n+1) t cs=some x):cs.length=P.cellsOf t/\∀i,i<k->∃y,DataW.trod enc P w base spare held n e ((cs.drop (i * P.cellsOf e)).take (P.cellsOf e))=some y:=by
 unfold DataW.trod at h;rw[hu] at h;split at h<;>simp_all;obtain⟨hl,xs,hp,hd⟩:=h;intro i hi;have hlen:=Go.mapM_some_length hp;have g:=mapM_some_get hp i i (by simp[hi]);rw[Tu (by simpa [hlen] using hi)] at g;exact⟨_,_,g⟩
theorem SO(e:TypeId):∀(k a:Nat),Fq P (a * P.cellsOf e) ((List.range' a k).map fun i=>(i * P.cellsOf e,e))=some ((a+k) * P.cellsOf e):=by
 intro k;induction k with
 | zero=>intro a;simp[Fq]
 | succ k ih=>intro a;simp only[List.range'_succ,Tq,Fq,Nat.beq_refl];have:=ih (a+1);rw[Tc,Nat.one_mul] at this;rw[this];congr 2;omega
theorem Q4{H:Type}{enc:TypeId×Value->H}{w:World}{base:Nat}{held:Bool}:∀{n:Nat} {t:TypeId} {cs:List Value} {x:DataW H×List MemPlace},
  DataW.trod enc P w base (fun _=>true) held n t cs=some x->okT P n t=true->∃avs,Sh P n t avs/\H2 (fun r=>r<w.heap.size) w avs cs:=by
 intro n;induction n with
 | zero=>intro t cs x h;simp[DataW.trod] at h
 | succ n ih=>
  intro t cs x h hok;unfold okT at hok;unfold Sh;cases hu:P.underlying t with
  | none=>rw[hu] at hok;cases hok
  | some u=>
   rw[hu] at hok;cases u
   case bool=>obtain⟨b,rfl,_⟩:=DataW.trod_bool hu h;exact⟨_,⟨b,rfl⟩,Hh (.bool b)⟩
   case int k=>obtain⟨i,rfl,_,hw⟩:=DataW.trod_int hu h;exact⟨_,⟨i,hw,rfl⟩,Hh (.int k i)⟩
   case string=>obtain⟨s,rfl,_,hw⟩:=DataW.trod_string hu h;exact⟨_,⟨s,hw,rfl⟩,Hh (.str s)⟩
   case slice e=>
    simp only[TC] at hok;have hpos:1<=P.cellsOf e:=TV hok.2;rcases DataW.trod_slice hu h with ⟨rfl,_⟩ | ⟨a,len,cap,elems,rest,m,hm,rfl,_,_,hl,hmx,hel,hget,hsp,_⟩
    .exact⟨_,⟨[],by simp,by simp,rfl⟩,Hh (.lnil none)⟩
    .obtain rfl:n=m:=by omega
     rcases Nat.eq_zero_or_pos cap with hc | hc
     .subst hc;obtain rfl:len=0:=by omega
      exact⟨_,⟨[],by simp,by simp,rfl⟩,Hh (.lnil (some a))⟩
     .obtain⟨hrl,hrest⟩:=hsp rfl;have all:∀i,i<cap->∃cs y,w.cells? base (a.add (i * P.cellsOf e)) (P.cellsOf e)=some cs/\DataW.trod enc P w base (fun _=>true) held n e cs=some y:=by
       intro i hi;rcases Up i len with hlt | hge
       .have g:=hget i hlt;rw[Tu (by omega)] at g;obtain⟨cs,h1,h2⟩:=Option.bind_eq_some_iff.1 g;exact⟨cs,_,h1,h2⟩
       .have g:=hrest (i-len) (by omega);rw[Tu (by omega),show len+(i-len)=i by omega] at g;obtain⟨cs,h1,h2⟩:=Option.bind_eq_some_iff.1 g;exact⟨cs,_,h1,h2⟩
      have hspot:a.spot=none:=by obtain⟨cs,_,h1,_⟩:=all 0 hc;obtain⟨_,hlen,hcell⟩:=World.cells?_some h1;have g0:=hcell 0 hpos;rw[Tu (by omega)] at g0;simpa [Addr.add] using World.cell?_spot g0
      obtain⟨b,off,spot⟩:=a;simp only at hspot;subst hspot;have ex:∀i,∃ys:List AV,i<cap->Sh P n e ys/\ys.length=P.cellsOf e/\∀j c,ys[j]?=some c->∃v,w.cell? ⟨b,off+i * P.cellsOf e+j,none⟩=some v/\RT (fun r=>r<w.heap.size) w c v:=by
       intro i;rcases Up i cap with hi | hi
       .obtain⟨cs,y,h1,h2⟩:=all i hi;obtain⟨ys,g1,g2,g3⟩:=ih h2 hok.1;obtain⟨_,hlen,hcell⟩:=World.cells?_some h1;refine⟨ys,fun _=>⟨g1,by omega,fun j c hj=>?_⟩⟩;have hj':j<ys.length:=(Tw.1 hj).1;have g:=hcell j (by omega);rw[Tu (by omega)] at g;refine⟨cs[j]'(by omega),?_,g3 j c _ hj (Tu (by omega))⟩;rw[plus,plus] at g;exact g
       .exact⟨[],fun h=>absurd h (by omega)⟩
      let ys:Nat->List AV:=fun i=>Classical.choose (ex i)
      have hys:∀i,i<cap->Sh P n e (ys i)/\(ys i).length=P.cellsOf e/\∀j c,(ys i)[j]?=some c->∃v,w.cell? ⟨b,off+i * P.cellsOf e+j,none⟩=some v/\RT (fun r=>r<w.heap.size) w c v:=fun i=>T8 (ex i)
      have hb:b<w.heap.size:=by
       obtain⟨g1,g2,g3⟩:=hys 0 hc;obtain⟨v,hv,_⟩:=g3 0 _ (Tu (by omega));rcases Up b w.heap.size with hlt | hge
       .exact hlt
       .simp[World.cell?,Array.getElem?_eq_none hge] at hv
      let es:List AV:=(List.range len).map fun i=>C5 (Cw P e) (ys i)
      have hesl:es.length=len:=by simp[es]
      have mem:∀x∈es,∃i,i<len/\x=C5 (Cw P e) (ys i):=by intro x hx;obtain⟨i,hi,rfl⟩:=T1.1 hx;exact⟨i,by simpa using hi,rfl⟩
      refine⟨_,⟨es,by omega,fun x hx=>?_,rfl⟩,Hh ?_⟩
      .obtain⟨i,hi,rfl⟩:=mem x hx;exact⟨ys i,(hys i (by omega)).1,rfl⟩
      .have key:=RT.lst (A:=fun r=>r<w.heap.size) (w:=w) es b off cap (P.cellsOf e) (fun i j=>(w.cell? ⟨b,off+i * P.cellsOf e+j,none⟩).getD default) (by omega) (fun _=>hb) (fun x hx=>?_) (fun x hx c hcm=>?_) (fun i j hi hj=>?_) fun i j x c hx hj=>?_
       .rw[hesl] at key;exact key
       .obtain⟨i,hi,rfl⟩:=mem x hx;rw[(hys i (by omega)).1.el];exact(hys i (by omega)).2.1
       .obtain⟨i,hi,rfl⟩:=mem x hx;rw[(hys i (by omega)).1.el] at hcm;exact(hys i (by omega)).1.one c hcm
       .obtain⟨g1,g2,g3⟩:=hys i (by omega);obtain⟨v,hv,_⟩:=g3 j _ (Tu (by omega));simp[hv]
       .have hi:i<len:=by rw[<-hesl];exact(Tw.1 hx).1
        have hx':x=C5 (Cw P e) (ys i):=by simp only[es,TE,TT hi,Option.map_some,Ta] at hx;exact hx.symm
        subst hx';obtain⟨g1,g2,g3⟩:=hys i (by omega);rw[g1.el] at hj;obtain⟨v,hv,hr⟩:=g3 j c hj;simpa [hv] using hr
   case struct fs=>
    simp only[TC] at hok;obtain⟨xs,m,hm,_,hlen,hxl,hget⟩:=DataW.trod_struct hu h;obtain rfl:n=m:=by omega
    obtain⟨hc,ha⟩:=hok;split at hc
    case h_2=>cases hc
    rename_i l hcon;have hl:=TB hc;obtain⟨ps,h1,h2,_⟩:=Pw (A:=fun r=>r<w.heap.size) (w:=w) (R:=Sh P n) (cs:=cs) hcon (by omega) fun s hs=>by obtain⟨f,hf,rfl⟩:=T1.1 hs;obtain⟨i,hi,rfl⟩:=T7.1 hf;simp only[Array.length_toList] at hi;have g:=hget i (fs[i]) (by simp[hi]);rw[Tu (by omega)] at g;exact ih g (TI.1 ha _ hf)
    refine⟨_,⟨ps,?_,rfl⟩,?_⟩
    .simpa [Ul,Function.comp_def] using h1
    .simpa [hl,<-hlen] using h2
   case array k e=>
    simp only[TC] at hok;have hk:=TB hok.2;obtain⟨hlen,hel⟩:=RG hu h;have hcon:=SO (P:=P) e k 0;rw[Nat.zero_mul,TJ] at hcon;obtain⟨ps,h1,h2,_⟩:=Pw (A:=fun r=>r<w.heap.size) (w:=w) (R:=Sh P n) (cs:=cs) hcon (by omega) fun s hs=>by obtain⟨i,hi,rfl⟩:=T1.1 hs;obtain⟨y,g⟩:=hel i (by simpa using hi);exact ih g hok.1
    refine⟨_,⟨ps,?_,rfl⟩,?_⟩
    .simpa [Ul,Function.comp_def,List.map_const'] using h1
    .simpa [<-hk,<-hlen] using h2
   all_goals cases hok
theorem okT_succ:∀{n:Nat} {t:TypeId},okT P n t=true->okT P (n+1) t=true:=by
 intro n;induction n with
 | zero=>intro t h;cases h
 | succ n ih=>
  intro t h;unfold okT at h ⊢
  cases hu:P.underlying t with
  | none=>rw[hu] at h;cases h
  | some u=>
   rw[hu] at h;cases u
   case bool=>rfl
   case int=>rfl
   case string=>rfl
   case slice e=>
    simp only[TC] at h ⊢
    exact⟨ih h.1,h.2⟩
   case struct fs=>
    simp only[TC] at h ⊢
    exact⟨h.1,TI.2 fun f hf=>ih (TI.1 h.2 f hf)⟩
   case array k e=>
    simp only[TC] at h ⊢
    exact⟨ih h.1,h.2⟩
   all_goals cases h
theorem OO{n m:Nat}{t:TypeId}(hnm:n<=m)(h:okT P n t=true):okT P m t=true:=by
 induction hnm with
 | refl=>exact h
 | step _ ih=>exact okT_succ ih
theorem ShL.imp{R R':TypeId->List AV->Prop}:∀{ts:List TypeId} {ps:List (List AV)},(∀t∈ts,∀p,R t p->R' t p)->ShL R ts ps->ShL R' ts ps:=by
 intro ts;induction ts with
 | nil=>intro ps h hs;cases ps<;>simp_all [ShL]
 | cons t ts ih=>
  intro ps h hs;cases ps with
  | nil=>exact hs.elim
  | cons p ps=>exact⟨h t (by simp) p hs.1,ih (fun t' ht=>h t' (TN _ ht)) hs.2⟩
theorem Sh.down:∀{n:Nat} {t:TypeId} {ys:List AV},okT P n t=true->Sh P (n+1) t ys->Sh P n t ys:=by
 intro n;induction n with
 | zero=>intro t ys h;cases h
 | succ n ih=>
  intro t ys h hs;unfold okT at h;unfold Sh at hs ⊢
  cases hu:P.underlying t with
  | none=>rw[hu] at h;cases h
  | some u=>
   rw[hu] at h hs;cases u
   case bool=>exact hs
   case int=>exact hs
   case string=>exact hs
   case slice e=>simp only[TC] at h;obtain⟨es,h1,h2,h3⟩:=hs;refine⟨es,h1,fun x hx=>?_,h3⟩;obtain⟨ys,g,g'⟩:=h2 x hx;exact⟨ys,ih h.1 g,g'⟩
   case struct fs=>simp only[TC] at h;obtain⟨ps,h1,h2⟩:=hs;refine⟨ps,h1.imp (fun t ht p hp=>?_),h2⟩;obtain⟨f,hf,rfl⟩:=T1.1 ht;exact ih (TI.1 h.2 f hf) hp
   case array k e=>simp only[TC] at h;obtain⟨ps,h1,h2⟩:=hs;refine⟨ps,h1.imp (fun t ht p hp=>?_),h2⟩;obtain rfl:t=e:=(List.mem_replicate.1 ht).2;exact ih h.1 hp
   all_goals cases h
theorem Sh.downs{n m:Nat}{t:TypeId}{ys:List AV}(hnm:n<=m)(h:okT P n t=true)(hs:Sh P m t ys):Sh P n t ys:=by
 induction hnm with
 | refl=>exact hs
 | step hk ih=>exact ih (hs.down (OO hk h))
def ShV(P:Program)(n:Nat)(t:TypeId)(a:AV):Prop:=∃ys,Sh P n t ys/\a=C5 (Cw P t) ys
def EP(P:Program)(n:Nat):List TypeId->List AV->Prop | [],[]=>True | t::ts,a::bs=>ShV P n t a/\EP P n ts bs | _,_=>False
theorem Re{w:World}{r:Reach}{base n:Nat}{t:TypeId}{v:Value}(h:Value.okWide P w r base t v)(hk:okT P n t=true):
  (Cw P t=true/\∃cs,v = .agg cs)\/(Cw P t=false/\v.cells = #[v]):=by
 cases n with
 | zero=>cases hk
 | succ n=>
  unfold Cw;unfold okT at hk;unfold Value.okWide at h;cases hu:P.underlying t with
  | none=>rw[hu] at hk;cases hk
  | some u=>
   rw[hu] at h hk;cases u
   case struct=>obtain⟨cs,h,_⟩:=h;exact .inl ⟨rfl,cs,h⟩
   case array=>obtain⟨cs,h,_⟩:=h;exact .inl ⟨rfl,cs,h⟩
   case bool=>refine .inr ⟨rfl,?_⟩;cases v<;>first | rfl | (exfalso;simp[Cell.okWide,Cell.ok,hu] at h;done)
   case int=>refine .inr ⟨rfl,?_⟩;cases v<;>first | rfl | (exfalso;simp[Cell.okWide,Cell.ok,hu] at h;done)
   case string=>refine .inr ⟨rfl,?_⟩;cases v<;>first | rfl | (exfalso;simp[Cell.okWide,Cell.ok,hu] at h;done)
   case slice=>refine .inr ⟨rfl,?_⟩;cases v<;>first | rfl | (exfalso;simp[Cell.okWide,Cell.ok,hu] at h;done)
   all_goals cases hk
theorem Rt{A:Nat->Prop}{w:World}{cs:List Value}{ys:List AV}(h:H2 A w ys cs):RT A w (.agg ys) (.agg cs.toArray):=.agg ys cs h.1.symm h.2
theorem args_rt{H:Type}{enc:TypeId×Value->H}{w:World}{base base':Nat}{held:Bool}{r:Reach}(n:Nat):∀{ts:List TypeId} {vs:List Value} {ds:List (DataW H)} {ps:List MemPlace},DataW.TrodAll enc P w base (fun _=>true) held ts vs ds ps->
  (∀(j:Nat) t v,ts[j]?=some t->vs[j]?=some v->Value.okWide P w r base' t v)->(ts.all (okT P n))=true->
  ∃bs,EP P n ts bs/\vs.length=bs.length/\∀(i:Nat) c v,bs[i]?=some c->vs[i]?=some v->RT (fun r=>r<w.heap.size) w c v:=by
 intro ts;induction ts with
 | nil=>intro vs ds ps h _ _;obtain⟨rfl,_⟩:=ChangeShapes.trodAll_nil h;exact⟨[],trivial,rfl,fun i c v hc=>by simp at hc⟩
 | cons t ts ih=>
  intro vs ds ps h hw ho;simp only[List.all_cons,TC] at ho;obtain⟨v,vs,d,ds,p,q,rfl,rfl,rfl,⟨f,hd⟩,hr⟩:=ChangeShapes.trodAll_cons h;obtain⟨bs,h1,h2,h3⟩:=ih hr (fun j t' v' ht hv=>hw (j+1) t' v' (by simpa using ht) (by simpa using hv)) ho.2;obtain⟨ys,g1,g2⟩:=Q4 (DataW.trod_le (Nat.le_max_left f n) hd) (OO (Nat.le_max_right f n) ho.1);have hwv:=hw 0 t v rfl rfl;have hsh:Sh P n t ys:=g1.downs (Nat.le_max_right f n) ho.1;refine⟨C5 (Cw P t) ys::bs,⟨⟨ys,hsh,rfl⟩,h1⟩,by simp[h2],fun i c v' hc hv=>?_⟩;cases i with
  | succ i=>exact h3 i c v' (by simpa using hc) (by simpa using hv)
  | zero=>
   simp at hc hv;subst hc hv;rcases Re hwv ho.1 with ⟨ha,cs,rfl⟩ | ⟨ha,hcs⟩
   .rw[ha];have:=Rt g2;simpa [C5,Value.cells] using this
   .rw[hcs] at g2;have hl:=g2.1;have hel:=hsh.el;rw[ha] at hel ⊢
    match ys,hl with
    | [y],_=>exact g2.2 0 y v rfl rfl
theorem trodAll_below{H:Type}{enc:TypeId×Value->H}(hl:laidOutB P=true){W W':World}(hb:Go.RowKit.Below W.heap.size W W'):∀{ts:List TypeId} {vs:List Value} {ds:List (DataW H)} {ps:List MemPlace},
  (ts.all fun t=>P.readableRec t&&Nat.blt t P.types.size)=true->DataW.TrodAll enc P W 0 (fun _=>true) true ts vs ds ps->DataW.TrodAll enc P W' 0 (fun b=>decide (b<W.heap.size)) true ts vs ds ps:=by
 intro ts;induction ts with
 | nil=>intro vs ds ps _ h;cases vs<;>cases ds<;>simp_all [DataW.TrodAll]
 | cons t ts ih=>
  intro vs ds ps ho h;simp only[List.all_cons,TC] at ho;cases vs with
  | nil=>cases ds<;>simp_all [DataW.TrodAll]
  | cons v vs=>
   cases ds with
   | nil=>simp_all [DataW.TrodAll]
   | cons d ds=>
    obtain⟨p,q,hd,hr,he⟩:=h;have lt:∀x∈p,x.block<W.heap.size:=by obtain⟨m,hm⟩:=hd;exact DataW.trod_lt m _ _ _ hm
    exact⟨p,q,Go.RowKit.Below.trod hl ho.1.1 (by simpa [Nat.blt_eq] using ho.1.2) hd hb lt,ih ho.2 hr,he⟩
theorem ShL.consD{R:TypeId->List AV->Prop}{t:TypeId}{ts:List TypeId}{ps:List (List AV)}(h:ShL R (t::ts) ps):∃p ps',ps=p::ps'/\R t p/\ShL R ts ps':=by
 cases ps with
 | nil=>exact h.elim
 | cons p ps=>exact⟨p,ps,rfl,h.1,h.2⟩
theorem ShL.nilD{R:TypeId->List AV->Prop}{ps:List (List AV)}(h:ShL R [] ps):ps=[]:=by
 cases ps with
 | nil=>rfl
 | cons p ps=>exact h.elim
theorem Sh.boolD{n:Nat}{t:TypeId}{ys:List AV}(hu:P.underlying t=some .bool)(h:Sh P n t ys):∃b,ys=[.bool b]:=by
 cases n with
 | zero=>exact h.elim
 | succ n=>unfold Sh at h;rw[hu] at h;exact h
theorem Sh.intD{n:Nat}{t:TypeId}{k:IntKind}{ys:List AV}(hu:P.underlying t=some (.int k))(h:Sh P n t ys):∃i,(Lit.int k i).wf=true/\ys=[.int k i]:=by
 cases n with
 | zero=>exact h.elim
 | succ n=>unfold Sh at h;rw[hu] at h;exact h
theorem Sh.strD{n:Nat}{t:TypeId}{ys:List AV}(hu:P.underlying t=some .string)(h:Sh P n t ys):∃s:ByteArray,s.size<=maxLen/\ys=[.str s]:=by
 cases n with
 | zero=>exact h.elim
 | succ n=>unfold Sh at h;rw[hu] at h;exact h
theorem Sh.structD{n:Nat}{t:TypeId}{fs:Array Field}{ys:List AV}(hu:P.underlying t=some (.struct fs))(h:Sh P (n+1) t ys):∃ps,ShL (Sh P n) (fs.toList.map (·.type)) ps/\ys=ps.flatten:=by unfold Sh at h;rw[hu] at h;exact h
theorem Sh.arrayD{n k:Nat}{t e:TypeId}{ys:List AV}(hu:P.underlying t=some (.array k e))(h:Sh P (n+1) t ys):∃ps,ShL (Sh P n) (List.replicate k e) ps/\ys=ps.flatten:=by unfold Sh at h;rw[hu] at h;exact h
theorem Sh.sliceD{n:Nat}{t e:TypeId}{ys:List AV}(hu:P.underlying t=some (.slice e))(h:Sh P (n+1) t ys):∃es:List AV,es.length<=maxLen/\(∀x∈es,ShV P n e x)/\ys=[.lst es]:=by unfold Sh at h;rw[hu] at h;exact h
theorem ShV.intD{n:Nat}{t:TypeId}{k:IntKind}{a:AV}(h:ShV P n t a)(hu:P.underlying t=some (.int k)):∃i,(Lit.int k i).wf=true/\a = .int k i:=by obtain⟨ys,hs,rfl⟩:=h;obtain⟨i,hw,rfl⟩:=hs.intD hu;exact⟨i,hw,by simp[Cw,hu,C5]⟩
theorem ShV.boolD{n:Nat}{t:TypeId}{a:AV}(h:ShV P n t a)(hu:P.underlying t=some .bool):∃b,a = .bool b:=by obtain⟨ys,hs,rfl⟩:=h;obtain⟨i,rfl⟩:=hs.boolD hu;exact⟨i,by simp[Cw,hu,C5]⟩
theorem ShV.sliceD{n:Nat}{t e:TypeId}{a:AV}(h:ShV P (n+1) t a)(hu:P.underlying t=some (.slice e)):∃es:List AV,es.length<=maxLen/\(∀x∈es,ShV P n e x)/\a = .lst es:=by obtain⟨ys,hs,rfl⟩:=h;obtain⟨es,h1,h2,rfl⟩:=hs.sliceD hu;exact⟨es,h1,h2,by simp[Cw,hu,C5]⟩
theorem ShV.structD{n:Nat}{t:TypeId}{fs:Array Field}{a:AV}(h:ShV P (n+1) t a)(hu:P.underlying t=some (.struct fs)):∃ps,ShL (Sh P n) (fs.toList.map (·.type)) ps/\a = .agg ps.flatten:=by obtain⟨ys,hs,rfl⟩:=h;obtain⟨ps,h1,rfl⟩:=hs.structD hu;exact⟨ps,h1,by simp[Cw,hu,C5]⟩
theorem ShV.arrayD{n k:Nat}{t e:TypeId}{a:AV}(h:ShV P (n+1) t a)(hu:P.underlying t=some (.array k e)):∃ps,ShL (Sh P n) (List.replicate k e) ps/\a = .agg ps.flatten:=by obtain⟨ys,hs,rfl⟩:=h;obtain⟨ps,h1,rfl⟩:=hs.arrayD hu;exact⟨ps,h1,by simp[Cw,hu,C5]⟩
theorem EP.consD{n:Nat}{t:TypeId}{ts:List TypeId}{bs:List AV}(h:EP P n (t::ts) bs):∃a bs',bs=a::bs'/\ShV P n t a/\EP P n ts bs':=by
 cases bs with
 | nil=>exact h.elim
 | cons p ps=>exact⟨p,ps,rfl,h.1,h.2⟩
theorem EP.nilD{n:Nat}{bs:List AV}(h:EP P n [] bs):bs=[]:=by
 cases bs with
 | nil=>rfl
 | cons p ps=>exact h.elim
theorem trodAll_len{H:Type}{enc:TypeId×Value->H}{w:World}{base:Nat}{spare:Nat->Bool}{held:Bool}:∀{ts:List TypeId} {vs:List Value} {ds:List (DataW H)} {ps:List MemPlace},
  DataW.TrodAll enc P w base spare held ts vs ds ps->ds.length=ts.length:=by
 intro ts;induction ts with
 | nil=>intro vs ds ps h;cases vs<;>cases ds<;>simp_all [DataW.TrodAll]
 | cons t ts ih=>
  intro vs ds ps h;cases vs with
  | nil=>exact h.elim
  | cons v vs=>
   cases ds with
   | nil=>exact h.elim
   | cons d ds=>obtain⟨p,q,_,hr,_⟩:=h;simp[ih hr]
theorem list5{α:Type}{l:List α}(h:l.length=5):∃x0 x1 x2 x3 x4,l=[x0,x1,x2,x3,x4]:=
 match l,h with | [x0,x1,x2,x3,x4],_=>⟨_,_,_,_,_,rfl⟩
def wk1:AV->AV | .nils=>.lst [] | .lstc es=>.lst es | v=>v
def wkV:AV->AV | .nils=>.lst [] | .lstc es=>.lst es | .tup cs=>.tup (cs.map wk1) | v=>v
theorem VR.wk1{φ:Phi}{A:Nat->Prop}{w:World}{a:AV}{v:Value}(h:VR φ A w a v):VR φ A w (wk1 a) v:=by
 cases a<;>first | exact h | skip
 .cases h with
  | imm _ _ h=>cases h;exact .imm _ _ (.lnil none)
 .exact h.lstc_inv.choose_spec.2
theorem VR.wk{φ:Phi}{A:Nat->Prop}{w:World}{a:AV}{v:Value}(h:VR φ A w a v):VR φ A w (wkV a) v:=by
 cases a<;>first | exact h | skip
 .exact h.wk1
 .cases h with
  | imm _ _ h=>cases h
  | tup cs vs hl h=>
   refine .tup _ vs (by simpa using hl) fun i c v hc hv=>?_
   rw[TE] at hc;obtain⟨c',hc',rfl⟩:=Option.map_eq_some_iff.1 hc;exact(h i c' v hc' hv).wk1
 .exact h.wk1
theorem CT.wk{f:FuncId}{hin hout:List (Option Blk)}{args:List AV}{res:AV}(h:CT P f hin args hout res):CT P f hin args hout (wkV res):=by intro φ A w vs h1 h2 h3 h4 h5;refine(h φ A w vs h1 h2 h3 h4 h5).mono fun e w' ⟨v,φ',he,cp⟩=>⟨v,φ',he,{cp with val:=cp.val.wk}⟩
theorem CT.less{f:FuncId}{hin hout:List (Option Blk)}{args:List AV}{res res':AV}(h:CT P f hin args hout res)(hr:∀(φ:Phi) (A:Nat->Prop) (w:World) (v:Value),VR φ A w res v->VR φ A w res' v):CT P f hin args hout res':=by intro φ A w vs h1 h2 h3 h4 h5;refine(h φ A w vs h1 h2 h3 h4 h5).mono fun e w' ⟨v,φ',he,cp⟩=>⟨v,φ',he,{cp with val:=hr _ _ _ _ cp.val}⟩
theorem CT.to{f:FuncId}{hin hout:List (Option Blk)}{args args':List AV}{res res':AV}(h:CT P f hin args hout res)(ha:args=args')(hr:wkV res=res'):CT P f hin args' hout res':=by subst ha hr;exact h.wk
theorem CT.tos{f:FuncId}{hin hout:List (Option Blk)}{args args':List AV}{res res':AV}(h:CT P f hin args hout res)(ha:args=args')(hr:res=res'):CT P f hin args' hout res':=by subst ha hr;exact h
def IQ:List (Nat×AV)->List (Nat×AV) | []=>[] | (s,v)::r=>(s,wk1 v)::IQ r
theorem SD:∀(fr:List (Nat×AV)) (s:Nat),Ao (IQ fr) s=wk1 (Ao fr s):=by
 intro fr;induction fr with
 | nil=>intro s;rfl
 | cons x r ih=>
  intro s;obtain⟨t,v⟩:=x;simp only[IQ,Ao];split
  .rfl
  .exact ih s
abbrev iV (x : Int) : AV := .int .i64 x
abbrev uV (x : Int) : AV := .int .u64 x
abbrev bV (x : Bool) : AV := .bool x
abbrev bK (l : List AV) (z : Nat) : Blk := Blk.mk l z true true none
theorem nL {m n : Nat} (h : Nat.ble m n = true) : m <= n := TV h
def wkSt(st:St):St:={st with fr:=IQ st.fr}
theorem T.nil{m:Nat}{c:Code}{st:St}{post:Exit->St->Prop}(h:T P m c (wkSt st) post):T P m c st post:=by refine T.ren (st':=wkSt st) (fun A0 n0 φ a w hm hr=>⟨φ,⟨hr.defs,hr.size,fun s=>?_,hr.heap,hr.out,hr.base,hr.own⟩,hm,.refl m φ _ w⟩) h;show VR φ _ w (Ao (IQ st.fr) s) _;rw[SD];exact(hr.slot s).wk1
theorem CT.pathS{f:FuncId}{fn:Func}{c:Code}{hin hout:List (Option Blk)}{args:List AV}{res res':AV}{H:HT}{n:Nat}(hmix:P.follows .mixedOrders=true)(hf:P.funcs[f]?=some fn)(hb:fn.body=some c)(hn:args.length<=fn.ntmps) (h:∃o st' q,go P H hin.length n (.inl c) [] {n:=fn.ntmps,fr:=AI 0 args,hp:=hin}=some (o,st',q)/\q/\CB P hin.length (Fin P fn hin.length hout res) st' o) (hr:res=res'):CT P f hin args hout res':=(CT.path hmix hf hb hn h).tos rfl hr
theorem CT.pathW{f:FuncId}{fn:Func}{c:Code}{hin hout:List (Option Blk)}{args:List AV}{res res':AV}{H:HT}{n:Nat}(hmix:P.follows .mixedOrders=true)(hf:P.funcs[f]?=some fn)(hb:fn.body=some c)(hn:args.length<=fn.ntmps) (h:∃o st' q,go P H hin.length n (.inl c) [] {n:=fn.ntmps,fr:=AI 0 args,hp:=hin}=some (o,st',q)/\q/\CB P hin.length (Fin P fn hin.length hout res) st' o) (hr:wkV res=res'):CT P f hin args hout res':=(CT.path hmix hf hb hn h).to rfl hr
def BQ(post fin:Exit->St->Prop):Prop:=∀st,fin .ret st->post .ret st
theorem TK.ret{m:Nat}{post:Exit->St->Prop}{st:St}(h:post .ret st):∀k:List Kt,TK P m post k .ret st:=by
 intro k;induction k with
 | nil=>exact h
 | cons x k ih=>
  cases x with
  | code c=>exact ih
  | blk id=>exact ih
  | rnd c=>exact ih
def endT(P:Program)(fn:Func)(m:Nat)(σ fz:List Nat)(x:Option (Out×St×Prop)):Option (List (Option Blk)×AV×Prop):=
 match x with
 | some (.done .ret,_,_)=>endF P fn m σ fz x
 | _=>none
theorem CK{fn:Func}{m:Nat}{σ fz:List Nat}{x:Option (Out×St×Prop)}{hout:List (Option Blk)}{res:AV}{p:Prop}{post:Exit->St->Prop}(h:endT P fn m σ fz x=some (hout,res,p))(hp:p)(hP:BQ post (Fin P fn m hout res)):
  ∃o st q,x=some (o,st,q)/\q/\CB P m post st o:=by
 unfold endT at h;split at h
 case h_2=>cases h
 obtain⟨o,st,q,h1,h2,h3⟩:=zF h hp;cases h1;exact⟨_,_,_,rfl,h2,hP _ h3⟩
def Bj(c c':AV):Prop:=(c.one=true->c'.one=true)/\∀(φ:Phi) (A:Nat->Prop) (w:World) (v:Value),VR φ A w c v->VR φ A w c' v
theorem Bj.refl(c:AV):Bj c c:=⟨id,fun _ _ _ _ h=>h⟩
theorem Bj.nilL:Bj .nils (.lst []):=⟨fun _=>rfl,fun _ _ _ v h=>by rw[h.nils_inv];exact .imm _ _ (.lnil none)⟩
theorem Bj.nilS(b i:Nat):Bj .nils (.sl b i 0):=⟨fun _=>rfl,fun _ _ _ v h=>by rw[h.nils_inv];exact .slnil b i none⟩
theorem Bj.any{c:AV}(h:c.one=true):Bj c .any:=⟨fun _=>rfl,fun _ _ _ v hv=>.imm _ _ (.any v (hv.one h))⟩
theorem Bj.agg{cs cs':List AV}(hl:cs'.length=cs.length)(h:∀(i:Nat) (c':AV),cs'[i]?=some c'->∃c,cs[i]?=some c/\Bj c c'):Bj (.agg cs) (.agg cs'):=by
 refine⟨fun h0=>by simp[AV.one] at h0,fun φ A w v hv=>?_⟩;obtain⟨vs,rfl,hl2,hh⟩:=hv.agg_inv;refine .agg cs' vs (by omega) fun i c u hc hu=>?_
 obtain⟨c0,h1,h2⟩:=h i c hc;exact h2.2 φ A w u (hh i c0 u h1 hu)
structure Ca(blk blk':Blk):Prop where
 z:blk'.z=blk.z
 wr:blk'.wr=true->blk.wr=true
 mp:blk'.mp=blk.mp
 len:blk'.es.length<=blk.es.length
 el:∀(i:Nat) (e':AV),blk'.es[i]?=some e'->∃e:AV,blk.es[i]?=some e/\e'.cells.length=e.cells.length/\∀(j:Nat) (c':AV),e'.cells[j]?=some c'->∃c,e.cells[j]?=some c/\Bj c c'
 flat:blk'.flat=true->Cl blk'.es
 wr0:blk.es=[]->blk'.wr=blk.wr
theorem Ca.refl{blk:Blk}(hf:blk.flat=true->Cl blk.es):Ca blk blk:=⟨rfl,id,rfl,TF _,fun i e h=>⟨e,h,rfl,fun j c hc=>⟨c,hc,.refl c⟩⟩,hf,fun _=>rfl⟩
theorem Ren.less{m:Nat}{st st':St}(hn:st'.n=st.n)(hl:st.hp.length<=st'.hp.length)(hfr:∀s,Bj (Ao st.fr s) (Ao st'.fr s))
  (hhp:∀(b:Nat) (blk':Blk),nth st'.hp b=some blk'->(b<st.hp.length/\∃blk,nth st.hp b=some blk/\((blk'=blk)\/Ca blk blk'))\/(st.hp.length<=b/\blk'.es=[]/\blk'.wr=true/\blk'.mp=none/\blk'.flat=true)):Ren m st st':=by
 intro A0 n0 φ a w hm hr;have hmut:∀r,Mut φ st'.h r->Mut φ st.h r:=by
  rintro r ⟨b,blk',z,h1,h2,h3⟩
  rcases hhp b blk' h1 with ⟨_,blk,h4,h5⟩ | ⟨hb,_⟩
  .rcases h5 with rfl | h5
   .exact⟨b,_,z,h4,h2,h3⟩
   .exact⟨b,blk,z,h4,h5.wr h2,h3⟩
  .rw[hr.out b hb] at h3;cases h3
 have hok:∀r,Ok A0 n0 φ st.h w r->Ok A0 n0 φ st'.h w r:=fun r ⟨h1,h2,h3⟩=>⟨h1,h2,fun h=>h3 (hmut r h)⟩
 have mono:∀{c:AV} {v:Value},VR φ (Ok A0 n0 φ st.h w) w c v->VR φ (Ok A0 n0 φ st'.h w) w c v:=fun h=>h.mono (fun _ _ h=>h) hok (fun _ _=>rfl) (fun _=>TF _)
 refine⟨φ,⟨hr.defs,by rw[hn];exact hr.size,fun s=>mono ((hfr s).2 _ _ _ _ (hr.slot s)),⟨fun b blk' hb=>?_,fun b blk' hb hf=>?_,fun b b' r z z' hb hb' h1 h2=>?_⟩,fun b hb=>hr.out b (by omega),hr.base,hr.own⟩,by omega,fun _ _=>rfl,B6.refl _ w,fun r h=>.inl (hmut r h)⟩
 .rcases hhp b blk' hb with ⟨_,blk,h4,h5⟩ | ⟨hb0,h6,h7,h8,_⟩
  .have hbr:=hr.heap.blk b blk h4;have hb2:Ca blk blk'\/blk'=blk:=h5.elim .inr .inl;rcases hbr with ⟨h1,h2,h3,h3'⟩ | ⟨r,cs,T,h1,h2,h3,h5'⟩ | ⟨mm,r,h1,h2,h3,h5'⟩
   .rcases hb2 with g | rfl
    .exact .inl ⟨List.length_eq_zero_iff.1 (by have:=g.len;rw[h1] at this;simpa using this),h2,by rw[g.wr0 h1];exact h3,by rw[g.mp];exact h3'⟩
    .exact .inl ⟨h1,h2,h3,h3'⟩
   .rcases hb2 with g | rfl
    .refine .inr (.inl ⟨r,cs,T,by rw[g.z];exact h1,h2,⟨by rw[g.z];exact Uc (TM _ g.len) h3.1,by rw[g.mp];exact h3.2⟩,fun i e' he'=>?_⟩);obtain⟨e,k1,k2,k3⟩:=g.el i e' he';obtain⟨k4,k5⟩:=h5' i e k1;refine⟨by rw[k2,g.z];exact k4,fun j c' hc'=>?_⟩;obtain⟨c,k6,k7⟩:=k3 j c' hc';obtain⟨k8,v,k9,k10⟩:=k5 j c k6;exact⟨k7.1 k8,v,by rw[g.z];exact k9,mono (k7.2 _ _ _ _ k10)⟩
    .refine .inr (.inl ⟨r,cs,T,h1,h2,h3,fun i e he=>⟨(h5' i e he).1,fun j c hc=>?_⟩⟩);obtain⟨g3,v,g4,g5⟩:=(h5' i e he).2 j c hc;exact⟨g3,v,g4,mono g5⟩
   .rcases hb2 with g | rfl
    .exact .inr (.inr ⟨mm,r,by rw[g.mp];exact h1,by rw[g.z];exact h2,⟨List.length_eq_zero_iff.1 (by have:=g.len;rw[h3.1] at this;simpa using this),by rw[g.z];exact h3.2⟩,h5'⟩)
    .exact .inr (.inr ⟨mm,r,h1,h2,h3,h5'⟩)
  .exact .inl ⟨h6,hr.out b hb0,h7,h8⟩
 .rcases hhp b blk' hb with ⟨_,blk,h4,h5⟩ | ⟨_,h6,_⟩
  .rcases h5 with rfl | h5
   .exact hr.heap.flat b _ h4 hf
   .exact h5.flat hf
  .rw[h6];intro e he;cases he
 .have lt:∀b r z,(st'.h b).isSome=true->φ b=some (r,z)->(st.h b).isSome=true:=by
   intro b r z hs hp;obtain⟨blk',hb'⟩:=Option.isSome_iff_exists.1 hs;rcases hhp b blk' hb' with ⟨_,blk,h4,_⟩ | ⟨hb0,_⟩
   .exact Option.isSome_iff_exists.2 ⟨blk,h4⟩
   .rw[hr.out b hb0] at hp;cases hp
  exact hr.heap.inj b b' r z z' (lt b r z hb h1) (lt b' r z' hb' h2) h1 h2
theorem T.less{m:Nat}{c:Code}{st st':St}{post:Exit->St->Prop}(hr:Ren m st st')(h:T P m c st' post):T P m c st post:=T.ren hr h
theorem Ca.br{φ:Phi}{A:Nat->Prop}{w:World}{b:Nat}{blk blk':Blk}(g:Ca blk blk')(h:BR φ A w b blk):BR φ A w b blk':=by
 rcases h with ⟨h1,h2,h3,h3'⟩ | ⟨r,cs,T,h1,h2,h3,h5'⟩ | ⟨mm,r,h1,h2,h3,h5'⟩
 .exact .inl ⟨List.length_eq_zero_iff.1 (by have:=g.len;rw[h1] at this;simpa using this),h2,by rw[g.wr0 h1];exact h3,by rw[g.mp];exact h3'⟩
 .refine .inr (.inl ⟨r,cs,T,by rw[g.z];exact h1,h2,⟨by rw[g.z];exact Uc (TM _ g.len) h3.1,by rw[g.mp];exact h3.2⟩,fun i e' he'=>?_⟩);obtain⟨e,k1,k2,k3⟩:=g.el i e' he';obtain⟨k4,k5⟩:=h5' i e k1;refine⟨by rw[k2,g.z];exact k4,fun j c' hc'=>?_⟩;obtain⟨c,k6,k7⟩:=k3 j c' hc';obtain⟨k8,v,k9,k10⟩:=k5 j c k6;exact⟨k7.1 k8,v,by rw[g.z];exact k9,k7.2 _ _ _ _ k10⟩
 .exact .inr (.inr ⟨mm,r,by rw[g.mp];exact h1,by rw[g.z];exact h2,⟨List.length_eq_zero_iff.1 (by have:=g.len;rw[h3.1] at this;simpa using this),by rw[g.z];exact h3.2⟩,h5'⟩)
theorem CT.lessOut{f:FuncId}{hin hout hout':List (Option Blk)}{args:List AV}{res:AV}(h:CT P f hin args hout res)(hl:hout'.length=hout.length)
  (hb:∀(b:Nat) (blk':Blk),nth hout' b=some blk'->∃blk,nth hout b=some blk/\Ca blk blk'/\blk'.wr=blk.wr):CT P f hin args hout' res:=by
 intro φ A w vs h1 h2 h3 h4 h5;refine(h φ A w vs h1 h2 h3 h4 h5).mono fun e w' ⟨v,φ',he,C⟩=>⟨v,φ',he,?_⟩
 have hmut:∀r,Mut φ' (nth hout') r->Mut φ' (nth hout) r:=by
  rintro r ⟨b,blk',z,g1,g2,g3⟩
  obtain⟨blk,g4,g5,_⟩:=hb b blk' g1;exact⟨b,blk,z,g4,g5.wr g2,g3⟩
 have hok:∀r,Ok A w.heap.size φ' (nth hout) w' r->Ok A w.heap.size φ' (nth hout') w' r:=fun r ⟨g1,g2,g3⟩=>⟨g1,g2,fun h=>g3 (hmut r h)⟩
 have mono:∀{c:AV} {u:Value},VR φ' (Ok A w.heap.size φ' (nth hout) w') w' c u->VR φ' (Ok A w.heap.size φ' (nth hout') w') w' c u:=fun h=>h.mono (fun _ _ h=>h) hok (fun _ _=>rfl) (fun _=>TF _)
 have brm:∀{b:Nat} {blk:Blk},BR φ' (Ok A w.heap.size φ' (nth hout) w') w' b blk->BR φ' (Ok A w.heap.size φ' (nth hout') w') w' b blk:=by
  rintro b blk (h1 | ⟨r,cs,T,h1,h2,h3,h5⟩ | h1)
  .exact .inl h1
  .refine .inr (.inl ⟨r,cs,T,h1,h2,h3,fun i e he=>⟨(h5 i e he).1,fun j c hc=>?_⟩⟩);obtain⟨g3,v,g4,g5⟩:=(h5 i e he).2 j c hc;exact⟨g3,v,g4,mono g5⟩
  .exact .inr (.inr h1)
 have hsome:∀b,(nth hout' b).isSome=true->(nth hout b).isSome=true:=by intro b hs;obtain⟨blk',hb'⟩:=Option.isSome_iff_exists.1 hs;obtain⟨blk,g,_⟩:=hb b blk' hb';exact Option.isSome_iff_exists.2 ⟨blk,g⟩
 refine⟨C.par,C.keep,fun r hr=>C.mutd r (hmut r hr),⟨fun b blk' hb'=>?_,fun b blk' hb' hf=>?_,fun b b' r z z' hs hs'=>C.heap.inj b b' r z z' (hsome b hs) (hsome b' hs')⟩,mono C.val,fun b hb'=>C.out b (by omega),by rw[hl];exact C.len,C.own⟩
 .obtain⟨blk,g1,g2,_⟩:=hb b blk' hb';exact brm (g2.br (C.heap.blk b blk g1))
 .obtain⟨blk,g1,g2,_⟩:=hb b blk' hb';exact g2.flat hf
theorem CT.lessArgs{f:FuncId}{hin hout:List (Option Blk)}{args args':List AV}{res:AV}(h:CT P f hin args' hout res)(hl:args'.length=args.length)(ha:∀(i:Nat) (a':AV),args'[i]?=some a'->∃a,args[i]?=some a/\Bj a a'):CT P f hin args hout res:=by
 intro φ A w vs h1 h2 h3 h4 h5;refine h φ A w vs h1 h2 h3 (by omega) fun i c v hc hv=>?_
 obtain⟨a,g1,g2⟩:=ha i c hc;exact g2.2 φ A w v (h5 i a v g1 hv)
def onH(f:Blk->Blk):Nat->List (Option Blk)->List (Option Blk) | _,[]=>[] | 0,some blk::r=>some (f blk)::r | 0,none::r=>none::r | b+1,x::r=>x::onH f b r
theorem Hw(f:Blk->Blk):∀(hp:List (Option Blk)) (b b':Nat),nth (onH f b hp) b'=if b'=b then (nth hp b').map f else nth hp b':=by
 intro hp;induction hp with
 | nil=>intro b b';simp[onH,nth]
 | cons x r ih=>
  intro b b';cases b with
  | zero=>cases b'<;>cases x<;>simp[onH,nth]
  | succ b=>
   cases b' with
   | zero=>simp[onH,nth]
   | succ b'=>simp[onH,nth,ih b b']
theorem Oc(f:Blk->Blk):∀(hp:List (Option Blk)) (b:Nat),(onH f b hp).length=hp.length:=by
 intro hp;induction hp with
 | nil=>intro b;cases b<;>rfl
 | cons x r ih=>intro b;cases b<;>cases x<;>simp[onH,ih]
theorem Mut_onH{f:Blk->Blk}(hf:∀blk,(f blk).wr=blk.wr){φ:Phi}{hp:List (Option Blk)}{b r:Nat}:Mut φ (nth (onH f b hp)) r↔Mut φ (nth hp) r:=by
 constructor
 .rintro⟨b',blk,z,h1,h2,h3⟩
  rw[Hw] at h1;split at h1
  .obtain⟨blk',h4,rfl⟩:=Option.map_eq_some_iff.1 h1;exact⟨b',blk',z,h4,by rw[<-hf];exact h2,h3⟩
  .exact⟨b',blk,z,h1,h2,h3⟩
 .rintro⟨b',blk,z,h1,h2,h3⟩
  by_cases hb:b'=b
  .exact⟨b',f blk,z,by rw[Hw,Ts hb,h1];rfl,by rw[hf];exact h2,h3⟩
  .exact⟨b',blk,z,by rw[Hw,Tt hb];exact h1,h2,h3⟩
def D5(blk:Blk):Blk:=match blk.es with
 | [.agg cs]=>{blk with es:=cs,z:=1}
 | _=>blk
def Fs(b:Nat)(v:AV):AV:=match v with
 | .ptr b' i j=>match Nat.beq b' b,i with
  | false,_=>v
  | true,0=>.ptr b j 0
  | true,_=>.unk
 | .sl b' _ _=>match Nat.beq b' b with
  | false=>v
  | true=>.unk
 | .agg cs=>match BE cs with
  | true=>v
  | false=>.unk
 | .tup cs=>match BE cs with
  | true=>v
  | false=>.unk
 | .fn _ _=>.unk
 | .map b'=>match Nat.beq b' b with
  | false=>v
  | true=>.unk
 | v=>v
def Ic(b:Nat):List (Nat×AV)->List (Nat×AV) | []=>[] | (s,v)::r=>(s,Fs b v)::Ic b r
theorem RM(b:Nat):∀(fr:List (Nat×AV)) (s:Nat),Ao (Ic b fr) s=Fs b (Ao fr s):=by
 intro fr;induction fr with
 | nil=>intro s;rfl
 | cons x r ih=>
  intro s;obtain⟨t,v⟩:=x;simp only[Ic,Ao];split
  .rfl
  .exact ih s
def EV(b:Nat)(st:St):St:={st with fr:=Ic b st.fr,hp:=onH D5 b st.hp}
def I2(hp:List (Option Blk)):Bool:=hp.all fun x=>match x with | some blk=>blk.flat | none=>true
def MD(hp:List (Option Blk))(b:Nat):Bool:=match nth hp b with
 | some blk=>match blk.es with
  | [.agg _]=>true
  | _=>false
 | none=>false
theorem Qn:∀{hp:List (Option Blk)},I2 hp=true->∀b blk,nth hp b=some blk->blk.flat=true:=by
 intro hp;induction hp with
 | nil=>intro _ b blk h;cases b<;>cases h
 | cons x r ih=>
  intro h b blk hb;simp only[I2,List.all_cons,TC] at h;cases b with
  | zero=>simp[nth] at hb;subst hb;exact h.1
  | succ b=>exact ih h.2 b blk (by simpa [nth] using hb)
theorem VR.noref_any{φ φ':Phi}{A A':Nat->Prop}{w:World}{c:AV}{v:Value}(h:VR φ A w c v)(hn:c.noref=true)(hA:∀r,A r->A' r):VR φ' A' w c v:=.imm _ _ ((h.noref_rt hn).mono hA (fun _ _=>rfl))
theorem Ren.flat(m b:Nat)(st:St)(hmb:m<=b)(hf:I2 st.hp=true)(ha:MD st.hp b=true):Ren m st (EV b st):=by
 intro A0 n0 φ a w hm hr;let φ':Phi:=fun x=>if x=b then (φ x).map (fun p=>(p.1,1)) else φ x
 have hwr:∀blk,(D5 blk).wr=blk.wr:=by intro blk;unfold D5;split<;>rfl
 have hmut:∀r,Mut φ' (nth (onH D5 b st.hp)) r↔Mut φ (nth st.hp) r:=by
  intro r;rw[Mut_onH hwr];constructor
  .rintro⟨b',blk,z,h1,h2,h3⟩
   simp only[φ'] at h3;split at h3
   .obtain⟨p,h4,h5⟩:=Option.map_eq_some_iff.1 h3;simp only[Ti] at h5;exact⟨b',blk,p.2,h1,h2,by rw[h4,<-h5.1]⟩
   .exact⟨b',blk,z,h1,h2,h3⟩
  .rintro⟨b',blk,z,h1,h2,h3⟩
   by_cases hb:b'=b
   .exact⟨b',blk,1,h1,h2,by simp only[φ'];rw[Ts hb,h3];rfl⟩
   .exact⟨b',blk,z,h1,h2,by simp only[φ'];rw[Tt hb];exact h3⟩
 have hok:∀r,Ok A0 n0 φ st.h w r->Ok A0 n0 φ' (EV b st).h w r:=fun r ⟨h1,h2,h3⟩=>⟨h1,h2,fun h=>h3 ((hmut r).1 h)⟩
 have hne:∀x,x≠b->φ' x=φ x:=fun x hx=>by simp only[φ'];rw[Tt hx]
 have vr:∀{v:AV} {u:Value},VR φ (Ok A0 n0 φ st.h w) w v u->VR φ' (Ok A0 n0 φ' (EV b st).h w) w (Fs b v) u:=by
  intro v u h;cases v with
  | ptr b' i j=>
   simp only[Fs];cases hbb:Nat.beq b' b with
   | false=>
    obtain⟨r,z,h1,rfl⟩:=h.ptr_inv;have:b'≠b:=fun e=>by subst e;rw[Nat.beq_refl] at hbb;cases hbb
    exact .ptr b' i j r z (by rw[hne b' this];exact h1)
   | true=>
    have:=TB hbb;subst this;obtain⟨r,z,h1,rfl⟩:=h.ptr_inv;cases i with
    | zero=>have:=VR.ptr (φ:=φ') (A:=Ok A0 n0 φ' (EV b' st).h w) (w:=w) b' j 0 r 1 (by simp only[φ'];rw[h1];rfl);simpa using this
    | succ i=>exact .imm _ _ (.unk _)
  | sl b' i n=>
   simp only[Fs];cases hbb:Nat.beq b' b with
   | false=>
    have:b'≠b:=fun e=>by subst e;rw[Nat.beq_refl] at hbb;cases hbb
    rcases h.sl_inv with ⟨rfl,a,rfl⟩ | ⟨r,z,cap,h1,h2,h3,rfl⟩
    .exact .slnil b' i a
    .exact .sl b' i n r z cap (by rw[hne b' this];exact h1) h2 h3
   | true=>exact .imm _ _ (.unk _)
  | agg cs=>
   simp only[Fs];cases hn:BE cs with
   | false=>exact .imm _ _ (.unk _)
   | true=>obtain⟨us,rfl,hl,hh⟩:=h.agg_inv;exact .agg cs us hl fun i c v hc hv=>(hh i c v hc hv).noref_any (TI.1 hn c (Ty hc)) hok
  | tup cs=>
   simp only[Fs];cases hn:BE cs with
   | false=>exact .imm _ _ (.unk _)
   | true=>obtain⟨us,rfl,hl,hh⟩:=h.tup_inv;exact .tup cs us hl fun i c v hc hv=>(hh i c v hc hv).noref_any (TI.1 hn c (Ty hc)) hok
  | fn f cs=>exact .imm _ _ (.unk _)
  | map b'=>
   simp only[Fs];cases hbb:Nat.beq b' b with
   | false=>
    have:b'≠b:=fun e=>by subst e;rw[Nat.beq_refl] at hbb;cases hbb
    obtain⟨r,z,h1,rfl⟩:=h.map_inv;exact .map b' r z (by rw[hne b' this];exact h1)
   | true=>exact .imm _ _ (.unk _)
  | _=>exact h.noref_any rfl hok
 have cellV:∀{b':Nat} {blk:Blk},nth st.hp b'=some blk->∀{e c:AV} {u:Value},e∈blk.es->c∈e.cells->VR φ (Ok A0 n0 φ st.h w) w c u->VR φ' (Ok A0 n0 φ' (EV b st).h w) w c u:=by intro b' blk hb e c u he hc h;exact h.noref_any (hr.heap.flat b' blk hb (Qn hf b' blk hb) e he c hc) hok
 refine⟨φ',⟨hr.defs,hr.size,fun s=>?_,?_,fun b' hb=>?_,hr.base,fun b' r z hb h1=>?_⟩,by simpa [EV,Oc] using hm,fun b' hb=>?_,B6.refl _ w,fun r h=>.inl ((hmut r).1 h)⟩
 .show VR φ' _ w (Ao (Ic b st.fr) s) _;rw[RM];exact vr (hr.slot s)
 .refine⟨fun b' blk hb=>?_,fun b' blk hb hfl=>?_,fun b1 b2 r z z' h1 h2 g1 g2=>?_⟩
  .change nth (onH D5 b st.hp) b'=some blk at hb;rw[Hw] at hb;split at hb
   .rename_i hbb;subst hbb;obtain⟨blk',h4,rfl⟩:=Option.map_eq_some_iff.1 hb;have hes:∃cs,blk'.es=[.agg cs]:=by
     unfold MD at ha;rw[h4] at ha;simp only at ha;split at ha
     .rename_i cs he;exact⟨cs,he⟩
     .cases ha
    obtain⟨cs,hes⟩:=hes;have hfb:D5 blk'={blk' with es:=cs,z:=1}:=by unfold D5;rw[hes]
    rw[hfb];rcases hr.heap.blk b' blk' h4 with ⟨h1,_⟩ | ⟨r,cells,T,h1,h2,⟨h3,hmp⟩,h5⟩ | ⟨_,_,_,_,⟨h1,_⟩,_⟩
    .rw[hes] at h1;cases h1
    case inr.inr=>rw[hes] at h1;cases h1
    .obtain⟨g1,g2⟩:=h5 0 (.agg cs) (by rw[hes];rfl);simp only[AV.cells] at g1 g2;refine .inr (.inl ⟨r,cells,T,by simp only[φ'];rw[h1];rfl,h2,⟨?_,hmp⟩,fun i c hc=>?_⟩)
     .simp only[Nat.mul_one];rw[hes] at h3;simp only[T9,Nat.one_mul] at h3;omega
     .obtain⟨g3,u,g4,g5⟩:=g2 i c hc;have hcc:=KU g3;refine⟨by rw[hcc];rfl,fun j c' hj=>?_⟩;rw[hcc] at hj;match j,hj with
      | 0,hj=>simp at hj;subst hj;refine⟨g3,u,by simpa using g4,?_⟩;exact cellV h4 (e:=.agg cs) (by rw[hes];simp) (Ty hc) g5
   .rename_i hbb;rcases hr.heap.blk b' blk hb with ⟨h1,h2,h3⟩ | ⟨r,cells,T,h1,h2,h3,h5⟩ | ⟨m,r,h1,h2,h3,h5⟩
    .exact .inl ⟨h1,by rw[hne b' hbb];exact h2,h3⟩
    case inr.inr=>exact .inr (.inr ⟨m,r,h1,by rw[hne b' hbb];exact h2,h3,h5⟩)
    .refine .inr (.inl ⟨r,cells,T,by rw[hne b' hbb];exact h1,h2,h3,fun i e he=>⟨(h5 i e he).1,fun j c hc=>?_⟩⟩);obtain⟨g3,u,g4,g5⟩:=(h5 i e he).2 j c hc;exact⟨g3,u,g4,cellV hb (Ty he) (Ty hc) g5⟩
  .change nth (onH D5 b st.hp) b'=some blk at hb;rw[Hw] at hb;split at hb
   .obtain⟨blk',h4,rfl⟩:=Option.map_eq_some_iff.1 hb;have hno:=hr.heap.flat b' blk' h4 (Qn hf b' blk' h4);have h5:=hr.heap.blk b' blk' h4;intro e he c hc;unfold D5 at he;split at he
    .rename_i cs hes;simp only at he;rcases h5 with ⟨h1,_⟩ | ⟨r,cells,T,h1,h2,h3,h5⟩ | ⟨_,_,_,_,⟨h1,_⟩,_⟩
     .rw[hes] at h1;cases h1
     case inr.inr=>rw[hes] at h1;cases h1
     .obtain⟨i,hi⟩:=List.getElem?_of_mem he;obtain⟨g3,_⟩:=(h5 0 (.agg cs) (by rw[hes];rfl)).2 i e hi;rw[KU g3] at hc;simp at hc;subst hc;exact hno (.agg cs) (by rw[hes];simp) c he
    .exact hno e he c hc
   .exact hr.heap.flat b' blk hb hfl
  .have up:∀x r z,φ' x=some (r,z)->∃z',φ x=some (r,z'):=by
    intro x r z h;simp only[φ'] at h;split at h
    .obtain⟨p,h4,h5⟩:=Option.map_eq_some_iff.1 h;simp only[Ti] at h5;exact⟨p.2,by rw[h4,<-h5.1]⟩
    .exact⟨z,h⟩
   have iss:∀x,(nth (onH D5 b st.hp) x).isSome=true->(nth st.hp x).isSome=true:=by intro x h;rw[Hw] at h;split at h<;>simpa using h
   obtain⟨z1,k1⟩:=up b1 r z g1;obtain⟨z2,k2⟩:=up b2 r z' g2;exact hr.heap.inj b1 b2 r z1 z2 (iss b1 h1) (iss b2 h2) k1 k2
 .have h0:=hr.out b' (by simpa [EV,Oc] using hb);simp only[φ'];split
  .rw[h0];rfl
  .exact h0
 .simp only[φ'] at h1;split at h1
  .obtain⟨p,h4,h5⟩:=Option.map_eq_some_iff.1 h1;simp only[Ti] at h5;exact hr.own b' r p.2 hb (by rw[h4,<-h5.1])
  .exact hr.own b' r z hb h1
 .exact hne b' (by omega)
end Go.AX

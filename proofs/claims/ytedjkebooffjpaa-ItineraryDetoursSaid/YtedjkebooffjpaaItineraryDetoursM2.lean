/- Parts of the proof:AxT,AxU,AxMp,AxSt,AxMv,AxIm,AxAz,AxCl,AxV,AxW,AxX,AxY,AxZ,AxZa,AxBr. -/
import Derived.MapKept
import Derived.Lib.ConvBytes
import Derived.Laws.IdiomStrings
import Derived.Laws.Strings
import Derived.Below
import Derived.OpenShut
import Derived.ChangeOld
import Derived.Test.YtedjkebooffjpaaItineraryDetoursM1
set_option linter.unusedVariables false
set_option linter.unusedSimpArgs false
open Go.IntKind (i64 u64)
namespace Go.AX
variable {P:Program}
inductive AG where | no | el (e:AV) | call (σ fz:List Nat) (outs:List Blk) (res:AV)
def unB(P:Program)(t:TypeId):Bool:=match P.underlying t with | some .bool=>true | _=>false
def unI(P:Program)(t:TypeId):Option IntKind:=match P.underlying t with | some (.int k)=>some k | _=>none
def unS(P:Program)(t:TypeId):Bool:=match P.underlying t with | some .string=>true | _=>false
def unL(P:Program)(t:TypeId):Bool:=match P.underlying t with | some (.slice _)=>true | _=>false
def unA(P:Program)(t:TypeId):Option Nat:=match P.underlying t with | some (.array n _)=>some n | _=>none
def unK(P:Program)(t:TypeId):Bool:=match P.underlying t with | some _=>true | _=>false
def vOp(v:AV):Option (OpR×Prop):=some ({v},True)
def aBin(P:Program)(op:BinOp)(t:TypeId)(x y:AV):Option (OpR×Prop):=
 match x,y with
 | .int k a,.int k' b=>
  match op with
  | .shl=>some ({v:=.int k (k.wrap (a * 2 ^ min b.toNat k.bits))},0<=b)
  | .shr=>some ({v:=.int k (a.fdiv (2 ^ min b.toNat k.bits))},0<=b)
  | op=>match decide (k=k') with
  | true=>match op with
   | .quo=>some ({v:=.int k (k.wrap (a.tdiv b))},b≠0)
   | .rem=>some ({v:=.int k (a.tmod b)},b≠0)
   | op=>match binI op k a b with | some v=>vOp v | none=>none
  | false=>none
 | .bool a,.bool b=>match unB P t,op with
  | true,.eql=>vOp (.bool (a==b))
  | true,.neq=>vOp (.bool (!(a==b)))
  | _,_=>none
 | .str a,.str b=>match op with
  | .eql=>vOp (.bool (a.toList==b.toList))
  | .neq=>vOp (.bool (!(a.toList==b.toList)))
  | .lss=>vOp (.bool (Op.bytesLess a.toList b.toList))
  | .add=>some ({v:=.str (a++b)},a.size+b.size<=9223372036854775807)
  | _=>none
 | .agg xs,.agg ys=>match eqA P 60 t (.agg xs) (.agg ys),P.eqGuardType P.depth t,op with
  | some b,false,.eql=>vOp (.bool b)
  | some b,false,.neq=>vOp (.bool (!b))
  | _,_,_=>none
 | .nils,.nils=>match unL P t,op with
  | true,.eql=>vOp (.bool true)
  | true,.neq=>vOp (.bool (!true))
  | _,_=>none
 | .lst es,.nils=>match unL P t,op with
  | true,.eql=>some ({v:=.bool false},es≠[])
  | true,.neq=>some ({v:=.bool (!false)},es≠[])
  | _,_=>none
 | .sl _ _ n,.nils=>match unL P t,op with
  | true,.eql=>some ({v:=.bool false},n≠0)
  | true,.neq=>some ({v:=.bool (!false)},n≠0)
  | _,_=>none
 | _,_=>none
theorem OpR.fits_value(v:AV)(h:Hp):OpR.fits {v} h:=⟨fun b blk hm=>by simp at hm,fun b hm=>by simp at hm⟩
theorem Q7{o:Oper}{ev:Operand->AV}{h:Hp}{nb:Nat}{op:BinOp}{t t':TypeId}{x y:Operand}{R:OpR}{p:Prop}
  (ho:o.op = .binOp op t x y t') (hr:aBin P op t (ev x) (ev y)=some (R,p)) (hp:p):Au P o ev h nb R/\R.fits h/\R.dead=[]:=by
 generalize hx:ev x=u at hr;generalize hy:ev y=v at hr;unfold aBin at hr;split at hr
 .rename_i k a k' b;split at hr
  .cases hr;exact⟨N3 ho hx hy hp (.inl ⟨rfl,rfl⟩),OpR.fits_value _ _,rfl⟩
  .cases hr;exact⟨N3 ho hx hy hp (.inr ⟨rfl,rfl⟩),OpR.fits_value _ _,rfl⟩
  split at hr
  .rename_i hk;have hk:=of_decide_eq_true hk;subst hk;split at hr
   .cases hr;exact⟨PO ho hx hy hp (.inl ⟨rfl,rfl⟩),OpR.fits_value _ _,rfl⟩
   .cases hr;exact⟨PO ho hx hy hp (.inr ⟨rfl,rfl⟩),OpR.fits_value _ _,rfl⟩
   .split at hr
    .rename_i w hw;cases hr;exact⟨ok_binI ho hx hy hw,OpR.fits_value _ _,rfl⟩
    .cases hr
  .cases hr
 .split at hr
  .rename_i hu;cases hr;refine⟨PK ho hx hy ?_ (.inl ⟨rfl,rfl⟩),OpR.fits_value _ _,rfl⟩;unfold unB at hu;split at hu
   .assumption
   .cases hu
  .rename_i hu;cases hr;refine⟨PK ho hx hy ?_ (.inr ⟨rfl,rfl⟩),OpR.fits_value _ _,rfl⟩;unfold unB at hu;split at hu
   .assumption
   .cases hu
  .cases hr
 .split at hr
  .cases hr;exact⟨Ju ho hx hy (.inl ⟨rfl,rfl⟩),OpR.fits_value _ _,rfl⟩
  .cases hr;exact⟨Ju ho hx hy (.inr (.inl ⟨rfl,rfl⟩)),OpR.fits_value _ _,rfl⟩
  .cases hr;exact⟨Ju ho hx hy (.inr (.inr (.inl ⟨rfl,rfl⟩))),OpR.fits_value _ _,rfl⟩
  .cases hr;exact⟨Ju ho hx hy (.inr (.inr (.inr ⟨rfl,hp,rfl⟩))),OpR.fits_value _ _,rfl⟩
  .cases hr
 .split at hr
  .rename_i hb hg;cases hr;exact⟨NU ho hx hy hb (by omega) hg (.inl ⟨rfl,rfl⟩),OpR.fits_value _ _,rfl⟩
  .rename_i hb hg;cases hr;exact⟨NU ho hx hy hb (by omega) hg (.inr ⟨rfl,rfl⟩),OpR.fits_value _ _,rfl⟩
  .cases hr
 all_goals
  have hsl:unL P t=true->∃e,P.underlying t=some (.slice e):=by
   intro hu;unfold unL at hu;split at hu
   .rename_i e he;exact⟨e,he⟩
   .cases hu
 .split at hr
  .rename_i hu;cases hr;obtain⟨e,he⟩:=hsl hu;exact⟨Hm ho he hy (.inl ⟨hx,rfl⟩) (.inl ⟨rfl,rfl⟩),OpR.fits_value _ _,rfl⟩
  .rename_i hu;cases hr;obtain⟨e,he⟩:=hsl hu;exact⟨Hm ho he hy (.inl ⟨hx,rfl⟩) (.inr ⟨rfl,rfl⟩),OpR.fits_value _ _,rfl⟩
  .cases hr
 .split at hr
  .rename_i hu;cases hr;obtain⟨e,he⟩:=hsl hu;exact⟨Hm ho he hy (.inr (.inl ⟨rfl,_,hx,hp⟩)) (.inl ⟨rfl,rfl⟩),OpR.fits_value _ _,rfl⟩
  .rename_i hu;cases hr;obtain⟨e,he⟩:=hsl hu;exact⟨Hm ho he hy (.inr (.inl ⟨rfl,_,hx,hp⟩)) (.inr ⟨rfl,rfl⟩),OpR.fits_value _ _,rfl⟩
  .cases hr
 .split at hr
  .rename_i hu;cases hr;obtain⟨e,he⟩:=hsl hu;exact⟨Hm ho he hy (.inr (.inr ⟨rfl,_,_,_,hx,hp⟩)) (.inl ⟨rfl,rfl⟩),OpR.fits_value _ _,rfl⟩
  .rename_i hu;cases hr;obtain⟨e,he⟩:=hsl hu;exact⟨Hm ho he hy (.inr (.inr ⟨rfl,_,_,_,hx,hp⟩)) (.inr ⟨rfl,rfl⟩),OpR.fits_value _ _,rfl⟩
  .cases hr
 .cases hr
def LN(P:Program)(t:TypeId)(x:AV)(hp:List (Option Blk))(hint:AG):Option (OpR×Prop):=
 match x,tsz P t with
 | .ptr b i j,some (s,ag)=>
  match nth hp b with
  | some blk=>
   match hint with
   | .el e=>match Nat.beq ((e.cells.drop j).take s).length s,mkV ag ((e.cells.drop j).take s) with
    | true,some v=>some ({v},blk.es[i]?=some e)
    | _,_=>none
   | _=>match blk.es[i]? with
    | some e=>match Nat.beq ((e.cells.drop j).take s).length s,mkV ag ((e.cells.drop j).take s) with
     | true,some v=>vOp v
     | _,_=>none
    | none=>none
  | none=>none
 | .iptr cs,some (s,ag)=>match Nat.beq (cs.take s).length s,mkV ag (cs.take s) with
  | true,some v=>vOp v
  | _,_=>none
 | _,_=>none
theorem Rs{o:Oper}{ev:Operand->AV}{hp:List (Option Blk)}{nb:Nat}{t:TypeId}{x:Operand}{hint:AG}{R:OpR}{p:Prop}
  (ho:o.op = .load t x) (hr:LN P t (ev x) hp hint=some (R,p)) (hpp:p):Au P o ev (nth hp) nb R/\R.fits (nth hp)/\R.dead=[]:=by
 generalize hx:ev x=u at hr;unfold LN at hr;split at hr
 .rename_i b i j s ag ht;split at hr
  case h_2=>cases hr
  rename_i blk hb;split at hr
  .rename_i e;split at hr
   .rename_i v hl hm;cases hr;exact⟨Lf ho hx hb hpp ht (TE hl) hm,OpR.fits_value _ _,rfl⟩
   .cases hr
  .split at hr
   case h_2=>cases hr
   rename_i e he;split at hr
   .rename_i v hl hm;cases hr;exact⟨Lf ho hx hb he ht (TE hl) hm,OpR.fits_value _ _,rfl⟩
   .cases hr
 .rename_i cs s ag ht;split at hr
  .rename_i v hl hm;cases hr;exact⟨Rf ho hx ht (TE hl) hm,OpR.fits_value _ _,rfl⟩
  .cases hr
 .cases hr
def KA(P:Program)(t:TypeId)(x y:AV)(hp:List (Option Blk))(hint:AG):Option (OpR×Prop):=
 match x,tsz P t with
 | .ptr b i j,some (s,_)=>
  match nth hp b,y.known&&Ci y.cells&&Nat.beq y.cells.length s with
  | some blk,true=>
   match blk.wr,Nat.beq j 0&&Nat.beq s blk.z with
   | true,true=>some ({v:=.unk,chg:=[(b,{blk with es:=blk.es.set i y,flat:=blk.flat&&Bg y.cells})]},i<blk.es.length)
   | true,false=>
    match hint with
    | .el (.agg cs)=>match Nat.ble (j+s) blk.z&&Nat.beq cs.length blk.z with
     | true=>some ({v:=.unk,chg:=[(b,{blk with es:=blk.es.set i (.agg (cs.take j++y.cells++cs.drop (j+s))),flat:=blk.flat&&Bg y.cells})]},blk.es[i]?=some (.agg cs))
     | false=>none
    | _=>match blk.es[i]? with
     | some (.agg cs)=>match Nat.ble (j+s) blk.z&&Nat.beq cs.length blk.z with
      | true=>some ({v:=.unk,chg:=[(b,{blk with es:=blk.es.set i (.agg (cs.take j++y.cells++cs.drop (j+s))),flat:=blk.flat&&Bg y.cells})]},True)
      | false=>none
     | _=>none
   | false,_=>none
  | _,_=>none
 | _,_=>none
theorem HW{hp:List (Option Blk)}{b:Nat}{blk blk':Blk}(hb:nth hp b=some blk)(hw:blk.wr=true):OpR.fits {v:=.unk,chg:=[(b,blk')]} (nth hp):=⟨fun b' blk'' hm=>by simp at hm;obtain⟨rfl,rfl⟩:=hm;exact⟨blk,hb,hw⟩,fun b hm=>by simp at hm⟩
theorem Qy(cs ys:List AV)(j s k:Nat)(c:AV)(hs:ys.length=s)(hj:j+s<=cs.length)(h:(cs.take j++ys++cs.drop (j+s))[k]?=some c):
  (j<=k/\k<j+s/\ys[k-j]?=some c)\/((k<j\/j+s<=k)/\cs[k]?=some c):=by
 simp only[List.append_assoc,T7,T1,TT,Ti] at h;have e1:min j cs.length=j:=by omega
 rw[e1] at h;by_cases h1:k<j
 .rw[Tv h1,Tv h1] at h;exact .inr ⟨.inl h1,h⟩
 .rw[Tw h1] at h;by_cases h2:k-j<ys.length
  .rw[Tv h2] at h;exact .inl ⟨by omega,by omega,h⟩
  .rw[Tw h2] at h;rw[show j+s+(k-j-ys.length)=k by omega] at h;exact .inr ⟨.inr (by omega),h⟩
theorem QW{o:Oper}{ev:Operand->AV}{hp:List (Option Blk)}{nb:Nat}{t:TypeId}{x y:Operand}{hint:AG}{R:OpR}{p:Prop}
  (ho:o.op = .store t x y) (hr:KA P t (ev x) (ev y) hp hint=some (R,p)) (hpp:p):Au P o ev (nth hp) nb R/\R.fits (nth hp)/\R.dead=[]:=by
 generalize hx:ev x=u at hr;unfold KA at hr;split at hr
 case h_2=>cases hr
 rename_i b i j s ag ht;split at hr
 case h_2=>cases hr
 rename_i blk hb hc;simp only[TF] at hc;obtain⟨⟨hk,h1⟩,hl⟩:=hc;have hl:=TE hl
 have part:∀cs:List AV,blk.wr=true->(Nat.ble (j+s) blk.z&&Nat.beq cs.length blk.z)=true->blk.es[i]?=some (.agg cs)->
   Au P o ev (nth hp) nb {v:=.unk,chg:=[(b,{blk with es:=blk.es.set i (.agg (cs.take j++(ev y).cells++cs.drop (j+s))),flat:=blk.flat&&Bg (ev y).cells})]}:=by
  intro cs hw hc he;simp only[TF] at hc;have hjz:=TY hc.1;have hcz:=TE hc.2;refine J0 ho hx hb hw ht hk hl h1 (Tz.1 he).1 hjz ?_ fun k c hkc=>?_
  .simp[AV.cells] at hl ⊢;omega
  .rcases Qy cs (ev y).cells j s k c hl (by omega) hkc with h | ⟨h,h2⟩
   .exact .inl h
   .exact .inr ⟨h,_,he,h2⟩
 split at hr
 .rename_i hw hj;cases hr;simp only[TF] at hj;have hj0:=TE hj.1;have hsz:=TE hj.2;subst hj0;refine⟨J0 ho hx hb hw ht hk hl h1 hpp (by omega) (by omega) fun k c hkc=>.inl ⟨TJ _,?_,by simpa using hkc⟩,HW hb hw,rfl⟩;have:=(Tz.1 hkc).1;omega
 .rename_i hw hj;split at hr
  .rename_i cs;split at hr
   .rename_i hc;cases hr;exact⟨part cs hw hc hpp,HW hb hw,rfl⟩
   .cases hr
  .split at hr
   .rename_i cs he;split at hr
    .rename_i hc;cases hr;exact⟨part cs hw hc he,HW hb hw,rfl⟩
    .cases hr
   .cases hr
 .cases hr
def Nj(P:Program)(t:TypeId)(x:AV)(hp:List (Option Blk))(v:AV):Option (OpR×Prop):=
 match x,tsz P t with
 | .ptr b i j,some (1,false)=>
  match nth hp b with
  | some blk=>match blk.es[i]? with
   | some e=>some ({v},e.cells[j]?=some v)
   | none=>none
  | none=>none
 | _,_=>none
theorem Ta{o:Oper}{ev:Operand->AV}{hp:List (Option Blk)}{nb:Nat}{t:TypeId}{x:Operand}{v:AV}{R:OpR}{p:Prop}
  (ho:o.op = .load t x) (hr:Nj P t (ev x) hp v=some (R,p)) (hpp:p):Au P o ev (nth hp) nb R/\R.fits (nth hp)/\R.dead=[]:=by
 generalize hx:ev x=u at hr;unfold Nj at hr;split at hr
 case h_2=>cases hr
 rename_i b i j ht;split at hr
 case h_2=>cases hr
 rename_i blk hb;split at hr
 case h_2=>cases hr
 rename_i e he;cases hr;have hd:(e.cells.drop j).take 1=[v]:=by obtain⟨hj,hv⟩:=Tz.1 hpp;rw[Ui hj,hv];rfl
 exact⟨Lf ho hx hb he ht (by rw[hd];rfl) (by rw[hd];rfl),OpR.fits_value _ _,rfl⟩
def JW(P:Program)(t:TypeId)(x y:AV)(hp:List (Option Blk)):Option (OpR×Prop):=
 match x,tsz P t with
 | .ptr b i j,some (s,_)=>
  match nth hp b,y.known&&Ci y.cells&&Nat.beq y.cells.length s with
  | some blk,true=>
   match blk.wr,blk.es[i]? with
   | true,some (.agg cs)=>match Nat.beq cs.length blk.z with
    | true=>some ({v:=.unk,chg:=[(b,{blk with es:=blk.es.set i (.agg (cs.take j++y.cells++cs.drop (j+s))),flat:=blk.flat&&Bg y.cells})]},j+s<=blk.z)
    | false=>none
   | _,_=>none
  | _,_=>none
 | _,_=>none
theorem R6{o:Oper}{ev:Operand->AV}{hp:List (Option Blk)}{nb:Nat}{t:TypeId}{x y:Operand}{R:OpR}{p:Prop}
  (ho:o.op = .store t x y) (hr:JW P t (ev x) (ev y) hp=some (R,p)) (hpp:p):Au P o ev (nth hp) nb R/\R.fits (nth hp)/\R.dead=[]:=by
 generalize hx:ev x=u at hr;unfold JW at hr;split at hr
 case h_2=>cases hr
 rename_i b i j s ag ht;split at hr
 case h_2=>cases hr
 rename_i blk hb hc;simp only[TF] at hc;obtain⟨⟨hk,h1⟩,hl⟩:=hc;have hl:=TE hl;split at hr
 case h_2=>cases hr
 rename_i cs hw he;split at hr
 case h_2=>cases hr
 rename_i hcz;have hcz:=TE hcz;cases hr;refine⟨J0 ho hx hb hw ht hk hl h1 (Tz.1 he).1 hpp ?_ fun k c hkc=>?_,HW hb hw,rfl⟩
 .simp[AV.cells] at hl ⊢;omega
 .rcases Qy cs (ev y).cells j s k c hl (by omega) hkc with h | ⟨h,h2⟩
  .exact .inl h
  .exact .inr ⟨h,_,he,h2⟩
def FW(c y:AV)(b:Bool):Option AV:=match c,y with
 | .int k a,.int k' d=>match decide (k=k') with
  | true=>some (.int k (cond b d a))
  | false=>none
 | .bool a,.bool d=>some (.bool (cond b d a))
 | _,_=>none
def IQ(y:AV)(j:Nat):Nat->List AV->Option (List AV)
 | _,[]=>some []
 | i,c::r=>match FW c y (Nat.beq i j),IQ y j (i+1) r with
  | some c',some r'=>some (c'::r')
  | _,_=>none
theorem SB{c y c':AV}{b:Bool}(h:FW c y b=some c'):(b=true->c'=y)/\(b=false->c'=c):=by
 cases c<;>try (simp[FW] at h;done)
 case int k a=>
  cases y<;>try (simp[FW] at h;done)
  rename_i k' d;simp only[FW] at h;by_cases hk:k=k'
  .subst hk;rw[TD rfl] at h;cases b<;>simp at h<;>simp[<-h]
  .rw[TC hk] at h;simp at h
 case bool a=>
  cases y<;>try (simp[FW] at h;done)
  cases b<;>simp[FW] at h<;>simp[<-h]
theorem R0{y:AV}{j:Nat}:∀{cs cs':List AV} {i:Nat},IQ y j i cs=some cs'->cs'.length=cs.length/\∀(k:Nat) c,cs'[k]?=some c->(i+k=j/\c=y)\/(i+k≠j/\cs[k]?=some c):=by
 intro cs;induction cs with
 | nil=>intro cs' i h;simp[IQ] at h;subst h;exact⟨rfl,fun k c h=>by simp at h⟩
 | cons c r ih=>
  intro cs' i h;simp only[IQ] at h;split at h
  case h_2=>cases h
  rename_i c1 r1 h1 h2;cases h;obtain⟨g1,g2⟩:=ih h2;refine⟨by simp[g1],fun k d hk=>?_⟩;cases k with
  | zero=>
   simp only[List.getElem?_cons_zero,Td] at hk;subst hk;have e:=SB h1;cases hb:Nat.beq i j with
   | true=>exact .inl ⟨TE hb,e.1 hb⟩
   | false=>refine .inr ⟨fun he=>?_,by simpa using (e.2 hb).symm⟩;rw[Tj] at he;subst he;rw[Nat.beq_refl] at hb;cases hb
  | succ k=>
   simp only[List.getElem?_cons_succ] at hk ⊢
   rcases g2 k d hk with ⟨a1,a2⟩ | ⟨a1,a2⟩
   .exact .inl ⟨by omega,a2⟩
   .exact .inr ⟨by omega,a2⟩
def Lg(P:Program)(t:TypeId)(x y:AV)(hp:List (Option Blk)):Option (OpR×Prop):=
 match x,tsz P t with
 | .ptr b i j,some (s,_)=>
  match nth hp b,y.known&&Ci y.cells&&Nat.beq y.cells.length s&&Nat.beq s 1 with
  | some blk,true=>
   match blk.wr,blk.es[i]?,y.cells with
   | true,some (.agg cs),[y1]=>match Nat.beq cs.length blk.z,IQ y1 j 0 cs with
    | true,some cs'=>some ({v:=.unk,chg:=[(b,{blk with es:=blk.es.set i (.agg cs'),flat:=blk.flat&&Bg y.cells})]},j+1<=blk.z)
    | _,_=>none
   | _,_,_=>none
  | _,_=>none
 | _,_=>none
theorem Q1{o:Oper}{ev:Operand->AV}{hp:List (Option Blk)}{nb:Nat}{t:TypeId}{x y:Operand}{R:OpR}{p:Prop}
  (ho:o.op = .store t x y) (hr:Lg P t (ev x) (ev y) hp=some (R,p)) (hpp:p):Au P o ev (nth hp) nb R/\R.fits (nth hp)/\R.dead=[]:=by
 generalize hx:ev x=u at hr;unfold Lg at hr;split at hr
 case h_2=>cases hr
 rename_i b i j s ag ht;split at hr
 case h_2=>cases hr
 rename_i blk hb hc;simp only[TF] at hc;obtain⟨⟨⟨hk,h1⟩,hl⟩,hs1⟩:=hc;have hl:=TE hl;have hs1:=TE hs1;subst hs1;split at hr
 case h_2=>cases hr
 rename_i cs y1 hw he hy;split at hr
 case h_2=>cases hr
 rename_i cs' hcz hset;have hcz:=TE hcz;cases hr;obtain⟨g1,g2⟩:=R0 hset;refine⟨J0 ho hx hb hw ht hk hl h1 (Tz.1 he).1 hpp (by show cs'.length=blk.z;rw[g1,hcz]) fun k c hkc=>?_,HW hb hw,rfl⟩;rcases g2 k c hkc with ⟨a1,a2⟩ | ⟨a1,a2⟩
 .refine .inl ⟨by omega,by omega,?_⟩;rw[hy,show k-j=0 by omega,a2];rfl
 .exact .inr ⟨by omega,_,he,a2⟩
def MM(P:Program)(t:TypeId)(x:AV)(hp:List (Option Blk))(hint:AG):Option (OpR×Prop):=
 match hint with
 | .el (.tup [v])=>Nj P t x hp v
 | hint=>LN P t x hp hint
theorem QP{o:Oper}{ev:Operand->AV}{hp:List (Option Blk)}{nb:Nat}{t:TypeId}{x:Operand}{hint:AG}{R:OpR}{p:Prop}
  (ho:o.op = .load t x) (hr:MM P t (ev x) hp hint=some (R,p)) (hpp:p):Au P o ev (nth hp) nb R/\R.fits (nth hp)/\R.dead=[]:=by
 unfold MM at hr;split at hr
 .exact Ta ho hr hpp
 .exact Rs ho hr hpp
def Gj(P:Program)(t:TypeId)(x y:AV)(hp:List (Option Blk))(hint:AG):Option (OpR×Prop):=
 match hint with
 | .el (.tup (.unk::_))=>Lg P t x y hp
 | .el (.tup _)=>JW P t x y hp
 | hint=>KA P t x y hp hint
theorem Qu{o:Oper}{ev:Operand->AV}{hp:List (Option Blk)}{nb:Nat}{t:TypeId}{x y:Operand}{hint:AG}{R:OpR}{p:Prop}
  (ho:o.op = .store t x y) (hr:Gj P t (ev x) (ev y) hp hint=some (R,p)) (hpp:p):Au P o ev (nth hp) nb R/\R.fits (nth hp)/\R.dead=[]:=by
 unfold Gj at hr;split at hr
 .exact Q1 ho hr hpp
 .exact R6 ho hr hpp
 .exact QW ho hr hpp
def aIdx(P:Program)(t:TypeId)(x y:AV)(hp:List (Option Blk))(hint:AG):Option (OpR×Prop):=
 match x,y,B8 P t with
 | .sl b i n,.int _ m,some (none,z)=>
  match nth hp b with
  | some blk=>match Nat.beq blk.z z with
   | true=>some ({v:=.ptr b (i+m.toNat) 0},0<=m/\m<n)
   | false=>none
  | none=>none
 | .lst es,.int _ m,some (none,z)=>
  match hint with
  | .el e=>match Nat.beq e.cells.length z with
   | true=>some ({v:=.iptr e.cells},0<=m/\es[m.toNat]?=some e)
   | false=>none
  | _=>match es[m.toNat]? with
   | some e=>match Nat.beq e.cells.length z with
    | true=>some ({v:=.iptr e.cells},0<=m)
    | false=>none
   | none=>none
 | .ptr b i j,.int _ m,some (some n,z)=>some ({v:=.ptr b i (j+m.toNat * z)},0<=m/\m<n)
 | _,_,_=>none
theorem Se{o:Oper}{ev:Operand->AV}{hp:List (Option Blk)}{nb:Nat}{t:TypeId}{x y:Operand}{hint:AG}{R:OpR}{p:Prop}
  (ho:o.op = .indexAddr t x y) (hr:aIdx P t (ev x) (ev y) hp hint=some (R,p)) (hpp:p):Au P o ev (nth hp) nb R/\R.fits (nth hp)/\R.dead=[]:=by
 generalize hx:ev x=u at hr;generalize hy:ev y=v at hr;unfold aIdx at hr;split at hr
 .rename_i b i n k m z ht;split at hr
  case h_2=>cases hr
  rename_i blk hb;split at hr
  .rename_i hz;cases hr;exact⟨S2 ho hx hy ht hb (TE hz) hpp,OpR.fits_value _ _,rfl⟩
  .cases hr
 .rename_i es k m z ht;split at hr
  .rename_i e;split at hr
   .rename_i hz;cases hr;exact⟨PV ho hx hy ht hpp.1 hpp.2 (TE hz),OpR.fits_value _ _,rfl⟩
   .cases hr
  .split at hr
   case h_2=>cases hr
   rename_i e he;split at hr
   .rename_i hz;cases hr;exact⟨PV ho hx hy ht hpp he (TE hz),OpR.fits_value _ _,rfl⟩
   .cases hr
 .rename_i b i j k m n z ht;cases hr;exact⟨SC ho hx hy ht hpp,OpR.fits_value _ _,rfl⟩
 .cases hr
def cutL(es:List AV)(l u:Int):AV:=.lst ((es.drop l.toNat).take (u.toNat-l.toNat))
def cutC(es:List AV)(l u:Int):AV:=.lstc ((es.drop l.toNat).take (u.toNat-l.toNat))
def Mh(P:Program)(t:TypeId)(x:AV)(lo hi mx:Option AV):Bool:=
 match x,lo,hi,mx,B8 P t with
 | .lst _,none,some (.int _ u),some (.int _ m),some (none,_)=>match u,m with
  | .ofNat 0,.ofNat 0=>true
  | _,_=>false
 | _,_,_,_,_=>false
theorem Q2{t:TypeId}{x:AV}{lo hi mx:Option AV}(h:Mh P t x lo hi mx=true):∃es ky kq z,x = .lst es/\lo=none/\hi=some (.int ky 0)/\mx=some (.int kq 0)/\B8 P t=some (none,z):=by
 unfold Mh at h;split at h
 case h_2=>cases h
 rename_i es ky u kq m z he;split at h
 case h_2=>cases h
 exact⟨es,ky,kq,z,rfl,rfl,rfl,rfl,he⟩
def KV(P:Program)(t:TypeId)(x:AV)(lo hi mx:Option AV)(hp:List (Option Blk)):Option (OpR×Prop):=
 match Mh P t x lo hi mx with
 | true=>some ({v:=.sl 1000000 0 0},True)
 | false=>
 let bd (o:Option AV) (d:Int):Option Int:=match o with | none=>some d | some (.int _ n)=>some n | _=>none
 match mx.isSome&&!hi.isSome with
 | true=>none
 | false=>
  match x,B8 P t with
  | .sl b i n,some (none,z)=>
   match nth hp b,bd lo 0,bd hi n,bd mx n with
   | some blk,some l,some u,some m=>match Nat.beq blk.z z with
    | true=>some ({v:=.sl b (i+l.toNat) (u.toNat-l.toNat)},0<=l/\l<=u/\u<=m/\m<=n)
    | false=>none
   | _,_,_,_=>none
  | .lst es,some (none,z)=>
   match bd lo 0,bd hi es.length,bd mx es.length with
   | some l,some u,some m=>match mx.isSome with
    | true=>some ({v:=cutC es l u},(∀e∈es,e.cells.length=z)/\0<=l/\l<=u/\u=m/\m<=es.length)
    | false=>some ({v:=cutL es l u},(∀e∈es,e.cells.length=z)/\0<=l/\l<=u/\u<=m/\m<=es.length)
   | _,_,_=>none
  | .ptr b i 0,some (some n,z)=>
   match nth hp b,bd lo 0,bd hi n,bd mx n with
   | some blk,some l,some u,some m=>match Nat.beq blk.z z&&blk.mp.isNone with
    | true=>some ({v:=.sl b (i+l.toNat) (u.toNat-l.toNat)},(0<=l/\l<=u/\u<=m/\m<=n)/\i+n<=blk.es.length)
    | false=>none
   | _,_,_,_=>none
  | _,_=>none
theorem Ri{o:Oper}{ev:Operand->AV}{hp:List (Option Blk)}{nb:Nat}{t:TypeId}{x:Operand}{lo hi mx:Option Operand}{R:OpR}{p:Prop}
  (ho:o.op = .slice t x lo hi mx) (hr:KV P t (ev x) (lo.map ev) (hi.map ev) (mx.map ev) hp=some (R,p)) (hpp:p):Au P o ev (nth hp) nb R/\R.fits (nth hp)/\R.dead=[]:=by
 have bdeq:∀(q:Option Operand) (d:Int),(match q.map ev with | none=>some d | some (.int _ n)=>some n | _=>none:Option Int)=bnd ev q d:=by
  intro q d;cases q with
  | none=>rfl
  | some q=>simp only[Option.map_some,bnd]
            cases ev q<;>rfl
 generalize hx:ev x=u at hr;unfold KV at hr;split at hr
 .rename_i hE;cases hr;obtain⟨es,ky,kq,z,rfl,h2,h3,h4,h5⟩:=Q2 hE;cases lo with
  | some _=>simp at h2
  | none=>
   cases hi with
   | none=>simp at h3
   | some y=>
    cases mx with
    | none=>simp at h4
    | some q=>simp only[Option.map_some,Td] at h3 h4;exact⟨S1 ho hx h5 h3 h4,OpR.fits_value _ _,rfl⟩
 rename_i hF;clear hF;simp only[bdeq] at hr;split at hr
 case h_1=>cases hr
 rename_i hmx;have hmx:mx.isSome=true->hi.isSome=true:=by intro h;simp[h] at hmx;simpa using hmx
 split at hr
 .rename_i b i n z ht;split at hr
  .rename_i blk l u m hb hl hu hm;split at hr
   .rename_i hz;cases hr;exact⟨Qk ho hx ht hb (TE hz) hl hu hm hmx hpp,OpR.fits_value _ _,rfl⟩
   .cases hr
  .cases hr
 .rename_i es z ht;split at hr
  .rename_i l u m hl hu hm;split at hr
   .rename_i hms;cases hr;exact⟨QC ho hx ht hpp.1 hl hu hm hmx (by simpa using hms) hpp.2,OpR.fits_value _ _,rfl⟩
   .cases hr;exact⟨S5 ho hx ht hpp.1 hl hu hm hmx hpp.2,OpR.fits_value _ _,rfl⟩
  .cases hr
 .rename_i b i n z ht;split at hr
  .rename_i blk l u m hb hl hu hm;split at hr
   .rename_i hz;cases hr;simp only[TF,Un] at hz;exact⟨SQ ho hx ht hb (TE hz.1) hl hu hm hmx hpp.1 hpp.2 hz.2,OpR.fits_value _ _,rfl⟩
   .cases hr
  .cases hr
 .cases hr
def aLen(P:Program)(t:TypeId)(x:AV):Option (OpR×Prop):=
 match unL P t,x with
 | true,.sl _ _ n=>vOp (.int .i64 n)
 | true,.lst es=>vOp (.int .i64 es.length)
 | true,.lstc es=>vOp (.int .i64 es.length)
 | true,.nils=>vOp (.int .i64 (0:Nat))
 | false,.str s=>match unS P t with
  | true=>vOp (.int .i64 s.size)
  | false=>none
 | false,_=>match unA P t with
  | some n=>vOp (.int .i64 n)
  | none=>none
 | _,_=>none
theorem Rh{o:Oper}{ev:Operand->AV}{h:Hp}{nb:Nat}{ts:Array TypeId}{t:TypeId}{x:Operand}{R:OpR}{p:Prop}
  (ho:o.op = .call {callee:=.builtin .len,args:=#[x],argTypes:=ts}) (hts:ts[0]?=some t) (hr:aLen P t (ev x)=some (R,p)):Au P o ev h nb R/\R.fits h/\R.dead=[]:=by
 have hsl:unL P t=true->∃e,P.underlying t=some (.slice e):=by
  intro hu;unfold unL at hu;split at hu
  .rename_i e he;exact⟨e,he⟩
  .cases hu
 generalize hx:ev x=u at hr;unfold aLen at hr;split at hr
 .rename_i b i n hu;cases hr;obtain⟨e,he⟩:=hsl hu;exact⟨Jd ho hts he (.inl ⟨_,_,hx⟩),OpR.fits_value _ _,rfl⟩
 .rename_i es hu;cases hr;obtain⟨e,he⟩:=hsl hu;exact⟨Jd ho hts he (.inr (.inl ⟨_,hx,rfl⟩)),OpR.fits_value _ _,rfl⟩
 .rename_i es hu;cases hr;obtain⟨e,he⟩:=hsl hu;exact⟨ok_len_c ho hts he hx,OpR.fits_value _ _,rfl⟩
 .rename_i hu;cases hr;obtain⟨e,he⟩:=hsl hu;exact⟨Jd ho hts he (.inr (.inr ⟨hx,rfl⟩)),OpR.fits_value _ _,rfl⟩
 .split at hr
  .rename_i hu;cases hr;refine⟨RS ho hts ?_ hx,OpR.fits_value _ _,rfl⟩;unfold unS at hu;split at hu
   .assumption
   .cases hu
  .cases hr
 .split at hr
  .rename_i n hu;cases hr;unfold unA at hu;split at hu
   .rename_i m e he;cases hu;exact⟨RO ho hts he,OpR.fits_value _ _,rfl⟩
   .cases hu
  .cases hr
 .cases hr
def JT(P:Program)(t:TypeId)(x y:AV)(hp:List (Option Blk)):Option (OpR×Prop):=
 match C6 P t,Ex (nth hp) y with
 | some (_,z,by_),some src=>
  match x with
  | .nils=>some ({v:=.sl hp.length 0 src.length,new:=[{es:=src,z,flat:=Cf (nth hp) y}]},
    DN (nth hp) z y/\src.length<=9223372036854775807/\src.length * by_<=140737488355328)
  | .sl b 0 n=>match nth hp b with
   | some blk=>match blk.wr&&Nat.beq blk.z z with
    | true=>some ({v:=.sl hp.length 0 (blk.es.length+src.length),dead:=[b],new:=[{es:=blk.es++src,z,flat:=blk.flat&&Cf (nth hp) y}]},
      blk.es.length=n/\DN (nth hp) z y/\blk.es.length+src.length<=9223372036854775807/\(blk.es.length+src.length) * by_<=140737488355328)
    | false=>none
   | none=>match n with
    | 0=>match Nat.ble hp.length b with
     | true=>some ({v:=.sl hp.length 0 src.length,new:=[{es:=src,z,flat:=Cf (nth hp) y}]},
       DN (nth hp) z y/\src.length<=9223372036854775807/\src.length * by_<=140737488355328)
     | false=>none
    | _=>none
  | .lstc es=>some ({v:=.sl hp.length 0 (es.length+src.length),new:=[{es:=es++src,z,flat:=Cf (nth hp) y}]},
    (∀e∈es,e.cells.length=z)/\DN (nth hp) z y/\0<src.length/\es.length+src.length<=9223372036854775807/\(es.length+src.length) * by_<=140737488355328)
  | _=>none
 | _,_=>none
theorem Pt{o:Oper}{ev:Operand->AV}{hp:List (Option Blk)}{t:TypeId}{x y:Operand}{R:OpR}{p:Prop}
  (ho:o.op = .call {callee:=.builtin .append,args:=#[x,y],argTypes:=#[t,t]}) (hr:JT P t (ev x) (ev y) hp=some (R,p)) (hpp:p):
  Au P o ev (nth hp) hp.length R/\R.fits (nth hp):=by
 generalize hx:ev x=u at hr;unfold JT at hr;split at hr
 case h_2=>cases hr
 rename_i e z by_ src ht hs;split at hr
 .cases hr;refine⟨?_,fun b blk hm=>by simp at hm,fun b hm=>by simp at hm⟩;have:=Ls (nb:=hp.length) (old:=[]) (dead:=[]) (fl:=true) ho ht (.inl ⟨.inl hx,rfl,rfl,rfl⟩) hs hpp.1 (by simpa using hpp.2.1) (by simpa using hpp.2.2);simpa using this
 .rename_i b n;split at hr
  case h_2=>
   split at hr
   case h_2=>cases hr
   split at hr
   case h_2=>cases hr
   rename_i hble;cases hr;refine⟨?_,fun b blk hm=>by simp at hm,fun b hm=>by simp at hm⟩;have:=Ls (nb:=hp.length) (old:=[]) (dead:=[]) (fl:=true) ho ht (.inl ⟨.inr ⟨b,TY hble,hx⟩,rfl,rfl,rfl⟩) hs hpp.1 (by simpa using hpp.2.1) (by simpa using hpp.2.2);simpa using this
  rename_i blk hb;split at hr
  case h_2=>cases hr
  rename_i hc;simp only[TF] at hc;cases hr;refine⟨?_,fun b blk hm=>by simp at hm,fun b' hm=>?_⟩
  .exact Ls (nb:=hp.length) (old:=blk.es) (dead:=[b]) (fl:=blk.flat) ho ht (.inr ⟨b,n,blk,hx,hb,TE hc.2,hc.1,rfl,rfl,hpp.1,rfl⟩) hs hpp.2.1 hpp.2.2.1 hpp.2.2.2
  .simp at hm;subst hm;exact⟨⟨blk,hb,hc.1⟩,rfl⟩
 .cases hr;exact⟨S0 ho ht hx hpp.1 hs hpp.2.1 hpp.2.2.1 hpp.2.2.2.1 hpp.2.2.2.2,fun b blk hm=>by simp at hm,fun b hm=>by simp at hm⟩
 .cases hr
def K1(P:Program)(t:TypeId)(x y:AV)(hp:List (Option Blk)):Option (OpR×Prop):=
 match C6 P t,Ex (nth hp) y,x with
 | some (_,z,_),some src,.sl b i n=>
  match nth hp b with
  | some blk=>match blk.wr&&Nat.beq blk.z z with
   | true=>some ({v:=.int .i64 (min src.length n:Nat),chg:=[(b,{blk with es:=blk.es.take i++src.take (min src.length n)++blk.es.drop (i+min src.length n),flat:=blk.flat&&Cf (nth hp) y})]},
     i+n<=blk.es.length/\DN (nth hp) z y)
   | false=>none
  | none=>none
 | _,_,_=>none
theorem SJ{o:Oper}{ev:Operand->AV}{hp:List (Option Blk)}{nb:Nat}{t t':TypeId}{x y:Operand}{R:OpR}{p:Prop}
  (ho:o.op = .call {callee:=.builtin .copy,args:=#[x,y],argTypes:=#[t,t']}) (hr:K1 P t (ev x) (ev y) hp=some (R,p)) (hpp:p):
  Au P o ev (nth hp) nb R/\R.fits (nth hp)/\R.dead=[]:=by
 generalize hx:ev x=u at hr;unfold K1 at hr;split at hr
 case h_2=>cases hr
 rename_i e z by_ src b i n ht hs;split at hr
 case h_2=>cases hr
 rename_i blk hb;split at hr
 case h_2=>cases hr
 rename_i hc;simp only[TF] at hc;cases hr;refine⟨ok_copy ho ht hx hb (TE hc.2) hc.1 hpp.1 hs hpp.2,⟨fun b' blk'' hm=>?_,fun b hm=>by simp at hm⟩,rfl⟩;simp only[Tm,Tl] at hm;obtain⟨rfl,rfl⟩:=hm;exact⟨blk,hb,hc.1⟩
variable {φ:Phi} {A:Nat->Prop} {w:World} {P:Program}
def Dr:AV->Option Value | .int k n=>some (.int k n) | .str s=>some (.string s) | .bool b=>some (.bool b) | _=>none
theorem HL{a:AV}{kv v:Value}(h:Dr a=some kv)(hv:VR φ A w a v):v=kv:=by
 cases a<;>simp only[Dr] at h<;>try (cases h)
 .exact hv.bool_inv
 .exact hv.int_inv
 .exact hv.str_inv
def A2:TypeDesc->Value->Bool | .bool,.bool _=>true | .int k,.int k' _=>decide (k'=k) | .string,.string _=>true | _,_=>false
theorem HA{d:TypeDesc}{v:Value}(h:A2 d v=true):MapKept.IsKey d v:=by
 unfold A2 at h;split at h
 .trivial
 .have h:=of_decide_eq_true h;subst h;exact rfl
 .trivial
 .cases h
def D3(P:Program)(t:TypeId):Option (TypeId×TypeDesc×TypeId):=match P.underlying t with
 | some (.map kt et)=>match P.underlying kt with
  | some d=>some (kt,d,et)
  | none=>none
 | _=>none
theorem I1{t kt et:TypeId}{d:TypeDesc}(h:D3 P t=some (kt,d,et)):P.underlying t=some (.map kt et)/\P.underlying kt=some d:=by
 unfold D3 at h;split at h
 .rename_i kt' et' h1;split at h
  .rename_i d' h2;simp at h;obtain⟨rfl,rfl,rfl⟩:=h;exact⟨h1,h2⟩
  .cases h
 .cases h
def Hk(d:TypeDesc)(l:List MapEntry):Prop:=∀x∈l,MapKept.IsKey d x.key
def B3(d:TypeDesc)(k:Value)(l:List MapEntry):Option (Nat×Value):=match Instr.findNow d k l 0 with
 | some r=>r
 | none=>none
theorem Ii{d:TypeDesc}{k:Value}{l:List MapEntry}(hk:MapKept.IsKey d k)(hl:Hk d l):
  (Instr.findNow d k l 0=some none/\B3 d k l=none/\∀x∈l,x.key≠k)\/∃j e,Instr.findNow d k l 0=some (some (j,e.val))/\B3 d k l=some (j,e.val)/\l[j]?=some e/\e.key=k:=by
 rcases MapKept.findNow_spec hk l 0 hl with ⟨h1,h2⟩ | ⟨j,e,h1,h2,h3⟩
 .exact .inl ⟨h1,by unfold B3;rw[h1],h2⟩
 .rw[TP] at h1;exact .inr ⟨j,e,h1,by unfold B3;rw[h1],h2,h3⟩
def F7(d:TypeDesc)(k:Value)(l:List MapEntry):Bool:=match B3 d k l with | some (_,.bool b)=>b | _=>false
def Ej(d:TypeDesc)(k:Value)(l:List MapEntry):Int:=match B3 d k l with | some (_,.int _ n)=>n | _=>0
def DP(d:TypeDesc)(k:Value)(l:List MapEntry)(c:Nat):Nat:=match B3 d k l with | some (i,_)=>((l[i]?).map (·.born)).getD 0 | none=>c
def Dx(d:TypeDesc)(k z:Value)(l:List MapEntry)(c:Nat):List MapEntry:=match B3 d k l with | some _=>l | none=>l++[{key:=k,val:=z,born:=c}]
def BN(d:TypeDesc)(k:Value)(l:List MapEntry)(c:Nat):Nat:=match B3 d k l with | some _=>c | none=>c+1
def F0(s:Int)(v:Value)(l:List MapEntry):List MapEntry:=match l.findIdx? (fun e=>((e.born:Nat):Int)==s) with | some i=>l.modify i (fun e=>{e with val:=v}) | none=>l
def BS(d:TypeDesc)(k v:Value)(l:List MapEntry)(c:Nat):List MapEntry:=match B3 d k l with | some (i,_)=>l.modify i (fun e=>{e with val:=v}) | none=>l++[{key:=k,val:=v,born:=c}]
def CM(d:TypeDesc)(k:Value)(l:List MapEntry):List MapEntry:=match B3 d k l with | some (i,_)=>l.eraseIdx i | none=>l
theorem Eff.wmap{h:Hp}{nb b r z:Nat}{blk:Blk}{m m':List MapEntry×Nat}{v:AV}{v':Value}
  (hA:∀r,A r->r<w.heap.size/\¬Mut φ h r) (hn:∀b,nb<=b->φ b=none) (hb:h b=some blk) (hw:blk.wr=true) (hφ:φ b=some (r,z)) (hm:blk.mp=some m) (hh:HR φ A w h) (hv:VR φ A w v v'):
  Eff φ A w h nb {v,chg:=[(b,{blk with mp:=some m'})]} v' {w with heap:=w.heap.setIfInBounds r (.map m'.1.toArray m'.2)} φ:=by
 have hr:blk.z=z/\blk.es=[]/\blk.z=0/\w.heap[r]?=some (.map m.1.toArray m.2):=by
  rcases hh.blk b blk hb with ⟨_,h0,_⟩ | ⟨_,_,_,_,_,⟨_,h0⟩,_⟩ | ⟨m2,r2,h1,h2,⟨h3,h4⟩,h5⟩
  .rw[hφ] at h0;cases h0
  .rw[hm] at h0;cases h0
  .rw[hφ] at h2;simp at h2;rw[hm] at h1;cases h1;exact⟨h2.2.symm,h3,h4,by rw[h2.1];exact h5⟩
 obtain⟨hz,hes,hz0,hr⟩:=hr;have hne:∀q,q≠r->({w with heap:=w.heap.setIfInBounds r (.map m'.1.toArray m'.2)}:World).heap[q]?=w.heap[q]?:=fun q hq=>(MapKept.heap_set hr).2 q hq
 have hAr:∀q,A q->q≠r:=fun q hq he=>(hA q hq).2 ⟨b,blk,z,hb,hw,by rw[he];exact hφ⟩
 have hrow:∀q,Bn w q<=Bn ({w with heap:=w.heap.setIfInBounds r (.map m'.1.toArray m'.2)}:World) q:=by
  intro q;by_cases hq:q=r
  .subst hq;unfold Bn;rw[hr];exact TJ _
  .unfold Bn;rw[hne q hq];exact TI _
 refine⟨⟨rfl,rfl,rfl,by simp,fun q _ hq=>hne q fun he=>hq ⟨b,z,.inr ⟨{blk with mp:=some m'},Tm.2 rfl⟩,(by rw[he];exact hφ)⟩,hrow⟩,fun _ _=>rfl,
  fun b' hb'=>hn b' (by simpa using hb'),fun b' q z' hb' h1=>?_,fun b1 b2 q z1 z2 h1 _ h2 _=>?_,hv.mono (fun _ _ h=>h) (fun _ h=>.inl h) (fun q hq=>hne q (hAr q hq)) hrow,
  fun b' blk'' hmm=>(by simp at hmm;obtain⟨_,rfl⟩:=hmm;intro _;simp only;rw[hes];intro e he;cases he),fun blk'' hmm=>by simp at hmm,fun b' blk'' hmm=>?_,fun k blk'' hmm=>by simp at hmm⟩
 .rw[hn b' hb'] at h1;cases h1
 .rw[hn b1 h1] at h2;cases h2
 .simp only[Tm,Tl] at hmm;obtain⟨rfl,rfl⟩:=hmm;exact .inr (.inr ⟨m',r,rfl,by rw[hφ,hz],⟨hes,hz0⟩,(MapKept.heap_set hr).1⟩)
theorem HR.map{h:Hp}(hh:HR φ A w h){b:Nat}{blk:Blk}(hb:h b=some blk){m:List MapEntry×Nat}(hm:blk.mp=some m){r z:Nat}(hφ:φ b=some (r,z)):w.heap[r]?=some (.map m.1.toArray m.2):=by
 rcases hh.blk b blk hb with ⟨_,h0,_⟩ | ⟨_,_,_,_,_,⟨_,h0⟩,_⟩ | ⟨m2,r2,h1,h2,⟨h3,h4⟩,h5⟩
 .rw[hφ] at h0;cases h0
 .rw[hm] at h0;cases h0
 .rw[hφ] at h2;simp at h2;rw[hm] at h1;cases h1;rw[h2.1];exact h5
theorem Sw{o:Oper}{ev:Operand->AV}{h:Hp}{nb:Nat}{t:TypeId}(ho:o.op = .makeMap t none):Au P o ev h nb {v:=.map nb,new:=[{es:=[],z:=0,mp:=some ([],0)}]}:=by
 intro φ A w a K Q hA hv hh hn k;unfold Oper.wp;have hrun:(execOp a.eval o).run P w = .ok (.value (.map (some w.heap.size))) (w.alloc (.map #[] 0)):=by generalize a.eval=ρ;simp[execOp,ho,Instr.makeMap,Result.andThen]
 rw[hrun];have hnew:=(MapKept.heap_alloc w (.map #[] 0)).1;let φ':Phi:=fun b=>if b=nb then some (w.heap.size,0) else φ b
 have hφ:∀b x,φ b=some x->φ' b=some x:=fun b x hb=>by
  simp only[φ'];split
  .rename_i he;subst he;rw[hn b (TI _)] at hb;cases hb
  .exact hb
 refine k _ _ φ' ⟨⟨rfl,rfl,rfl,by simp,fun r hr _=>RowKit.Below.heap_alloc w _ r hr,I0 w _ _ rfl⟩,fun b hb=>?_,fun b hb=>?_,fun b r z' hb h1=>?_,fun b b' r z1 z2 hb hb' h1 h2=>?_,.map nb _ 0 (by simp[φ']),fun b blk hm=>(by simp at hm),fun blk hm=>(by simp at hm;subst hm;intro _ e he;cases he),fun b blk hm=>(by simp at hm),fun j blk hj=>?_⟩
 .simp only[φ'];rw[Tw (by omega)]
 .simp at hb;simp only[φ'];rw[Tw (by omega)];exact hn b (by omega)
 .simp only[φ'] at h1;split at h1
  .simp at h1;left;simp;omega
  .rw[hn b hb] at h1;cases h1
 .simp only[φ'] at h1 h2;by_cases e1:b=nb
  .by_cases e2:b'=nb
   .omega
   .rw[Tw e2,hn b' hb'] at h2;cases h2
  .rw[Tw e1,hn b hb] at h1;cases h1
 .match j,hj with
  | 0,hj=>simp at hj;subst hj;exact .inr (.inr ⟨([],0),w.heap.size,rfl,by simp[φ'],⟨rfl,rfl⟩,hnew⟩)
theorem Sa{o:Oper}{ev:Operand->AV}{h:Hp}{nb:Nat}{t kt et:TypeId}{d:TypeDesc}{x y:Operand}{b:Nat}{blk:Blk}{l:List MapEntry}{c:Nat}{kv zv:Value}{ti:TypeInfo}{v:AV}
  (ho:o.op = .lookup t x y false) (hx:ev x = .map b) (hb:h b=some blk) (hm:blk.mp=some (l,c)) (ht:D3 P t=some (kt,d,et)) (hk:Dr (ev y)=some kv) (hkd:A2 d kv=true) (hl:Hk d l)
  (hti:P.info? et=some ti) (hz:ti.zero=some zv) (hv:∀u,(B3 d kv l=none/\u=zv)\/(∃j e,B3 d kv l=some (j,e.val)/\l[j]?=some e/\u=e.val)->∀(φ:Phi) (A:Nat->Prop) (w:World),VR φ A w v u):Au P o ev h nb {v}:=by
 refine .value fun φ A w ρ _ hvv hh=>?_
 obtain⟨h1,h2⟩:=I1 ht;have hx':=hvv x;rw[hx] at hx';obtain⟨r,z,hφ,hp⟩:=hx'.map_inv;have hy:=HL hk (hvv y);have hr:=hh.map hb hm hφ;have hkk:=HA hkd;have hzr:(zeroValue et).run P w = .ok zv w:=by simp[zeroValue,typeInfo,hti,hz,Result.andThen]
 rcases Ii hkk hl with ⟨g1,g2,_⟩ | ⟨j,e,g1,g2,g3,_⟩
 .refine⟨zv,?_,hv zv (.inl ⟨g2,rfl⟩) φ A w⟩;simp[execOp,ho,hp,hy,Instr.lookup,run_underlying h1,MapKept.run_getObj_map hr,MapKept.run_checkKey h2 hkk,MapKept.run_findKey h2 g1,hzr,Result.andThen]
 .refine⟨e.val,?_,hv e.val (.inr ⟨j,e,g2,g3,rfl⟩) φ A w⟩;simp[execOp,ho,hp,hy,Instr.lookup,run_underlying h1,MapKept.run_getObj_map hr,MapKept.run_checkKey h2 hkk,MapKept.run_findKey h2 g1,Result.andThen]
theorem R4{o:Oper}{ev:Operand->AV}{h:Hp}{nb:Nat}{t kt et:TypeId}{d:TypeDesc}{x:Operand}{ts:Array TypeId}{b:Nat}{blk:Blk}{l:List MapEntry}{c:Nat}
  (ho:o.op = .call {callee:=.builtin .len,args:=#[x],argTypes:=ts}) (hts:ts[0]?=some t) (hx:ev x = .map b) (hb:h b=some blk) (hm:blk.mp=some (l,c)) (ht:D3 P t=some (kt,d,et)):Au P o ev h nb {v:=.int .i64 l.length}:=by
 refine .value fun φ A w ρ _ hv hh=>⟨.int .i64 l.length,?_,.imm _ _ (.int _ _)⟩
 obtain⟨h1,h2⟩:=I1 ht;have hx':=hv x;rw[hx] at hx';obtain⟨r,z,hφ,hp⟩:=hx'.map_inv;have hr:=hh.map hb hm hφ;simp[execOp,ho,resolve,invoke,builtin,Builtin.len_,hts,run_underlying h1,hp,MapKept.run_getObj_map hr,goInt,Result.andThen]
theorem QR{l:List MapEntry}{i:Nat}{f:MapEntry->MapEntry}(h:∀e,l[i]?=some e->f e=e):l.modify i f=l:=by
 apply List.ext_getElem?;intro j;rw[List.getElem?_modify];split
 .rename_i hij;subst hij;cases hj:l[i]? with
  | none=>rfl
  | some e=>simp[h e hj]
 .simp
theorem R8{o:Oper}{ev:Operand->AV}{h:Hp}{nb:Nat}{t kt et:TypeId}{d:TypeDesc}{x y:Operand}{b:Nat}{blk:Blk}{l:List MapEntry}{c:Nat}{kv zv:Value}{ti:TypeInfo}{ve:AV}
  (ho:o.op = .mapEntry t x y) (hx:ev x = .map b) (hb:h b=some blk) (hw:blk.wr=true) (hm:blk.mp=some (l,c)) (ht:D3 P t=some (kt,d,et)) (hk:Dr (ev y)=some kv) (hkd:A2 d kv=true) (hl:Hk d l)
  (hti:P.info? et=some ti) (hz:ti.zero=some zv) (hv:∀u,(B3 d kv l=none/\u=zv)\/(∃j e,B3 d kv l=some (j,e.val)/\l[j]?=some e/\u=e.val)->∀(φ:Phi) (A:Nat->Prop) (w:World),VR φ A w ve u):
  Au P o ev h nb {v:=.tup [ve,.int .i64 (DP d kv l c)],chg:=[(b,{blk with mp:=some (Dx d kv zv l c,BN d kv l c)})]}:=by
 intro φ A w a K Q hA hvv hh hn k;obtain⟨h1,h2⟩:=I1 ht;have hx':=hvv x;rw[hx] at hx';obtain⟨r,z,hφ,hp⟩:=hx'.map_inv;have hy:=HL hk (hvv y);have hr:=hh.map hb hm hφ;have hkk:=HA hkd;have hzr:(zeroValue et).run P w = .ok zv w:=by simp[zeroValue,typeInfo,hti,hz,Result.andThen]
 unfold Oper.wp;have tupOk:∀u,(∀(φ:Phi) (A:Nat->Prop) (w:World),VR φ A w ve u)->VR φ A w (.tup [ve,.int .i64 (DP d kv l c)]) (.tuple [u,.int .i64 (DP d kv l c)].toArray):=fun u hu=>
  .tup _ _ rfl fun i c' u' hc hu'=>by
   match i with
   | 0=>simp at hc hu';subst hc hu';exact hu φ A w
   | 1=>simp at hc hu';subst hc hu';exact .imm _ _ (.int _ _)
   | i+2=>simp at hc
 rcases Ii hkk hl with ⟨g1,g2,_⟩ | ⟨j,e,g1,g2,g3,g4⟩
 .have e1:Dx d kv zv l c=l++[{key:=kv,val:=zv,born:=c}]:=by unfold Dx;rw[g2]
  have e2:BN d kv l c=c+1:=by unfold BN;rw[g2]
  have e3:DP d kv l c=c:=by unfold DP;rw[g2]
  have hrun:(execOp a.eval o).run P w = .ok (.value (.tuple [zv,.int .i64 (DP d kv l c)].toArray)) {w with heap:=w.heap.setIfInBounds r (.map (Dx d kv zv l c).toArray (BN d kv l c))}:=by rw[e1,e2,e3];generalize a.eval=ρ at *;simp[execOp,ho,hp,hy,Instr.mapEntry,run_underlying h1,MapKept.run_getObj_map hr,MapKept.run_checkKey h2 hkk,MapKept.run_findKey h2 g1,hzr,MapKept.run_setObj_map _ hr,goInt,Result.andThen]
  rw[hrun];exact k _ _ φ (Eff.wmap (m:=(l,c)) (m':=(Dx d kv zv l c,BN d kv l c)) hA hn hb hw hφ hm hh (tupOk zv (hv zv (.inl ⟨g2,rfl⟩))))
 .have e1:Dx d kv zv l c=l:=by unfold Dx;rw[g2]
  have e2:BN d kv l c=c:=by unfold BN;rw[g2]
  have e3:DP d kv l c=e.born:=by unfold DP;rw[g2];simp[g3]
  have hmod:l.modify j (fun e=>{e with key:=kv})=l:=QR fun e' he'=>by rw[g3] at he';cases he';cases e;simp_all
  have hrun:(execOp a.eval o).run P w = .ok (.value (.tuple [e.val,.int .i64 (DP d kv l c)].toArray)) {w with heap:=w.heap.setIfInBounds r (.map (Dx d kv zv l c).toArray (BN d kv l c))}:=by rw[e1,e2,e3];generalize a.eval=ρ at *;simp[execOp,ho,hp,hy,Instr.mapEntry,run_underlying h1,MapKept.run_getObj_map hr,MapKept.run_checkKey h2 hkk,MapKept.run_findKey h2 g1,g3,g4,MapKept.run_keyThatStays hkk,MapKept.run_setObj_map _ hr,goInt,hmod,Result.andThen]
  rw[hrun];exact k _ _ φ (Eff.wmap (m:=(l,c)) (m':=(Dx d kv zv l c,BN d kv l c)) hA hn hb hw hφ hm hh (tupOk e.val (hv e.val (.inr ⟨j,e,g2,g3,rfl⟩))))
theorem S7{o:Oper}{ev:Operand->AV}{h:Hp}{nb:Nat}{t:TypeId}{x y q:Operand}{b:Nat}{blk:Blk}{l:List MapEntry}{c:Nat}{s:Int}{ki:IntKind}{vv:Value}
  (ho:o.op = .entryStore t x y q) (hx:ev x = .map b) (hb:h b=some blk) (hw:blk.wr=true) (hm:blk.mp=some (l,c)) (hy:ev y = .int ki s) (hq:Dr (ev q)=some vv) (hs:(l.findIdx? (fun e=>((e.born:Nat):Int)==s)).isSome=true):
  Au P o ev h nb {v:=.unk,chg:=[(b,{blk with mp:=some (F0 s vv l,c)})]}:=by
 intro φ A w a K Q hA hvv hh hn k;have hx':=hvv x;rw[hx] at hx';obtain⟨r,z,hφ,hp⟩:=hx'.map_inv;have hy':=hvv y;rw[hy] at hy';have hy':=hy'.int_inv;have hq':=HL hq (hvv q);have hr:=hh.map hb hm hφ;obtain⟨i,hi⟩:=Option.isSome_iff_exists.1 hs;unfold Oper.wp;have e1:F0 s vv l=l.modify i (fun e=>{e with val:=vv}):=by unfold F0;rw[hi]
 have hrun:(execOp a.eval o).run P w = .ok .skip {w with heap:=w.heap.setIfInBounds r (.map (F0 s vv l).toArray c)}:=by rw[e1];generalize a.eval=ρ at *;simp[execOp,ho,hp,hy',hq',Instr.entryStore,MapKept.run_getObj_map hr,asInt,asIntOf,hi,MapKept.run_setObj_map _ hr,Result.andThen]
 rw[hrun];exact k undef _ φ (Eff.wmap (m:=(l,c)) (m':=(F0 s vv l,c)) hA hn hb hw hφ hm hh (.imm _ _ (.unk _)))
theorem QQ{o:Oper}{ev:Operand->AV}{h:Hp}{nb:Nat}{t kt et:TypeId}{d:TypeDesc}{x y q:Operand}{b:Nat}{blk:Blk}{l:List MapEntry}{c:Nat}{kv vv:Value}
  (ho:o.op = .mapUpdate t x y q) (hx:ev x = .map b) (hb:h b=some blk) (hw:blk.wr=true) (hm:blk.mp=some (l,c)) (ht:D3 P t=some (kt,d,et)) (hk:Dr (ev y)=some kv) (hkd:A2 d kv=true) (hl:Hk d l) (hq:Dr (ev q)=some vv):
  Au P o ev h nb {v:=.unk,chg:=[(b,{blk with mp:=some (BS d kv vv l c,BN d kv l c)})]}:=by
 intro φ A w a K Q hA hvv hh hn k;obtain⟨h1,h2⟩:=I1 ht;have hx':=hvv x;rw[hx] at hx';obtain⟨r,z,hφ,hp⟩:=hx'.map_inv;have hy:=HL hk (hvv y);have hq':=HL hq (hvv q);have hr:=hh.map hb hm hφ;have hkk:=HA hkd;unfold Oper.wp;have hrun:(execOp a.eval o).run P w = .ok .skip {w with heap:=w.heap.setIfInBounds r (.map (BS d kv vv l c).toArray (BN d kv l c))}:=by
  rcases Ii hkk hl with ⟨g1,g2,_⟩ | ⟨j,e,g1,g2,g3,g4⟩
  .have e1:BS d kv vv l c=l++[{key:=kv,val:=vv,born:=c}]:=by unfold BS;rw[g2]
   have e2:BN d kv l c=c+1:=by unfold BN;rw[g2]
   rw[e1,e2];generalize a.eval=ρ at *;simp[execOp,ho,hp,hy,hq',Instr.mapUpdate,run_underlying h1,MapKept.run_getObj_map hr,MapKept.run_checkKey h2 hkk,MapKept.run_findKey h2 g1,MapKept.run_setObj_map _ hr,Result.andThen]
  .have e1:BS d kv vv l c=l.modify j (fun e=>{e with val:=vv}):=by unfold BS;rw[g2]
   have e2:BN d kv l c=c:=by unfold BN;rw[g2]
   have hmod:l.modify j (fun e=>{e with key:=kv,val:=vv})=l.modify j (fun e=>{e with val:=vv}):=by
    apply List.ext_getElem?;intro i;rw[List.getElem?_modify,List.getElem?_modify];by_cases hij:j=i
    .subst hij;rw[g3];cases e;simp_all
    .simp[hij]
   rw[e1,e2];generalize a.eval=ρ at *;simp[execOp,ho,hp,hy,hq',Instr.mapUpdate,run_underlying h1,MapKept.run_getObj_map hr,MapKept.run_checkKey h2 hkk,MapKept.run_findKey h2 g1,g3,g4,MapKept.run_keyThatStays hkk,MapKept.run_setObj_map _ hr,hmod,Result.andThen]
 rw[hrun];exact k undef _ φ (Eff.wmap (m:=(l,c)) (m':=(BS d kv vv l c,BN d kv l c)) hA hn hb hw hφ hm hh (.imm _ _ (.unk _)))
theorem Q5{o:Oper}{ev:Operand->AV}{h:Hp}{nb:Nat}{t kt et:TypeId}{d:TypeDesc}{x y:Operand}{b:Nat}{blk:Blk}{l:List MapEntry}{c:Nat}{kv:Value}{ts:Array TypeId}
  (ho:o.op = .call {callee:=.builtin .delete,args:=#[x,y],argTypes:=ts}) (hts:ts[0]?=some t) (hx:ev x = .map b) (hb:h b=some blk) (hw:blk.wr=true) (hm:blk.mp=some (l,c)) (ht:D3 P t=some (kt,d,et)) (hk:Dr (ev y)=some kv) (hkd:A2 d kv=true) (hl:Hk d l):
  Au P o ev h nb {v:=.unk,chg:=[(b,{blk with mp:=some (CM d kv l,c)})]}:=by
 intro φ A w a K Q hA hvv hh hn k;obtain⟨h1,h2⟩:=I1 ht;have hx':=hvv x;rw[hx] at hx';obtain⟨r,z,hφ,hp⟩:=hx'.map_inv;have hy:=HL hk (hvv y);have hr:=hh.map hb hm hφ;have hkk:=HA hkd;unfold Oper.wp;have hrun:(execOp a.eval o).run P w = .ok (.value (.tuple #[])) {w with heap:=w.heap.setIfInBounds r (.map (CM d kv l).toArray c)}:=by
  rcases Ii hkk hl with ⟨g1,g2,_⟩ | ⟨j,e,g1,g2,g3,g4⟩
  .have e1:CM d kv l=l:=by unfold CM;rw[g2]
   rw[e1];generalize a.eval=ρ at *;simp[execOp,ho,hp,hy,resolve,invoke,builtin,Builtin.delete_,hts,run_underlying h1,MapKept.run_getObj_map hr,MapKept.run_checkKey h2 hkk,MapKept.run_findKey h2 g1,MapKept.run_setObj_map _ hr,Result.andThen]
  .have e1:CM d kv l=l.eraseIdx j:=by unfold CM;rw[g2]
   rw[e1];generalize a.eval=ρ at *;have hjl:j<l.length:=(Tz.1 g3).1;simp[execOp,ho,hp,hy,resolve,invoke,builtin,Builtin.delete_,hts,run_underlying h1,MapKept.run_getObj_map hr,MapKept.run_checkKey h2 hkk,MapKept.run_findKey h2 g1,MapKept.run_setObj_map _ hr,Result.andThen,Array.eraseIdxIfInBounds,hjl]
 rw[hrun];exact k _ _ φ (Eff.wmap (m:=(l,c)) (m':=(CM d kv l,c)) hA hn hb hw hφ hm hh (.imm _ _ (.unk _)))
attribute [irreducible] B3 F7 Ej DP Dx BN F0 BS CM
def bAt(s:ByteArray)(i:Nat):Int:=((s.data.toList.getD i 0).toNat:Int)
def AQ(s:ByteArray):List AV:=s.data.toList.map fun b=>.int .u8 (b.toNat:Int)
theorem SM{o:Oper}{ev:Operand->AV}{h:Hp}{nb:Nat}{t:TypeId}{x y:Operand}{s:ByteArray}{k:IntKind}{i:Int}
  (ho:o.op = .index t x y) (ht:P.underlying t=some .string) (hx:ev x = .str s) (hy:ev y = .int k i) (h0:0<=i) (h1:i<s.size):Au P o ev h nb {v:=.int .u8 (bAt s i.toNat)}:=by
 refine .value fun φ A w ρ _ hv _=>⟨.int .u8 (bAt s i.toNat),?_,.imm _ _ (.int _ _)⟩
 have e1:=hv x;rw[hx] at e1;have e1:=e1.str_inv;have e2:=hv y;rw[hy] at e2;have e2:=e2.int_inv;have hlt:i.toNat<s.data.size:=by have:s.size=s.data.size:=rfl;omega
 have e3:bAt s i.toNat=((s[i.toNat]'hlt).toNat:Int):=by unfold bAt;rw[Ty,Tx (by simpa using hlt)];rfl
 rw[e3];simp[execOp,ho,e1,e2,run_index_string w t s k i ht,h0,h1]
theorem RN{o:Oper}{ev:Operand->AV}{h:Hp}{nb:Nat}{t:TypeId}{x y y':Operand}{s:ByteArray}{k k':IntKind}{i j:Int}
  (ho:o.op = .slice t x (some y) (some y') none) (ht:P.underlying t=some .string) (hx:ev x = .str s) (hy:ev y = .int k i) (hy':ev y' = .int k' j) (h0:0<=i) (h1:i<=j) (h2:j<=s.size):Au P o ev h nb {v:=.str (s.extract i.toNat j.toNat)}:=by
 refine .value fun φ A w ρ _ hv _=>⟨.string (s.extract i.toNat j.toNat),?_,.imm _ _ (.str _)⟩
 have e1:=hv x;rw[hx] at e1;have e1:=e1.str_inv;have e2:=hv y;rw[hy] at e2;have e2:=e2.int_inv;have e3:=hv y';rw[hy'] at e3;have e3:=e3.int_inv;simp[execOp,ho,e1,e2,e3,run_sliceAt_string (w:=w) t _ _ _ _ ht,run_slice_string w t s k k' i j ht h0 h1 h2]
theorem RV{o:Oper}{ev:Operand->AV}{h:Hp}{nb:Nat}{src dst e:TypeId}{x:Operand}{s:ByteArray}{u:TypeDesc}
  (ho:o.op = .convert src dst x) (hs:P.underlying src=some u) (hd:P.underlying dst=some (.slice e)) (he:P.underlying e=some (.int .u8)) (hx:ev x = .str s):Au P o ev h nb {v:=.lst (AQ s)}:=by
 intro φ A w a K Q hA hvv hh hn k;have e1:=hvv x;rw[hx] at e1;have e1:=e1.str_inv;unfold Oper.wp;have hrun:(execOp a.eval o).run P w = .ok (.value (.slice (some ⟨w.heap.size,0,none⟩) s.size (grownCap w s.size 0 e))) (Lib.bytesWorld w e s):=by generalize a.eval=ρ at *;simp[execOp,ho,e1,Lib.run_convert_string_bytes w src dst e s hs hd he,Result.andThen]
 rw[hrun];have hlen:(AQ s).length=s.size:=by simp[AQ]
 have hsz:=Lib.bytesWorld_size w e s;have hrow:∀r,Bn w r<=Bn (Lib.bytesWorld w e s) r:=by
  intro r;by_cases hr:r<w.heap.size
  .unfold Bn;rw[Lib.bytesWorld_at_old w e s r hr];exact TI _
  .unfold Bn;rw[Array.getElem?_eq_none (by omega)];exact TJ _
 refine k _ _ φ ⟨⟨rfl,rfl,rfl,by omega,fun r hr _=>Lib.bytesWorld_at_old w e s r hr,hrow⟩,fun _ _=>rfl,fun b hb=>hn b (by simpa using hb),fun b r z hb h=>?_,fun b b' r z z' hb _ h _=>?_,?_,fun b blk hm=>(by simp at hm),fun blk hm=>(by simp at hm),fun b blk hm=>(by simp at hm),fun b blk hm=>(by simp at hm)⟩
 .rw[hn b hb] at h;cases h
 .rw[hn b hb] at h;cases h
 .refine .imm _ _ ?_;have:=RT.lst (A:=BJ A φ nb w (Lib.bytesWorld w e s)) (w:=Lib.bytesWorld w e s) (AQ s) w.heap.size 0 (grownCap w s.size 0 e) 1 (fun i _=>.int .u8 (bAt s i)) ?_ ?_ ?_ ?_ ?_ ?_
  .rw[hlen] at this;exact this
  .rw[hlen];exact grownCap_ge w s.size 0 e
  .intro _;refine .inr ⟨TI _,by rw[hsz];omega,?_⟩
   rintro⟨b,z,hb,h1⟩
   rw[hn b hb] at h1;cases h1
  .intro e' he';obtain⟨b,_,rfl⟩:=T4.1 he';rfl
  .intro e' he' c hc;obtain⟨b,_,rfl⟩:=T4.1 he';simp[AV.cells] at hc;subst hc;rfl
  .intro i j hi hj;have hj0:j=0:=by omega
   subst hj0;rw[hlen] at hi;have:=Lib.bytesWorld_cell w e s i hi;simpa [bAt] using this
  .intro i j e' c hi hj;unfold AQ at hi;rw[TH] at hi;cases hg:s.data.toList[i]? with
   | none=>rw[hg] at hi;cases hi
   | some b=>
    rw[hg] at hi;simp at hi;subst hi;match j,hj with
    | 0,hj=>simp[AV.cells] at hj;subst hj;simp only[bAt];rw[Ty,hg];exact .int _ _
def MJ:AV->Option UInt8 | .int .u8 n=>some (UInt8.ofNat n.toNat) | _=>none
def FK:AV->Bool | .int .u8 n=>decide (0<=n)&&decide (n<256) | _=>false
def CE(es:List AV):ByteArray:=⟨(es.filterMap MJ).toArray⟩
theorem Sn{a:AV}(h:FK a=true):∃b:UInt8,a = .int .u8 (b.toNat:Int)/\MJ a=some b:=by
 unfold FK at h;split at h
 .rename_i n;simp only[TF,decide_eq_true_eq] at h;refine⟨UInt8.ofNat n.toNat,?_,rfl⟩;have:(UInt8.ofNat n.toNat).toNat=n.toNat:=by simp;omega
  rw[this,T0 h.1]
 .cases h
theorem OB:∀{es:List AV},es.all FK=true->∃l:List UInt8,es=l.map (fun b=>AV.int .u8 (b.toNat:Int))/\es.filterMap MJ=l
 | [],_=>⟨[],rfl,rfl⟩
 | a::es,h=>by simp only[List.all_cons,TF] at h;obtain⟨b,h1,h2⟩:=Sn h.1;obtain⟨l,h3,h4⟩:=OB h.2;exact⟨b::l,by rw[h1,h3];rfl,by rw[List.filterMap_cons,h2,h4]⟩
theorem Sg{o:Oper}{ev:Operand->AV}{h:Hp}{nb:Nat}{src dst e:TypeId}{x:Operand}{b n:Nat}{blk:Blk}
  (ho:o.op = .convert src dst x) (hs:P.underlying src=some (.slice e)) (he:P.underlying e=some (.int .u8)) (hd:P.underlying dst=some .string)
  (hx:ev x = .sl b 0 n) (hb:h b=some blk) (hz:blk.z=1) (hn:blk.es.length=n) (h0:n≠0) (hmp:blk.mp=none) (hby:blk.es.all FK=true):Au P o ev h nb {v:=.str (CE blk.es)}:=by
 refine .value fun φ A w ρ _ hv hh=>⟨.string (CE blk.es),?_,.imm _ _ (.str _)⟩
 have hx':=hv x;rw[hx] at hx';obtain⟨l,hl1,hl2⟩:=OB hby;have hln:l.length=n:=by rw[<-hn,hl1];simp
 rcases hx'.sl_inv with ⟨h1,_⟩ | ⟨r,z,cap,hφ,hnc,hr,he'⟩
 .exact absurd h1 h0
 .rw[Nat.zero_mul,<-hln] at he';rcases hh.blk b blk hb with ⟨_,g0,_⟩ | ⟨r',cs,T,hφ',hrow,_,hel⟩ | ⟨_,_,g0,_⟩
  .rw[hφ] at g0;cases g0
  case inr.inr=>rw[hmp] at g0;cases g0
  rw[hφ] at hφ';cases hφ';have hcell:∀j (hj:j<l.length),w.cell? ((⟨r,0,none⟩:Addr).add j)=some (.int .u8 (l[j].toNat:Int)):=by
   intro j hj;have hej:blk.es[j]?=some (.int .u8 (l[j].toNat:Int)):=by rw[hl1];simp[hj]
   obtain⟨_,g⟩:=hel j _ hej;obtain⟨_,v,hv1,hv2⟩:=g 0 _ rfl;have hv2:=hv2.int_inv;subst hv2;rw[Addr.add_lit];simp only[World.cell?];rw[hrow];simpa [hz] using hv1
  simp[execOp,ho,he',run_convert_bytes_back w src dst e ⟨r,0,none⟩ cap l hs he hd hcell,CE,hl2,Result.andThen]
attribute [irreducible] bAt AQ CE
inductive MK where | b | i (k:IntKind)
def H2:MK->Value | .b=>.bool false | .i k=>.int k 0
def BT:MK->Value->Prop | .b,.bool _=>True | .i k,.int k' _=>k'=k | _,_=>False
def CN(d:TypeDesc)(mk:MK)(l:List MapEntry):Prop:=∀x∈l,A2 d x.key=true/\BT mk x.val
def FV(mk:MK)(d:TypeDesc)(kv:Value)(l:List MapEntry):AV:=match mk with
 | .b=>.bool (F7 d kv l)
 | .i k=>.int k (Ej d kv l)
def KP(P:Program)(et:TypeId):Option MK:=match P.info? et with
 | some ti=>match ti.zero with
  | some (.bool false)=>some .b
  | some (.int k n)=>match n with
   | .ofNat 0=>some (.i k)
   | _=>none
  | _=>none
 | none=>none
theorem NO{et:TypeId}{mk:MK}(h:KP P et=some mk):∃ti,P.info? et=some ti/\ti.zero=some (H2 mk):=by
 unfold KP at h;split at h
 .rename_i ti hi;split at h
  .rename_i hz;cases h;exact⟨ti,hi,hz⟩
  .rename_i k n hz;split at h
   .cases h;exact⟨ti,hi,hz⟩
   .cases h
  .cases h
 .cases h
def HC(P:Program)(t:TypeId):Option (TypeDesc×MK):=match D3 P t with
 | some (_,d,et)=>match KP P et with
  | some mk=>some (d,mk)
  | none=>none
 | none=>none
theorem J8{t:TypeId}{d:TypeDesc}{mk:MK}(h:HC P t=some (d,mk)):∃kt et,D3 P t=some (kt,d,et)/\KP P et=some mk:=by
 unfold HC at h;split at h
 .rename_i kt d' et h1;split at h
  .rename_i mk' h2;simp at h;obtain⟨rfl,rfl⟩:=h;exact⟨kt,et,h1,h2⟩
  .cases h
 .cases h
theorem CN.keys{d:TypeDesc}{mk:MK}{l:List MapEntry}(h:CN d mk l):Hk d l:=fun x hx=>HA (h x hx).1
theorem CN.val{d:TypeDesc}{mk:MK}{l:List MapEntry}{kv:Value}(h:CN d mk l):∀u,(B3 d kv l=none/\u=H2 mk)\/(∃j e,B3 d kv l=some (j,e.val)/\l[j]?=some e/\u=e.val)->∀(φ:Phi) (A:Nat->Prop) (w:World),VR φ A w (FV mk d kv l) u:=by
 intro u hu φ A w;rcases hu with ⟨h1,rfl⟩ | ⟨j,e,h1,h2,rfl⟩
 .cases mk with
  | b=>simp only[FV,F7,h1,H2];exact .imm _ _ (.bool _)
  | i k=>simp only[FV,Ej,h1,H2];exact .imm _ _ (.int _ _)
 .have:=(h e (TB h2)).2;cases mk with
  | b=>
   cases hv:e.val<;>rw[hv] at this<;>simp[BT] at this;simp only[FV,F7,h1,hv];exact .imm _ _ (.bool _)
  | i k=>cases hv:e.val<;>rw[hv] at this<;>simp[BT] at this;subst this;simp only[FV,Ej,h1,hv];exact .imm _ _ (.int _ _)
def FR(x:AV)(hp:List (Option Blk)):Option (Nat×Blk×List MapEntry×Nat):=match x with
 | .map b=>match nth hp b with
  | some blk=>match blk.mp with
   | some (l,c)=>some (b,blk,l,c)
   | none=>none
  | none=>none
 | _=>none
theorem GV{x:AV}{hp:List (Option Blk)}{b:Nat}{blk:Blk}{l:List MapEntry}{c:Nat}(h:FR x hp=some (b,blk,l,c)):x = .map b/\nth hp b=some blk/\blk.mp=some (l,c):=by
 unfold FR at h;split at h
 case h_2=>cases h
 split at h
 case h_2=>cases h
 rename_i b' blk' h1;split at h
 case h_2=>cases h
 rename_i l' c' h2;simp at h;obtain⟨rfl,rfl,rfl,rfl⟩:=h;exact⟨rfl,h1,h2⟩
def Gt(d:TypeDesc)(y:AV):Option Value:=match Dr y with
 | some kv=>match A2 d kv with
  | true=>some kv
  | false=>none
 | none=>none
theorem Kc{d:TypeDesc}{y:AV}{kv:Value}(h:Gt d y=some kv):Dr y=some kv/\A2 d kv=true:=by
 unfold Gt at h;split at h
 case h_2=>cases h
 rename_i kv' h1;split at h
 case h_2=>cases h
 rename_i h2;cases h;exact⟨h1,h2⟩
def LG(P:Program)(t:TypeId)(x y:AV)(hp:List (Option Blk)):Option (OpR×Prop):=
 match FR x hp,HC P t with
 | some (_,_,l,_),some (d,mk)=>match Gt d y with
  | some kv=>some ({v:=FV mk d kv l},CN d mk l)
  | none=>none
 | _,_=>none
theorem RW{o:Oper}{ev:Operand->AV}{hp:List (Option Blk)}{nb:Nat}{t:TypeId}{x y:Operand}{R:OpR}{p:Prop}
  (ho:o.op = .lookup t x y false) (hr:LG P t (ev x) (ev y) hp=some (R,p)) (hpp:p):Au P o ev (nth hp) nb R/\R.fits (nth hp)/\R.dead=[]:=by
 unfold LG at hr;split at hr
 case h_2=>cases hr
 rename_i b blk l c d mk h1 h2;split at hr
 case h_2=>cases hr
 rename_i kv h3;cases hr;obtain⟨hx,hb,hm⟩:=GV h1;obtain⟨kt,et,ht,hz⟩:=J8 h2;obtain⟨ti,hti,hzv⟩:=NO hz;obtain⟨hk,hkd⟩:=Kc h3;exact⟨Sa ho hx hb hm ht hk hkd hpp.keys hti hzv hpp.val,OpR.fits_value _ _,rfl⟩
def My(P:Program)(t:TypeId)(x:AV)(hp:List (Option Blk)):Option (OpR×Prop):=
 match FR x hp,D3 P t with
 | some (_,_,l,_),some _=>some ({v:=.int .i64 l.length},True)
 | _,_=>none
theorem Sp{o:Oper}{ev:Operand->AV}{hp:List (Option Blk)}{nb:Nat}{ts:Array TypeId}{t:TypeId}{x:Operand}{R:OpR}{p:Prop}
  (ho:o.op = .call {callee:=.builtin .len,args:=#[x],argTypes:=ts}) (hts:ts[0]?=some t) (hr:My P t (ev x) hp=some (R,p)):Au P o ev (nth hp) nb R/\R.fits (nth hp)/\R.dead=[]:=by
 unfold My at hr;split at hr
 case h_2=>cases hr
 rename_i b blk l c r h1 h2;obtain⟨kt,d,et⟩:=r;cases hr;obtain⟨hx,hb,hm⟩:=GV h1;exact⟨R4 ho hts hx hb hm h2,OpR.fits_value _ _,rfl⟩
def Mt(P:Program)(t:TypeId)(x y:AV)(hp:List (Option Blk)):Option (OpR×Prop):=
 match FR x hp,HC P t with
 | some (b,blk,l,c),some (d,mk)=>match Gt d y,blk.wr with
  | some kv,true=>some ({v:=.tup [FV mk d kv l,.int .i64 (DP d kv l c)],chg:=[(b,{blk with mp:=some (Dx d kv (H2 mk) l c,BN d kv l c)})]},CN d mk l)
  | _,_=>none
 | _,_=>none
theorem GO{hp:List (Option Blk)}{v:AV}{b:Nat}{blk blk':Blk}(hb:nth hp b=some blk)(hw:blk.wr=true):OpR.fits {v,chg:=[(b,blk')]} (nth hp):=⟨fun b' blk'' hm=>by simp at hm;obtain⟨rfl,rfl⟩:=hm;exact⟨blk,hb,hw⟩,fun b hm=>by simp at hm⟩
theorem SE{o:Oper}{ev:Operand->AV}{hp:List (Option Blk)}{nb:Nat}{t:TypeId}{x y:Operand}{R:OpR}{p:Prop}
  (ho:o.op = .mapEntry t x y) (hr:Mt P t (ev x) (ev y) hp=some (R,p)) (hpp:p):Au P o ev (nth hp) nb R/\R.fits (nth hp)/\R.dead=[]:=by
 unfold Mt at hr;split at hr
 case h_2=>cases hr
 rename_i b blk l c d mk h1 h2;split at hr
 case h_2=>cases hr
 rename_i kv h3 hw;cases hr;obtain⟨hx,hb,hm⟩:=GV h1;obtain⟨kt,et,ht,hz⟩:=J8 h2;obtain⟨ti,hti,hzv⟩:=NO hz;obtain⟨hk,hkd⟩:=Kc h3;exact⟨R8 ho hx hb hw hm ht hk hkd hpp.keys hti hzv hpp.val,GO hb hw,rfl⟩
def Ma(x y q:AV)(hp:List (Option Blk)):Option (OpR×Prop):=
 match FR x hp,y with
 | some (b,blk,l,c),.int _ s=>match Dr q,blk.wr with
  | some vv,true=>some ({v:=.unk,chg:=[(b,{blk with mp:=some (F0 s vv l,c)})]},(l.findIdx? (fun e=>((e.born:Nat):Int)==s)).isSome=true)
  | _,_=>none
 | _,_=>none
theorem Rr{o:Oper}{ev:Operand->AV}{hp:List (Option Blk)}{nb:Nat}{t:TypeId}{x y q:Operand}{R:OpR}{p:Prop}
  (ho:o.op = .entryStore t x y q) (hr:Ma (ev x) (ev y) (ev q) hp=some (R,p)) (hpp:p):Au P o ev (nth hp) nb R/\R.fits (nth hp)/\R.dead=[]:=by
 generalize hy:ev y=yv at hr;unfold Ma at hr;split at hr
 case h_2=>cases hr
 rename_i b blk l c k s h1;split at hr
 case h_2=>cases hr
 rename_i vv h3 hw;cases hr;obtain⟨hx,hb,hm⟩:=GV h1;exact⟨S7 ho hx hb hw hm hy h3 hpp,GO hb hw,rfl⟩
def LW(P:Program)(t:TypeId)(x y q:AV)(hp:List (Option Blk)):Option (OpR×Prop):=
 match FR x hp,HC P t with
 | some (b,blk,l,c),some (d,mk)=>match Gt d y,Dr q,blk.wr with
  | some kv,some vv,true=>some ({v:=.unk,chg:=[(b,{blk with mp:=some (BS d kv vv l c,BN d kv l c)})]},CN d mk l)
  | _,_,_=>none
 | _,_=>none
theorem RL{o:Oper}{ev:Operand->AV}{hp:List (Option Blk)}{nb:Nat}{t:TypeId}{x y q:Operand}{R:OpR}{p:Prop}
  (ho:o.op = .mapUpdate t x y q) (hr:LW P t (ev x) (ev y) (ev q) hp=some (R,p)) (hpp:p):Au P o ev (nth hp) nb R/\R.fits (nth hp)/\R.dead=[]:=by
 unfold LW at hr;split at hr
 case h_2=>cases hr
 rename_i b blk l c d mk h1 h2;split at hr
 case h_2=>cases hr
 rename_i kv vv h3 h4 hw;cases hr;obtain⟨hx,hb,hm⟩:=GV h1;obtain⟨kt,et,ht,hz⟩:=J8 h2;obtain⟨hk,hkd⟩:=Kc h3;exact⟨QQ ho hx hb hw hm ht hk hkd hpp.keys h4,GO hb hw,rfl⟩
def KX(P:Program)(t:TypeId)(x y:AV)(hp:List (Option Blk)):Option (OpR×Prop):=
 match FR x hp,HC P t with
 | some (b,blk,l,c),some (d,mk)=>match Gt d y,blk.wr with
  | some kv,true=>some ({v:=.unk,chg:=[(b,{blk with mp:=some (CM d kv l,c)})]},CN d mk l)
  | _,_=>none
 | _,_=>none
theorem RF{o:Oper}{ev:Operand->AV}{hp:List (Option Blk)}{nb:Nat}{ts:Array TypeId}{t:TypeId}{x y:Operand}{R:OpR}{p:Prop}
  (ho:o.op = .call {callee:=.builtin .delete,args:=#[x,y],argTypes:=ts}) (hts:ts[0]?=some t) (hr:KX P t (ev x) (ev y) hp=some (R,p)) (hpp:p):Au P o ev (nth hp) nb R/\R.fits (nth hp)/\R.dead=[]:=by
 unfold KX at hr;split at hr
 case h_2=>cases hr
 rename_i b blk l c d mk h1 h2;split at hr
 case h_2=>cases hr
 rename_i kv h3 hw;cases hr;obtain⟨hx,hb,hm⟩:=GV h1;obtain⟨kt,et,ht,hz⟩:=J8 h2;obtain⟨hk,hkd⟩:=Kc h3;exact⟨Q5 ho hts hx hb hw hm ht hk hkd hpp.keys,GO hb hw,rfl⟩
def Jl(P:Program)(t:TypeId):Bool:=match P.underlying t with
 | some (.slice e)=>match P.underlying e with
  | some (.int .u8)=>true
  | _=>false
 | _=>false
theorem Qq{t:TypeId}(h:Jl P t=true):∃e,P.underlying t=some (.slice e)/\P.underlying e=some (.int .u8):=by
 unfold Jl at h;split at h
 .rename_i e h1;split at h
  .rename_i h2;exact⟨e,h1,h2⟩
  .cases h
 .cases h
def Md(P:Program)(s t:TypeId)(x:AV)(hp:List (Option Blk)):Option (OpR×Prop):=
 match x with
 | .int _ n=>match unI P t,unK P s with
  | some k',true=>vOp (.int k' (k'.wrap n))
  | _,_=>none
 | .str b=>match Jl P t,unK P s with
  | true,true=>some ({v:=.lst (AQ b)},True)
  | _,_=>none
 | .sl b 0 n=>match nth hp b,Jl P s,unS P t with
  | some blk,true,true=>match Nat.beq blk.z 1&&blk.mp.isNone with
   | true=>some ({v:=.str (CE blk.es)},blk.es.length=n/\n≠0/\blk.es.all FK=true)
   | false=>none
  | _,_,_=>none
 | _=>none
theorem NV{t:TypeId}(h:unK P t=true):∃d,P.underlying t=some d:=by
 unfold unK at h;split at h
 .rename_i d hd;exact⟨d,hd⟩
 .cases h
theorem Nr{t:TypeId}(h:unS P t=true):P.underlying t=some .string:=by
 unfold unS at h;split at h
 .assumption
 .cases h
theorem Q9{o:Oper}{ev:Operand->AV}{hp:List (Option Blk)}{nb:Nat}{s t:TypeId}{x:Operand}{R:OpR}{p:Prop}
  (ho:o.op = .convert s t x) (hr:Md P s t (ev x) hp=some (R,p)) (hpp:p):Au P o ev (nth hp) nb R/\R.fits (nth hp)/\R.dead=[]:=by
 generalize hx:ev x=xv at hr;unfold Md at hr;split at hr
 .rename_i k n;split at hr
  case h_2=>cases hr
  rename_i k' hu hs;cases hr;refine⟨ok_convI ho hx (NV hs) ?_,OpR.fits_value _ _,rfl⟩;unfold unI at hu;split at hu
  .cases hu;assumption
  .cases hu
 .rename_i b;split at hr
  case h_2=>cases hr
  rename_i h1 h2;cases hr;obtain⟨e,g1,g2⟩:=Qq h1;obtain⟨u,g3⟩:=NV h2;exact⟨RV ho g3 g1 g2 hx,OpR.fits_value _ _,rfl⟩
 .rename_i b n;split at hr
  case h_2=>cases hr
  rename_i blk hb h1 h2;split at hr
  case h_2=>cases hr
  rename_i h3;simp only[TF,Un] at h3;cases hr;obtain⟨e,g1,g2⟩:=Qq h1;exact⟨Sg ho g1 g2 (Nr h2) hx hb (TE h3.1) hpp.1 hpp.2.1 h3.2 hpp.2.2,OpR.fits_value _ _,rfl⟩
 .cases hr
def LL(P:Program)(t:TypeId)(x y:AV):Option (OpR×Prop):=
 match x,y with
 | .str s,.int _ i=>match unS P t with
  | true=>some ({v:=.int .u8 (bAt s i.toNat)},0<=i/\i<s.size)
  | false=>none
 | _,_=>none
theorem Rj{o:Oper}{ev:Operand->AV}{h:Hp}{nb:Nat}{t:TypeId}{x y:Operand}{R:OpR}{p:Prop}
  (ho:o.op = .index t x y) (hr:LL P t (ev x) (ev y)=some (R,p)) (hpp:p):Au P o ev h nb R/\R.fits h/\R.dead=[]:=by
 generalize hx:ev x=xv at hr;generalize hy:ev y=yv at hr;unfold LL at hr;split at hr
 case h_2=>cases hr
 rename_i s k i;split at hr
 case h_2=>cases hr
 rename_i hu;cases hr;exact⟨SM ho (Nr hu) hx hy hpp.1 hpp.2,OpR.fits_value _ _,rfl⟩
def LR(P:Program)(t:TypeId)(x:AV)(lo hi mx:Option AV):Option (OpR×Prop):=
 match x,lo,hi,mx with
 | .str s,some (.int _ i),some (.int _ j),none=>match unS P t with
  | true=>some ({v:=.str (s.extract i.toNat j.toNat)},0<=i/\i<=j/\j<=s.size)
  | false=>none
 | _,_,_,_=>none
theorem Rl{o:Oper}{ev:Operand->AV}{h:Hp}{nb:Nat}{t:TypeId}{x:Operand}{lo hi mx:Option Operand}{R:OpR}{p:Prop}
  (ho:o.op = .slice t x lo hi mx) (hr:LR P t (ev x) (lo.map ev) (hi.map ev) (mx.map ev)=some (R,p)) (hpp:p):Au P o ev h nb R/\R.fits h/\R.dead=[]:=by
 generalize hx:ev x=xv at hr;unfold LR at hr;split at hr
 case h_2=>cases hr
 rename_i s k i k' j h1 h2 h3;split at hr
 case h_2=>cases hr
 rename_i hu;cases hr;cases lo with
 | none=>cases h1
 | some y=>
  cases hi with
  | none=>cases h2
  | some y'=>
   cases mx with
   | some z=>cases h3
   | none=>exact⟨RN ho (Nr hu) hx (Option.some.inj h1) (Option.some.inj h2) hpp.1 hpp.2.1 hpp.2.2,OpR.fits_value _ _,rfl⟩
theorem VR.rt_of_noref{φ:Phi}{A:Nat->Prop}{w:World}{a:AV}{v:Value}(h:VR φ A w a v)(hn:a.noref=true):RT A w a v:=by
 cases h with
 | imm a v h=>exact h
 | ptr=>simp[AV.noref] at hn
 | sl=>simp[AV.noref] at hn
 | slnil=>simp[AV.noref] at hn
 | agg=>simp[AV.noref] at hn
 | tup=>simp[AV.noref] at hn
 | fn=>simp[AV.noref] at hn
 | map=>simp[AV.noref] at hn
 | ifc=>simp[AV.noref] at hn
theorem Au.toImm{o:Oper}{ev:Operand->AV}{h:Hp}{nb n:Nat}{blk:Blk}(hok:Au P o ev h nb {v:=.sl nb 0 n,new:=[blk]})(hn:blk.es.length=n)(hmp:blk.mp=none)
  (hnr:∀e∈blk.es,∀c∈e.cells,c.noref=true):Au P o ev h nb {v:=.lst blk.es}:=by
 intro φ A w a K Q hA hv hh hnone k;refine hok φ A w a K Q hA hv hh hnone fun v' w' φ' E=>k v' w' φ ?_
 have hgrow:∀r,w.heap.size<=r->r<w'.heap.size->BJ A φ nb w w' r:=fun r h1 h2=>.inr ⟨h1,h2,by rintro⟨b,z,hb,h3⟩;rw[hnone b hb] at h3;cases h3⟩
 have hA':∀r,BJ A φ' nb w w' r->BJ A φ nb w w' r:=by
  rintro r (h1 | ⟨h1,h2,_⟩)
  .exact .inl h1
  .exact hgrow r h1 h2
 refine⟨E.keep.mono fun r hr=>?_,fun _ _=>rfl,fun b hb=>hnone b (by simpa using hb),fun b r z hb h1=>?_,fun b b' r z z' hb _ h1 _=>?_,?_,fun b blk hm=>(by simp at hm),fun blk hm=>(by simp at hm),fun b blk hm=>(by simp at hm),fun b blk hm=>(by simp at hm)⟩
 .obtain⟨b,z,hd,_⟩:=hr;simp[OpR.dirty] at hd
 .rw[hnone b hb] at h1;cases h1
 .rw[hnone b hb] at h1;cases h1
 .have hval:=E.val;rcases hval.sl_inv with ⟨h0,a',he⟩ | ⟨r,z,cap,hφ,hnc,hr,he⟩
  .have:blk.es=[]:=List.length_eq_zero_iff.1 (by omega);simp only[he,this];exact .imm _ _ (.lnil a')
  .have hb:=E.newb 0 blk rfl;rcases hb with ⟨_,h0,_⟩ | ⟨r',cs,T,hφ',hrow,_,hel⟩ | ⟨m,r',h0,_⟩
   .rw[Tj,hφ] at h0;cases h0
   case inr.inr=>rw[hmp] at h0;cases h0
   rw[Tj,hφ] at hφ';simp only[Td,Tl] at hφ';obtain⟨rfl,rfl⟩:=hφ';have hfr:w.heap.size<=r/\r<w'.heap.size:=by
    rcases E.fresh nb r _ (TI _) hφ with h1 | ⟨b0,z0,blk0,hd,_⟩
    .exact h1
    .simp at hd
   simp only[he,Nat.zero_mul];rw[<-hn];refine .imm _ _ (.lst blk.es r 0 cap blk.z (fun i j=>(cs[i * blk.z+j]?).getD undef) (by omega) (fun _=>hgrow r hfr.1 hfr.2) (fun e he=>?_) (fun e he c hc=>?_) (fun i j hi hj=>?_) fun i j e c hi hj=>?_)
   .obtain⟨i,hi⟩:=List.mem_iff_getElem?.1 he;exact(hel i e hi).1
   .obtain⟨i,hi⟩:=List.mem_iff_getElem?.1 he;obtain⟨j,hj⟩:=List.mem_iff_getElem?.1 hc;exact((hel i e hi).2 j c hj).1
   .have hie:=Tx hi;obtain⟨h1,h2⟩:=hel i _ hie;have hje:=Tx (l:=(blk.es[i]).cells) (i:=j) (by rw[h1];exact hj);obtain⟨_,v,hv1,_⟩:=h2 j _ hje;simp only[World.cell?];rw[hrow];simpa using hv1.trans (by rw[hv1];rfl)
   .obtain⟨_,h2⟩:=hel i e hi;obtain⟨_,v,hv1,hv2⟩:=h2 j c hj;rw[hv1];exact(hv2.rt_of_noref (hnr e (TB hi) c (TB hj))).mono hA' fun _ _=>rfl
theorem Au.toImmF{o:Oper}{ev:Operand->AV}{h:Hp}{nb n:Nat}{blk:Blk}(hok:Au P o ev h nb {v:=.sl nb 0 n,new:=[blk]})(hn:blk.es.length=n)(hmp:blk.mp=none)
  (hfl:blk.flat=true):Au P o ev h nb {v:=.lst blk.es}:=by
 intro φ A w a K Q hA hv hh hnone k;refine hok φ A w a K Q hA hv hh hnone fun v' w' φ' E=>k v' w' φ ?_
 have hnr:=E.fln blk (Tm.2 rfl) hfl;have hgrow:∀r,w.heap.size<=r->r<w'.heap.size->BJ A φ nb w w' r:=fun r h1 h2=>.inr ⟨h1,h2,by rintro⟨b,z,hb,h3⟩;rw[hnone b hb] at h3;cases h3⟩
 have hA':∀r,BJ A φ' nb w w' r->BJ A φ nb w w' r:=by
  rintro r (h1 | ⟨h1,h2,_⟩)
  .exact .inl h1
  .exact hgrow r h1 h2
 refine⟨E.keep.mono fun r hr=>?_,fun _ _=>rfl,fun b hb=>hnone b (by simpa using hb),fun b r z hb h1=>?_,fun b b' r z z' hb _ h1 _=>?_,?_,fun b blk hm=>(by simp at hm),fun blk hm=>(by simp at hm),fun b blk hm=>(by simp at hm),fun b blk hm=>(by simp at hm)⟩
 .obtain⟨b,z,hd,_⟩:=hr;simp[OpR.dirty] at hd
 .rw[hnone b hb] at h1;cases h1
 .rw[hnone b hb] at h1;cases h1
 .have hval:=E.val;rcases hval.sl_inv with ⟨h0,a',he⟩ | ⟨r,z,cap,hφ,hnc,hr,he⟩
  .have:blk.es=[]:=List.length_eq_zero_iff.1 (by omega);simp only[he,this];exact .imm _ _ (.lnil a')
  .have hb:=E.newb 0 blk rfl;rcases hb with ⟨_,h0,_⟩ | ⟨r',cs,T,hφ',hrow,_,hel⟩ | ⟨m,r',h0,_⟩
   .rw[Tj,hφ] at h0;cases h0
   case inr.inr=>rw[hmp] at h0;cases h0
   rw[Tj,hφ] at hφ';simp only[Td,Tl] at hφ';obtain⟨rfl,rfl⟩:=hφ';have hfr:w.heap.size<=r/\r<w'.heap.size:=by
    rcases E.fresh nb r _ (TI _) hφ with h1 | ⟨b0,z0,blk0,hd,_⟩
    .exact h1
    .simp at hd
   simp only[he,Nat.zero_mul];rw[<-hn];refine .imm _ _ (.lst blk.es r 0 cap blk.z (fun i j=>(cs[i * blk.z+j]?).getD undef) (by omega) (fun _=>hgrow r hfr.1 hfr.2) (fun e he=>?_) (fun e he c hc=>?_) (fun i j hi hj=>?_) fun i j e c hi hj=>?_)
   .obtain⟨i,hi⟩:=List.mem_iff_getElem?.1 he;exact(hel i e hi).1
   .obtain⟨i,hi⟩:=List.mem_iff_getElem?.1 he;obtain⟨j,hj⟩:=List.mem_iff_getElem?.1 hc;exact((hel i e hi).2 j c hj).1
   .have hie:=Tx hi;obtain⟨h1,h2⟩:=hel i _ hie;have hje:=Tx (l:=(blk.es[i]).cells) (i:=j) (by rw[h1];exact hj);obtain⟨_,v,hv1,_⟩:=h2 j _ hje;simp only[World.cell?];rw[hrow];simpa using hv1.trans (by rw[hv1];rfl)
   .obtain⟨_,h2⟩:=hel i e hi;obtain⟨_,v,hv1,hv2⟩:=h2 j c hj;rw[hv1];exact(hv2.rt_of_noref (hnr e (TB hi) c (TB hj))).mono hA' fun _ _=>rfl
def immR(nb:Nat):OpR×Prop->Option (OpR×Prop)
 | (⟨.sl b 0 n,[],[],[blk]⟩,p)=>match Nat.beq b nb&&blk.flat,blk.mp with
  | true,none=>some ({v:=.lst blk.es},p/\blk.es.length=n)
  | _,_=>none
 | _=>none
theorem SD{o:Oper}{ev:Operand->AV}{h:Hp}{nb:Nat}{r:OpR×Prop}{R:OpR}{p:Prop}(hr:immR nb r=some (R,p))(hpp:p)(hok:r.2->Au P o ev h nb r.1):Au P o ev h nb R/\R.fits h:=by
 unfold immR at hr;split at hr
 .rename_i b n blk q;split at hr
  .rename_i hb hm;cases hr;simp only[TF] at hb;have:=TE hb.1;subst this;exact⟨(hok hpp.1).toImmF hpp.2 hm hb.2,OpR.fits_value _ _⟩
  .cases hr
 .cases hr
def wkq:AV->AV | .nils=>.lst [] | e=>e
def wkr:AV->AV | .nils=>.lst [] | .agg cs=>.agg (cs.map wkq) | e=>e
theorem Ql{φ:Phi}{A:Nat->Prop}{w:World}{c:AV}{v:Value}(h:VR φ A w c v):VR φ A w (wkq c) v:=by
 cases c with
 | nils=>rw[h.nils_inv];exact .imm _ _ (.lnil none)
 | _=>exact h
theorem wkr_len(e:AV):(wkr e).cells.length=e.cells.length:=by cases e<;>simp[wkr,AV.cells]
theorem Oy{φ:Phi}{A:Nat->Prop}{w:World}(c:AV):(c.one=true->(wkq c).one=true)/\(c.noref=true->(wkq c).noref=true)/\∀v,VR φ A w c v->VR φ A w (wkq c) v:=by refine⟨fun h=>?_,fun h=>?_,fun v h=>Ql h⟩<;>cases c<;>first | exact h | rfl
theorem Ow{φ:Phi}{A:Nat->Prop}{w:World}{e c:AV}{j:Nat}(hc:(wkr e).cells[j]?=some c):∃c',e.cells[j]?=some c'/\(c'.one=true->c.one=true)/\(c'.noref=true->c.noref=true)/\∀v,VR φ A w c' v->VR φ A w c v:=by
 cases e with
 | nils=>
  match j,hc with
  | 0,hc=>simp[wkr,AV.cells] at hc;subst hc;exact⟨.nils,rfl,Oy .nils⟩
 | agg cs=>simp only[wkr,AV.cells,TH] at hc;obtain⟨c',h1,rfl⟩:=Option.map_eq_some_iff.1 hc;exact⟨c',h1,Oy c'⟩
 | _=>exact⟨c,hc,id,id,fun _ h=>h⟩
theorem Au.wkNew{o:Oper}{ev:Operand->AV}{h:Hp}{nb:Nat}{v:AV}{blk:Blk}(hok:Au P o ev h nb {v,new:=[blk]})(hfl:blk.flat=true->Ca blk.es):Au P o ev h nb {v,new:=[{blk with es:=blk.es.map wkr}]}:=by
 intro φ A w a K Q hA hv hh hnone k;refine hok φ A w a K Q hA hv hh hnone fun v' w' φ' E=>k v' w' φ' ?_
 refine⟨E.keep,E.old,E.out,E.fresh,E.inj,E.val,fun b blk' hm=>(by simp at hm),fun blk' hm=>?_,fun b blk' hm=>(by simp at hm),fun k blk' hk=>?_⟩
 .simp at hm;subst hm;intro hf e he c hc;obtain⟨e0,he0,rfl⟩:=T4.1 he;obtain⟨j,hj⟩:=List.mem_iff_getElem?.1 hc;obtain⟨c',h1,_,h3,_⟩:=Ow (φ:=φ) (A:=A) (w:=w) hj;exact h3 (hfl hf e0 he0 c' (TB h1))
 .match k,hk with
  | 0,hk=>
   simp at hk;subst hk;rcases E.newb 0 blk rfl with ⟨h1,h2,h3,h4⟩ | ⟨r,cs,T,h1,h2,⟨h3,h4⟩,h5⟩ | ⟨m,r,h1,h2,⟨h3,h4⟩,h5⟩
   .exact .inl ⟨by simp[h1],h2,h3,h4⟩
   .refine .inr (.inl ⟨r,cs,T,h1,h2,⟨by simpa using h3,h4⟩,fun i e he=>?_⟩);simp only[TH] at he;cases hi:blk.es[i]? with
    | none=>rw[hi] at he;cases he
    | some e0=>rw[hi] at he;simp at he;subst he;obtain⟨g1,g2⟩:=h5 i e0 hi;refine⟨by rw[wkr_len];exact g1,fun j c hc=>?_⟩;obtain⟨c',k1,k2,_,k4⟩:=Ow (φ:=φ') (A:=BJ A φ' nb w w') (w:=w') hc;obtain⟨g3,v,g4,g5⟩:=g2 j c' k1;exact⟨k2 g3,v,g4,k4 v g5⟩
   .exact .inr (.inr ⟨m,r,h1,h2,⟨by simp[h3],h4⟩,h5⟩)
theorem wkr_vr{φ:Phi}{A:Nat->Prop}{w:World}{c:AV}{v:Value}(h:VR φ A w c v):VR φ A w (wkr c) v:=by
 cases c with
 | nils=>rw[h.nils_inv];exact .imm _ _ (.lnil none)
 | agg cs=>
  obtain⟨vs,rfl,hl,hh⟩:=h.agg_inv;refine .agg (cs.map wkq) vs (by simpa using hl) fun i d u hd hu=>?_
  rw[TH] at hd;obtain⟨c',h1,rfl⟩:=Option.map_eq_some_iff.1 hd;exact Ql (hh i c' u h1 hu)
 | _=>exact h
theorem Au.lessEv{o:Oper}{ev:Operand->AV}{h:Hp}{nb:Nat}{R:OpR}(hk:Au P o (fun x=>wkr (ev x)) h nb R):Au P o ev h nb R:=by intro φ A w a K Q hA hv hh hn k;exact hk φ A w a K Q hA (fun x=>wkr_vr (hv x)) hh hn k
theorem Rc{t:TypeId}{x y:AV}{hp:List (Option Blk)}{hint:AG}:Gj P t (wkr x) y hp hint=Gj P t x y hp hint:=by cases x<;>first | rfl | (simp only[wkr];unfold Gj JW KA;split<;>rfl)
theorem RH(w:World)(t tx ty e:TypeId)(i:TypeInfo)(z:Value)(kx:IntKind)(ht:P.underlying t=some (.slice e))(htx:P.underlying tx=some (.int kx))(hi:P.info? e=some i)(hz:i.zero=some z)
  (n:Nat) (h0:0<n) (hpos:0<i.size) (h63:(n:Int)<=9223372036854775807) (h48:n * i.bytes<=281474976710656):
  (Builtin.append_ #[t,tx] ty #[.slice none 0 0,.int .i64 n]).run P w =
   .ok (.slice (some ⟨w.heap.size,0,none⟩) n (grownCap w n 0 e)) (w.drew.alloc (.cells (Builtin.zeroCells z.cells n++Builtin.zeroCells z.cells (grownCap w n 0 e-n)) e)):=by
 have hn:n≠0:=by omega
 have h63':¬(9223372036854775807<(n:Int)):=by omega
 have h48':¬(281474976710656<Builtin.nextslicecap n 0 * i.bytes):=by rw[nextslicecap_zero h0];omega
 have h48'':¬(281474976710656<(n:Int) * i.bytes):=by have:((n * i.bytes:Nat):Int)=(n:Int) * i.bytes:=by simp
                                                     omega
 have hw:i64.wrap (n:Int)=n:=by simp only[IntKind.wrap,IntKind.bits,IntKind.signed];simp;omega
 have hns:¬(n * i.size=0):=by have:=Nat.mul_pos h0 hpos;omega
 have hneg:¬((n:Int)<0):=by omega
 simp[Builtin.append_,run_underlying ht,run_underlying htx,sizeOf,typeInfo,zeroValue,hi,hz,asInt,asIntOf,hw,hneg,h48'',hns,hn,h63',h48',Question.forced,run_firstCells_none,newRow,grownCap]
theorem SH{o:Oper}{ev:Operand->AV}{h:Hp}{nb:Nat}{t tx:TypeId}{x y:Operand}{e:AV}{z by_:Nat}{n:Int}
  (ho:o.op = .call {callee:=.builtin .append,args:=#[x,y],argTypes:=#[t,tx]}) (ht:C6 P t=some (e,z,by_)) (htx:P.underlying tx=some (.int .i64)) (hx:ev x = .nils) (hy:ev y = .int .i64 n)
  (h0:0<n) (h63:n<=9223372036854775807) (hb:n.toNat * by_<=140737488355328):
  Au P o ev h nb {v:=.sl nb 0 n.toNat,new:=[{es:=List.replicate n.toNat e,z,flat:=Bg e.cells}]}:=by
 intro φ A w ac K Q hA hv hh hn k;obtain⟨el,i,zv,hu,hi,hz,rfl,hsz,hby,hkn,hzl,hone,hpos⟩:=GP ht;have hx':=hv x;rw[hx] at hx';have hx':=hx'.nils_inv;have hy':=hv y;rw[hy] at hy';have hy':=hy'.int_inv;have hcr:=(VR.imm (φ:=φ) (A:=A) (w:=w) _ _ (RT.absV zv)).cr hkn;have hzs:zv.cells.size=z:=by have:=hcr.1;simp at this;omega
 obtain⟨m,rfl⟩:∃m:Nat,n=(m:Int):=⟨n.toNat,by omega⟩;rw[TG] at hb;simp only[TG] at k ⊢
 have hrun:=RH (P:=P) w t tx o.type el i zv .i64 hu htx hi hz m (by omega) (by omega) h63 (by rw[hby];omega);have hsize:∀n,(Builtin.zeroCells zv.cells n).toList.length=n * z:=by intro n;simp[size_zeroCells,hzs]
 have hrow:Row φ A w z (List.replicate m (absV zv)) (Builtin.zeroCells zv.cells m).toList:=by
  refine⟨by rw[hsize,TV],fun k e' he=>?_⟩;have hlt:=(Tz.1 he).1;rw[TV] at hlt;rw[TZ,Tv hlt] at he;cases he;refine⟨hzl,fun j c' hj=>?_⟩;have hjl:=(Tz.1 hj).1;have hidx:k * z+j<m * z:=by have:=TQ z (show k+1<=m by omega);rw[Nat.succ_mul] at this;omega
  have hmod:(k * z+j) % z=j:=by rw[Te,Nat.mul_add_mod];exact Tn (by omega)
  have hju:j<zv.cells.toList.length:=by simp;omega
  refine⟨TN.1 hone c' (TB hj),zv.cells.toList[j],?_,hcr.2 j c' _ hj (by simp)⟩;simp[Builtin.zeroCells,hidx,hzs,hmod,getElem!_pos zv.cells j (by omega)]
 have hg:=grownCap_ge w m 0 el;unfold Oper.wp;have hex:(execOp ac.eval o).run P w = .ok (.value (.slice (some ⟨w.heap.size,0,none⟩) m (grownCap w m 0 el))) (w.drew.alloc (.cells (Builtin.zeroCells zv.cells m++Builtin.zeroCells zv.cells (grownCap w m 0 el-m)) el)):=by rw[<-hx',<-hy'] at hrun;generalize ac.eval=ρ at *;simp[execOp,ho,resolve,invoke,builtin,hrun]
 rw[hex];refine k _ _ (upd φ nb (w.heap.size,z)) ?_
 have:=Eff.grow (dead:=[]) (T:=el) (n:=m) (cap:=grownCap w m 0 el) (flat:=Bg (absV zv).cells) (fun hf e' he c' hc=>by rw[(List.mem_replicate.1 he).2] at hc;exact TN.1 hf c' hc) (extra:=(Builtin.zeroCells zv.cells (grownCap w m 0 el-m)).toList) hA hn hrow (by simp) hg
  (by rw[hsize,hsize,Nat.sub_mul];have:=TQ z hg;omega)
 rw[<-I4] at this;simpa using this
theorem Row.rep{φ:Phi}{A:Nat->Prop}{w:World}{zv:Value}{z:Nat}(hkn:(absV zv).known=true)(hzl:(absV zv).cells.length=z)(hone:Ci (absV zv).cells=true)(m:Nat):
  Row φ A w z (List.replicate m (absV zv)) (Builtin.zeroCells zv.cells m).toList:=by
 have hcr:=(VR.imm (φ:=φ) (A:=A) (w:=w) _ _ (RT.absV zv)).cr hkn;have hzs:zv.cells.size=z:=by have:=hcr.1;simp at this;omega
 have hsize:∀n,(Builtin.zeroCells zv.cells n).toList.length=n * z:=by intro n;simp[size_zeroCells,hzs]
 refine⟨by rw[hsize,TV],fun k e' he=>?_⟩;have hlt:=(Tz.1 he).1;rw[TV] at hlt;rw[TZ,Tv hlt] at he;cases he;refine⟨hzl,fun j c' hj=>?_⟩;have hjl:=(Tz.1 hj).1;have hidx:k * z+j<m * z:=by have:=TQ z (show k+1<=m by omega);rw[Nat.succ_mul] at this;omega
 have hmod:(k * z+j) % z=j:=by rw[Te,Nat.mul_add_mod];exact Tn (by omega)
 have hju:j<zv.cells.toList.length:=by simp;omega
 refine⟨TN.1 hone c' (TB hj),zv.cells.toList[j],?_,hcr.2 j c' _ hj (by simp)⟩;simp[Builtin.zeroCells,hidx,hzs,hmod,getElem!_pos zv.cells j (by omega)]
theorem ok_clear{o:Oper}{ev:Operand->AV}{h:Hp}{nb:Nat}{t:TypeId}{x:Operand}{b i n z by_:Nat}{blk:Blk}{e:AV}
  (ho:o.op = .call {callee:=.builtin .clear,args:=#[x],argTypes:=#[t]}) (ht:C6 P t=some (e,z,by_))
  (hx:ev x = .sl b i n) (hb:h b=some blk) (hz:blk.z=z) (hw:blk.wr=true) (hin:i+n<=blk.es.length):
  Au P o ev h nb {v:=.tup [],chg:=[(b,{blk with es:=blk.es.take i++List.replicate n e++blk.es.drop (i+n),flat:=blk.flat&&Bg e.cells})]}:=by
 intro φ A w ac K Q hA hv hh hn k;obtain⟨el,inf,zv,hu,hi,hzz,rfl,hsz,hby,hkn,hzl,hone,hpos⟩:=GP ht;have h0:=hv x;rw[hx] at h0;have hsub:=Row.rep (φ:=φ) (A:=A) (w:=w) hkn hzl hone n;generalize hnews:(Builtin.zeroCells zv.cells n).toList=news at hsub;have hvl:news.length=n * z:=by have:=hsub.len;rw[this,TV]
 have hones:∀u∈news,u.oneCell'=true:=hsub.one hpos;have vt:∀{A':Nat->Prop} {w':World},VR φ A' w' (.tup []) (.tuple #[]):=VR.tup [] [] rfl fun i c v hc=>by simp at hc
 have exec:∀(a:Option Addr) (cap:Nat) (w':World),ac.eval x = .slice a n cap->(n=0->w'=w)->(n≠0->∃ad,a=some ad/\(storeCells ad news).run P w = .ok () w')->
   (execOp ac.eval o).run P w = .ok (.value (.tuple #[])) w':=by
  intro a cap w' ha hz0 hz1;generalize ac.eval=ρ at *;cases n with
  | zero=>rw[hz0 rfl];cases a<;>simp[execOp,ho,resolve,invoke,builtin,Builtin.clear_,run_underlying hu,ha]
  | succ n=>obtain⟨ad,rfl,hst⟩:=hz1 (by omega);simp[execOp,ho,resolve,invoke,builtin,Builtin.clear_,run_underlying hu,ha,zeroValue,typeInfo,hi,hzz,hnews,hst]
 have hfl:(blk.flat&&Bg (absV zv).cells)=true->Ca (blk.es.take i++List.replicate n (absV zv)++blk.es.drop (i+n)):=by
  intro hf e' he';simp only[TF] at hf;rcases T3.1 he' with hm' | hm'
  .rcases T3.1 hm' with hm' | hm'
   .exact hh.flat b blk hb hf.1 e' (List.mem_of_mem_take hm')
   .intro c hc;rw[(List.mem_replicate.1 hm').2] at hc;exact TN.1 hf.2 c hc
  .exact hh.flat b blk hb hf.1 e' (List.mem_of_mem_drop hm')
 have same:n=0->blk.es.take i++List.replicate n (absV zv)++blk.es.drop (i+n)=blk.es:=by intro h;subst h;simp
 unfold Oper.wp;by_cases hn0:n=0
 .have he:∃a cap,ac.eval x = .slice a n cap:=by
   rcases h0.sl_inv with ⟨_,a,he⟩ | ⟨r,z',cap,hφ,hnc,hrw,he⟩
   .exact⟨a,0,by rw[he,hn0]⟩
   .exact⟨_,cap,he⟩
  obtain⟨a,cap,he⟩:=he;rw[exec a cap w he (fun _=>rfl) (fun h=>absurd hn0 h)];refine k _ w φ ⟨BU.refl _ w,fun _ _=>rfl,fun b' hb'=>hn b' (by simpa using hb'),fun b' r' z' hb' h1=>?_,fun b1 b2 r' z1 z2 hb1 hb2 h1 h2=>?_,vt,fun b' blk' hmm=>by simp only[Tm,Tl] at hmm;obtain⟨_,rfl⟩:=hmm;exact hfl,fun blk' hmm=>by simp at hmm,fun b' blk' hmm=>?_,fun k' blk' hk=>by simp at hk⟩
  .rw[hn b' hb'] at h1;cases h1
  .rw[hn b1 hb1] at h1;cases h1
  .simp only[Tm,Tl] at hmm;obtain⟨rfl,rfl⟩:=hmm;rw[same hn0];rcases hh.blk b' blk hb with hl | ⟨r,cs,T,h1,h2,h3,h4⟩ | hl
   .exact .inl hl
   .refine .inr (.inl ⟨r,cs,T,h1,h2,h3,fun i e he=>?_⟩);obtain⟨g1,g2⟩:=h4 i e he;refine⟨g1,fun j c hj=>?_⟩;obtain⟨g3,u,g4,g5⟩:=g2 j c hj;exact⟨g3,u,g4,g5.mono (fun _ _ h=>h) (fun _ h=>.inl h) (fun _ _=>rfl) (fun _=>TI _)⟩
   .exact .inr (.inr hl)
 .rcases h0.sl_inv with ⟨h00,a,he⟩ | ⟨r,z',cap,hφ,hnc,hrw,he⟩
  .exact absurd h00 hn0
  obtain⟨hz2,hmpn,cs,T,hr,hsz',hrow'⟩:=hh.row hb hφ (.inl (hh.zpos hb hφ (by omega)));have hz3:z'=z:=by omega
  subst hz3;have hle:(i+n) * z'<=blk.es.length * z':=TQ z' (by omega);have hle':=hle;rw[Tf] at hle';have hst:=run_storeCells_at P r (i * z') T news 0 cs w hr (by rw[hvl];omega) hones;simp only[Tj] at hst;rw[exec _ cap _ he (fun h=>absurd h hn0) (fun _=>⟨_,rfl,hst⟩)];have hlenU:(cs.toList.take (blk.es.length * z')).length=blk.es.length * z':=by simp;omega
  have h1:=hrow'.sub 0 i (by omega);have h2:=hrow'.sub (i+n) (blk.es.length-(i+n)) (by omega);simp only[Nat.zero_mul,List.drop_zero] at h1;have htk:(blk.es.drop (i+n)).take (blk.es.length-(i+n))=blk.es.drop (i+n):=List.take_of_length_le (by simp);rw[htk] at h2;have hall:=(h1.append hsub).append h2
  have hcs:cs.toList.take (i * z')++news++cs.toList.drop (i * z'+news.length) =
    ((cs.toList.take (blk.es.length * z')).take (i * z')++news++((cs.toList.take (blk.es.length * z')).drop ((i+n) * z')).take ((blk.es.length-(i+n)) * z'))++cs.toList.drop (blk.es.length * z'):=by
   rw[hvl,<-Tf];have e1:(cs.toList.take (blk.es.length * z')).take (i * z')=cs.toList.take (i * z'):=by rw[List.take_take];congr 1;omega
   have e2:((cs.toList.take (blk.es.length * z')).drop ((i+n) * z')).take ((blk.es.length-(i+n)) * z')=(cs.toList.take (blk.es.length * z')).drop ((i+n) * z'):=by apply List.take_of_length_le;rw[Tk,hlenU,Nat.sub_mul];exact TI _
   rw[e1,e2];have e3:=Ph cs.toList ((i+n) * z') (blk.es.length * z') hle;rw[e3];simp only[List.append_assoc]
  refine k _ _ φ (Eff.write (blk':={blk with es:=blk.es.take i++List.replicate n (absV zv)++blk.es.drop (i+n),flat:=blk.flat&&Bg (absV zv).cells}) hA hn hb hw hφ hz hr hmpn ?_ vt hfl ?_ fun q e he=>?_)
  .simp only[List.size_toArray,TU,T1,Tk,Array.length_toList] at hvl ⊢;rw[hvl];omega
  .simp only[TU,T1,Tk,List.size_toArray,Array.length_toList,TV] at hvl ⊢
   rw[hvl];have:(min i blk.es.length+n+(blk.es.length-(i+n)))=blk.es.length:=by omega
   rw[this];omega
  .obtain⟨g1,g2⟩:=hall.cell q e he;refine⟨g1,fun j c hj=>?_⟩;obtain⟨g3,u,g4,g5⟩:=g2 j c hj;refine⟨g3,u,?_,g5⟩;rw[hcs,List.getElem?_toArray,List.getElem?_append_left (Tz.1 g4).1];exact g4
def Ns(hp:List (Option Blk))(b:Nat):Bool:=match nth hp b with | some blk=>blk.wr | none=>false
def immOK(fz:List Nat)(outs:List Blk):Prop:=match fz with
 | []=>True
 | _=>∀blk∈outs,B9 blk
def Lm(P:Program)(t:TypeId)(x:AV)(hp:List (Option Blk)):Option (OpR×Prop):=
 match C6 P t,x with
 | some (e,z,_),.sl b i n=>
  match nth hp b with
  | some blk=>match blk.wr&&Nat.beq blk.z z with
   | true=>some ({v:=.tup [],chg:=[(b,{blk with es:=blk.es.take i++List.replicate n e++blk.es.drop (i+n),flat:=blk.flat&&Bg e.cells})]},i+n<=blk.es.length)
   | false=>none
  | none=>none
 | _,_=>none
theorem QS{o:Oper}{ev:Operand->AV}{hp:List (Option Blk)}{nb:Nat}{t:TypeId}{x:Operand}{R:OpR}{p:Prop}
  (ho:o.op = .call {callee:=.builtin .clear,args:=#[x],argTypes:=#[t]}) (hr:Lm P t (ev x) hp=some (R,p)) (hpp:p):
  Au P o ev (nth hp) nb R/\R.fits (nth hp):=by
 generalize hx:ev x=u at hr;unfold Lm at hr;split at hr
 case h_2=>cases hr
 rename_i e z by_ b i n ht;split at hr
 case h_2=>cases hr
 rename_i blk hb;split at hr
 case h_2=>cases hr
 rename_i hc;simp only[TF] at hc;cases hr;refine⟨ok_clear ho ht hx hb (TE hc.2) hc.1 hpp,⟨fun b' blk'' hm=>?_,fun b hm=>by simp at hm⟩⟩;simp only[Tm,Tl] at hm;obtain⟨rfl,rfl⟩:=hm;exact⟨blk,hb,hc.1⟩
def Ih(P:Program)(x:AV)(args:List AV)(hp:List (Option Blk))(hint:AG):Option (OpR×Prop):=
 match x,hint with
 | .fn f caps,.call σ fz outs res=>
  match Dy σ fz hp,Gm P f&&Eb σ&&fz.all (fun b=> !Bh σ b)&&σ.all (Ns hp)&&outs.all (·.wr)&&(match fz with | []=>true | _=>CQ 3 res) with
  | some hpl,true=>some (Ev σ hp.length outs res,
    ((args++caps).map fun a=>(Bc σ fz hp 3 a).2).foldr And ((hpl.map (·.2)).foldr And
      (CT P f (hpl.map (·.1)) ((args++caps).map fun a=>(Bc σ fz hp 3 a).1) (BI outs) res/\immOK fz outs)))
  | _,_=>none
 | _,_=>none
theorem Q4{o:Oper}{ev:Operand->AV}{hp:List (Option Blk)}{x:Operand}{xs:Array Operand}{ts:Array TypeId}{hint:AG}{R:OpR}{p:Prop}
  (ho:o.op = .call {callee:=.value x,args:=xs,argTypes:=ts}) (hr:Ih P (ev x) (xs.toList.map ev) hp hint=some (R,p)) (hpp:p):
  Au P o ev (nth hp) hp.length R/\R.fits (nth hp)/\R.dead=[]:=by
 generalize hx:ev x=u at hr;unfold Ih at hr;split at hr
 case h_2=>cases hr
 rename_i f caps σ fz outs res;split at hr
 case h_2=>cases hr
 rename_i hpl hh hc;cases hr;simp only[TF] at hc;obtain⟨⟨⟨⟨⟨h1,h2⟩,h3⟩,h4⟩,h5⟩,h6⟩:=hc;obtain⟨p1,hpp⟩:=GA hpp;obtain⟨p2,p3,p4⟩:=GA hpp;have hlive:∀b∈σ,∃blk,nth hp b=some blk/\blk.wr=true:=by
  intro b hb;have:=TN.1 h4 b hb;unfold Ns at this;split at this
  .rename_i blk hblk;exact⟨blk,hblk,this⟩
  .cases this
 refine⟨ok_call ho hx h1 (fun a ha=>p1 _ (T4.2 ⟨a,ha,rfl⟩)) hh p2 h2 (fun b hb hm=>?_) hlive p3 (fun blk hb=>TN.1 h5 blk hb) ?_,⟨fun b blk hm=>?_,fun b hm=>by simp[Ev] at hm⟩,rfl⟩
 .have:=TN.1 h3 b hb;rw[DV.2 hm] at this;cases this
 .cases fz with
  | nil=>exact .inl rfl
  | cons y r=>exact .inr ⟨h6,p4⟩
 .obtain⟨k,g1,_⟩:=Kf hm;exact hlive b (TB g1)
def K4(P:Program)(x:AV)(name:String)(args:List AV)(hp:List (Option Blk))(hint:AG):Option (OpR×Prop):=
 match x with
 | .ifc t [c]=>match Ig P t name with
  | some f=>Ih P (.fn f []) (c::args) hp hint
  | none=>none
 | _=>none
theorem RG{o:Oper}{ev:Operand->AV}{hp:List (Option Blk)}{x:Operand}{name:String}{xs:Array Operand}{ts:Array TypeId}{hint:AG}{R:OpR}{p:Prop}
  (ho:o.op = .call {callee:=.invoke x name,args:=xs,argTypes:=ts}) (hr:K4 P (ev x) name (xs.toList.map ev) hp hint=some (R,p)) (hpp:p):
  Au P o ev (nth hp) hp.length R/\R.fits (nth hp)/\R.dead=[]:=by
 unfold K4 at hr;split at hr
 case h_2=>cases hr
 rename_i t c hx;split at hr
 case h_2=>cases hr
 rename_i f hf;unfold Ih at hr;split at hr
 case h_2=>cases hr
 rename_i f' caps σ fz outs res hxx;cases hxx;split at hr
 case h_2=>cases hr
 rename_i hpl hh hc;cases hr;simp only[TF,List.append_nil] at hc hpp;obtain⟨⟨⟨⟨⟨h1,h2⟩,h3⟩,h4⟩,h5⟩,h6⟩:=hc;obtain⟨p1,hpp⟩:=GA hpp;obtain⟨p2,p3,p4⟩:=GA hpp;have hlive:∀b∈σ,∃blk,nth hp b=some blk/\blk.wr=true:=by
  intro b hb;have:=TN.1 h4 b hb;unfold Ns at this;split at this
  .rename_i blk hblk;exact⟨blk,hblk,this⟩
  .cases this
 refine⟨SA ho hx hf (fun a ha=>p1 _ (T4.2 ⟨a,ha,rfl⟩)) hh p2 h2 (fun b hb hm=>?_) hlive p3 (fun blk hb=>TN.1 h5 blk hb) ?_,⟨fun b blk hm=>?_,fun b hm=>by simp[Ev] at hm⟩,rfl⟩
 .have:=TN.1 h3 b hb;rw[DV.2 hm] at this;cases this
 .cases fz with
  | nil=>exact .inl rfl
  | cons y r=>exact .inr ⟨h6,p4⟩
 .obtain⟨k,g1,_⟩:=Kf hm;exact hlive b (TB g1)
def J5:AG->Bool | .el (.lst [])=>true | _=>false
def wkHn:AG->Bool | .el (.tup [])=>true | _=>false
def MU(P:Program)(t:TypeId)(x:AV)(lo:Option Operand)(hi:Option AV)(mx:Option Operand):Bool:=match x,lo,hi,mx,B8 P t with
 | .nils,none,some (.int _ k),none,some (none,_)=>match k with
  | .ofNat 0=>true
  | _=>false
 | _,_,_,_,_=>false
theorem SO{t:TypeId}{x:AV}{lo:Option Operand}{hi:Option AV}{mx:Option Operand}(h:MU P t x lo hi mx=true):∃ky z,x = .nils/\lo=none/\hi=some (.int ky 0)/\mx=none/\B8 P t=some (none,z):=by
 unfold MU at h;split at h
 case h_2=>cases h
 rename_i ky k z he;split at h
 case h_2=>cases h
 exact⟨ky,z,rfl,rfl,rfl,rfl,he⟩
def K8(P:Program)(t:TypeId):Bool:=match P.underlying t with
 | some (.int .i64)=>true
 | _=>false
theorem RU{t:TypeId}(h:K8 P t=true):P.underlying t=some (.int .i64):=by
 unfold K8 at h;split at h
 .assumption
 .cases h
def trcH:AG->Bool | .el .unk=>true | _=>false
theorem Au.shorten{o:Oper}{ev:Operand->AV}{h:Hp}{nb b k:Nat}{v:AV}{blk:Blk}(hop:Au P o ev h nb {v})(hb:h b=some blk)(hlt:b<nb):Au P o ev h nb {v,chg:=[(b,{blk with es:=blk.es.take k})]}:=by
 intro φ A w a K Q hA hv hh hn kk;refine hop φ A w a K Q hA hv hh hn fun v' w' φ' he=>kk v' w' φ' ⟨he.keep.mono fun r ⟨b',z,hd,_⟩=>?_,he.old,fun b' h'=>he.out b' (by simpa using h'),he.fresh,he.inj,he.val,fun b' blk' hm hfl=>?_,fun blk' hm=>by simp at hm,fun b' blk' hm=>?_,fun kq blk' hk=>by simp at hk⟩
 .rcases hd with hd | ⟨_,hd⟩<;>simp at hd
 .simp at hm;obtain⟨rfl,rfl⟩:=hm;exact fun e hm=>hh.flat b' blk hb hfl e (List.mem_of_mem_take hm)
 .simp at hm;obtain⟨rfl,rfl⟩:=hm;have hkeep:∀r,r<w.heap.size->w'.heap[r]?=w.heap[r]?:=fun r hr=>he.keep.block r hr fun⟨b',z,hd,_⟩=>by rcases hd with hd | ⟨_,hd⟩<;>simp at hd
  have hφ:∀c x,φ c=some x->φ' c=some x:=fun c x hc=>by
   rcases Ut c nb with h | h
   .rw[he.old c h];exact hc
   .rw[hn c h] at hc;cases hc
  have mono:∀{c u},VR φ A w c u->VR φ' (BJ A φ' nb w w') w' c u:=fun h=>h.mono hφ (fun r hr=>.inl hr) (fun r hr=>hkeep r (hA r hr).1) he.keep.row
  rcases hh.blk b' blk hb with ⟨h1,h2,h3⟩ | ⟨r,cs,T,h1,h2,⟨h3,hmp⟩,h4⟩ | ⟨m,r,h1,h2,⟨h3,h4⟩,h5⟩
  .exact .inl ⟨by simp[h1],by rw[he.old b' hlt];exact h2,h3⟩
  .refine .inr (.inl ⟨r,cs,T,hφ _ _ h1,by rw[hkeep r (Uh.1 h2).1];exact h2,⟨?_,hmp⟩,fun i e hi=>?_⟩)
   .refine Uf (TQ _ ?_) h3;simp only[T1];exact Nat.min_le_right _ _
   .simp only[TT] at hi;split at hi
    .obtain⟨g1,g2⟩:=h4 i e hi;refine⟨g1,fun j c hj=>?_⟩;obtain⟨g3,u,g4,g5⟩:=g2 j c hj;exact⟨g3,u,g4,mono g5⟩
    .cases hi
  .exact .inr (.inr ⟨m,r,h1,hφ _ _ h2,⟨by simp[h3],h4⟩,by rw[hkeep r (Uh.1 h5).1];exact h5⟩)
def Ng(P:Program)(t:TypeId)(x:AV)(lo hi mx:Option AV)(hp:List (Option Blk)):Option (OpR×Prop):=
 match x,lo,hi,mx,B8 P t with
 | .sl b 0 n,none,some (.int _ u),none,some (none,z)=>
  match nth hp b with
  | some blk=>match Nat.beq blk.z z&&blk.wr with
   | true=>some ({v:=.sl b 0 u.toNat,chg:=[(b,{blk with es:=blk.es.take u.toNat})]},0<=u/\u<=n)
   | false=>none
  | none=>none
 | _,_,_,_,_=>none
theorem S6{α:Type}{l:List (Option α)}{b:Nat}{x:α}(h:nth l b=some x):b<l.length:=by
 rw[DI] at h;rcases Ut b l.length with h1 | h1
 .exact h1
 .rw[TX h1] at h;cases h
theorem QX{o:Oper}{ev:Operand->AV}{hp:List (Option Blk)}{t:TypeId}{x:Operand}{lo hi mx:Option Operand}{R:OpR}{p:Prop}
  (ho:o.op = .slice t x lo hi mx) (hr:Ng P t (ev x) (lo.map ev) (hi.map ev) (mx.map ev) hp=some (R,p)) (hpp:p):Au P o ev (nth hp) hp.length R/\R.fits (nth hp)/\R.dead=[]:=by
 generalize hx:ev x=u at hr;unfold Ng at hr;split at hr
 case h_2=>cases hr
 rename_i b n k u z h1 h2 h3 h4;split at hr
 case h_2=>cases hr
 rename_i blk hb;split at hr
 case h_2=>cases hr
 rename_i hc;simp only[TF] at hc;cases hr;cases lo with
 | some _=>cases h1
 | none=>
  cases hi with
  | none=>cases h2
  | some y=>
   cases mx with
   | some _=>cases h3
   | none=>have hy:ev y = .int k u:=Option.some.inj h2;have key:=Qk (h:=nth hp) (nb:=hp.length) (l:=0) (u:=u) (m:=n) ho hx h4 hb (TE hc.1) rfl (by simp only[bnd,hy]) rfl (fun h=>by cases h) ⟨Int.le_refl _,hpp.1,hpp.2,Int.le_refl _⟩;simp only[Int.toNat_zero,Tj,Nat.sub_zero] at key;exact⟨key.shorten hb (S6 hb),GO hb hc.2,rfl⟩
def isStr:AV->Bool | .str _=>true | _=>false
def aop(P:Program)(o:Oper)(ev:Operand->AV)(hp:List (Option Blk))(hint:AG):Option (OpR×Prop):=
 match o.op with
 | .move x=>vOp (ev x)
 | .assign x=>vOp (ev x)
 | .pick c x y=>match ev c with
  | .bool t=>vOp (Jw t (ev x) (ev y))
  | _=>none
 | .nilCheck x=>match ev x with
  | .ptr b i j=>vOp (.ptr b i j)
  | .iptr cs=>vOp (.iptr cs)
  | _=>none
 | .binOp op t x y _=>aBin P op t (ev x) (ev y)
 | .unOp .not _ x=>match ev x with
  | .bool b=>vOp (.bool (!b))
  | _=>none
 | .unOp .neg _ x=>match ev x with
  | .int k n=>vOp (.int k (k.wrap (0-n)))
  | _=>none
 | .convert s t x=>Md P s t (ev x) hp
 | .index t x y=>LL P t (ev x) (ev y)
 | .makeMap _ none=>some ({v:=.map hp.length,new:=[{es:=[],z:=0,mp:=some ([],0)}]},True)
 | .lookup t x y false=>LG P t (ev x) (ev y) hp
 | .mapEntry t x y=>Mt P t (ev x) (ev y) hp
 | .entryStore _ x y q=>Ma (ev x) (ev y) (ev q) hp
 | .mapUpdate t x y q=>LW P t (ev x) (ev y) (ev q) hp
 | .extract x i=>match ev x with
  | .tup vs=>match vs[i]? with
   | some v=>vOp v
   | none=>none
  | _=>none
 | .field t x f=>match ev x,P.underlying t with
  | .agg cs,some (.struct fs)=>match fs[f]? with
   | some fd=>match Hs P fd.type cs fd.offset with
    | some v=>vOp v
    | none=>none
   | none=>none
  | _,_=>none
 | .fieldAddr t x f=>match ev x,H0 P t f with
  | .ptr b i j,some off=>vOp (.ptr b i (j+off))
  | .iptr cs,some off=>vOp (.iptr (cs.drop off))
  | _,_=>none
 | .indexAddr t x y=>aIdx P t (ev x) (ev y) hp hint
 | .load t x=>MM P t (ev x) hp hint
 | .store t x y=>match J5 hint with
  | true=>Gj P t (ev x) (wkr (ev y)) hp hint
  | false=>Gj P t (ev x) (ev y) hp hint
 | .alloc t=>match P.info? t with
  | some i=>match i.zero with
   | some zv=>match (absV zv).known&&Ci (absV zv).cells with
    | true=>some ({v:=.ptr hp.length 0 0,new:=[{es:=[absV zv],z:=(absV zv).cells.length,flat:=Bg (absV zv).cells}]},True)
    | false=>none
   | none=>none
  | none=>none
 | .box _ x=>match (ev x).known&&Ci (ev x).cells with
  | true=>some ({v:=.ptr hp.length 0 0,new:=[{es:=[ev x],z:=(ev x).cells.length,flat:=Bg (ev x).cells}]},True)
  | false=>none
 | .build t parts=>match LA P t (parts.toList.map fun p=>(p.1,ev p.2)) with
  | some v=>vOp v
  | none=>none
 | .buildSlice t n parts=>match litA P t n (parts.toList.map fun p=>(p.1,ev p.2)) with
  | some (es,z)=>match J5 hint&&Df es&&Nat.beq es.length n with
   | true=>some ({v:=.lst es},True)
   | false=>match wkHn hint with
    | true=>some ({v:=.sl hp.length 0 n,new:=[{es:=es.map wkr,z,flat:=Df es}]},True)
    | false=>some ({v:=.sl hp.length 0 n,new:=[{es,z,flat:=Df es}]},True)
  | none=>none
 | .makeSlice t x y=>match ev x,ev y,C6 P t with
  | .int _ l,.int _ c,some (e,z,by_)=>match J5 hint&&Bg e.cells with
   | true=>some ({v:=.lst (List.replicate l.toNat e)},0<=l/\l<=c/\(by_:Int) * c<=281474976710656/\c<=9223372036854775807)
   | false=>some ({v:=.sl hp.length 0 l.toNat,new:=[{es:=List.replicate l.toNat e,z,flat:=Bg e.cells}]},
    0<=l/\l<=c/\(by_:Int) * c<=281474976710656/\c<=9223372036854775807)
  | _,_,_=>none
 | .slice t x lo hi mx=>match trcH hint with
  | true=>Ng P t (ev x) (lo.map ev) (hi.map ev) (mx.map ev) hp
  | false=>match MU P t (ev x) lo (hi.map ev) mx with
   | true=>vOp .nils
   | false=>match isStr (ev x) with
    | true=>LR P t (ev x) (lo.map ev) (hi.map ev) (mx.map ev)
    | false=>KV P t (ev x) (lo.map ev) (hi.map ev) (mx.map ev) hp
 | .makeFunc fn first caps=>match fn,first.toList with
  | .func f,[]=>vOp (.fn f (caps.toList.map ev))
  | _,_=>none
 | .makeInterface t x=>match P.underlying t with
  | some (.pointer _)=>vOp (.ifc t [ev x])
  | _=>none
 | .call c=>match c.callee,c.args.toList,c.argTypes.toList with
  | .value x,xs,_=>Ih P (ev x) (xs.map ev) hp hint
  | .invoke x name,xs,_=>K4 P (ev x) name (xs.map ev) hp hint
  | .builtin .len,[x],t::_=>match ev x with
   | .map b=>My P t (.map b) hp
   | v=>aLen P t v
  | .builtin .cap,[x],t::_=>match ev x,unL P t with
   | .nils,true=>vOp (.int .i64 0)
   | _,_=>none
  | .builtin .delete,[x,y],t::_=>KX P t (ev x) (ev y) hp
  | .builtin .append,[x,y],[t,t']=>match Nat.beq t t' with
   | true=>match J5 hint with
    | true=>match JT P t (ev x) (ev y) hp with
     | some r=>immR hp.length r
     | none=>none
    | false=>JT P t (ev x) (ev y) hp
   | false=>match ev x,ev y,C6 P t,K8 P t' with
    | .nils,.int .i64 n,some (e,z,by_),true=>some ({v:=.sl hp.length 0 n.toNat,new:=[{es:=List.replicate n.toNat e,z,flat:=Bg e.cells}]},0<n/\n<=9223372036854775807/\n.toNat * by_<=140737488355328)
    | _,_,_,_=>none
  | .builtin .copy,[x,y],[t,_]=>K1 P t (ev x) (ev y) hp
  | .builtin .clear,[x],[t]=>Lm P t (ev x) hp
  | .builtin .min,[x,y],_=>match ev x,ev y with
   | .int k a,.int k' b=>match decide (k=k') with
    | true=>vOp (.int k (if b<a then b else a))
    | false=>none
   | _,_=>none
  | .builtin .max,[x,y],_=>match ev x,ev y with
   | .int k a,.int k' b=>match decide (k=k') with
    | true=>vOp (.int k (if a<b then b else a))
    | false=>none
   | _,_=>none
  | _,_,_=>none
 | _=>none
theorem Cp{α:Type}{a:Array α}{l:List α}(h:a.toList=l):a=l.toArray:=by rw[<-h]
theorem HE{o:Oper}{ev:Operand->AV}{hp:List (Option Blk)}{hint:AG}{R:OpR}{p:Prop}(hr:aop P o ev hp hint=some (R,p))(hpp:p):
  Au P o ev (nth hp) hp.length R/\R.fits (nth hp):=by
 have value:∀{v:AV},vOp v=some (R,p)->Au P o ev (nth hp) hp.length {v}->Au P o ev (nth hp) hp.length R/\R.fits (nth hp):=by intro v h hk;cases h;exact⟨hk,OpR.fits_value _ _⟩
 have new:∀{v:AV} {blk:Blk},OpR.fits {v,new:=[blk]} (nth hp):=⟨fun b blk hm=>by simp at hm,fun b hm=>by simp at hm⟩;unfold aop at hr;split at hr
 .rename_i x ho;exact value hr (Om (.inl ho))
 .rename_i x ho;exact value hr (Om (.inr ho))
 .rename_i c x y ho;split at hr
  .rename_i t hc;exact value hr (ok_pick ho hc)
  .cases hr
 .rename_i x ho;split at hr
  .rename_i b i j hx;have:=Pc (P:=P) (h:=nth hp) (nb:=hp.length) ho (.inl ⟨b,i,j,hx⟩);rw[hx] at this;exact value hr this
  .rename_i cs hx;have:=Pc (P:=P) (h:=nth hp) (nb:=hp.length) ho (.inr ⟨cs,hx⟩);rw[hx] at this;exact value hr this
  .cases hr
 .rename_i op t x y t' ho;obtain⟨h1,h2,_⟩:=Q7 ho hr hpp (h:=nth hp) (nb:=hp.length);exact⟨h1,h2⟩
 .rename_i t x ho;split at hr
  .rename_i b hx;exact value hr (ok_not ho hx)
  .cases hr
 .rename_i t x ho;split at hr
  .rename_i k n hx;exact value hr (ok_neg ho hx)
  .cases hr
 .rename_i s t x ho;obtain⟨h1,h2,_⟩:=Q9 ho hr hpp (nb:=hp.length);exact⟨h1,h2⟩
 .rename_i t x y ho;obtain⟨h1,h2,_⟩:=Rj ho hr hpp (h:=nth hp) (nb:=hp.length);exact⟨h1,h2⟩
 .rename_i t ho;cases hr;exact⟨Sw ho,new⟩
 .rename_i t x y ho;obtain⟨h1,h2,_⟩:=RW ho hr hpp (nb:=hp.length);exact⟨h1,h2⟩
 .rename_i t x y ho;obtain⟨h1,h2,_⟩:=SE ho hr hpp (nb:=hp.length);exact⟨h1,h2⟩
 .rename_i t x y q ho;obtain⟨h1,h2,_⟩:=Rr ho hr hpp (nb:=hp.length);exact⟨h1,h2⟩
 .rename_i t x y q ho;obtain⟨h1,h2,_⟩:=RL ho hr hpp (nb:=hp.length);exact⟨h1,h2⟩
 .rename_i x i ho;split at hr
  .rename_i vs hx;split at hr
   .rename_i v hv;exact value hr (RD ho hx hv)
   .cases hr
  .cases hr
 .rename_i t x f ho;split at hr
  .rename_i cs fs hx hu;split at hr
   .rename_i fd hf;split at hr
    .rename_i v hv;exact value hr (ok_field ho hx hu hf hv)
    .cases hr
   .cases hr
  .cases hr
 .rename_i t x f ho;split at hr
  .rename_i b i j off hx hf;exact value hr (QI ho hx hf)
  .rename_i cs off hx hf;exact value hr (Rq ho hx hf)
  .cases hr
 .rename_i t x y ho;obtain⟨h1,h2,_⟩:=Se ho hr hpp (nb:=hp.length);exact⟨h1,h2⟩
 .rename_i t x ho;obtain⟨h1,h2,_⟩:=QP ho hr hpp (nb:=hp.length);exact⟨h1,h2⟩
 .rename_i t x y ho;split at hr
  .rw[<-Rc] at hr;obtain⟨h1,h2,_⟩:=Qu (ev:=fun z=>wkr (ev z)) ho hr hpp (nb:=hp.length);exact⟨h1.lessEv,h2⟩
  .obtain⟨h1,h2,_⟩:=Qu ho hr hpp (nb:=hp.length);exact⟨h1,h2⟩
 .rename_i t ho;split at hr
  .rename_i i hi;split at hr
   .rename_i zv hz;split at hr
    .rename_i hc;simp only[TF] at hc;cases hr;exact⟨ok_alloc ho hi hz hc.1 hc.2,new⟩
    .cases hr
   .cases hr
  .cases hr
 .rename_i t x ho;split at hr
  .rename_i hc;simp only[TF] at hc;cases hr;exact⟨ok_box ho hc.1 hc.2,new⟩
  .cases hr
 .rename_i t parts ho;split at hr
  .rename_i v hv;exact value hr (ok_build ho hv)
  .cases hr
 .rename_i t n parts ho;split at hr
  .rename_i es z hv;split at hr
   .rename_i hc;simp only[TF] at hc;cases hr;refine⟨(NB ho hv).toImm (TE hc.2) rfl fun e he c hcc=>?_,OpR.fits_value _ _⟩;exact TN.1 (TN.1 hc.1.2 e he) c hcc
   .split at hr
    .cases hr;exact⟨(NB ho hv).wkNew (Ka es),new⟩
    .cases hr;exact⟨NB ho hv,new⟩
  .cases hr
 .rename_i t x y ho;split at hr
  .rename_i kl l kc c e z by_ hx hy ht;split at hr
   .rename_i hc;simp only[TF] at hc;cases hr;refine⟨(OH ho hx hy ht hpp.1 hpp.2.1 hpp.2.2.1 hpp.2.2.2).toImm (by simp) rfl fun e' he c hcc=>?_,OpR.fits_value _ _⟩;rw[(List.mem_replicate.1 he).2] at hcc;exact TN.1 hc.2 c hcc
   .cases hr;exact⟨OH ho hx hy ht hpp.1 hpp.2.1 hpp.2.2.1 hpp.2.2.2,new⟩
  .cases hr
 .rename_i t x lo hi mx ho;split at hr
  .obtain⟨h1,h2,_⟩:=QX ho hr hpp;exact⟨h1,h2⟩
  split at hr
  .rename_i hn;obtain⟨ky,z,g1,rfl,g3,rfl,g5⟩:=SO hn;cases hi with
   | none=>simp at g3
   | some y=>simp only[Option.map_some,Td] at g3;exact value hr (Rg ho g1 g5 g3)
  .split at hr
   .obtain⟨h1,h2,_⟩:=Rl ho hr hpp (h:=nth hp) (nb:=hp.length);exact⟨h1,h2⟩
   .obtain⟨h1,h2,_⟩:=Ri ho hr hpp (nb:=hp.length);exact⟨h1,h2⟩
 .rename_i fn first caps ho;split at hr
  .rename_i f hfn hf;have:=Cp hf;subst this;exact value hr (QH ho)
  .cases hr
 .rename_i t x ho;split at hr
  .rename_i el hu;exact value hr (Q8 ho hu)
  .cases hr
 .rename_i c ho;obtain⟨callee,args,argTypes⟩:=c;simp only at hr;split at hr
  .rename_i x xs ts _;obtain⟨h1,h2,_⟩:=Q4 ho hr hpp;exact⟨h1,h2⟩
  .rename_i x name xs ts _;obtain⟨h1,h2,_⟩:=RG ho hr hpp;exact⟨h1,h2⟩
  .rename_i x t ts ha ht;have:=Cp ha;subst this;split at hr
   .rename_i b hx;rw[<-hx] at hr;obtain⟨h1,h2,_⟩:=Sp (nb:=hp.length) (t:=t) ho (by rw[Cp ht];simp) hr;exact⟨h1,h2⟩
   .obtain⟨h1,h2,_⟩:=Rh (h:=nth hp) (nb:=hp.length) (t:=t) ho (by rw[Cp ht];simp) hr;exact⟨h1,h2⟩
  .rename_i x t ts ha ht;have:=Cp ha;subst this;split at hr
   .rename_i hx hu;unfold unL at hu;split at hu
    .rename_i e he;exact value hr (Rt ho (by rw[Cp ht];simp) he hx)
    .cases hu
   .cases hr
  .rename_i x y t ts ha ht;have:=Cp ha;subst this;obtain⟨h1,h2,_⟩:=RF (nb:=hp.length) (t:=t) ho (by rw[Cp ht];simp) hr hpp;exact⟨h1,h2⟩
  .rename_i x y t t' ha ht;split at hr
   .rename_i hb;have hb:=TE hb;subst hb;have:=Cp ha;subst this;have:=Cp ht;subst this;split at hr
    .split at hr
     .rename_i r hq;exact SD hr hpp fun h2=>(Pt ho (R:=r.1) (p:=r.2) hq h2).1
     .cases hr
    .exact Pt ho hr hpp
   .split at hr
    .rename_i n e z by_ hx hy hz hi;have:=Cp ha;subst this;have:=Cp ht;subst this;cases hr;exact⟨SH ho hz (RU hi) hx hy hpp.1 hpp.2.1 hpp.2.2,new⟩
    .cases hr
  .rename_i x y t t' ha ht;have:=Cp ha;subst this;have:=Cp ht;subst this;obtain⟨h1,h2,_⟩:=SJ ho hr hpp (nb:=hp.length);exact⟨h1,h2⟩
  .rename_i x t ha ht;have:=Cp ha;subst this;have:=Cp ht;subst this;exact QS ho hr hpp
  .rename_i x y ts ha;have:=Cp ha;subst this;split at hr
   .rename_i k a k' b hx hy;split at hr
    .rename_i hk;have hk:=of_decide_eq_true hk;subst hk;exact value hr (PT ho hx hy (.inl ⟨rfl,rfl⟩))
    .cases hr
   .cases hr
  .rename_i x y ts ha;have:=Cp ha;subst this;split at hr
   .rename_i k a k' b hx hy;split at hr
    .rename_i hk;have hk:=of_decide_eq_true hk;subst hk;exact value hr (PT ho hx hy (.inr ⟨rfl,rfl⟩))
    .cases hr
   .cases hr
  .cases hr
 .cases hr
structure JL(A0:Nat->Prop)(n0 m n:Nat)(φ:Phi)(fr:Nat->AV)(h:Hp)(a:Act)(w:World):Prop where
 defs:a.defers=[]
 size:a.tmps.size=n
 slot:∀s,VR φ (Ok A0 n0 φ h w) w (fr s) (a.tmps.getD s undef)
 heap:HR φ (Ok A0 n0 φ h w) w h
 base:n0<=w.heap.size
 own:∀b r z,m<=b->φ b=some (r,z)->n0<=r
def GQ:Nat->AV->List Nat
 | 0,_=>[]
 | d+1,v=>match v with
  | .ptr b _ _=>[b]
  | .sl b _ _=>[b]
  | .agg cs=>(cs.map (GQ d)).flatten
  | .tup cs=>(cs.map (GQ d)).flatten
  | .fn _ cs=>(cs.map (GQ d)).flatten
  | .ifc _ cs=>(cs.map (GQ d)).flatten
  | _=>[]
def Bd(nb:Nat):Nat->AV->Bool
 | 0,_=>false
 | d+1,v=>match v with
  | .ptr b _ _=>Nat.blt b nb
  | .sl b _ _=>Nat.blt b nb
  | .map b=>Nat.blt b nb
  | .agg cs=>cs.all (Bd nb d)
  | .tup cs=>cs.all (Bd nb d)
  | .fn _ cs=>cs.all (Bd nb d)
  | .ifc _ cs=>cs.all (Bd nb d)
  | _=>true
def G5(nb:Nat)(blk:Blk):Bool:=match blk.flat with
 | true=>true
 | false=>blk.es.all fun e=>e.cells.all (Bd nb 3)
def Cu(nb:Nat)(φ:Phi):Phi:=fun b=>if b<nb then φ b else none
theorem VR.cut{φ:Phi}{A:Nat->Prop}{w:World}{nb:Nat}:∀(d:Nat) (c:AV) (v:Value),VR φ A w c v->Bd nb d c=true->VR (Cu nb φ) A w c v:=by
 intro d;induction d with
 | zero=>intro c v _ h;simp[Bd] at h
 | succ d ih=>
  intro c v h hb
  have kids:∀(cs:List AV) (vs:List Value),cs.all (Bd nb d)=true->(∀(i:Nat) c u,cs[i]?=some c->vs[i]?=some u->VR φ A w c u)->
    ∀(i:Nat) c u,cs[i]?=some c->vs[i]?=some u->VR (Cu nb φ) A w c u:=by
   intro cs vs hall hh i c u hc hu;exact ih c u (hh i c u hc hu) (TN.1 hall _ (TB hc))
  cases h with
  | imm a v h=>exact .imm _ _ h
  | ptr b i j r z hφ=>simp only[Bd,Nat.blt,Nat.ble_eq] at hb;exact .ptr b i j r z (by simp only[Cu];rw[Tv (by omega)];exact hφ)
  | sl b i n r z cap hφ hn hr=>simp only[Bd,Nat.blt,Nat.ble_eq] at hb;exact .sl b i n r z cap (by simp only[Cu];rw[Tv (by omega)];exact hφ) hn hr
  | slnil b i a=>exact .slnil b i a
  | map b r z hφ=>simp only[Bd,Nat.blt,Nat.ble_eq] at hb;exact .map b r z (by simp only[Cu];rw[Tv (by omega)];exact hφ)
  | agg cs vs hl hh=>exact .agg _ _ hl (kids cs vs hb hh)
  | tup cs vs hl hh=>exact .tup _ _ hl (kids cs vs hb hh)
  | fn f cs vs hl hh=>exact .fn f _ _ hl (kids cs vs hb hh)
  | ifc t cs vs hl hh=>exact .ifc t _ _ hl (kids cs vs hb hh)
theorem EE{nb:Nat}{φ:Phi}{b:Nat}{x:Nat×Nat}(h:Cu nb φ b=some x):b<nb/\φ b=some x:=by
 unfold Cu at h;split at h
 .exact⟨by assumption,h⟩
 .cases h
def BM(nb:Nat)(R:OpR)(b:Nat):Option (Option Blk):=
 if b<nb then (match Cd R.chg b with
  | some blk=>some (some blk)
  | none=>match Bh R.dead b with | true=>some none | false=>none) else if b<nb+R.new.length then some R.new[b-nb]? else none
def Co(nb:Nat)(R:OpR)(h:Hp):Hp:=fun b=>(BM nb R b).getD (h b)
def G9(dst:Option Nat)(v:AV)(fr:Nat->AV):Nat->AV:=fun s=>if dst=some s then v else fr s
theorem JL.step{A0:Nat->Prop}{n0 m n nb:Nat}{φ:Phi}{fr:Nat->AV}{h h0:Hp}{a:Act}{w:World}(hr:JL A0 n0 m n φ fr h a w){dst:Option Nat}{R:OpR}{v':Value}{w':World}{φ0:Phi}
  (hm:m<=nb) (hmd:∀b,b∈R.dead->m<=b) (hd:∀d,dst=some d->d<n) (hf:R.fits h0)
  (hsub:∀b blk,h0 b=some blk->b<nb/\h b=some blk) (hnew:∀b,nb<=b->b<nb+R.new.length->φ b=none)
  (he:Eff (Cu nb φ) (Ok A0 n0 φ h w) w h0 nb R v' w' φ0):
  ∃φ',JL A0 n0 m n φ' (G9 dst R.v fr) (Co nb R h) (a.put dst v') w'/\Tr m φ h w φ' (Co nb R h) w'/\(∀b,φ' b≠none->φ b≠none\/(nb<=b/\b<nb+R.new.length)):=by
 let φ':Phi:=fun b=>if nb<=b/\b<nb+R.new.length then φ0 b else φ b
 have hin:∀b,nb<=b->b<nb+R.new.length->φ' b=φ0 b:=fun b h1 h2=>Tv ⟨h1,h2⟩
 have hoff:∀b,¬(nb<=b/\b<nb+R.new.length)->φ' b=φ b:=fun b h1=>Tw h1
 have hφ0:∀b x,φ0 b=some x->φ' b=some x:=by
  intro b x hb
  rcases Ut b nb with h1 | h1
  .rw[he.old b h1] at hb
   rw[hoff b (by omega)]
   exact(EE hb).2
  .rcases Ut b (nb+R.new.length) with h2 | h2
   .rw[hin b h1 h2];exact hb
   .rw[he.out b h2] at hb;cases hb
 have hφ:∀b x,φ b=some x->φ' b=some x:=fun b x hb=>by
  by_cases h1:nb<=b/\b<nb+R.new.length
  .rw[hnew b h1.1 h1.2] at hb;cases hb
  .rw[hoff b h1];exact hb
 have hlive:∀b blk r z,h b=some blk->φ b=some (r,z)->r<w.heap.size:=by
  intro b blk r z hb hbr
  rcases hr.heap.blk b blk hb with ⟨_,h0,_⟩ | ⟨r',cs,T,h1,h2,_⟩ | ⟨_,r',_,h1,_,h2⟩
  .rw[hbr] at h0;cases h0
  .rw[hbr] at h1;simp at h1;rw[h1.1];exact(Uh.1 h2).1
  .rw[hbr] at h1;simp at h1;rw[h1.1];exact(Uh.1 h2).1
 have hnone:∀b blk,h b=some blk->φ b=none->blk.es=[]:=by
  intro b blk hb hbr
  rcases hr.heap.blk b blk hb with ⟨h1,_⟩ | ⟨r',cs,T,h1,h2,_⟩ | ⟨_,_,_,_,⟨h1,_⟩,_⟩
  .exact h1
  .rw[hbr] at h1;cases h1
  .exact h1
 -- what acts on b
 have A8:∀b blk,Co nb R h b=some blk->(b<nb/\(b,blk)∈R.chg)\/(BM nb R b=none/\h b=some blk)\/∃k,b=nb+k/\R.new[k]?=some blk:=by
  intro b blk hb
  unfold Co at hb
  cases ha:BM nb R b with
  | none=>rw[ha] at hb;exact .inr (.inl ⟨rfl,hb⟩)
  | some ob=>
   rw[ha] at hb
   simp only[Option.getD_some] at hb
   subst hb
   unfold BM at ha
   split at ha
   .rename_i hlt
    split at ha
    .rename_i blk' hc;cases ha;exact .inl ⟨hlt,JH hc⟩
    .split at ha<;>cases ha
   .split at ha
    .rename_i h1 h2;simp at ha;exact .inr (.inr ⟨b-nb,by omega,ha⟩)
    .cases ha
 have hnact:∀b,BM nb R b=none->b<nb->Cd R.chg b=none/\b∉R.dead:=by
  intro b ha hb
  unfold BM at ha
  rw[Tv hb] at ha
  split at ha
  .cases ha
  .rename_i hc
   split at ha
   .cases ha
   .rename_i hd0;exact⟨hc,fun hm=>by rw[DV.2 hm] at hd0;cases hd0⟩
 have hnact2:∀b,BM nb R b=none->¬(nb<=b/\b<nb+R.new.length):=by
  intro b ha hb
  unfold BM at ha
  rw[Tw (by omega),Tv hb.2] at ha
  cases ha
 have hdirtyb:∀b,R.dirty b->∃blk0,h0 b=some blk0/\blk0.wr=true:=by
  intro b hb
  rcases hb with hb | ⟨blk,hb⟩
  .exact(hf.2 b hb).1
  .exact hf.1 b blk hb
 have hmut:∀r,Mut φ' (Co nb R h) r->Mut φ h r\/(w.heap.size<=r/\New φ0 nb r):=by
  rintro r ⟨b,blk,z,hb,hw,hbr⟩
  rcases A8 b blk hb with ⟨hlt,hc⟩ | ⟨ha,hb⟩ | ⟨k,rfl,hk⟩
  .rw[hoff b (by omega)] at hbr
   obtain⟨blk0,g0,g1⟩:=hf.1 b blk hc
   exact .inl ⟨b,blk0,z,(hsub b blk0 g0).2,g1,hbr⟩
  .rw[hoff b (hnact2 b ha)] at hbr
   exact .inl ⟨b,blk,z,hb,hw,hbr⟩
  .have hlt:k<R.new.length:=(Tz.1 hk).1
   rw[hin _ (by omega) (by omega)] at hbr
   rcases he.fresh _ r z (by omega) hbr with ⟨h1,_⟩ | ⟨b0,z0,blk0,h1,h2,h3,h4⟩
   .exact .inr ⟨h1,nb+k,z,by omega,hbr⟩
   .exact .inl ⟨b0,blk0,z0,(hsub b0 blk0 h2).2,h3,(EE h4).2⟩
 have hdirty:∀r,(∃b z,R.dirty b/\Cu nb φ b=some (r,z))->Mut φ h r:=by
  rintro r ⟨b,z,hb,hbr⟩
  obtain⟨blk0,g0,g1⟩:=hdirtyb b hb
  exact⟨b,blk0,z,(hsub b blk0 g0).2,g1,(EE hbr).2⟩
 have hmutlt:∀r,Mut φ h r->r<w.heap.size:=fun r ⟨b,blk,z,hb,_,hbr⟩=>hlive b blk r z hb hbr
 have hG:∀r,BJ (Ok A0 n0 φ h w) φ0 nb w w' r->Ok A0 n0 φ' (Co nb R h) w' r:=by
  rintro r (⟨h1,h2,h3⟩ | ⟨h1,h2,h3⟩)
  .refine⟨h1,Nat.lt_of_lt_of_le h2 he.keep.size,fun hmm=>?_⟩
   rcases hmut r hmm with h | ⟨h,_⟩
   .exact h3 h
   .omega
  .refine⟨.inr (Uf hr.base h1),h2,fun hmm=>?_⟩
   rcases hmut r hmm with h | ⟨_,h⟩
   .have:=hmutlt r h;omega
   .exact h3 h
 have hA:∀r,Ok A0 n0 φ h w r->Ok A0 n0 φ' (Co nb R h) w' r:=fun r h=>hG r (.inl h)
 have hblk:∀r,Ok A0 n0 φ h w r->w'.heap[r]?=w.heap[r]?:=fun r h=>he.keep.block r h.2.1 fun hd=>h.2.2 (hdirty r hd)
 have hmono:∀{c u},VR φ (Ok A0 n0 φ h w) w c u->VR φ' (Ok A0 n0 φ' (Co nb R h) w') w' c u:=fun h=>h.mono hφ hA hblk he.keep.row
 have hmono2:∀{c u},VR φ0 (BJ (Ok A0 n0 φ h w) φ0 nb w w') w' c u->VR φ' (Ok A0 n0 φ' (Co nb R h) w') w' c u:=fun h=>
  h.mono hφ0 hG (fun _ _=>rfl) (fun _=>TI _)
 have hbr2:∀{b blk},(φ0 b=none->φ' b=none)->BR φ0 (BJ (Ok A0 n0 φ h w) φ0 nb w w') w' b blk->BR φ' (Ok A0 n0 φ' (Co nb R h) w') w' b blk:=by
  rintro b blk hb0 (⟨h1,h2,h3⟩ | ⟨r,cs,T,h1,h2,h3,h4⟩ | ⟨m,r,h1,h2,h3,h4⟩)
  .exact .inl ⟨h1,hb0 h2,h3⟩
  case inr.inr=>exact .inr (.inr ⟨m,r,h1,hφ0 _ _ h2,h3,h4⟩)
  .refine .inr (.inl ⟨r,cs,T,hφ0 _ _ h1,h2,h3,fun i e hi=>⟨(h4 i e hi).1,fun j c hj=>?_⟩⟩)
   obtain⟨g1,u,g2,g3⟩:=(h4 i e hi).2 j c hj
   exact⟨g1,u,g2,hmono2 g3⟩
 have hold:∀b,(Co nb R h b).isSome=true->¬(nb<=b/\b<nb+R.new.length)->(h b).isSome=true/\(b∈R.dead->False):=by
  intro b hs hnr
  obtain⟨blk,hb⟩:=Option.isSome_iff_exists.1 hs
  rcases A8 b blk hb with ⟨_,h⟩ | ⟨h1,h2⟩ | ⟨k,h1,h2⟩
  .obtain⟨blk0,h0,_⟩:=hf.1 b blk h
   refine⟨by simp[(hsub _ _ h0).2],fun hd0=>?_⟩
   exact absurd h (I9 (hf.2 b hd0).2 blk)
  .refine⟨by simp[h2],fun hd0=>?_⟩
   obtain⟨⟨blk0,g0,_⟩,_⟩:=hf.2 b hd0
   exact(hnact b h1 (hsub _ _ g0).1).2 hd0
  .have hlt:k<R.new.length:=(Tz.1 h2).1
   omega
 refine⟨φ',⟨?_,?_,fun s=>?_,⟨fun b blk hb=>?_,fun b blk hb hfl=>?_,fun b b' r z z' hb hb' h1 h2=>?_⟩,Uf hr.base he.keep.size,fun b r z hb hbr=>?_⟩,⟨fun b hb=>hoff b (by omega),?_,fun r h=>(hmut r h).imp id (·.1)⟩,fun b hb=>?_⟩
 .cases ho:dst<;>simpa [Act.put,ho] using hr.defs
 .cases ho:dst<;>simpa [Act.put,ho] using hr.size
 .show VR _ _ _ (G9 dst R.v fr s) _
  unfold G9
  cases ho:dst with
  | none=>have:=hmono (hr.slot s);simpa [Act.put,ho] using this
  | some d=>
   by_cases hds:d=s
   .subst hds
    rw[Tv rfl]
    have:d<a.tmps.size:=by rw[hr.size];exact hd d ho
    have e1:(a.put (some d) v').tmps.getD d undef=v':=by simp[Act.put,this]
    rw[e1]
    exact hmono2 he.val
   .rw[Tw (by simpa using hds)]
    have e1:(a.put (some d) v').tmps.getD s undef=a.tmps.getD s undef:=by simp[Act.put,Tp hds]
    rw[e1]
    exact hmono (hr.slot s)
 .rcases A8 b blk hb with ⟨hlt,h⟩ | ⟨ha,h2⟩ | ⟨k,rfl,hk⟩
  .exact hbr2 (fun h0=>by
    rw[he.old b hlt] at h0
    rw[hoff b (by omega)]
    unfold Cu at h0
    rwa [Tv hlt] at h0) (he.chgd b blk h)
  .have hkp:∀r z,φ b=some (r,z)->w'.heap[r]?=w.heap[r]?:=by
    intro r z g1
    refine he.keep.block r (hlive b blk r _ h2 g1) ?_
    rintro⟨b',z',hdd,hb'⟩
    obtain⟨blk0,q0,_⟩:=hdirtyb b' hdd
    obtain⟨q1,q2⟩:=hsub _ _ q0
    have hbb:=hr.heap.inj b b' r _ _ (by simp[h2]) (by simp[q2]) g1 (EE hb').2
    subst hbb
    obtain⟨k1,k2⟩:=hnact b ha q1
    rcases hdd with hdd | ⟨blk',hdd⟩
    .exact k2 hdd
    .exact I9 k1 blk' hdd
   rcases hr.heap.blk b blk h2 with ⟨g1,g2,g3⟩ | ⟨r,cs,T,g1,g2,g3,g4⟩ | ⟨m,r,g1,g2,g3,g4⟩
   .exact .inl ⟨g1,by rw[hoff b (hnact2 b ha)];exact g2,g3⟩
   case inr.inr=>exact .inr (.inr ⟨m,r,g1,hφ _ _ g2,g3,by rw[hkp _ _ g2];exact g4⟩)
   .refine .inr (.inl ⟨r,cs,T,hφ _ _ g1,by rw[hkp _ _ g1];exact g2,g3,fun i e he=>⟨(g4 i e he).1,fun j c hj=>?_⟩⟩)
    obtain⟨k1,u,k2,k3⟩:=(g4 i e he).2 j c hj
    exact⟨k1,u,k2,hmono k3⟩
  .have hlt:k<R.new.length:=(Tz.1 hk).1
   exact hbr2 (fun h0=>by rw[hin _ (by omega) (by omega)];exact h0) (he.newb k blk hk)
 .rcases A8 b blk hb with ⟨hlt,h⟩ | ⟨_,h2⟩ | ⟨k,rfl,hk⟩
  .exact he.flc b blk h hfl
  .exact hr.heap.flat b blk h2 hfl
  .exact he.fln blk (TB hk) hfl
 .have mixed:∀b b' r z z',¬(nb<=b/\b<nb+R.new.length)->(nb<=b'/\b'<nb+R.new.length)->(Co nb R h b).isSome=true->φ' b=some (r,z)->φ' b'=some (r,z')->False:=by
   intro b b' r z z' hlt hge hs h1 h2
   obtain⟨g1,g2⟩:=hold b hs hlt
   obtain⟨blk,hblk⟩:=Option.isSome_iff_exists.1 g1
   rw[hoff b hlt] at h1
   rw[hin b' hge.1 hge.2] at h2
   rcases he.fresh b' r z' hge.1 h2 with ⟨k1,_⟩ | ⟨b0,z0,blk0,k1,k2,k3,k4⟩
   .have:=hlive b blk r z hblk h1;omega
   .have:=hr.heap.inj b b0 r _ _ g1 (by simp[(hsub _ _ k2).2]) h1 (EE k4).2
    subst this;exact g2 k1
  by_cases e1:nb<=b/\b<nb+R.new.length
  .by_cases e2:nb<=b'/\b'<nb+R.new.length
   .rw[hin b e1.1 e1.2] at h1;rw[hin b' e2.1 e2.2] at h2
    exact he.inj b b' r z z' e1.1 e2.1 h1 h2
   .exact(mixed b' b r z' z e2 e1 hb' h2 h1).elim
  .by_cases e2:nb<=b'/\b'<nb+R.new.length
   .exact(mixed b b' r z z' e1 e2 hb h1 h2).elim
   .rw[hoff b e1] at h1;rw[hoff b' e2] at h2
    exact hr.heap.inj b b' r z z' (hold b hb e1).1 (hold b' hb' e2).1 h1 h2
 .by_cases e1:nb<=b/\b<nb+R.new.length
  .rw[hin b e1.1 e1.2] at hbr
   rcases he.fresh b r z e1.1 hbr with ⟨h1,_⟩ | ⟨b0,z0,blk0,h1,_,_,h4⟩
   .exact Uf hr.base h1
   .exact hr.own b0 r z0 (hmd b0 h1) (EE h4).2
  .rw[hoff b e1] at hbr;exact hr.own b r z hb hbr
 .exact he.keep.mono hdirty
 .by_cases e1:nb<=b/\b<nb+R.new.length
  .exact .inr e1
  .rw[hoff b e1] at hb;exact .inl hb
structure HT where
 dec:List (Nat×Bool):=[]
 els:List (Nat×AV):=[]
 calls:Nat->FuncId->List AV->List (Option Blk)->AG:=fun _ _ _ _=>.no
 unroll:Bool:=false
def F8{α:Type}:List (Nat×α)->Nat->Option α
 | [],_=>none
 | (k,v)::r,s=>match Nat.beq k s with | true=>some v | false=>F8 r s
def MA(H:HT)(s:Nat):AG:=match F8 H.els s with | some e=>.el e | none=>.no
def hintOf(H:HT)(o:Oper)(ev:Operand->AV)(hp:List (Option Blk)):AG:=
 match o.op with
 | .call c=>match c.callee with
  | .value x=>match ev x with
   | .fn f caps=>H.calls (match o.dst with | some d=>d | none=>0) f (c.args.toList.map ev++caps) hp
   | _=>.no
  | .builtin _=>match o.dst with
   | some d=>MA H d
   | none=>.no
  | .invoke _ _=>H.calls (match o.dst with | some d=>d | none=>0) 0 [] hp
 | .store _ (.tmp s) _=>MA H s
 | _=>match o.dst with
  | some d=>MA H d
  | none=>.no
structure Pl where
 run:Bool
 fr:List (Nat×AV)
 hp:List (Option Blk)
 R:OpR
 reads:List Nat
def Dv(T:List Nat):Nat->List (Option Blk)->List (Option Blk)
 | _,[]=>[]
 | i,x::r=>(match Bh T i with | true=>x | false=>none)::Dv T (i+1) r
theorem L6(T:List Nat):∀(i:Nat) (l:List (Option Blk)),(Dv T i l).length=l.length | _,[]=>rfl | i,x::r=>by simp[Dv,L6 T (i+1) r]
theorem N2(T:List Nat):∀(l:List (Option Blk)) (i b:Nat) (blk:Blk),nth (Dv T i l) b=some blk->nth l b=some blk:=by
 intro l;induction l with
 | nil=>intro i b blk h;simp[Dv,nth] at h
 | cons x r ih=>
  intro i b blk h;cases b with
  | zero=>
   simp only[Dv,nth] at h ⊢
   split at h
   .exact h
   .cases h
  | succ b=>simp only[Dv,nth] at h ⊢;exact ih _ _ _ h
def refsB(blk:Blk):List Nat:=match blk.flat with
 | true=>[]
 | false=>(blk.es.map fun e=>(e.cells.map (GQ 3)).flatten).flatten
def MS(hp:List (Option Blk)):Nat->List Nat->List Nat
 | 0,T=>T
 | k+1,T=>MS hp k (T++(T.map fun b=>match nth hp b with | some blk=>refsB blk | none=>[]).flatten)
def Jc(o:Oper):List Nat:=o.op.operands.toList.filterMap fun x=>match x with | .tmp t=>some t | _=>none
def Hv(nb:Nat):Option Blk->Bool | some blk=>G5 nb blk | none=>true
def gd(H:HT)(g:Nat)(b:Bool):Bool×Prop:=match F8 H.dec g with
 | some d=>(d,b=d)
 | none=>(b,True)
theorem EQ{H:HT}{g:Nat}{b:Bool}(h:(gd H g b).2):b=(gd H g b).1:=by
 unfold gd at *;split at h
 .rename_i d hd;exact h
 .rfl
def IH(H:HT)(s:Nat)(v:AV):AV:=match v with
 | .bool b=>.bool (gd H s b).1
 | v=>v
def IS(H:HT)(s:Nat)(v:AV):Prop:=match v with
 | .bool b=>(gd H s b).2
 | _=>True
theorem refV_eq{H:HT}{s:Nat}{v:AV}(h:IS H s v):IH H s v=v:=by
 cases v<;>first | rfl | skip
 rename_i b;simp only[IH,IS] at *;rw[<-EQ h]
def touch(o:Oper):Bool:=match o.op with
 | .load _ _=>true
 | .store _ _ _=>true
 | .indexAddr _ _ _=>true
 | .slice _ _ _ _ _=>true
 | .call c=>match c.callee with
  | .builtin .len=>false
  | .builtin .min=>false
  | .builtin .max=>false
  | _=>true
 | _=>false
def roots(o:Oper)(fr:List (Nat×AV)):List Nat:=match touch o with
 | true=>(fr.map fun x=>GQ 3 x.2).flatten
 | false=>[]
def Qh(o:Oper):Nat:=match o.op with
 | .call c=>match c.callee with
  | .builtin _=>0
  | _=>2
 | .load _ _=>0
 | .store _ _ _=>0
 | .indexAddr _ _ _=>0
 | _=>2
def Jp(k:Nat)(es:List AV):Prop:=∀e∈es,∀c∈e.cells,Bd k 3 c=true
def FX(H:HT)(nb:Nat):Nat->List (Option Blk)->Bool
 | _,[]=>true
 | i,x::r=>(match F8 H.els (5000+i) with | some (.sl k _ _)=>Nat.ble k nb | _=>Hv nb x)&&FX H nb (i+1) r
def EF(H:HT)(p:Prop):Nat->List (Option Blk)->Prop
 | _,[]=>p
 | i,x::r=>match F8 H.els (5000+i),x with
  | some (.sl k _ _),some blk=>Jp k blk.es/\EF H p (i+1) r
  | _,_=>EF H p (i+1) r
theorem Ro{k nb:Nat}(h:k<=nb):∀(d:Nat) (v:AV),Bd k d v=true->Bd nb d v=true:=by
 intro d;induction d with
 | zero=>intro v hv;simp[Bd] at hv
 | succ d ih=>
  intro v hv;have lt:∀b,Nat.blt b k=true->Nat.blt b nb=true:=fun b hb=>Nat.ble_eq_true_of_le (Uf (TY (show Nat.ble (b+1) k=true from hb)) h)
  have al:∀cs:List AV,cs.all (Bd k d)=true->cs.all (Bd nb d)=true:=fun cs hc=>TN.2 fun x hx=>ih x (TN.1 hc x hx)
  cases v<;>simp only[Bd] at hv ⊢ <;> first | exact lt _ hv | exact al _ hv | rfl
theorem SX{H:HT}{nb:Nat}{p:Prop}:∀(l:List (Option Blk)) (i:Nat),EF H p i l->p/\(FX H nb i l=true->∀x∈l,Hv nb x=true):=by
 intro l;induction l with
 | nil=>intro i h;exact⟨h,fun _ x hx=>by cases hx⟩
 | cons x r ih=>
  intro i h;have plain:EF H p (i+1) r->p/\((Hv nb x&&FX H nb (i+1) r)=true->∀y∈x::r,Hv nb y=true):=fun h=>by
   obtain⟨h1,h2⟩:=ih (i+1) h;refine⟨h1,fun hb y hy=>?_⟩;simp only[TF] at hb;rcases T2.1 hy with rfl | hy
   .exact hb.1
   .exact h2 hb.2 y hy
  have none':x=none->EF H p (i+1) r->∀b0:Bool,p/\((b0&&FX H nb (i+1) r)=true->∀y∈x::r,Hv nb y=true):=fun hx h b0=>by
   obtain⟨h1,h2⟩:=ih (i+1) h;refine⟨h1,fun hb y hy=>?_⟩;simp only[TF] at hb;rcases T2.1 hy with hy | hy
   .rw[hy,hx];rfl
   .exact h2 hb.2 y hy
  unfold FX;cases ha:F8 H.els (5000+i) with
  | none=>exact plain (by unfold EF at h;rw[ha] at h;exact h)
  | some e=>
   unfold EF at h;rw[ha] at h;cases e with
   | sl k a b=>
    cases x with
    | none=>exact none' rfl h _
    | some blk=>
     have h:Jp k blk.es/\EF H p (i+1) r:=h;obtain⟨h1,h2⟩:=ih (i+1) h.2;refine⟨h1,fun hb y hy=>?_⟩;simp only[TF] at hb;rcases T2.1 hy with hy | hy
     .rw[hy];show G5 nb blk=true;unfold G5;split
      .rfl
      .exact TN.2 fun e he=>TN.2 fun c hc=>Ro (TY hb.1) 3 c (h.1 e he c hc)
     .exact h2 hb.2 y hy
   | _=>exact plain h
def GL(P:Program)(H:HT)(dr:Bool)(m:Nat)(o:Oper)(st:St)(rs:List Nat):Option (Pl×Prop):=
 let sl:=Jc o
 let fr:=sl.map fun s=>(s,IH H s (Aq st.fr s))
 let ev:=St.ev {n:=st.n,fr,hp:=[]}
 let hp:=match dr with | true=>Dv (MS st.hp (Qh o) (roots o fr)) 0 st.hp | false=>st.hp
 match aop P o ev hp (hintOf H o ev hp) with
 | some (R,p)=>match R.dead.all (Nat.ble m)&&(!dr||(fr.all (fun x=>Bd st.hp.length 4 x.2)&&FX H st.hp.length 0 hp)) with
  | true=>some ({run:=true,fr,hp,R,reads:=rs++sl},match dr with | true=>EF H ((sl.map fun s=>IS H s (Aq st.fr s)).foldr And p) 0 hp | false=>(sl.map fun s=>IS H s (Aq st.fr s)).foldr And p)
  | false=>none
 | none=>none
def HD(g:Nat)(st:St):Pl:={run:=false,fr:=[],hp:=Dv [] 0 st.hp,R:={v:=.tup []},reads:=[g]}
def dstOk:Option Nat->Nat->Bool | some d,n=>Nat.blt d n | none,_=>true
def LO(P:Program)(H:HT)(dr:Bool)(m:Nat)(ops:Array Oper)(o:Oper)(st:St):Option (Pl×Prop):=
 match dstOk o.dst st.n with
 | false=>none
 | true=>
  match o.guard with
  | none=>GL P H dr m o st []
  | some (k,want)=>
   match (ops[k]?).bind (·.dst) with
   | none=>none
   | some g=>match Aq st.fr g with
    | .bool b=>match (gd H g b).1,want with
     | true,true=>match GL P H dr m o st [g] with
      | some (pl,p)=>some (pl,(gd H g b).2/\p)
      | none=>none
     | false,false=>match GL P H dr m o st [g] with
      | some (pl,p)=>some (pl,(gd H g b).2/\p)
      | none=>none
     | _,_=>some (HD g st,(gd H g b).2)
    | .tup l=>match l with
     | []=>some (HD g st,True)
     | _=>none
    | _=>none
structure PlF(P:Program)(dr:Bool)(m:Nat)(ops:Array Oper)(o:Oper)(st:St)(pl:Pl):Prop where
 dst:∀d,o.dst=some d->d<st.n
 len:pl.hp.length=st.hp.length
 hsub:∀b blk,nth pl.hp b=some blk->nth st.hp b=some blk
 whole:dr=false->pl.run=true->pl.hp=st.hp
 dead:∀b,b∈pl.R.dead->m<=b
 fits:pl.R.fits (nth pl.hp)
 below:dr=true->∀b blk,nth pl.hp b=some blk->G5 st.hp.length blk=true
 slots:∀s,Aq pl.fr s = .unk\/(s∈pl.reads/\Aq pl.fr s=Aq st.fr s)
 belowS:dr=true->∀s,Bd st.hp.length 4 (Aq pl.fr s)=true
 run:pl.run=true->Au P o (St.ev {n:=st.n,fr:=pl.fr,hp:=[]}) (nth pl.hp) st.hp.length pl.R/\
  (∀k want,o.guard=some (k,want)->∃g,(ops[k]?).bind (·.dst)=some g/\g∈pl.reads/\Aq st.fr g = .bool want)
 skip:pl.run=false->pl.R={v:=.tup []}/\∃k want g,o.guard=some (k,want)/\(ops[k]?).bind (·.dst)=some g/\g∈pl.reads/\(Aq st.fr g = .bool (!want)\/Aq st.fr g = .tup [])
theorem Sk(f:Nat->AV):∀(l:List Nat) (s:Nat),Aq (l.map fun s=>(s,f s)) s = .unk\/(s∈l/\Aq (l.map fun s=>(s,f s)) s=f s):=by
 intro l;induction l with
 | nil=>intro s;exact .inl rfl
 | cons x r ih=>
  intro s;simp only[Tu,Aq];cases hb:Nat.beq x s with
  | true=>have:=TE hb;subst this;exact .inr ⟨by simp,rfl⟩
  | false=>exact(ih s).imp id fun h=>⟨TR _ h.1,h.2⟩
theorem RZ{p:AV->Prop}{l:List (Nat×AV)}(h0:p .unk)(h:∀x∈l,p x.2)(s:Nat):p (Aq l s):=by
 induction l with
 | nil=>exact h0
 | cons x r ih=>
  obtain⟨k,v⟩:=x;simp only[Aq];split
  .exact h (k,v) (by simp)
  .exact ih fun y hy=>h y (TR _ hy)
theorem OP{H:HT}{dr:Bool}{m:Nat}{o:Oper}{st:St}{rs:List Nat}{pl:Pl}{p:Prop}(h:GL P H dr m o st rs=some (pl,p))(hp:p):
  pl.run=true/\(∀g∈rs,g∈pl.reads)/\pl.hp.length=st.hp.length/\(∀b blk,nth pl.hp b=some blk->nth st.hp b=some blk)/\(dr=false->pl.hp=st.hp)/\(∀b,b∈pl.R.dead->m<=b)/\
  pl.R.fits (nth pl.hp)/\(dr=true->∀b blk,nth pl.hp b=some blk->G5 st.hp.length blk=true)/\(∀s,Aq pl.fr s = .unk\/(s∈pl.reads/\Aq pl.fr s=Aq st.fr s))/\
  (dr=true->∀s,Bd st.hp.length 4 (Aq pl.fr s)=true)/\Au P o (St.ev {n:=st.n,fr:=pl.fr,hp:=[]}) (nth pl.hp) st.hp.length pl.R:=by
 unfold GL at h;simp only at h;generalize hhp:(match dr with | true=>Dv (MS st.hp (Qh o) (roots o ((Jc o).map fun s=>(s,IH H s (Aq st.fr s))))) 0 st.hp | false=>st.hp)=hp' at h;have hlen:hp'.length=st.hp.length:=by
  rw[<-hhp];cases dr
  .rfl
  .exact L6 _ _ _
 have hsub:∀b blk,nth hp' b=some blk->nth st.hp b=some blk:=by
  intro b blk hb;rw[<-hhp] at hb;cases dr
  .exact hb
  .exact N2 _ _ _ _ _ hb
 have hwhole:dr=false->hp'=st.hp:=by rintro rfl;exact hhp.symm
 split at h
 case h_2=>cases h
 rename_i R q hop;split at h
 case h_2=>cases h
 rename_i hc;cases h;simp only[TF,T9,Uj] at hc;obtain⟨hp,hbq⟩:((Jc o).map fun s=>IS H s (Aq st.fr s)).foldr And q/\(dr=true->FX H st.hp.length 0 hp'=true->∀x∈hp',Hv st.hp.length x=true):=by
  cases dr
  .exact⟨hp,fun h=>by cases h⟩
  .obtain⟨a,b⟩:=SX (nb:=st.hp.length) _ _ hp;exact⟨a,fun _=>b⟩
 obtain⟨hrf,hp⟩:=GA hp;obtain⟨h1,h2⟩:=HE hop hp;rw[hlen] at h1;refine⟨rfl,fun g hg=>List.mem_append_left _ hg,hlen,hsub,hwhole,fun b hb=>TY (TN.1 hc.1 b hb),h2,fun hd b blk hb=>?_,fun s=>?_,fun hd s=>?_,h1⟩
 .rcases hc.2 with hc | hc
  .rw[hd] at hc;cases hc
  .have hm:some blk∈hp':=by
    rw[DI] at hb;cases hq:hp'[b]? with
    | none=>simp[hq] at hb
    | some ob=>simp[hq] at hb;subst hb;exact TB hq
   exact hbq hd hc.2 _ hm
 .exact(Sk (fun s=>IH H s (Aq st.fr s)) (Jc o) s).imp id fun h=>⟨List.mem_append_right _ h.1,h.2.trans (refV_eq (hrf _ (T4.2 ⟨s,h.1,rfl⟩)))⟩
 .rcases hc.2 with hc | hc
  .rw[hd] at hc;cases hc
  .exact RZ (p:=fun v=>Bd st.hp.length 4 v=true) rfl (fun x hx=>TN.1 hc.1 x hx) s
theorem Qp{dr:Bool}{m:Nat}{ops:Array Oper}{o:Oper}{st:St}{k g:Nat}{want:Bool}(hd:∀d,o.dst=some d->d<st.n)(hg:o.guard=some (k,want))(hk:(ops[k]?).bind (·.dst)=some g)
  (hv:Aq st.fr g = .bool (!want)\/Aq st.fr g = .tup []):PlF P dr m ops o st (HD g st):=by
 refine⟨hd,L6 _ _ _,fun b blk h=>N2 _ _ _ _ _ h,fun _ h=>(by cases h),fun b h=>(by simp[HD] at h),OpR.fits_value _ _,fun _ b blk h=>?_,fun s=>.inl rfl,fun _ s=>rfl,fun h=>(by cases h),fun _=>⟨rfl,k,want,g,hg,hk,by simp[HD],hv⟩⟩;exfalso;have:∀(l:List (Option Blk)) (i b:Nat),nth (Dv [] i l) b=none:=by
  intro l;induction l with
  | nil=>intro i b;rfl
  | cons x r ih=>intro i b;cases b with
   | zero=>rfl
   | succ b=>exact ih _ _
 simp only[HD] at h;rw[this] at h;cases h
theorem OQ{H:HT}{dr:Bool}{m:Nat}{ops:Array Oper}{o:Oper}{st:St}{pl:Pl}{p:Prop}(h:LO P H dr m ops o st=some (pl,p))(hp:p):PlF P dr m ops o st pl:=by
 unfold LO at h;split at h
 case h_1=>cases h
 rename_i hdst;have hd:∀d,o.dst=some d->d<st.n:=by intro d hd;rw[hd] at hdst;exact TY (show Nat.ble (d+1) st.n=true from hdst)
 split at h
 .rename_i hg;obtain⟨h1,h2,h3,h4,h5,h6,h7,h8,h9,h10,h11⟩:=OP h hp;exact⟨hd,h3,h4,fun h _=>h5 h,h6,h7,h8,h9,h10,fun _=>⟨h11,fun k want hk=>by rw[hg] at hk;cases hk⟩,fun h=>by rw[h1] at h;cases h⟩
 rename_i k want hg;split at h
 case h_1=>cases h
 rename_i g hk;split at h
 .rename_i b hb;have main:∀p0,(gd H g b).2->(gd H g b).1=want->GL P H dr m o st [g]=some (pl,p0)->p0->PlF P dr m ops o st pl:=by intro p0 hgp hw hr hp0;obtain⟨h1,h2,h3,h4,h5,h6,h7,h8,h9,h10,h11⟩:=OP hr hp0;refine⟨hd,h3,h4,fun h _=>h5 h,h6,h7,h8,h9,h10,fun _=>⟨h11,fun k' want' hk'=>?_⟩,fun h=>by rw[h1] at h;cases h⟩;rw[hg] at hk';cases hk';exact⟨g,hk,h2 g (by simp),by rw[hb,EQ hgp,hw]⟩
  split at h
  .rename_i hw;split at h
   .rename_i pl' p' hr;cases h;exact main _ hp.1 hw hr hp.2
   .cases h
  .rename_i hw;split at h
   .rename_i pl' p' hr;cases h;exact main _ hp.1 hw hr hp.2
   .cases h
  .rename_i n1 n2;cases h;refine Qp hd hg hk (.inl ?_);rw[hb,EQ hp];congr 1;revert n1 n2;cases (gd H g b).1<;>(intro n1 n2;simp at n1 n2;first | (simp[n1];done) | (simp[n2];done))
 .rename_i l hl;split at h
  .cases h;exact Qp hd hg hk (.inr hl)
  .cases h
 .cases h
def E3(P:Program)(H:HT)(dr:Bool)(m:Nat)(ops:Array Oper):List Oper->St->Option (List (Option Nat×Pl)×St×Prop)
 | [],st=>some ([],st,True)
 | o::r,st=>match LO P H dr m ops o st with
  | some (pl,p)=>match E3 P H dr m ops r (st.app o.dst pl.R) with
   | some (pls,st',q)=>some ((o.dst,pl)::pls,st',p/\q)
   | none=>none
  | none=>none
def AU(st:St)(pls:List (Option Nat×Pl)):Nat->St
 | 0=>st
 | j+1=>match pls[j]? with
  | some x=>(AU st pls j).app x.1 x.2.R
  | none=>AU st pls j
theorem O3(st:St)(x:Option Nat×Pl)(pls:List (Option Nat×Pl)):∀j,AU st (x::pls) (j+1)=AU (st.app x.1 x.2.R) pls j:=by
 intro j;induction j with
 | zero=>rfl
 | succ j ih=>show(match (x::pls)[j+1]? with | some x=>_ | none=>_)=_;simp only[List.getElem?_cons_succ];rw[ih];rfl
theorem RP{H:HT}{dr:Bool}{m:Nat}{ops:Array Oper}:∀{l:List Oper} {st st':St} {pls:List (Option Nat×Pl)} {p:Prop},E3 P H dr m ops l st=some (pls,st',p)->p->
  pls.length=l.length/\st'=AU st pls l.length/\∀(j:Nat) o,l[j]?=some o->∃pl,pls[j]?=some (o.dst,pl)/\PlF P dr m ops o (AU st pls j) pl:=by
 intro l;induction l with
 | nil=>intro st st' pls p h hp;simp only[E3,Td,Tl] at h;obtain⟨rfl,rfl,_⟩:=h;exact⟨rfl,rfl,fun j o h=>by simp at h⟩
 | cons o r ih=>
  intro st st' pls p h hp;simp only[E3] at h;split at h
  case h_2=>cases h
  rename_i pl p1 h1;split at h
  case h_2=>cases h
  rename_i pls' st1 q h2;cases h;obtain⟨g1,g2,g3⟩:=ih h2 hp.2;refine⟨by simp[g1],by rw[g2,Ud,O3],fun j o' hj=>?_⟩;cases j with
  | zero=>simp at hj;subst hj;exact⟨pl,rfl,OQ h1 hp.1⟩
  | succ j=>obtain⟨pl',k1,k2⟩:=g3 j o' (by simpa using hj);exact⟨pl',by simpa using k1,by rw[O3];exact k2⟩
theorem NK{φ:Phi}{A:Nat->Prop}{w:World}{a:Act}{fr:List (Nat×AV)}{n:Nat}{hp:List (Option Blk)}(h:∀s,VR φ A w (Aq fr s) (a.tmps.getD s undef))(x:Operand):
  VR φ A w (St.ev {n,fr,hp} x) (a.eval x):=by
 cases x with
 | tmp t=>exact h t
 | const v=>exact .imm _ _ (RT.absC v)
 | global g=>exact .imm _ _ (.unk _)
 | func f=>exact VR.fn (φ:=φ) (A:=A) (w:=w) f [] [] rfl (fun i c v hc=>by simp at hc)
theorem Jf{φ:Phi}{A:Nat->Prop}{w:World}{a:Act}{ops:Array Oper}{o:Oper}(h:∀k want,o.guard=some (k,want)->∃g,(ops[k]?).bind (·.dst)=some g/\VR φ A w (.bool want) (a.tmps.getD g undef)):
  Region.wanted o (yielded ops a.tmps)=true:=by
 unfold Region.wanted;split
 .rfl
 .rename_i k want hg;obtain⟨g,h1,h2⟩:=h k want hg;have h3:=h2.bool_inv;unfold yielded;rw[h1];simp only[Option.bind_some];cases hq:a.tmps[g]? with
  | none=>simp[hq,undef] at h3
  | some v=>simp[hq] at h3;simp[h3]
theorem Na{φ:Phi}{A:Nat->Prop}{w:World}{a:Act}{ops:Array Oper}{o:Oper}{k g:Nat}{want:Bool}{v:AV}(hg:o.guard=some (k,want))(h1:(ops[k]?).bind (·.dst)=some g)
  (hv:v = .bool (!want)\/v = .tup []) (h2:VR φ A w v (a.tmps.getD g undef)):Region.wanted o (yielded ops a.tmps)=false:=by
 unfold Region.wanted;rw[hg];unfold yielded;simp only[h1,Option.bind_some];rcases hv with rfl | rfl
 .have h3:=h2.bool_inv;cases hq:a.tmps[g]? with
  | none=>simp
  | some u=>simp[hq] at h3;simp[h3]
 .obtain⟨vs,h3,hl,_⟩:=h2.tup_inv;have hvs:vs=[]:=List.eq_nil_of_length_eq_zero hl;subst hvs;cases hq:a.tmps[g]? with
  | none=>simp
  | some u=>simp[hq] at h3;simp[h3]
theorem Eff.skip{φ:Phi}{A:Nat->Prop}{w:World}{h:Hp}{nb:Nat}(hn:∀b,nb<=b->φ b=none):Eff φ A w h nb {v:=.tup []} undef w φ:=⟨BU.refl _ w,fun _ _=>rfl,fun b hb=>hn b (by simpa using hb),fun b r z hb h=>(by rw[hn b hb] at h;cases h),fun b b' r z z' hb _ h _=>(by rw[hn b hb] at h;cases h),.tup [] [] rfl (fun i c v hc=>by simp at hc),fun b blk hm=>(by simp at hm),fun blk hm=>(by simp at hm),fun b blk hm=>(by simp at hm),fun b blk hm=>(by simp at hm)⟩
theorem Ry{H:HT}{m:Nat}{ops:Array Oper}{Q:Exit->Act->World->Prop}{A0:Nat->Prop}{n0:Nat}:∀{l:List Oper} {st st':St} {pls:List (Option Nat×Pl)} {p:Prop},E3 P H false m ops l st=some (pls,st',p)->p->
  ∀{φ:Phi} {a:Act} {w:World},m<=st.hp.length->Rel A0 n0 m φ st a w->
   (∀φ' a' w',m<=st'.hp.length->Rel A0 n0 m φ' st' a' w'->Tr m φ st.h w φ' st'.h w'->Q .normal a' w')->wpList P ops Q l a w:=by
 intro l;induction l with
 | nil=>intro st st' pls p h hp φ a w hm hr k;simp only[E3,Td,Tl] at h;obtain⟨_,rfl,_⟩:=h;exact k φ a w hm hr (.refl _ _ _ _)
 | cons o r ih=>
  intro st st' pls p h hp φ a w hm hr k;simp only[E3] at h;split at h
  case h_2=>cases h
  rename_i pl p1 h1;split at h
  case h_2=>cases h
  rename_i pls' st1 q h2;cases h;have F:=OQ h1 hp.1;have hm':m<=(st.app o.dst pl.R).hp.length:=by simp[St.app,ES,E2];omega
  have hslots:∀s,VR φ (Ok A0 n0 φ st.h w) w (Aq pl.fr s) (a.tmps.getD s undef):=fun s=>by
   rcases F.slots s with h | h
   .rw[h];exact .imm _ _ (.unk _)
   .rw[h.2];exact hr.slot s
  unfold wpList;cases hrun:pl.run with
  | true=>
   obtain⟨hop,hgd⟩:=F.run hrun;rw[Tv (Jf (φ:=φ) (A:=Ok A0 n0 φ st.h w) (w:=w) fun k want hg=>by
    obtain⟨g,g1,_,g2⟩:=hgd k want hg;exact⟨g,g1,by rw[<-g2];exact hr.slot g⟩)]
   left;have hhp:=F.whole rfl hrun;rw[hhp] at hop;refine hop φ (Ok A0 n0 φ st.h w) w a _ _ (fun r hA=>⟨hA.2.1,hA.2.2⟩) (NK hslots) hr.heap hr.out fun v' w' φ' he=>?_
   have hfit:=F.fits;rw[hhp] at hfit;obtain⟨s1,s2⟩:=hr.step hm F.dead F.dst hfit he;exact ih h2 hp.2 hm' s1 fun φ2 a2 w2 g1 g2 g3=>k φ2 a2 w2 g1 g2 (s2.trans g3)
  | false=>
   obtain⟨hR,kk,want,g,hg,hk,_,hv⟩:=F.skip hrun;rw[Tw (by rw[Na hg hk hv (hr.slot g)];simp)];have he:Eff φ (Ok A0 n0 φ st.h w) w st.h st.hp.length pl.R undef w φ:=by rw[hR];exact Eff.skip hr.out
   obtain⟨s1,s2⟩:=hr.step hm F.dead F.dst (by rw[hR];exact OpR.fits_value _ _) he;exact ih h2 hp.2 hm' s1 fun φ2 a2 w2 g1 g2 g3=>k φ2 a2 w2 g1 g2 (s2.trans g3)
section cur
variable {κ ν:Type} (act:Nat->κ->Option ν) (base:κ->ν)
def cur(S:Nat->Bool):Nat->κ->ν
 | 0,x=>base x
 | n+1,x=>match S n with
  | true=>(act n x).getD (cur S n x)
  | false=>cur S n x
theorem IW{S S':Nat->Bool}(x:κ):∀n,(∀k,k<n->act k x≠none->S k=S' k)->cur act base S n x=cur act base S' n x:=by
 intro n;induction n with
 | zero=>intro _;rfl
 | succ n ih=>
  intro h;have h1:=ih fun k hk=>h k (by omega)
  simp only[cur];cases ha:act n x with
  | none=>rw[h1];cases S n<;>cases S' n<;>rfl
  | some v=>rw[h n (by omega) (by simp[ha]),h1]
theorem Sj(x:κ)(j:Nat):∀n,j<=n->cur act base (fun k=>decide (k<j)) n x=cur act base (fun _=>true) j x:=by
 intro n;induction n with
 | zero=>intro h;have:j=0:=by omega
         subst this;rfl
 | succ n ih=>
  intro h;rcases Ut n j with h1 | h1
  .have:j=n+1:=by omega
   subst this;exact IW act base x _ fun k hk _=>by simpa using hk
  .have:decide (n<j)=false:=by simp;omega
   simp only[cur,this];exact ih h1
theorem Ie{S:Nat->Bool}{x:κ}{j n:Nat}(hj:j<=n)(h:∀k,k<n->act k x≠none->S k=decide (k<j)):cur act base S n x=cur act base (fun _=>true) j x:=(IW act base x n h).trans (Sj act base x j n hj)
theorem Pj{S:Nat->Bool}{x:κ}{j:Nat}(hSj:S j=false):∀n,j<n->(∀k,j<k->k<n->S k=true->act k x=none\/act j x=none)->
  cur act base (fun k=>if k=j then true else S k) n x=(act j x).getD (cur act base S n x):=by
 intro n;induction n with
 | zero=>intro h;omega
 | succ n ih=>
  intro hj h;rcases Ut j n with h1 | h1
  .have h2:=ih h1 fun k a b=>h k a (by omega)
   have hne:¬n=j:=by omega
   simp only[cur,Tw hne];cases hS:S n with
   | false=>exact h2
   | true=>
    rcases h n h1 (by omega) hS with h3 | h3
    .simp only[h3,Option.getD_none];exact h2
    .simp only[h3,Option.getD_none] at h2 ⊢;rw[h2]
  .have:j=n:=by omega
   subst this;simp only[cur,Tv,hSj];rw[IW act base x j (S':=S) fun k hk _=>Tw (by omega)]
end cur
def Dc(o:Oper):List Nat:=(o.after.toList.filter (Region.binds .any)).map (·.on)
inductive Pre (ops:Array Oper):Nat->Nat->Prop | direct {j k:Nat} {o:Oper} (h:ops[j]?=some o) (hk:k∈Dc o):Pre ops j k | trans {j k i:Nat} (h:Pre ops j k) (g:Pre ops k i):Pre ops j i
structure Ap(x y:Option Nat×Pl):Prop where
 ww:∀d,x.1=some d->y.1≠some d
 wr:∀d,x.1=some d->d∉y.2.reads
 rw_:∀d,y.1=some d->d∉x.2.reads
 hx:∀b blk,nth y.2.hp b=some blk->BM x.2.hp.length x.2.R b=none
 hy:∀b blk,nth x.2.hp b=some blk->BM y.2.hp.length y.2.R b=none
def CW(pls:List (Option Nat×Pl))(k s:Nat):Option AV:=match pls[k]? with
 | some x=>if x.1=some s then some x.2.R.v else none
 | none=>none
def A8(pls:List (Option Nat×Pl))(k b:Nat):Option (Option Blk):=match pls[k]? with
 | some x=>BM x.2.hp.length x.2.R b
 | none=>none
def seen(listed:Array Bool):Nat->Bool:=fun k=>listed.getD k false
theorem O7{hp:List (Option Blk)}{R:OpR}{b:Nat}(hf:R.fits (nth hp))(h:BM hp.length R b≠none):(∃blk,nth hp b=some blk)\/(hp.length<=b/\b<hp.length+R.new.length):=by
 unfold BM at h;split at h
 .left;split at h
  .rename_i blk hc;obtain⟨b0,h0,_⟩:=hf.1 b blk (JH hc);exact⟨b0,h0⟩
  .split at h
   .rename_i hd;obtain⟨⟨b0,h0,_⟩,_⟩:=hf.2 b (DV.1 hd);exact⟨b0,h0⟩
   .exact absurd rfl h
 .split at h
  .exact .inr ⟨by omega,by assumption⟩
  .exact absurd rfl h
theorem RM(st:St)(dst:Option Nat)(R:OpR)(b:Nat):(st.app dst R).h b=Co st.hp.length R st.h b:=by
 rw[Nc];unfold Co BM;split
 .cases hc:Cd R.chg b with
  | some blk=>rfl
  | none=>cases hd:Bh R.dead b<;>rfl
 .rename_i hb;split
  .rfl
  .rename_i h2;simp only[Option.getD_none];rw[TX (by omega)];unfold St.h;rw[DI,TX (by omega)];rfl
theorem SK{p q:Nat->Bool}{j:Nat}:∀{l:List Nat},j∈l->p j=true->q j=false->(∀x,q x=true->p x=true)->l.countP q<l.countP p:=by
 intro l;induction l with
 | nil=>intro h;simp at h
 | cons x r ih=>
  intro hj hp hq hqp;have hle:r.countP q<=r.countP p:=List.countP_mono_left fun y _=>hqp y
  rcases T2.1 hj with rfl | hj
  .simp[hp,hq];omega
  .have:=ih hj hp hq hqp;simp only[List.countP_cons];cases hqx:q x with
   | true=>simp[hqp x hqx];omega
   | false=>simp;omega
structure DR(P:Program)(m:Nat)(ops:Array Oper)(st0:St)(pls:List (Option Nat×Pl)):Prop where
 len:pls.length=ops.size
 pl:∀(j:Nat) o,ops[j]?=some o->∃pl,pls[j]?=some (o.dst,pl)/\PlF P true m ops o (AU st0 pls j) pl
 dir:∀(j:Nat) o,ops[j]?=some o->∀k,k∈Dc o->k<j
 ap:∀(i j:Nat) x y,i<j->pls[i]?=some x->pls[j]?=some y->Pre ops j i\/Ap x y
 base:m<=st0.hp.length
namespace DR
variable {m:Nat} {ops:Array Oper} {st0:St} {pls:List (Option Nat×Pl)}
theorem of_pl(D:DR P m ops st0 pls){j:Nat}{x:Option Nat×Pl}(h:pls[j]?=some x):∃o,ops[j]?=some o/\x.1=o.dst/\PlF P true m ops o (AU st0 pls j) x.2:=by
 have hj:j<ops.size:=by rw[<-D.len];exact(Tz.1 h).1
 obtain⟨pl,h1,h2⟩:=D.pl j _ (Array.getElem?_eq_getElem hj);rw[h] at h1;cases h1;exact⟨_,Array.getElem?_eq_getElem hj,rfl,h2⟩
theorem text(D:DR P m ops st0 pls):∀j,j<=ops.size->(∀s,Aq (AU st0 pls j).fr s=cur (CW pls) (Aq st0.fr) (fun _=>true) j s)/\(∀b,(AU st0 pls j).h b=cur (A8 pls) st0.h (fun _=>true) j b)/\(AU st0 pls j).n=st0.n:=by
 intro j;induction j with
 | zero=>intro _;exact⟨fun _=>rfl,fun _=>rfl,rfl⟩
 | succ j ih=>
  intro hj;obtain⟨h1,h2,h3⟩:=ih (by omega);have hjl:j<pls.length:=by rw[D.len];omega
  have hp:=Tx hjl;obtain⟨o,ho,hd,F⟩:=D.of_pl hp;have e:AU st0 pls (j+1)=(AU st0 pls j).app pls[j].1 pls[j].2.R:=by show(match pls[j]? with | some x=>_ | none=>_)=_;rw[hp]
  rw[e];refine⟨fun s=>?_,fun b=>?_,h3⟩
  .show Aq (put _ _ _) s=_;rw[OT];simp only[cur,CW,hp];split
   .rfl
   .exact h1 s
  .rw[RM];simp only[cur,A8,hp];unfold Co;rw[F.len,h2 b]
theorem nums(D:DR P m ops st0 pls){i:Nat}{x:Option Nat×Pl}(hi:pls[i]?=some x):∀j,i<j->j<=ops.size->x.2.hp.length+x.2.R.new.length<=(AU st0 pls j).hp.length:=by
 intro j;induction j with
 | zero=>intro h;omega
 | succ j ih=>
  intro hij hj;have hjl:j<pls.length:=by rw[D.len];omega
  have hp:=Tx hjl;have e:AU st0 pls (j+1)=(AU st0 pls j).app pls[j].1 pls[j].2.R:=by show(match pls[j]? with | some x=>_ | none=>_)=_;rw[hp]
  rw[e];have e2:((AU st0 pls j).app pls[j].1 pls[j].2.R).hp.length=(AU st0 pls j).hp.length+pls[j].2.R.new.length:=by simp[St.app,ES,E2]
  rw[e2];rcases Ut i j with h | h
  .have:=ih h (by omega);omega
  .have:i=j:=by omega
   subst this;rw[hp] at hi;cases hi;obtain⟨o,ho,hd,F⟩:=D.of_pl hp;rw[F.len];omega
theorem mono(_:DR P m ops st0 pls):∀j,st0.hp.length<=(AU st0 pls j).hp.length:=by
 intro j;induction j with
 | zero=>exact TI _
 | succ j ih=>
  show _<=(match pls[j]? with | some x=>(AU st0 pls j).app x.1 x.2.R | none=>AU st0 pls j).hp.length;split
  .simp[St.app,ES,E2];omega
  .exact ih
end DR
structure Inv(A0:Nat->Prop)(n0 m:Nat)(ops:Array Oper)(st0:St)(pls:List (Option Nat×Pl))(φ0:Phi)(w0:World)(listed:Array Bool)(φ:Phi)(a:Act)(w:World):Prop where
 size:listed.size=ops.size
 closed:∀(j:Nat) o,ops[j]?=some o->seen listed j=true->∀k,k∈Dc o->seen listed k=true
 rel:JL A0 n0 m st0.n φ (cur (CW pls) (Aq st0.fr) (seen listed) ops.size) (cur (A8 pls) st0.h (seen listed) ops.size) a w
 tr:Tr m φ0 st0.h w0 φ (cur (A8 pls) st0.h (seen listed) ops.size) w
 dom:∀b,φ b≠none->b<st0.hp.length\/∃k x,seen listed k=true/\pls[k]?=some x/\x.2.hp.length<=b/\b<x.2.hp.length+x.2.R.new.length
theorem Pre.seen{ops:Array Oper}{S:Nat->Bool}(hc:∀(j:Nat) o,ops[j]?=some o->S j=true->∀k,k∈Dc o->S k=true){j k:Nat}(h:Pre ops j k):S j=true->S k=true:=by
 induction h with
 | direct h hk=>exact fun hj=>hc _ _ h hj _ hk
 | trans _ _ ih1 ih2=>exact fun hj=>ih2 (ih1 hj)
theorem Pre.ready{ops:Array Oper}{S:Nat->Bool}(hc:∀(j:Nat) o,ops[j]?=some o->S j=true->∀k,k∈Dc o->S k=true){j k:Nat}(h:Pre ops j k):
  (∀o,ops[j]?=some o->∀k,k∈Dc o->S k=true)->S k=true:=by
 induction h with
 | direct h hk=>exact fun hr=>hr _ h _ hk
 | trans h1 h2 ih1 _=>exact fun hr=>Pre.seen hc h2 (ih1 hr)
theorem Gh{listed:Array Bool}{j:Nat}(hj:j<listed.size):seen (listed.setIfInBounds j true)=fun k=>if k=j then true else seen listed k:=by
 funext k;unfold seen;by_cases h:k=j
 .subst h;simp[hj]
 .rw[Tw h];simp[Tp (Ne.symm h)]
theorem Sl{m:Nat}{ops:Array Oper}{st0:St}{pls:List (Option Nat×Pl)}(D:DR P m ops st0 pls){A0:Nat->Prop}{n0:Nat}{φ0:Phi}{w0:World}{post:Exit->St->Prop}(hpost:post .normal (AU st0 pls ops.size)):
  ∀(fuel:Nat) (listed:Array Bool) (φ:Phi) (a:Act) (w:World),Inv A0 n0 m ops st0 pls φ0 w0 listed φ a w->(List.range ops.size).countP (fun k=> !seen listed k)<=fuel->
   wpAny P .any ops (RQ A0 n0 m φ0 st0.h w0 post) fuel listed a w:=by
 have fin:∀(listed:Array Bool) (φ:Phi) (a:Act) (w:World),Inv A0 n0 m ops st0 pls φ0 w0 listed φ a w->(∀k,k<ops.size->seen listed k=true)->RQ A0 n0 m φ0 st0.h w0 post .normal a w:=by
  intro listed φ a w I hall
  obtain⟨t1,t2,t3⟩:=D.text ops.size (TI _)
  have e1:cur (CW pls) (Aq st0.fr) (seen listed) ops.size=Aq (AU st0 pls ops.size).fr:=by
   funext s;rw[t1 s];exact IW _ _ _ _ fun k hk _=>hall k hk
  have e2:cur (A8 pls) st0.h (seen listed) ops.size=(AU st0 pls ops.size).h:=by
   funext s;rw[t2 s];exact IW _ _ _ _ fun k hk _=>hall k hk
  have hr:=I.rel
  have ht:=I.tr
  rw[e1,e2] at hr
  rw[e2] at ht
  refine⟨φ,_,hpost,⟨hr.defs,by rw[t3];exact hr.size,hr.slot,hr.heap,fun b hb=>?_,hr.base,hr.own⟩,Uf D.base (D.mono _),ht⟩
  cases hq:φ b with
  | none=>rfl
  | some v=>
   rcases I.dom b (by simp[hq]) with h | ⟨k,x,_,h2,h3,h4⟩
   .have:=D.mono ops.size;omega
   .have hk:k<ops.size:=by rw[<-D.len];exact(Tz.1 h2).1
    have:=D.nums h2 ops.size hk (TI _);omega
 have done:∀(listed:Array Bool) (φ:Phi) (a:Act) (w:World),Inv A0 n0 m ops st0 pls φ0 w0 listed φ a w->Region.ready .any ops listed=[]->RQ A0 n0 m φ0 st0.h w0 post .normal a w:=by
  intro listed φ a w I hr
  refine fin listed φ a w I fun k=>?_
  induction k using Nat.strongRecOn with
  | _ k ih=>
   intro hk
   cases hs:seen listed k with
   | true=>rfl
   | false=>
    exfalso
    have hmem:k∈Region.ready .any ops listed:=by
     rw[mem_ready]
     refine⟨?_,_,Array.getElem?_eq_getElem hk,fun e he hb=>?_⟩
     .unfold seen at hs
      have:k<listed.size:=by rw[I.size];exact hk
      simpa [this] using hs
     .have hmp:e.on∈Dc ops[k]:=T4.2 ⟨e,List.mem_filter.2 ⟨by simpa using he,hb⟩,rfl⟩
      have hlt:=D.dir k _ (Array.getElem?_eq_getElem hk) _ hmp
      exact ih e.on hlt (by omega)
    rw[hr] at hmem;cases hmem
 intro fuel
 induction fuel with
 | zero=>
  intro listed φ a w I hf
  have hall:∀k,k<ops.size->seen listed k=true:=by
   intro k hk
   have h0:(List.range ops.size).countP (fun k=> !seen listed k)=0:=by omega
   have:=List.countP_eq_zero.1 h0 k (by simpa using hk)
   simpa using this
  refine⟨?_,fin listed φ a w I hall⟩
  cases hr:Region.ready .any ops listed with
  | nil=>rfl
  | cons j r=>
   exfalso
   have hj:j∈Region.ready .any ops listed:=by rw[hr];simp
   obtain⟨h0,o,ho,_⟩:=mem_ready.1 hj
   have hlt:j<ops.size:=(Uh.1 ho).1
   have h1:=hall j hlt
   unfold seen at h1
   have:j<listed.size:=by rw[I.size];exact hlt
   simp[this] at h0 h1
   rw[h0] at h1;cases h1
 | succ fuel ih=>
  intro listed φ a w I hf
  refine⟨done listed φ a w I,fun j hj=>?_⟩
  obtain⟨h0,o,ho,hall⟩:=mem_ready.1 hj
  have hlt:j<ops.size:=(Uh.1 ho).1
  have hltl:j<listed.size:=by rw[I.size];exact hlt
  have hSj:seen listed j=false:=by unfold seen;simpa [hltl] using h0
  have hpre:∀k,k∈Dc o->seen listed k=true:=by
   intro k hk
   obtain⟨e,he,rfl⟩:=T4.1 hk
   obtain⟨he1,he2⟩:=List.mem_filter.1 he
   exact hall e (by simpa using he1) he2
  have hpre2:∀k,Pre ops j k->seen listed k=true:=fun k h=>Pre.ready I.closed h fun o' ho'=>by rw[ho] at ho';cases ho';exact hpre
  have hpost2:∀k,seen listed k=true->¬Pre ops k j:=fun k hk h=>by
   have:=Pre.seen I.closed h hk;rw[hSj] at this;cases this
  obtain⟨pl,hpl,F⟩:=D.pl j o ho
  obtain⟨t1,t2,t3⟩:=D.text j (by omega)
  -- what it reads is as in the text
  have readS:∀s,s∈pl.reads->cur (CW pls) (Aq st0.fr) (seen listed) ops.size s=Aq (AU st0 pls j).fr s:=by
   intro s hs
   rw[t1 s]
   refine Ie _ _ (by omega) fun k hk hne=>?_
   have hkl:k<pls.length:=by rw[D.len];exact hk
   have hx:=Tx hkl
   have hd:pls[k].1=some s:=by
    unfold CW at hne
    rw[hx] at hne
    simp only at hne
    split at hne
    .assumption
    .exact absurd rfl hne
   rcases Nat.lt_trichotomy k j with h | h | h
   .rw[TD h]
    rcases D.ap k j _ _ h hx hpl with hp | hp
    .exact hpre2 k hp
    .exact absurd hs (hp.wr s hd)
   .subst h;rw[hSj];simp
   .rw[TC (by omega)]
    cases hsk:seen listed k with
    | false=>rfl
    | true=>
     rcases D.ap j k _ _ h hpl hx with hp | hp
     .exact absurd hp (hpost2 k hsk)
     .exact absurd hs (hp.rw_ s hd)
  have readH:∀b blk,nth pl.hp b=some blk->cur (A8 pls) st0.h (seen listed) ops.size b=(AU st0 pls j).h b:=by
   intro b blk hb
   rw[t2 b]
   refine Ie _ _ (by omega) fun k hk hne=>?_
   have hkl:k<pls.length:=by rw[D.len];exact hk
   have hx:=Tx hkl
   have hd:BM pls[k].2.hp.length pls[k].2.R b≠none:=by unfold A8 at hne;rw[hx] at hne;exact hne
   rcases Nat.lt_trichotomy k j with h | h | h
   .rw[TD h]
    rcases D.ap k j _ _ h hx hpl with hp | hp
    .exact hpre2 k hp
    .exact absurd (hp.hx b blk hb) hd
   .subst h;rw[hSj];simp
   .rw[TC (by omega)]
    cases hsk:seen listed k with
    | false=>rfl
    | true=>
     rcases D.ap j k _ _ h hpl hx with hp | hp
     .exact absurd hp (hpost2 k hsk)
     .exact absurd (hp.hy b blk hb) hd
  -- what it writes stands
  have writeS:∀s,cur (CW pls) (Aq st0.fr) (seen (listed.setIfInBounds j true)) ops.size s=G9 o.dst pl.R.v (cur (CW pls) (Aq st0.fr) (seen listed) ops.size) s:=by
   intro s
   rw[Gh hltl,Pj _ _ hSj _ hlt]
   .unfold CW G9
    rw[hpl]
    simp only
    split<;>rfl
   .intro k hjk hk hsk
    have hkl:k<pls.length:=by rw[D.len];exact hk
    have hx:=Tx hkl
    rcases D.ap j k _ _ hjk hpl hx with hp | hp
    .exact absurd hp (hpost2 k hsk)
    .unfold CW
     rw[hpl,hx]
     simp only
     by_cases hd:o.dst=some s
     .left;rw[Tw (hp.ww s hd)]
     .right;rw[Tw hd]
  have writeH:∀b,cur (A8 pls) st0.h (seen (listed.setIfInBounds j true)) ops.size b=Co (AU st0 pls j).hp.length pl.R (cur (A8 pls) st0.h (seen listed) ops.size) b:=by
   intro b
   rw[Gh hltl,Pj _ _ hSj _ hlt]
   .unfold Co
    have:A8 pls j b=BM (AU st0 pls j).hp.length pl.R b:=by unfold A8;rw[hpl];simp only;rw[F.len]
    rw[this]
   .intro k hjk hk hsk
    have hkl:k<pls.length:=by rw[D.len];exact hk
    have hx:=Tx hkl
    rcases D.ap j k _ _ hjk hpl hx with hp | hp
    .exact absurd hp (hpost2 k hsk)
    .have e1:A8 pls j b=BM pl.hp.length pl.R b:=by unfold A8;rw[hpl]
     have e2:A8 pls k b=BM pls[k].2.hp.length pls[k].2.R b:=by unfold A8;rw[hx]
     rw[e1,e2]
     by_cases ha:BM pl.hp.length pl.R b=none
     .exact .inr ha
     .left
      rcases O7 F.fits ha with ⟨blk,hb⟩ | hb
      .exact hp.hy b blk hb
      .cases hk2:BM pls[k].2.hp.length pls[k].2.R b with
       | none=>rfl
       | some v=>
        exfalso
        obtain⟨ok,hok,_,Fk⟩:=D.of_pl hx
        rcases O7 (b:=b) Fk.fits (by simp[hk2]) with ⟨blk,hb2⟩ | hb2
        .exact ha (hp.hx b blk hb2)
        .have:=D.nums hpl k hjk (by omega)
         have e3:=Fk.len
         simp only at this
         omega
  have hsub:∀b blk,nth pl.hp b=some blk->b<(AU st0 pls j).hp.length/\cur (A8 pls) st0.h (seen listed) ops.size b=some blk:=by
   intro b blk hb
   refine⟨?_,by rw[readH b blk hb];exact F.hsub b blk hb⟩
   rcases Ut b (AU st0 pls j).hp.length with h | h
   .exact h
   .have:=F.hsub b blk hb
    rw[DI,TX h] at this;cases this
  have hnew:∀b,(AU st0 pls j).hp.length<=b->b<(AU st0 pls j).hp.length+pl.R.new.length->φ b=none:=by
   intro b h1 h2
   cases hq:φ b with
   | none=>rfl
   | some v=>
    exfalso
    rcases I.dom b (by simp[hq]) with h | ⟨k,x,g1,g2,g3,g4⟩
    .have:=D.mono j;omega
    .have hk:k<ops.size:=by rw[<-D.len];exact(Tz.1 g2).1
     obtain⟨ok,hok,_,Fk⟩:=D.of_pl g2
     rcases Nat.lt_trichotomy k j with h | h | h
     .have:=D.nums g2 j h (by omega);omega
     .subst h;rw[hSj] at g1;cases g1
     .have:=D.nums hpl k h (by omega)
      have e3:=Fk.len
      have e4:=F.len
      simp only at this
      omega
  have hslots:∀s,VR (Cu (AU st0 pls j).hp.length φ) (Ok A0 n0 φ (cur (A8 pls) st0.h (seen listed) ops.size) w) w (Aq pl.fr s) (a.tmps.getD s undef):=by
   intro s
   refine VR.cut 4 _ _ ?_ (F.belowS rfl s)
   rcases F.slots s with h | ⟨h1,h2⟩
   .rw[h];exact .imm _ _ (.unk _)
   .rw[h2,<-readS s h1];exact I.rel.slot s
  have hheap:HR (Cu (AU st0 pls j).hp.length φ) (Ok A0 n0 φ (cur (A8 pls) st0.h (seen listed) ops.size) w) w (nth pl.hp):=by
   refine⟨fun b blk hb=>?_,fun b blk hb=>I.rel.heap.flat b blk (hsub b blk hb).2,fun b b' r z z' hb hb' h1 h2=>?_⟩
   .obtain⟨k1,k2⟩:=hsub b blk hb
    have hcut:Cu (AU st0 pls j).hp.length φ b=φ b:=Tv k1
    rcases I.rel.heap.blk b blk k2 with ⟨g1,g2,g3⟩ | ⟨r,cs,T,g1,g2,g3,g4⟩ | ⟨m,r,g1,g2,g3,g4⟩
    .exact .inl ⟨g1,by rw[hcut];exact g2,g3⟩
    case inr.inr=>exact .inr (.inr ⟨m,r,g1,by rw[hcut];exact g2,g3,g4⟩)
    .refine .inr (.inl ⟨r,cs,T,by rw[hcut];exact g1,g2,g3,fun i e hi=>⟨(g4 i e hi).1,fun q c hq=>?_⟩⟩)
     obtain⟨f1,u,f2,f3⟩:=(g4 i e hi).2 q c hq
     refine⟨f1,u,f2,?_⟩
     have hbl:=F.below rfl b blk hb
     unfold G5 at hbl
     split at hbl
     .rename_i hfl
      exact .imm _ _ (f3.noref_rt (I.rel.heap.flat b blk k2 hfl e (TB hi) c (TB hq)))
     .exact VR.cut 3 _ _ f3 (TN.1 (TN.1 hbl e (TB hi)) c (TB hq))
   .obtain⟨c1,e1⟩:=Option.isSome_iff_exists.1 hb
    obtain⟨c2,e2⟩:=Option.isSome_iff_exists.1 hb'
    exact I.rel.heap.inj b b' r z z' (by simp[(hsub _ _ e1).2]) (by simp[(hsub _ _ e2).2]) (EE h1).2 (EE h2).2
  -- behind the step
  have behind:∀(v':Value) (w':World) (φ1:Phi),Eff (Cu (AU st0 pls j).hp.length φ) (Ok A0 n0 φ (cur (A8 pls) st0.h (seen listed) ops.size) w) w (nth pl.hp) (AU st0 pls j).hp.length pl.R v' w' φ1->
    wpAny P .any ops (RQ A0 n0 m φ0 st0.h w0 post) fuel (listed.setIfInBounds j true) (a.put o.dst v') w':=by
   intro v' w' φ1 he
   obtain⟨φ',s1,s2,s3⟩:=I.rel.step (Uf D.base (D.mono j)) F.dead (fun d hd=>by have:=F.dst d hd;rw[t3] at this;exact this) F.fits hsub hnew he
   have eS:cur (CW pls) (Aq st0.fr) (seen (listed.setIfInBounds j true)) ops.size=G9 o.dst pl.R.v (cur (CW pls) (Aq st0.fr) (seen listed) ops.size):=funext writeS
   have eH:cur (A8 pls) st0.h (seen (listed.setIfInBounds j true)) ops.size=Co (AU st0 pls j).hp.length pl.R (cur (A8 pls) st0.h (seen listed) ops.size):=funext writeH
   refine ih _ φ' _ w' ⟨by simpa using I.size,fun i oi hoi hsi k hk=>?_,by rw[eS,eH];exact s1,by rw[eH];exact I.tr.trans s2,fun b hb=>?_⟩ ?_
   .rw[Gh hltl] at hsi ⊢
    simp only at hsi ⊢
    split
    .rfl
    .split at hsi
     .rename_i _ he;subst he;rw[ho] at hoi;cases hoi;exact hpre k hk
     .exact I.closed i oi hoi hsi k hk
   .rcases s3 b hb with h | ⟨h1,h2⟩
    .rcases I.dom b h with h | ⟨k,x,g1,g2,g3,g4⟩
     .exact .inl h
     .refine .inr ⟨k,x,?_,g2,g3,g4⟩
      rw[Gh hltl];simp[g1]
    .refine .inr ⟨j,(o.dst,pl),?_,hpl,by rw[F.len];exact h1,by rw[F.len];exact h2⟩
     rw[Gh hltl];simp
   .have:=SK (p:=fun k=> !seen listed k) (q:=fun k=> !seen (listed.setIfInBounds j true) k) (j:=j) (l:=List.range ops.size) (by simpa using hlt) (by simp[hSj]) (by rw[Gh hltl];simp) fun x hx=>by
     rw[Gh hltl] at hx
     simp only at hx ⊢
     split at hx
     .simp at hx
     .exact hx
    omega
  unfold wpOp
  rw[ho]
  simp only
  have hcutn:∀b,(AU st0 pls j).hp.length<=b->Cu (AU st0 pls j).hp.length φ b=none:=fun b hb=>Tw (by omega)
  cases hrun:pl.run with
  | true=>
   obtain⟨hop,hgd⟩:=F.run hrun
   rw[Tv (Jf (φ:=φ) (A:=Ok A0 n0 φ (cur (A8 pls) st0.h (seen listed) ops.size) w) (w:=w) fun k want hg=>by
    obtain⟨g,g1,g2,g3⟩:=hgd k want hg
    exact⟨g,g1,by rw[<-g3,<-readS g g2];exact I.rel.slot g⟩)]
   left
   refine hop (Cu (AU st0 pls j).hp.length φ) (Ok A0 n0 φ (cur (A8 pls) st0.h (seen listed) ops.size) w) w a _ _ (fun r hA=>⟨hA.2.1,fun hm=>hA.2.2 ?_⟩) (NK hslots) hheap hcutn behind
   obtain⟨b,blk,z,k1,k2,k3⟩:=hm
   exact⟨b,blk,z,(hsub b blk k1).2,k2,(EE k3).2⟩
  | false=>
   obtain⟨hR,kk,want,g,hg,hk,hgr,hv⟩:=F.skip hrun
   rw[Tw (by
    have:=I.rel.slot g
    rw[readS g hgr] at this
    rw[Na hg hk hv this];simp)]
   refine behind undef w (Cu (AU st0 pls j).hp.length φ) ?_
   rw[hR]
   exact Eff.skip hcutn
variable {P:Program}
def Gx(l:List Nat)(k:Nat):List Nat:=match Bh l k with | true=>l | false=>k::l
def uniN(l r:List Nat):List Nat:=r.foldl Gx l
def Gd(acc:List (List Nat))(o:Oper):List Nat:=(Dc o).foldl (fun l k=>uniN (Gx l k) (acc.getD k [])) []
def LZ:List Oper->List (List Nat)->List (List Nat) | [],acc=>acc | o::r,acc=>LZ r (acc++[Gd acc o])
theorem Pe{l:List Nat}{k x:Nat}(h:x∈Gx l k):x=k\/x∈l:=by
 unfold Gx at h;split at h
 .exact .inr h
 .exact T2.1 h
theorem mem_uniN{r:List Nat}:∀{l:List Nat} {x:Nat},x∈uniN l r->x∈l\/x∈r:=by
 induction r with
 | nil=>intro l x h;exact .inl h
 | cons y r ih=>
  intro l x h;rcases ih (l:=Gx l y) h with h | h
  .rcases Pe h with rfl | h
   .exact .inr (by simp)
   .exact .inl h
  .exact .inr (TR _ h)
theorem Ru{acc:List (List Nat)}{o:Oper}{x:Nat}(h:x∈Gd acc o):∃k∈Dc o,x=k\/x∈acc.getD k []:=by
 have key:∀(r l:List Nat) (x:Nat),x∈r.foldl (fun l k=>uniN (Gx l k) (acc.getD k [])) l->x∈l\/∃k∈r,x=k\/x∈acc.getD k []:=by
  intro r;induction r with
  | nil=>intro l x h;exact .inl h
  | cons y r ih=>
   intro l x h;rcases ih _ x h with h | ⟨k,h1,h2⟩
   .rcases mem_uniN h with h | h
    .rcases Pe h with rfl | h
     .exact .inr ⟨_,by simp,.inl rfl⟩
     .exact .inl h
    .exact .inr ⟨y,by simp,.inr h⟩
   .exact .inr ⟨k,TR _ h1,h2⟩
 rcases key _ _ _ h with h | h
 .simp at h
 .exact h
theorem SZ{ops:Array Oper}:∀{l:List Oper} {acc:List (List Nat)},(∀(j:Nat) o,l[j]?=some o->ops[acc.length+j]?=some o)->(∀j k,k∈acc.getD j []->Pre ops j k)->
  ∀j k,k∈(LZ l acc).getD j []->Pre ops j k:=by
 intro l;induction l with
 | nil=>intro acc _ h;exact h
 | cons o r ih=>
  intro acc hl h;refine ih (acc:=acc++[Gd acc o]) (fun j o' hj=>?_) fun j k hk=>?_
  .have:=hl (j+1) o' (by simpa using hj);simpa [Nat.add_assoc,Nat.add_comm 1 j] using this
  .rcases Nat.lt_trichotomy j acc.length with hlt | he | hlt
   .have:(acc++[Gd acc o]).getD j []=acc.getD j []:=by simp[List.getD,T7,hlt]
    rw[this] at hk;exact h j k hk
   .subst he;have:(acc++[Gd acc o]).getD acc.length []=Gd acc o:=by simp[List.getD]
    rw[this] at hk;obtain⟨q,h1,h2⟩:=Ru hk;have ho:=hl 0 o rfl;simp only[Tj] at ho;rcases h2 with rfl | h2
    .exact .direct ho h1
    .exact .trans (.direct ho h1) (h q k h2)
   .have:(acc++[Gd acc o]).getD j []=[]:=by simp only[List.getD];rw[TX (by simp;omega)];rfl
    rw[this] at hk;simp at hk
def Jq(nb:Nat)(R:OpR):Nat->List (Option Blk)->Bool
 | _,[]=>true
 | i,x::r=>(match x with | none=>true | some _=>(BM nb R i).isNone)&&Jq nb R (i+1) r
def JV(hp:List (Option Blk))(pl:Pl):Bool:=
 match pl.R.dead,pl.R.chg,pl.R.new with
 | [],[],[]=>true
 | _,_,_=>Jq pl.hp.length pl.R 0 hp
theorem Sq{nb:Nat}{R:OpR}:∀{l:List (Option Blk)} {i:Nat},Jq nb R i l=true->∀b blk,nth l b=some blk->BM nb R (i+b)=none:=by
 intro l;induction l with
 | nil=>intro i _ b blk h;simp[nth] at h
 | cons x r ih=>
  intro i h b blk hb;simp only[Jq,TF] at h;cases b with
  | zero=>simp only[nth] at hb;subst hb;simpa using h.1
  | succ b=>have:=ih h.2 b blk hb;rwa [show i+(b+1)=i+1+b by omega]
theorem Qo{hp:List (Option Blk)}{pl:Pl}(h:JV hp pl=true)(b:Nat)(blk:Blk)(hb:nth hp b=some blk):BM pl.hp.length pl.R b=none:=by
 unfold JV at h;split at h
 .rename_i h1 h2 h3;unfold BM;rw[h1,h2,h3];split
  .rfl
  .rw[Tw (by simp;omega)]
 .have:=Sq h b blk hb
  rwa [TP] at this
def optIs:Option Nat->Nat->Bool | some x,d=>Nat.beq x d | none,_=>false
def JO(x y:Option Nat×Pl):Bool:=
 (match x.1 with | none=>true | some d=> !optIs y.1 d&&!Bh y.2.reads d)&&(match y.1 with | none=>true | some d=> !Bh x.2.reads d)&&JV y.2.hp x.2&&JV x.2.hp y.2
theorem Sr{x y:Option Nat×Pl}(h:JO x y=true):Ap x y:=by
 simp only[JO,TF] at h;obtain⟨⟨⟨h1,h2⟩,h3⟩,h4⟩:=h;have nm:∀{l:List Nat} {d:Nat},(!Bh l d)=true->d∉l:=fun h hm=>by rw[DV.2 hm] at h;cases h
 refine⟨fun d hd he=>?_,fun d hd=>?_,fun d hd=>?_,Qo h3,Qo h4⟩
 .rw[hd] at h1;simp only[TF] at h1;rw[he] at h1;simp[optIs] at h1
 .rw[hd] at h1;simp only[TF] at h1;exact nm h1.2
 .rw[hd] at h2;exact nm h2
def JJ(pres:List (List Nat)):Nat->List (Option Nat×Pl)->List (Nat×(Option Nat×Pl))->Bool | _,[],_=>true | j,y::r,es=>es.all (fun x=>Bh (pres.getD j []) x.1||JO x.2 y)&&JJ pres (j+1) r ((j,y)::es)
theorem Rn{pres:List (List Nat)}{pls:List (Option Nat×Pl)}:∀{l:List (Option Nat×Pl)} {j:Nat} {es:List (Nat×(Option Nat×Pl))},JJ pres j l es=true->
  (∀k,l[k]?=pls[j+k]?)->(∀i x,i<j->pls[i]?=some x->(i,x)∈es)->∀i k x y,j<=k->i<k->pls[i]?=some x->pls[k]?=some y->Bh (pres.getD k []) i=true\/JO x y=true:=by
 intro l;induction l with
 | nil=>intro j es _ hl _ i k x y hjk _ _ hy;have:=hl (k-j);rw[show j+(k-j)=k by omega,hy] at this;simp at this
 | cons z r ih=>
  intro j es h hl hes i k x y hjk hik hx hy;simp only[JJ,TF] at h;have hz:pls[j]?=some z:=by have:=hl 0;simpa using this.symm
  rcases Ut j k with hlt | hge
  .refine ih h.2 (fun q=>?_) (fun i' x' hi' hx'=>?_) i k x y (by omega) hik hx hy
   .have:=hl (q+1);simpa [Nat.add_assoc,Nat.add_comm 1 q] using this
   .rcases Ut i' j with h1 | h1
    .exact TR _ (hes i' x' h1 hx')
    .have:i'=j:=by omega
     subst this;rw[hz] at hx';cases hx';simp
  .have:k=j:=by omega
   subst this;rw[hz] at hy;cases hy;have:=TN.1 h.1 _ (hes i x hik hx);simpa using this
def Js:Nat->List Oper->Bool | _,[]=>true | j,o::r=>(Dc o).all (fun k=>Nat.blt k j)&&Js (j+1) r
theorem Rv:∀{l:List Oper} {j:Nat},Js j l=true->∀(k:Nat) o,l[k]?=some o->∀q,q∈Dc o->q<j+k:=by
 intro l;induction l with
 | nil=>intro j _ k o h;simp at h
 | cons x r ih=>
  intro j h k o hk q hq;simp only[Js,TF] at h;cases k with
  | zero=>simp at hk;subst hk;exact TY (show Nat.ble (q+1) j=true from TN.1 h.1 q hq)
  | succ k=>have:=ih h.2 k o (by simpa using hk) q hq;omega
def Ib(P:Program)(H:HT)(m:Nat)(ops:Array Oper)(dr:Bool)(st:St):Option (St×Prop):=
 match E3 P H dr m ops ops.toList st with
 | some (pls,st',p)=>match dr with
  | false=>some (st',p)
  | true=>match Js 0 ops.toList&&JJ (LZ ops.toList []) 0 pls [] with
   | true=>some (st',p)
   | false=>none
 | none=>none
theorem VR.drawn{φ:Phi}{A:Nat->Prop}{w:World}{n:Nat}{c:AV}{v:Value}(h:VR φ A w c v):VR φ A {w with drawn:=n} c v:=h.mono (fun _ _ h=>h) (fun _ h=>h) (fun _ _=>rfl) (fun _=>TI _)
theorem T.region{H:HT}{m id:Nat}{ops:Array Oper}{dr:Bool}{st st':St}{p:Prop}{post:Exit->St->Prop}(hmix:P.follows .mixedOrders=true)(h:Ib P H m ops dr st=some (st',p))(hp:p)
  (hpost:post .normal st'):T P m (.region id ops dr) st post:=by
 intro A0 n0 φ a w hm hr;unfold Ib at h;split at h
 case h_2=>cases h
 rename_i pls st1 q hev;split at h
 .cases h;exact wp_region_list (Ry hev hp hm hr fun φ' a' w' g1 g2 g3=>⟨φ',_,hpost,g2,g1,g3⟩)
 .split at h
  case h_2=>cases h
  rename_i hc;cases h;simp only[TF] at hc;obtain⟨g1,g2,g3⟩:=RP hev hp;have hlen:ops.toList.length=ops.size:=by simp
  rw[hlen] at g2 g1;have D:DR P m ops st pls:=by
   refine⟨g1,fun j o ho=>g3 j o (by simpa using ho),fun j o ho k hk=>?_,fun i j x y hij hx hy=>?_,hm⟩
   .have:=Rv hc.1 j o (by simpa using ho) k hk;omega
   .rcases Rn hc.2 (pls:=pls) (fun k=>by rw[TP]) (fun i x hi=>by omega) i j x y (TJ _) hij hx hy with h | h
    .left;refine SZ (ops:=ops) (l:=ops.toList) (acc:=[]) (fun j o hj=>by simpa using hj) (fun j k hk=>by simp at hk) j i (DV.1 h)
    .exact .inr (Sr h)
  refine wp_region_any hmix (Sl D (by rw[<-g2];exact hpost) ops.size _ φ a _ ⟨by simp,fun j o ho hs=>?_,?_,?_,fun b hb=>?_⟩ ?_)
  .have:seen (Array.replicate ops.size false) j=false:=by unfold seen;simp only[Array.getD_eq_getD_getElem?,Array.getElem?_replicate];split<;>rfl
   rw[this] at hs;cases hs
  .have hseen:∀k,seen (Array.replicate ops.size false) k=false:=by intro k;unfold seen;simp only[Array.getD_eq_getD_getElem?,Array.getElem?_replicate];split<;>rfl
   have e1:cur (CW pls) (Aq st.fr) (seen (Array.replicate ops.size false)) ops.size=Aq st.fr:=by funext s;exact Ie (CW pls) (Aq st.fr) (j:=0) (TJ _) fun k _ _=>by rw[hseen];simp
   have e2:cur (A8 pls) st.h (seen (Array.replicate ops.size false)) ops.size=st.h:=by funext s;exact Ie (A8 pls) st.h (j:=0) (TJ _) fun k _ _=>by rw[hseen];simp
   rw[e1,e2];refine⟨hr.defs,hr.size,fun s=>(hr.slot s).drawn,⟨fun b blk hb=>?_,hr.heap.flat,hr.heap.inj⟩,hr.base,hr.own⟩;rcases hr.heap.blk b blk hb with h | ⟨r,cs,T,k1,k2,k3,k4⟩ | h
   .exact .inl h
   .exact .inr (.inl ⟨r,cs,T,k1,k2,k3,fun i e hi=>⟨(k4 i e hi).1,fun j c hj=>by
     obtain⟨f1,u,f2,f3⟩:=(k4 i e hi).2 j c hj;exact⟨f1,u,f2,f3.drawn⟩⟩⟩)
   .exact .inr (.inr h)
  .have hseen:∀k,seen (Array.replicate ops.size false) k=false:=by intro k;unfold seen;simp only[Array.getD_eq_getD_getElem?,Array.getElem?_replicate];split<;>rfl
   have e2:cur (A8 pls) st.h (seen (Array.replicate ops.size false)) ops.size=st.h:=by funext s;exact Ie (A8 pls) st.h (j:=0) (TJ _) fun k _ _=>by rw[hseen];simp
   rw[e2];exact⟨fun _ _=>rfl,⟨rfl,rfl,rfl,TI _,fun _ _ _=>rfl,fun _=>TI _⟩,fun _ h=>.inl h⟩
  .rcases Ut b st.hp.length with h | h
   .exact .inl h
   .exact absurd (hr.out b h) hb
  .exact Uf List.countP_le_length (by simp)
inductive Kt where | code (c:Code) | blk (id:Nat) | rnd (c:Code)
def TL(P:Program)(m:Nat)(c:Code)(st:St)(post:Exit->St->Prop):Prop:=∀A0 n0 φ a w,m<=st.hp.length->Rel A0 n0 m φ st a w->∀b k cs,∃e a' w',RQ A0 n0 m φ st.h w post e a' w'/\Arrives P (lone (b.at a (.code c:: .inLoop c::k)) cs w) b k cs e a' w'
theorem T.of_TL{m:Nat}{c:Code}{st:St}{post:Exit->St->Prop}(h:TL P m c st post):T P m (.loop c) st post:=by intro A0 n0 φ a w hm hr b k cs;obtain⟨e,a',w',hq,harr⟩:=h A0 n0 φ a w hm hr b k cs;exact⟨e,a',w',hq,.of_steps (.one step_loop) harr⟩
theorem TL.round{m:Nat}{c:Code}{st:St}{post:Exit->St->Prop}(h:T P m c st (andThen (fun s=>TL P m c s post) post)):TL P m c st post:=by
 intro A0 n0 φ a w hm hr b k cs;obtain⟨e,a1,w1,hq,harr⟩:=h A0 n0 φ a w hm hr b (.inLoop c::k) cs;obtain⟨φ1,st1,h1,h2,h3,h4⟩:=hq;cases e with
 | normal=>obtain⟨e2,a2,w2,hq2,harr2⟩:=h1 A0 n0 φ1 a1 w1 h3 h2 b k cs;exact⟨e2,a2,w2,hq2.trans h4,.of_steps (Steps.trans harr (.one step_inLoop)) harr2⟩
 | exit id=>exact⟨_,a1,w1,⟨φ1,st1,h1,h2,h3,h4⟩,.pass (x:=.inLoop c) rfl (fun _ _=>.inl (by simp)) harr⟩
 | goto l=>exact⟨_,a1,w1,⟨φ1,st1,h1,h2,h3,h4⟩,.pass (x:=.inLoop c) rfl (fun _ _=>.inl (by simp)) harr⟩
 | ret=>exact⟨_,a1,w1,⟨φ1,st1,h1,h2,h3,h4⟩,.pass (x:=.inLoop c) rfl (fun _ _=>.inl (by simp)) harr⟩
 | panic ch=>exact⟨_,a1,w1,⟨φ1,st1,h1,h2,h3,h4⟩,.pass (x:=.inLoop c) rfl (fun _ _=>.inl (by simp)) harr⟩
 | outgrown=>exact⟨_,a1,w1,⟨φ1,st1,h1,h2,h3,h4⟩,.pass (x:=.inLoop c) rfl (fun _ _=>.inl (by simp)) harr⟩
inductive Out where | done (e:Exit) | loop (c:Code) (k:List Kt)
def TK(P:Program)(m:Nat)(post:Exit->St->Prop):List Kt->Exit->St->Prop
 | [],e,st=>post e st
 | .code c::k,e,st=>match e with
  | .normal=>T P m c st (TK P m post k)
  | e=>TK P m post k e st
 | .blk id::k,e,st=>Ei id (TK P m post k) e st
 | .rnd c::k,e,st=>match e with
  | .normal=>TL P m c st (TK P m post k)
  | e=>TK P m post k e st
def HI(id:Nat):Exit->Exit
 | .exit id'=>match Nat.beq id' id with | true=>.normal | false=>.exit id'
 | e=>e
def C5:Operand->Nat | .tmp g=>g | _=>1000000
def EV(p:Prop):Option (Out×St×Prop)->Option (Out×St×Prop) | some (o,s,q)=>some (o,s,p/\q) | none=>none
def go(P:Program)(H:HT)(m:Nat):Nat->Code⊕Exit->List Kt->St->Option (Out×St×Prop)
 | 0,_,_,_=>none
 | n+1,.inl c,k,st=>match c with
  | .seq a b=>go P H m n (.inl a) (.code b::k) st
  | .block id c=>go P H m n (.inl c) (.blk id::k) st
  | .region _ ops dr=>match Ib P H m ops dr st with
   | some (st',p)=>EV p (go P H m n (.inr .normal) k st')
   | none=>none
  | .cond x c d=>match st.ev x with
   | .bool b=>match (gd H (C5 x) b).1 with
    | true=>EV (gd H (C5 x) b).2 (go P H m n (.inl c) k st)
    | false=>EV (gd H (C5 x) b).2 (go P H m n (.inl d) k st)
   | _=>none
  | .skip=>go P H m n (.inr .normal) k st
  | .ret=>go P H m n (.inr .ret) k st
  | .exit id=>go P H m n (.inr (.exit id)) k st
  | .loop c=>match H.unroll with
   | true=>go P H m n (.inl c) (.rnd c::k) st
   | false=>some (.loop c k,st,True)
  | _=>none
 | n+1,.inr e,k,st=>match k with
  | []=>some (.done e,st,True)
  | .code c::k=>match e with
   | .normal=>go P H m n (.inl c) k st
   | e=>go P H m n (.inr e) k st
  | .blk id::k=>go P H m n (.inr (HI id e)) k st
  | .rnd c::k=>match e with
   | .normal=>go P H m n (.inl c) (.rnd c::k) st
   | e=>go P H m n (.inr e) k st
def CG(P:Program)(m:Nat)(post:Exit->St->Prop)(st:St):Out->Prop | .done e=>post e st | .loop c k=>T P m (.loop c) st (TK P m post k)
theorem Od{H:HT}{m:Nat}{post:Exit->St->Prop}(hmix:P.follows .mixedOrders=true):∀(n:Nat) (c:Code⊕Exit) (k:List Kt) (st:St) (o:Out) (st':St) (p:Prop),
  go P H m n c k st=some (o,st',p)->p->CG P m post st' o->match c with
   | .inl c=>T P m c st (TK P m post k)
   | .inr e=>TK P m post k e st:=by
 have hcj:∀{p:Prop} {x:Option (Out×St×Prop)} {o:Out} {st':St} {q:Prop},EV p x=some (o,st',q)->∃q',x=some (o,st',q')/\q=(p/\q'):=by
  intro p x o st' q h;unfold EV at h;split at h
  .cases h;exact⟨_,rfl,rfl⟩
  .cases h
 intro n;induction n with
 | zero=>intro c k st o st' p h;simp[go] at h
 | succ n ih=>
  intro c k st o st' p h hp hrest;cases c with
  | inl c=>
   cases c<;>simp only[go] at h
   case seq a b=>refine T.seq ((ih _ _ _ _ _ _ h hp hrest).mono fun e s hs=>?_);cases e<;>exact hs
   case block id c=>refine T.block ((ih _ _ _ _ _ _ h hp hrest).mono fun e s hs=>?_);exact hs
   case region id ops dr=>
    split at h
    .rename_i st1 p1 h1;obtain⟨q,h2,rfl⟩:=hcj h;exact T.region hmix h1 hp.1 (ih _ _ _ _ _ _ h2 hp.2 hrest)
    .cases h
   case cond x c d=>
    split at h
    .rename_i b hb;split at h
     .rename_i hg;obtain⟨q,h2,rfl⟩:=hcj h;exact T.cond_true (by rw[hb,EQ hp.1,hg]) (ih _ _ _ _ _ _ h2 hp.2 hrest)
     .rename_i hg;obtain⟨q,h2,rfl⟩:=hcj h;exact T.cond_false (by rw[hb,EQ hp.1,hg]) (ih _ _ _ _ _ _ h2 hp.2 hrest)
    .cases h
   case skip=>exact T.skip (ih _ _ _ _ _ _ h hp hrest)
   case ret=>exact T.ret (ih _ _ _ _ _ _ h hp hrest)
   case exit id=>exact T.exit (ih _ _ _ _ _ _ h hp hrest)
   case loop c=>
    split at h
    .refine T.of_TL (TL.round ((ih _ _ _ _ _ _ h hp hrest).mono fun e s hs=>?_));cases e<;>exact hs
    .cases h;exact hrest
   all_goals cases h
  | inr e=>
   cases k with
   | nil=>simp only[go] at h;cases h;exact hrest
   | cons x k=>
    cases x with
    | code c=>
     cases e<;>simp only[go] at h
     case normal=>exact ih _ _ _ _ _ _ h hp hrest
     all_goals exact ih _ _ _ _ _ _ h hp hrest
    | rnd c=>
     cases e<;>simp only[go] at h
     case normal=>refine TL.round ((ih _ _ _ _ _ _ h hp hrest).mono fun e s hs=>?_);cases e<;>exact hs
     all_goals exact ih _ _ _ _ _ _ h hp hrest
    | blk id=>
     simp only[go] at h;have:=ih _ _ _ _ _ _ h hp hrest;cases e<;>simp only[HI] at this
     case exit id'=>
      show Ei id _ _ _;simp only[Ei];split at this
      .rename_i hb;rw[Tv (TE hb)];exact this
      .rename_i hb;rw[Tw (fun e=>by rw[e,Nat.beq_refl] at hb;cases hb)];exact this
     all_goals exact this
theorem T.run{H:HT}{m n:Nat}{c:Code}{st:St}{post:Exit->St->Prop}{o:Out}{st':St}{p:Prop}(hmix:P.follows .mixedOrders=true)(h:go P H m n (.inl c) [] st=some (o,st',p))(hp:p)(hr:CG P m post st' o): T P m c st post:=Od hmix n (.inl c) [] st o st' p h hp hr
def FL(m:Nat)(σ fz:List Nat):Bool:=Eb σ&&GG m 0 σ&&fz.all (fun b=>Nat.ble m b&&!Bh σ b)
theorem Fc{m:Nat}{σ fz vars:List Nat}{st st':St}{p:Prop}(h:FL m σ fz=true)(hr:st.ren σ fz vars=some (st',p))(hp:p):Ren m st st':=by simp only[FL,TF] at h;exact Ren.of σ fz vars hr hp h.1.1 h.1.2 h.2
def endR(m:Nat)(σ fz vars:List Nat):Option (Out×St×Prop)->Option (Code×List Kt×St×Prop)
 | some (.loop c k,st,p)=>match FL m σ fz,st.ren σ fz vars with
  | true,some (s,q)=>some (c,k,s,p/\q)
  | _,_=>none
 | _=>none
theorem zR{m:Nat}{σ fz vars:List Nat}{x:Option (Out×St×Prop)}{c:Code}{k:List Kt}{s:St}{p:Prop}{post:Exit->St->Prop}(h:endR m σ fz vars x=some (c,k,s,p))(hp:p)
  (ht:T P m (.loop c) s (TK P m post k)):∃o st q,x=some (o,st,q)/\q/\CG P m post st o:=by
 unfold endR at h;split at h
 case h_2=>cases h
 rename_i c' k' st q;split at h
 .rename_i s' q' h1 h2;cases h;exact⟨_,_,_,rfl,hp.1,T.ren (Fc h1 h2 hp.2) ht⟩
 .cases h
def Gb:Exit->Bool | .normal=>true | .ret=>true | _=>false
def endF(P:Program)(fn:Func)(m:Nat)(σ fz:List Nat):Option (Out×St×Prop)->Option (List (Option Blk)×AV×Prop)
 | some (.done e,st,p)=>match Gb e&&Nat.blt 0 st.n,GH P fn st with
  | true,some v=>match FL m σ fz,St.ren {st with fr:=[(0,v)]} σ fz [0] with
   | true,some (s,q)=>some (s.hp,Aq s.fr 0,p/\q)
   | _,_=>none
  | _,_=>none
 | _=>none
theorem zF{fn:Func}{m:Nat}{σ fz:List Nat}{x:Option (Out×St×Prop)}{hout:List (Option Blk)}{res:AV}{p:Prop}(h:endF P fn m σ fz x=some (hout,res,p))(hp:p):
  ∃o st q,x=some (o,st,q)/\q/\CG P m (Fin P fn m hout res) st o:=by
 unfold endF at h;split at h
 case h_2=>cases h
 rename_i e st q;split at h
 case h_2=>cases h
 rename_i v h1 h2;split at h
 case h_2=>cases h
 rename_i s q' h3 h4;cases h;simp only[TF] at h1;refine⟨_,_,_,rfl,hp.1,?_,v,s,h2,Fc h3 h4 hp.2,rfl,rfl,TY h1.2⟩;cases e<;>simp[Gb] at h1<;>simp
def endN(m:Nat)(σ fz vars:List Nat):Option (Out×St×Prop)->Option (St×Prop)
 | some (.done .normal,st,p)=>match FL m σ fz,st.ren σ fz vars with
  | true,some (s,q)=>some (s,p/\q)
  | _,_=>none
 | _=>none
theorem zN{m:Nat}{σ fz vars:List Nat}{x:Option (Out×St×Prop)}{s:St}{p:Prop}{post:Exit->St->Prop}{R:St->Prop}(h:endN m σ fz vars x=some (s,p))(hp:p)(hR:∀st,Ren m st s->R st):
  ∃o st q,x=some (o,st,q)/\q/\CG P m (andThen R post) st o:=by
 unfold endN at h;split at h
 case h_2=>cases h
 rename_i st q;split at h
 .rename_i s' q' h1 h2;cases h;exact⟨_,_,_,rfl,hp.1,hR _ (Fc h1 h2 hp.2)⟩
 .cases h
def go2(P:Program)(H:HT)(m n:Nat)(c:Code)(k:List Kt)(st:St):Option (Out×St×Prop):=
 match go P H m n (.inl c) [] st with
 | some (.done e,st',p)=>match e with
  | .normal=>none
  | e=>EV p (go P H m n (.inr e) k st')
 | _=>none
theorem T.path{H:HT}{m n:Nat}{c:Code}{st:St}{post:Exit->St->Prop}(hmix:P.follows .mixedOrders=true)(h:∃o st' q,go P H m n (.inl c) [] st=some (o,st',q)/\q/\CG P m post st' o):T P m c st post:=by obtain⟨o,st',q,h1,h2,h3⟩:=h;exact T.run hmix h1 h2 h3
theorem T.out{H:HT}{m n:Nat}{c:Code}{k:List Kt}{st:St}{post:Exit->St->Prop}{R:St->Prop}(hmix:P.follows .mixedOrders=true)(h:∃o st' q,go2 P H m n c k st=some (o,st',q)/\q/\CG P m post st' o):
  T P m c st (andThen R (TK P m post k)):=by
 obtain⟨o,st',q,h1,h2,h3⟩:=h;unfold go2 at h1;split at h1
 case h_2=>cases h1
 rename_i e st1 p hg;have key:∀{o:Out} {st':St} {q:Prop},EV p (go P H m n (.inr e) k st1)=some (o,st',q)->q->CG P m post st' o->e≠.normal->T P m c st (andThen R (TK P m post k)):=by
  intro o st' q hc hq hr hne;unfold EV at hc;split at hc
  .rename_i o' s' q' hg2;cases hc;have h4:=Od hmix n (.inr e) k st1 _ _ _ hg2 hq.2 hr;refine T.run hmix hg hq.1 ?_;show andThen R (TK P m post k) e st1;cases e<;>first | exact absurd rfl hne | exact h4
  .cases hc
 cases e<;>simp only at h1
 case normal=>cases h1
 all_goals exact key h1 h2 h3 (by simp)
theorem CT.path{f:FuncId}{fn:Func}{c:Code}{hin hout:List (Option Blk)}{args:List AV}{res:AV}{H:HT}{n:Nat}(hmix:P.follows .mixedOrders=true)(hf:P.funcs[f]?=some fn)(hb:fn.body=some c)(hn:args.length<=fn.ntmps) (h:∃o st' q,go P H hin.length n (.inl c) [] {n:=fn.ntmps,fr:=AH 0 args,hp:=hin}=some (o,st',q)/\q/\CG P hin.length (Fin P fn hin.length hout res) st' o):CT P f hin args hout res:=CT.of hf hb hn (T.path hmix h)
abbrev iN(n:Nat):Int:=n
def zB(f:Func):Code:=f.body.getD .skip
def Gl:Code->List Kt->List (Code×List Kt) | .seq a b,k=>Gl a (.code b::k)++Gl b k | .block id c,k=>Gl c (.blk id::k) | .cond _ c d,k=>Gl c k++Gl d k | .loop c,k=>[(c,k)] | _,_=>[]
def zC(c:Code)(i:Nat):Code:=match (Gl c [])[i]? with | some x=>x.1 | none=>.skip
def zK(c:Code)(i:Nat):List Kt:=match (Gl c [])[i]? with | some x=>x.2 | none=>[]
theorem aj{a b:Prop}(x:a)(y:b):a/\b:=⟨x,y⟩
theorem ak{b:Prop}(y:b):True/\b:=⟨trivial,y⟩
theorem al{a:Prop}(x:a):a/\True:=⟨x,trivial⟩
theorem t2:True/\True:=⟨trivial,trivial⟩
theorem s2:(True/\True)/\True:=⟨t2,trivial⟩
theorem t3:True/\True/\True:=⟨trivial,t2⟩
theorem t4:True/\True/\True/\True:=⟨trivial,t3⟩
theorem t5:True/\True/\True/\True/\True:=⟨trivial,t4⟩
theorem t6:True/\True/\True/\True/\True/\True:=⟨trivial,t5⟩
theorem t7:True/\True/\True/\True/\True/\True/\True:=⟨trivial,t6⟩
theorem t8:True/\True/\True/\True/\True/\True/\True/\True:=⟨trivial,t7⟩
theorem t9:True/\True/\True/\True/\True/\True/\True/\True/\True:=⟨trivial,t8⟩
theorem n11:Nat.le (nat_lit 1) (nat_lit 1):=TY rfl
theorem ag{a b:Prop}(x:a)(y:b):(a/\True/\True)/\b:=⟨⟨x,t2⟩,y⟩
theorem u2{b:Prop}(y:b):(True/\True)/\b:=⟨t2,y⟩
theorem k2{b:Prop}(y:b):True/\True/\b:=⟨trivial,trivial,y⟩
theorem k3{b:Prop}(y:b):True/\True/\True/\b:=⟨trivial,trivial,trivial,y⟩
theorem k5{b:Prop}(y:b):True/\True/\True/\True/\True/\b:=⟨trivial,trivial,trivial,trivial,trivial,y⟩
abbrev iv(n:Int):AV:=.int .i64 n
def ds(l:List Nat):List (Nat×Bool):=l.map fun k=>(k / 2,k % 2==1)
def hU(dec:List Nat)(els:List (Nat×AV))(calls:Nat->FuncId->List AV->List (Option Blk)->AG):HT:={dec:=ds dec,els,calls}
def hc(r:AV):AG:=.call [] [] [] r
abbrev GoP(P:Program)(H:HT)(m:Nat)(c:Code)(st:St)(post:Exit->St->Prop):Prop:=∃o st' q,go P H m 4000 (.inl c) [] st=some (o,st',q)/\q/\CG P m post st' o
abbrev GoO(P:Program)(H:HT)(m:Nat)(c:Code)(k:List Kt)(st:St)(post:Exit->St->Prop):Prop:=∃o st' q,go2 P H m 4000 c k st=some (o,st',q)/\q/\CG P m post st' o
theorem CT.calls{f:FuncId}{args:List AV}(h:CT P f [] args [] (.bool true))(w:World)(vs:List Value)(hl:vs.length=args.length)
  (hv:∀(i:Nat) c v,args[i]?=some c->vs[i]?=some v->RT (fun r=>r<w.heap.size) w c v):
  Calls P f vs.toArray w fun e w'=>e = .returned (.bool true)/\Go.RowKit.Below w.heap.size w w':=by
 have hno:∀r,¬Mut (fun _=>none) (nth ([]:List (Option Blk))) r:=by
  rintro r ⟨b,blk,z,hb,_⟩
  simp[nth] at hb
 refine(h (fun _=>none) (fun r=>r<w.heap.size) w vs (fun r hr=>⟨hr,hno r⟩) ⟨fun b blk hb=>(by simp[nth] at hb),fun b blk hb=>(by simp[nth] at hb),fun b b' r z z' hb=>(by simp[nth] at hb)⟩ (fun _ _=>rfl) hl
  fun i c v hc hvv=>.imm _ _ (hv i c v hc hvv)).mono fun e w' ⟨v,φ',he,cp⟩=>?_
 have hb:=cp.val.bool_inv;subst hb;exact⟨he,cp.keep.os,cp.keep.tape,cp.keep.output,cp.keep.size,fun k hk=>cp.keep.block k hk (hno k)⟩
end Go.AX

/- Parts of the proof:AxA,AxB,AxC,AxD,AxE,AxF,AxG,AxH,AxI,AxJ,AxK,AxL,AxM,AxN,AxO,AxP,AxQ. -/
import Derived.WalkKit
import Derived.Orders
set_option linter.unusedVariables false
set_option linter.unusedSimpArgs false
open Go.IntKind (i64 u64)
namespace Go.AX
theorem Vb:type_of% @Int.NonNeg.mk:=@Int.NonNeg.mk
theorem Vc:type_of% @Option.some.injEq:=@Option.some.injEq
theorem Vd:type_of% @Nat.mul_comm:=@Nat.mul_comm
theorem Ve:type_of% @Nat.add_mul:=@Nat.add_mul
theorem Vf:type_of% @Nat.sub_self:=@Nat.sub_self
theorem Vg:type_of% @Nat.add_sub_cancel:=@Nat.add_sub_cancel
theorem Vh:type_of% @List.drop_drop:=@List.drop_drop
theorem Vi:type_of% @List.getElem?_drop:=@List.getElem?_drop
theorem Vj:type_of% @Nat.lt_succ_self:=@Nat.lt_succ_self
theorem Vk:type_of% @Nat.add_zero:=@Nat.add_zero
theorem Vl:type_of% @List.length_drop:=@List.length_drop
theorem Vm:type_of% @Prod.mk.injEq:=@Prod.mk.injEq
theorem Vn:type_of% @List.mem_singleton:=@List.mem_singleton
theorem Vo:type_of% @Nat.mod_eq_of_lt:=@Nat.mod_eq_of_lt
theorem Vp:type_of% @Array.getElem?_setIfInBounds_ne:=@Array.getElem?_setIfInBounds_ne
theorem Vq:type_of% @Bool.false_or:=@Bool.false_or
theorem Vr:type_of% @List.map_cons:=@List.map_cons
theorem Vs:type_of% @List.map_nil:=@List.map_nil
theorem Vt:type_of% @if_pos:=@if_pos
theorem Vu:type_of% @if_neg:=@if_neg
theorem Vv:type_of% @List.getElem?_eq_getElem:=@List.getElem?_eq_getElem
theorem Vw:type_of% @List.getD_eq_getElem?_getD:=@List.getD_eq_getElem?_getD
theorem Vx:type_of% @List.getElem?_eq_some_iff:=@List.getElem?_eq_some_iff
theorem Vy:type_of% @List.length_map:=@List.length_map
theorem Vz:type_of% @List.mem_of_getElem?:=@List.mem_of_getElem?
theorem VA:type_of% @decide_eq_false:=@decide_eq_false
theorem VB:type_of% @decide_eq_true:=@decide_eq_true
theorem VC:type_of% @Nat.eq_of_beq_eq_true:=@Nat.eq_of_beq_eq_true
theorem VD:type_of% @Bool.and_eq_true:=@Bool.and_eq_true
theorem VE:type_of% @Int.toNat_natCast:=@Int.toNat_natCast
theorem VF:type_of% @List.getElem?_map:=@List.getElem?_map
theorem VH:type_of% @Nat.le_refl:=@Nat.le_refl
theorem VI:type_of% @Nat.zero_le:=@Nat.zero_le
theorem VJ:type_of% @List.map_append:=@List.map_append
theorem VK:type_of% @List.all_eq_true:=@List.all_eq_true
theorem VL:type_of% @Nat.zero_add:=@Nat.zero_add
theorem VM:type_of% @Nat.mul_le_mul_right:=@Nat.mul_le_mul_right
theorem VN:type_of% @List.mem_cons_of_mem:=@List.mem_cons_of_mem
theorem VO:type_of% @List.getElem?_take:=@List.getElem?_take
theorem VP:type_of% @List.length_append:=@List.length_append
theorem VQ:type_of% @List.length_replicate:=@List.length_replicate
theorem VS:type_of% @List.getElem?_range:=@List.getElem?_range
theorem VT:type_of% @List.getElem?_eq_none:=@List.getElem?_eq_none
theorem VU:type_of% @Nat.le_of_ble_eq_true:=@Nat.le_of_ble_eq_true
theorem VV:type_of% @List.getElem?_replicate:=@List.getElem?_replicate
theorem VW:type_of% @Int.toNat_of_nonneg:=@Int.toNat_of_nonneg
theorem VX:type_of% @List.length_take:=@List.length_take
theorem VY:type_of% @List.mem_cons:=@List.mem_cons
theorem VZ:type_of% @List.mem_append:=@List.mem_append
theorem V0:type_of% @List.mem_map:=@List.mem_map
theorem V2:type_of% @List.getElem_mem:=@List.getElem_mem
theorem V3:type_of% @Option.some.inj:=@Option.some.inj
theorem V4:type_of% @List.length_set:=@List.length_set
theorem V5:type_of% @List.getElem?_append:=@List.getElem?_append
theorem V6:type_of% @beq_eq_false_iff_ne:=@beq_eq_false_iff_ne
theorem V7:type_of% @List.mem_iff_getElem:=@List.mem_iff_getElem
theorem V8:type_of% @Classical.choose_spec:=@Classical.choose_spec
theorem V9:type_of% @List.length_singleton:=@List.length_singleton
theorem Wa:type_of% @List.length_cons:=@List.length_cons
theorem Wb:type_of% @List.length_nil:=@List.length_nil
theorem Wc:type_of% @Nat.lt_of_lt_of_le:=@Nat.lt_of_lt_of_le
theorem Wd:type_of% @Nat.le_trans:=@Nat.le_trans
theorem We:type_of% @List.length_range:=@List.length_range
theorem Wf:type_of% @Array.getElem?_eq_some_iff:=@Array.getElem?_eq_some_iff
theorem Wg:type_of% @List.drop_eq_getElem_cons:=@List.drop_eq_getElem_cons
theorem Wh:type_of% @Bool.not_eq_true':=@Bool.not_eq_true'
theorem Wi:type_of% @bne_iff_ne:=@bne_iff_ne
theorem Wj:type_of% @List.map_set:=@List.map_set
theorem Wk:type_of% @List.getElem?_set:=@List.getElem?_set
theorem Wl:type_of% @Nat.not_lt_zero:=@Nat.not_lt_zero
theorem Wm:type_of% @Nat.lt_or_ge:=@Nat.lt_or_ge
end Go.AX
namespace Go.AX
inductive AV where | unk | bool (b:Bool) | int (k:IntKind) (n:Int) | str (s:ByteArray) | con (v:Value) | nils | lst (es:List AV) | iptr (cs:List AV) | ptr (b i j:Nat) | sl (b i n:Nat) | agg (cs:List AV) | tup (vs:List AV) | fn (f:FuncId) (caps:List AV) | lstc (es:List AV) | map (b:Nat) | any | ifc (t:TypeId) (cs:List AV)
def AV.cells:AV->List AV | .agg cs=>cs | v=>[v]
def AV.one:AV->Bool | .unk=>false | .agg _=>false | .tup _=>false | _=>true
def AV.noref:AV->Bool | .ptr _ _ _=>false | .sl _ _ _=>false | .fn _ _=>false | .agg _=>false | .tup _=>false | .map _=>false | .ifc _ _=>false | _=>true
def Bw(es:List AV):Prop:=∀e∈es,∀c∈e.cells,c.noref=true
def A8(cs:List AV):Bool:=cs.all AV.noref
structure Blk where
 es:List AV
 z:Nat
 flat:Bool:=true
 wr:Bool:=true
 mp:Option (List MapEntry×Nat):=none
inductive RT (A:Nat->Prop) (w:World):AV->Value->Prop | unk (v:Value):RT A w .unk v | bool (b:Bool):RT A w (.bool b) (.bool b) | int (k:IntKind) (n:Int):RT A w (.int k n) (.int k n) | str (s:ByteArray):RT A w (.str s) (.string s) | con (v:Value) (h:v.oneCell'=true):RT A w (.con v) v | nils:RT A w .nils (.slice none 0 0) | agg (cs:List AV) (vs:List Value) (hl:vs.length=cs.length) (h:∀(i:Nat) c v,cs[i]?=some c->vs[i]?=some v->RT A w c v):RT A w (.agg cs) (.agg vs.toArray) | lnil (a:Option Addr):RT A w (.lst []) (.slice a 0 0) | lst (es:List AV) (r o cap z:Nat) (g:Nat->Nat->Value) (hcap:es.length<=cap) (hA:es≠[]->A r) (hz:∀e∈es,e.cells.length=z) (h1:∀e∈es,∀c∈e.cells,c.one=true) (hc:∀i j,i<es.length->j<z->w.cell? ⟨r,o+i * z+j,none⟩=some (g i j)) (h:∀(i j:Nat) e c,es[i]?=some e->e.cells[j]?=some c->RT A w c (g i j)): RT A w (.lst es) (.slice (some ⟨r,o,none⟩) es.length cap) | iptr (cs:List AV) (r o:Nat) (g:Nat->Value) (hA:cs≠[]->A r) (h1:∀c∈cs,c.one=true) (hc:∀j,j<cs.length->w.cell? ⟨r,o+j,none⟩=some (g j)) (h:∀(j:Nat) c,cs[j]?=some c->RT A w c (g j)): RT A w (.iptr cs) (.pointer (some ⟨r,o,none⟩)) | lstc (es:List AV) (a:Option Addr) (n:Nat) (h:RT A w (.lst es) (.slice a n n)):RT A w (.lstc es) (.slice a n n) | any (v:Value) (h:v.oneCell'=true):RT A w .any v
abbrev Phi:=Nat->Option (Nat×Nat)
def Bj(w:World)(r:Nat):Nat:=
 match w.heap[r]? with
 | some (.cells c _ _)=>c.size
 | _=>0
def ifV(t:TypeId)(vs:List Value):Value:=.iface t (vs.headD .nilIface)
inductive VR (φ:Phi) (A:Nat->Prop) (w:World):AV->Value->Prop | imm (a:AV) (v:Value) (h:RT A w a v):VR φ A w a v | ptr (b i j r z:Nat) (hb:φ b=some (r,z)):VR φ A w (.ptr b i j) (.pointer (some ⟨r,i * z+j,none⟩)) | sl (b i n r z cap:Nat) (hb:φ b=some (r,z)) (hn:n<=cap) (hr:(i+cap) * z<=Bj w r): VR φ A w (.sl b i n) (.slice (some ⟨r,i * z,none⟩) n cap) | slnil (b i:Nat) (a:Option Addr):VR φ A w (.sl b i 0) (.slice a 0 0) | agg (cs:List AV) (vs:List Value) (hl:vs.length=cs.length) (h:∀(i:Nat) c v,cs[i]?=some c->vs[i]?=some v->VR φ A w c v):VR φ A w (.agg cs) (.agg vs.toArray) | tup (cs:List AV) (vs:List Value) (hl:vs.length=cs.length) (h:∀(i:Nat) c v,cs[i]?=some c->vs[i]?=some v->VR φ A w c v):VR φ A w (.tup cs) (.tuple vs.toArray) | fn (f:FuncId) (cs:List AV) (vs:List Value) (hl:vs.length=cs.length) (h:∀(i:Nat) c v,cs[i]?=some c->vs[i]?=some v->VR φ A w c v):VR φ A w (.fn f cs) (.func (.func f) #[] vs.toArray) | map (b r z:Nat) (hb:φ b=some (r,z)):VR φ A w (.map b) (.map (some r)) | ifc (t:TypeId) (cs:List AV) (vs:List Value) (hl:vs.length=cs.length) (h:∀(i:Nat) c v,cs[i]?=some c->vs[i]?=some v->VR φ A w c v):VR φ A w (.ifc t cs) (ifV t vs)
theorem RT.mono{A A':Nat->Prop}{w w':World}{a:AV}{v:Value}(h:RT A w a v)
  (hA:∀r,A r->A' r) (hw:∀r,A r->w'.heap[r]?=w.heap[r]?):RT A' w' a v:=by
 induction h with
 | unk v=>exact .unk v
 | bool b=>exact .bool b
 | int k n=>exact .int k n
 | str s=>exact .str s
 | con v h=>exact .con v h
 | any v h=>exact .any v h
 | nils=>exact .nils
 | agg cs vs hl _ ih=>exact .agg cs vs hl ih
 | lnil a=>exact .lnil a
 | lst es r o cap z g hcap hA' hz h1 hc _ ih=>
  refine .lst es r o cap z g hcap (fun hn=>hA r (hA' hn)) hz h1 (fun i j hi hj=>?_) ih;have hne:es≠[]:=by intro e;subst e;simp at hi
  rw[World.cell?_of_block (hw r (hA' hne))];exact hc i j hi hj
 | iptr cs r o g hA' h1 hc _ ih=>
  refine .iptr cs r o g (fun hn=>hA r (hA' hn)) h1 (fun j hj=>?_) ih;have hne:cs≠[]:=by intro e;subst e;simp at hj
  rw[World.cell?_of_block (hw r (hA' hne))];exact hc j hj
 | lstc es a n _ ih=>exact .lstc es a n ih
theorem VR.mono{φ φ':Phi}{A A':Nat->Prop}{w w':World}{a:AV}{v:Value}(h:VR φ A w a v)
  (hφ:∀b x,φ b=some x->φ' b=some x)
  (hA:∀r,A r->A' r) (hw:∀r,A r->w'.heap[r]?=w.heap[r]?) (hs:∀r,Bj w r<=Bj w' r):VR φ' A' w' a v:=by
 induction h with
 | imm a v h=>exact .imm a v (h.mono hA hw)
 | ptr b i j r z hb=>exact .ptr b i j r z (hφ _ _ hb)
 | sl b i n r z cap hb hn hr=>exact .sl b i n r z cap (hφ _ _ hb) hn (Wd hr (hs r))
 | slnil b i a=>exact .slnil b i a
 | agg cs vs hl _ ih=>exact .agg cs vs hl ih
 | tup cs vs hl _ ih=>exact .tup cs vs hl ih
 | fn f cs vs hl _ ih=>exact .fn f cs vs hl ih
 | map b r z hb=>exact .map b r z (hφ _ _ hb)
 | ifc t cs vs hl _ ih=>exact .ifc t cs vs hl ih
def Av:List (Nat×AV)->Nat->AV
 | [],_=>.unk
 | (k,v)::r,s=>match Nat.beq k s with | true=>v | false=>Av r s
structure St where
 n:Nat
 fr:List (Nat×AV)
 hp:List (Option Blk)
def nth{α:Type}:List (Option α)->Nat->Option α | [],_=>none | x::_,0=>x | _::r,n+1=>nth r n
abbrev Hp:=Nat->Option Blk
def St.h(st:St):Hp:=nth st.hp
def Mut(φ:Phi)(h:Hp)(r:Nat):Prop:=∃b blk z,h b=some blk/\blk.wr=true/\φ b=some (r,z)
def BR(φ:Phi)(A:Nat->Prop)(w:World)(b:Nat)(blk:Blk):Prop:=(blk.es=[]/\φ b=none/\true=true/\blk.mp=none)\/ (∃r cs T,φ b=some (r,blk.z)/\w.heap[r]?=some (.cells cs T (0,0))/\(blk.es.length * blk.z<=cs.size/\blk.mp=none)/\ ∀(i:Nat) e,blk.es[i]?=some e->e.cells.length=blk.z/\ ∀(j:Nat) c,e.cells[j]?=some c->c.one=true/\∃v,cs[i * blk.z+j]?=some v/\VR φ A w c v)\/ ∃m r,blk.mp=some m/\φ b=some (r,blk.z)/\(blk.es=[]/\blk.z=0)/\w.heap[r]?=some (.map m.1.toArray m.2)
structure HR(φ:Phi)(A:Nat->Prop)(w:World)(h:Hp):Prop where
 blk:∀b blk,h b=some blk->BR φ A w b blk
 flat:∀b blk,h b=some blk->blk.flat=true->Bw blk.es
 inj:∀b b' r z z',(h b).isSome=true->(h b').isSome=true->φ b=some (r,z)->φ b'=some (r,z')->b=b'
structure Bt(D:Nat->Prop)(w w':World):Prop where
 os:w'.os=w.os
 tape:w'.tape=w.tape
 output:w'.output=w.output
 size:w.heap.size<=w'.heap.size
 block:∀r,r<w.heap.size->¬D r->w'.heap[r]?=w.heap[r]?
 row:∀r,Bj w r<=Bj w' r
theorem Bt.refl(D:Nat->Prop)(w:World):Bt D w w:=⟨rfl,rfl,rfl,VH _,fun _ _ _=>rfl,fun _=>VH _⟩
theorem Bt.mono{D D':Nat->Prop}{w w':World}(h:Bt D w w')(hD:∀r,D r->D' r):Bt D' w w':=⟨h.os,h.tape,h.output,h.size,fun r hr hn=>h.block r hr fun hd=>hn (hD r hd),h.row⟩
theorem Bt.trans{D D':Nat->Prop}{w w' w'':World}(h:Bt D w w')(k:Bt D' w' w'')(hD:∀r,D' r->D r\/w.heap.size<=r):Bt D w w'':=⟨k.os.trans h.os,k.tape.trans h.tape,k.output.trans h.output,Wd h.size k.size,fun r hr hn=>(k.block r (Wc hr h.size) fun hd=>(hD r hd).elim hn (by omega)).trans (h.block r hr hn),fun r=>Wd (h.row r) (k.row r)⟩
structure OpR where
 v:AV
 dead:List Nat:=[]
 chg:List (Nat×Blk):=[]
 new:List Blk:=[]
def OpR.dirty(R:OpR)(b:Nat):Prop:=b∈R.dead\/∃blk,(b,blk)∈R.chg
def New(φ:Phi)(nb r:Nat):Prop:=∃b z,nb<=b/\φ b=some (r,z)
def Bk(A:Nat->Prop)(φ:Phi)(nb:Nat)(w w':World)(r:Nat):Prop:=A r\/(w.heap.size<=r/\r<w'.heap.size/\¬New φ nb r)
structure Eff(φ:Phi)(A:Nat->Prop)(w:World)(h:Hp)(nb:Nat)(R:OpR)(v':Value)(w':World)(φ':Phi):Prop where
 keep:Bt (fun r=>∃b z,R.dirty b/\φ b=some (r,z)) w w'
 old:∀b,b<nb->φ' b=φ b
 out:∀b,nb+R.new.length<=b->φ' b=none
 fresh:∀b r z,nb<=b->φ' b=some (r,z)->w.heap.size<=r/\r<w'.heap.size\/∃b0 z0 blk,b0∈R.dead/\h b0=some blk/\blk.wr=true/\φ b0=some (r,z0)
 inj:∀b b' r z z',nb<=b->nb<=b'->φ' b=some (r,z)->φ' b'=some (r,z')->b=b'
 val:VR φ' (Bk A φ' nb w w') w' R.v v'
 flc:∀b blk,(b,blk)∈R.chg->blk.flat=true->Bw blk.es
 fln:∀blk,blk∈R.new->blk.flat=true->Bw blk.es
 chgd:∀b blk,(b,blk)∈R.chg->BR φ' (Bk A φ' nb w w') w' b blk
 newb:∀k blk,R.new[k]?=some blk->BR φ' (Bk A φ' nb w w') w' (nb+k) blk
def Aq(P:Program)(o:Oper)(ev:Operand->AV)(h:Hp)(nb:Nat)(R:OpR):Prop:=∀(φ:Phi) (A:Nat->Prop) (w:World) (a:Act) (K:Act->World->Prop) (Q:Exit->Act->World->Prop),(∀r,A r->r<w.heap.size/\¬Mut φ h r)->(∀x,VR φ A w (ev x) (a.eval x))->HR φ A w h->(∀b,nb<=b->φ b=none)-> (∀v' w' φ',Eff φ A w h nb R v' w' φ'->K (a.put o.dst v') w')->o.wp P a w K Q
theorem Aq.value{P:Program}{o:Oper}{ev:Operand->AV}{h:Hp}{nb:Nat}{v:AV}
  (H:∀(φ:Phi) (A:Nat->Prop) (w:World) (ρ:Operand->Value),(∀r,A r->r<w.heap.size/\¬Mut φ h r)->(∀x,VR φ A w (ev x) (ρ x))->HR φ A w h->
   ∃v',(execOp ρ o).run P w = .ok (.value v') w/\VR φ A w v v'):Aq P o ev h nb {v}:=by
 intro φ A w a K Q hA hv hh hn k;obtain⟨v',hr,hvr⟩:=H φ A w a.eval hA hv hh;unfold Oper.wp;rw[hr];refine k v' w φ ⟨Bt.refl _ w,fun _ _=>rfl,fun b hb=>hn b (by simpa using hb),fun b r z hb h=>?_,fun b b' r z z' hb _ h _=>?_,?_,fun b blk hm=>by simp at hm,fun blk hm=>by simp at hm,?_,?_⟩
 .rw[hn b hb] at h;cases h
 .rw[hn b hb] at h;cases h
 .exact hvr.mono (fun _ _ h=>h) (fun _ h=>.inl h) (fun _ _=>rfl) (fun _=>VH _)
 .intro b blk hm;simp at hm
 .intro b blk hm;simp at hm
theorem VR.one{φ:Phi}{A:Nat->Prop}{w:World}{a:AV}{v:Value}(h:VR φ A w a v)(ha:a.one=true):v.oneCell'=true:=by
 cases h with
 | imm a v h=>cases h<;>simp_all [AV.one,Value.oneCell']
 | ptr=>rfl
 | sl=>rfl
 | slnil=>rfl
 | agg=>simp[AV.one] at ha
 | tup=>simp[AV.one] at ha
 | fn=>rfl
 | map=>rfl
 | ifc=>rfl
variable {φ:Phi} {A:Nat->Prop} {w:World}
theorem VR.bool_inv{b:Bool}{v:Value}(h:VR φ A w (.bool b) v):v = .bool b:=by
 cases h with | imm a v h=>cases h;rfl
theorem VR.int_inv{k:IntKind}{n:Int}{v:Value}(h:VR φ A w (.int k n) v):v = .int k n:=by
 cases h with | imm a v h=>cases h;rfl
theorem VR.str_inv{s:ByteArray}{v:Value}(h:VR φ A w (.str s) v):v = .string s:=by
 cases h with | imm a v h=>cases h;rfl
theorem VR.con_inv{c:Value}{v:Value}(h:VR φ A w (.con c) v):v=c:=by
 cases h with | imm a v h=>cases h;rfl
theorem VR.nils_inv{v:Value}(h:VR φ A w .nils v):v = .slice none 0 0:=by
 cases h with | imm a v h=>cases h;rfl
theorem VR.ptr_inv{b i j:Nat}{v:Value}(h:VR φ A w (.ptr b i j) v):∃r z,φ b=some (r,z)/\v = .pointer (some ⟨r,i * z+j,none⟩):=by
 cases h with
 | imm a v h=>cases h
 | ptr b i j r z hb=>exact⟨r,z,hb,rfl⟩
theorem VR.sl_inv{b i n:Nat}{v:Value}(h:VR φ A w (.sl b i n) v):
  (n=0/\∃a,v = .slice a 0 0)\/∃r z cap,φ b=some (r,z)/\n<=cap/\(i+cap) * z<=Bj w r/\v = .slice (some ⟨r,i * z,none⟩) n cap:=by
 cases h with
 | imm a v h=>cases h
 | sl b i n r z cap hb hn hr=>exact .inr ⟨r,z,cap,hb,hn,hr,rfl⟩
 | slnil b i a=>exact .inl ⟨rfl,a,rfl⟩
theorem VR.agg_inv{cs:List AV}{v:Value}(h:VR φ A w (.agg cs) v):
  ∃vs:List Value,v = .agg vs.toArray/\vs.length=cs.length/\∀(i:Nat) c u,cs[i]?=some c->vs[i]?=some u->VR φ A w c u:=by
 cases h with
 | imm a v h=>
  cases h with
  | agg cs vs hl h=>exact⟨vs,rfl,hl,fun i c u hc hu=>.imm c u (h i c u hc hu)⟩
 | agg cs vs hl h=>exact⟨vs,rfl,hl,h⟩
theorem VR.tup_inv{cs:List AV}{v:Value}(h:VR φ A w (.tup cs) v):
  ∃vs:List Value,v = .tuple vs.toArray/\vs.length=cs.length/\∀(i:Nat) c u,cs[i]?=some c->vs[i]?=some u->VR φ A w c u:=by
 cases h with
 | imm a v h=>cases h
 | tup cs vs hl h=>exact⟨vs,rfl,hl,h⟩
theorem VR.fn_inv{f:FuncId}{cs:List AV}{v:Value}(h:VR φ A w (.fn f cs) v):
  ∃vs:List Value,v = .func (.func f) #[] vs.toArray/\vs.length=cs.length/\∀(i:Nat) c u,cs[i]?=some c->vs[i]?=some u->VR φ A w c u:=by
 cases h with
 | imm a v h=>cases h
 | fn f cs vs hl h=>exact⟨vs,rfl,hl,h⟩
theorem VR.ifc_inv{t:TypeId}{cs:List AV}{v:Value}(h:VR φ A w (.ifc t cs) v):
  ∃vs:List Value,v=ifV t vs/\vs.length=cs.length/\∀(i:Nat) c u,cs[i]?=some c->vs[i]?=some u->VR φ A w c u:=by
 cases h with
 | imm a v h=>cases h
 | ifc t cs vs hl h=>exact⟨vs,rfl,hl,h⟩
theorem VR.map_inv{b:Nat}{v:Value}(h:VR φ A w (.map b) v):∃r z,φ b=some (r,z)/\v = .map (some r):=by
 cases h with
 | imm a v h=>cases h
 | map b r z hb=>exact⟨r,z,hb,rfl⟩
def AV.known:AV->Bool | .unk=>false | _=>true
theorem VR.iptr_inv{cs:List AV}{v:Value}(h:VR φ A w (.iptr cs) v):
  ∃(r o:Nat) (g:Nat->Value),v = .pointer (some ⟨r,o,none⟩)/\(cs≠[]->A r)/\(∀c∈cs,c.one=true)/\
   (∀j,j<cs.length->w.cell? ⟨r,o+j,none⟩=some (g j))/\∀(j:Nat) c,cs[j]?=some c->RT A w c (g j):=by
 cases h with | imm a v h=>cases h with | iptr cs r o g h1 h2 h3 h4=>exact⟨r,o,g,rfl,h1,h2,h3,h4⟩
theorem VR.lst_inv{es:List AV}{v:Value}(h:VR φ A w (.lst es) v):
  (es=[]/\∃a,v = .slice a 0 0)\/∃(r o cap z:Nat) (g:Nat->Nat->Value),v = .slice (some ⟨r,o,none⟩) es.length cap/\es.length<=cap/\(es≠[]->A r)/\
   (∀e∈es,e.cells.length=z)/\(∀e∈es,∀c∈e.cells,c.one=true)/\
   (∀i j,i<es.length->j<z->w.cell? ⟨r,o+i * z+j,none⟩=some (g i j))/\
   ∀(i j:Nat) e c,es[i]?=some e->e.cells[j]?=some c->RT A w c (g i j):=by
 cases h with | imm a v h=>cases h with
  | lnil a=>exact .inl ⟨rfl,a,rfl⟩
  | lst es r o cap z g h1 h2 h3 h4 h5 h6=>exact .inr ⟨r,o,cap,z,g,rfl,h1,h2,h3,h4,h5,h6⟩
theorem VR.lstc_inv{es:List AV}{v:Value}(h:VR φ A w (.lstc es) v):∃a,v = .slice a es.length es.length/\VR φ A w (.lst es) v:=by
 cases h with | imm a v h=>cases h with
  | lstc es a n h=>
   refine⟨a,?_,.imm _ _ h⟩;cases h with
   | lnil=>rfl
   | lst=>rfl
theorem VR.cells{a:AV}{v:Value}(h:VR φ A w a v)(hu:a.known=true):
  v.cells.toList.length=a.cells.length/\∀(i:Nat) c u,a.cells[i]?=some c->v.cells.toList[i]?=some u->VR φ A w c u:=by
 have sing:∀(a:AV) (v:Value),a.cells=[a]->v.cells = #[v]->VR φ A w a v->v.cells.toList.length=a.cells.length/\∀(i:Nat) c u,a.cells[i]?=some c->v.cells.toList[i]?=some u->VR φ A w c u:=by
  intro a v ha hv h;rw[ha,hv];refine⟨rfl,fun i c u hc hu=>?_⟩;cases i with
  | zero=>simp at hc hu;subst hc hu;exact h
  | succ i=>simp at hc
 cases a with
 | unk=>simp[AV.known] at hu
 | agg cs=>obtain⟨vs,rfl,hl,hh⟩:=h.agg_inv;exact⟨by simpa [AV.cells,Value.cells] using hl,by simpa [AV.cells,Value.cells] using hh⟩
 | con c=>
  have hv:=h.con_inv;subst hv;have hone:v.oneCell'=true:=by cases h with | imm a v h=>cases h with | con v h=>exact h
  have hc:v.cells = #[v]:=by cases v<;>first | rfl | (simp[Value.oneCell'] at hone)
  exact sing _ _ rfl hc h
 | any=>
  have hone:v.oneCell'=true:=by cases h with | imm a v h=>cases h with | any v h=>exact h
  have hc:v.cells = #[v]:=by cases v<;>first | rfl | (simp[Value.oneCell'] at hone)
  exact sing _ _ rfl hc h
 | bool b=>have:=h.bool_inv;subst this;exact sing _ _ rfl rfl h
 | int k n=>have:=h.int_inv;subst this;exact sing _ _ rfl rfl h
 | str s=>have:=h.str_inv;subst this;exact sing _ _ rfl rfl h
 | nils=>have:=h.nils_inv;subst this;exact sing _ _ rfl rfl h
 | lst es=>
  cases h with | imm a v h=>cases h with
  | lnil a=>exact sing _ _ rfl rfl (.imm _ _ (.lnil a))
  | lst es r o cap z g h1 h2 h3 h4 h5 h6=>exact sing _ _ rfl rfl (.imm _ _ (.lst es r o cap z g h1 h2 h3 h4 h5 h6))
 | iptr cs=>cases h with | imm a v h=>cases h with | iptr cs r o g h1 h2 h3 h4=>exact sing _ _ rfl rfl (.imm _ _ (.iptr cs r o g h1 h2 h3 h4))
 | ptr b i j=>obtain⟨r,z,hb,rfl⟩:=h.ptr_inv;exact sing _ _ rfl rfl h
 | sl b i n=>
  rcases h.sl_inv with ⟨rfl,a,rfl⟩ | ⟨r,z,cap,hb,hn,hr,rfl⟩
  .exact sing _ _ rfl rfl h
  .exact sing _ _ rfl rfl h
 | tup vs=>obtain⟨us,rfl,hl,hh⟩:=h.tup_inv;exact sing _ _ rfl rfl h
 | fn f cs=>obtain⟨us,rfl,hl,hh⟩:=h.fn_inv;exact sing _ _ rfl rfl h
 | ifc t cs=>obtain⟨us,rfl,hl,hh⟩:=h.ifc_inv;exact sing _ _ rfl rfl h
 | lstc es=>cases h with | imm a v h=>cases h with | lstc es a n h=>exact sing _ _ rfl rfl (.imm _ _ (.lstc es a n h))
 | map b=>cases h with
  | imm a v h=>cases h
  | map b r z hb=>exact sing _ _ rfl rfl (.map b r z hb)
def Lj(t:Bool)(x y:AV):AV:=
 match x,y with
 | .bool p,.bool q=>.bool (cond t p q)
 | x,y=>match t with | true=>x | false=>y
theorem Ra{P:Program}{o:Oper}{ev:Operand->AV}{h:Hp}{nb:Nat}{x:Operand}(ho:o.op = .move x\/o.op = .assign x):
  Aq P o ev h nb {v:=ev x}:=by
 refine .value fun φ A w ρ _ hv _=>⟨ρ x,?_,hv x⟩
 rcases ho with ho | ho<;>simp[execOp,ho,pure]
theorem ok_pick{P:Program}{o:Oper}{ev:Operand->AV}{h:Hp}{nb:Nat}{c x y:Operand}{t:Bool}(ho:o.op = .pick c x y)(hc:ev c = .bool t):
  Aq P o ev h nb {v:=Lj t (ev x) (ev y)}:=by
 refine .value fun φ A w ρ _ hv _=>⟨if t then ρ x else ρ y,?_,?_⟩
 .have:=hv c;rw[hc] at this;simp[execOp,ho,this.bool_inv,asBool,go_sem]
 .have hx:=hv x;have hy:=hv y;generalize ev x=u at hx;generalize ev y=u' at hy;cases t
  .unfold Lj;split
   .have:=hx.bool_inv;have h2:=hy.bool_inv;simp only[Bool.false_eq_true,if_false,cond_false];rw[h2];exact .imm _ _ (.bool _)
   .simpa using hy
  .unfold Lj;split
   .have:=hx.bool_inv;have h2:=hy.bool_inv;simp only[if_true,cond_true];rw[this];exact .imm _ _ (.bool _)
   .simpa using hx
theorem RZ{P:Program}{o:Oper}{ev:Operand->AV}{h:Hp}{nb:Nat}{x:Operand}(ho:o.op = .nilCheck x)
  (hx:(∃b i j,ev x = .ptr b i j)\/(∃cs,ev x = .iptr cs)):Aq P o ev h nb {v:=ev x}:=by
 refine .value fun φ A w ρ _ hv _=>⟨ρ x,?_,hv x⟩
 have hp:∃ad,ρ x = .pointer (some ad):=by
  rcases hx with ⟨b,i,j,hx⟩ | ⟨cs,hx⟩
  .have:=hv x;rw[hx] at this;obtain⟨r,z,_,he⟩:=this.ptr_inv;exact⟨_,he⟩
  .have:=hv x;rw[hx] at this;obtain⟨r,o,_,he,_⟩:=this.iptr_inv;exact⟨_,he⟩
 obtain⟨ad,he⟩:=hp;simp[execOp,ho,he,go_sem,pure]
def binI(op:BinOp)(k:IntKind)(a b:Int):Option AV:=
 match op with
 | .add=>some (.int k (k.wrap (a+b)))
 | .sub=>some (.int k (k.wrap (a-b)))
 | .mul=>some (.int k (k.wrap (a * b)))
 | .eql=>some (.bool (a==b))
 | .neq=>some (.bool (a != b))
 | .lss=>some (.bool (decide (a<b)))
 | .leq=>some (.bool (decide (a<=b)))
 | .gtr=>some (.bool (decide (b<a)))
 | .geq=>some (.bool (decide (b<=a)))
 | .and=>some (.int k (k.wrap ((BitVec.ofInt k.bits a &&& BitVec.ofInt k.bits b).toNat:Nat)))
 | .or=>some (.int k (k.wrap ((BitVec.ofInt k.bits a ||| BitVec.ofInt k.bits b).toNat:Nat)))
 | .xor=>some (.int k (k.wrap ((BitVec.ofInt k.bits a ^^^ BitVec.ofInt k.bits b).toNat:Nat)))
 | _=>none
theorem PL{P:Program}(op:BinOp)(t:TypeId)(x y:Operand)(k k':IntKind)(a b:Int)(w:World):
  (eqGuard op t x y (.int k a) (.int k' b)).run P w = .ok () w:=by
 unfold eqGuard;split<;>simp_all
theorem ok_binI{P:Program}{o:Oper}{ev:Operand->AV}{h:Hp}{nb:Nat}{op:BinOp}{t t':TypeId}{x y:Operand}{k:IntKind}{a b:Int}{v:AV}
  (ho:o.op = .binOp op t x y t') (hx:ev x = .int k a) (hy:ev y = .int k b) (hr:binI op k a b=some v):
  Aq P o ev h nb {v}:=by
 refine .value fun φ A w ρ _ hv _=>?_
 have h1:=hv x;rw[hx] at h1;have h1:=h1.int_inv;have h2:=hv y;rw[hy] at h2;have h2:=h2.int_inv;have run:∀r,(binOp op t (.int k a) (.int k b)).run P w = .ok r w->(execOp ρ o).run P w = .ok (.value r) w:=by intro r hr;simp only[execOp,ho,h1,h2,Sem.run_bind,PL,Result.andThen_ok,hr];rfl
 cases op<;>simp only[binI,Vc,reduceCtorEq] at hr<;>subst hr<;>
  exact⟨_,run _ (by first | (simp[binOp,Op.intArith,Op.intCmp];rfl) | (simp only[binOp,Op.intBits,ne_eq,not_true_eq_false,if_false];rfl)),.imm _ _ (by first | exact .int _ _ | exact .bool _)⟩
theorem QO{P:Program}{o:Oper}{ev:Operand->AV}{h:Hp}{nb:Nat}{op:BinOp}{t t':TypeId}{x y:Operand}{k k':IntKind}{a b:Int}{v:AV}
  (ho:o.op = .binOp op t x y t') (hx:ev x = .int k a) (hy:ev y = .int k' b) (hb:0<=b)
  (hr:(op = .shl/\v = .int k (k.wrap (a * 2 ^ min b.toNat k.bits)))\/(op = .shr/\v = .int k (a.fdiv (2 ^ min b.toNat k.bits)))):
  Aq P o ev h nb {v}:=by
 refine .value fun φ A w ρ _ hv _=>?_
 have h1:=hv x;rw[hx] at h1;have h1:=h1.int_inv;have h2:=hv y;rw[hy] at h2;have h2:=h2.int_inv;have hb':¬b<0:=by omega
 have run:∀r,(binOp op t (.int k a) (.int k' b)).run P w = .ok r w->(execOp ρ o).run P w = .ok (.value r) w:=by intro r hr;simp only[execOp,ho,h1,h2,Sem.run_bind,PL,Result.andThen_ok,hr];rfl
 rcases hr with ⟨rfl,rfl⟩ | ⟨rfl,rfl⟩
 .exact⟨_,run _ (by simp only[binOp,Op.shift,Vu hb'];rfl),.imm _ _ (.int _ _)⟩
 .exact⟨_,run _ (by simp only[binOp,Op.shift,Vu hb'];rfl),.imm _ _ (.int _ _)⟩
theorem Sy{P:Program}{o:Oper}{ev:Operand->AV}{h:Hp}{nb:Nat}{op:BinOp}{t t':TypeId}{x y:Operand}{k:IntKind}{a b:Int}{v:AV}
  (ho:o.op = .binOp op t x y t') (hx:ev x = .int k a) (hy:ev y = .int k b) (hb:b≠0)
  (hr:(op = .quo/\v = .int k (k.wrap (a.tdiv b)))\/(op = .rem/\v = .int k (a.tmod b))):
  Aq P o ev h nb {v}:=by
 refine .value fun φ A w ρ _ hv _=>?_
 have h1:=hv x;rw[hx] at h1;have h1:=h1.int_inv;have h2:=hv y;rw[hy] at h2;have h2:=h2.int_inv;have run:∀r,(binOp op t (.int k a) (.int k b)).run P w = .ok r w->(execOp ρ o).run P w = .ok (.value r) w:=by intro r hr;simp only[execOp,ho,h1,h2,Sem.run_bind,PL,Result.andThen_ok,hr];rfl
 rcases hr with ⟨rfl,rfl⟩ | ⟨rfl,rfl⟩<;>
  exact⟨_,run _ (by simp[binOp,Op.intDiv,hb]),.imm _ _ (.int _ _)⟩
theorem ok_not{P:Program}{o:Oper}{ev:Operand->AV}{h:Hp}{nb:Nat}{t:TypeId}{x:Operand}{b:Bool}
  (ho:o.op = .unOp .not t x) (hx:ev x = .bool b):Aq P o ev h nb {v:=.bool (!b)}:=by
 refine .value fun φ A w ρ _ hv _=>?_
 have h1:=hv x;rw[hx] at h1;have h1:=h1.bool_inv;exact⟨.bool (!b),by simp only[execOp,ho,h1,Op.unary,Sem.run_bind];rfl,.imm _ _ (.bool _)⟩
theorem ok_neg{P:Program}{o:Oper}{ev:Operand->AV}{h:Hp}{nb:Nat}{t:TypeId}{x:Operand}{k:IntKind}{n:Int}
  (ho:o.op = .unOp .neg t x) (hx:ev x = .int k n):Aq P o ev h nb {v:=.int k (k.wrap (0-n))}:=by
 refine .value fun φ A w ρ _ hv _=>?_
 have h1:=hv x;rw[hx] at h1;have h1:=h1.int_inv;exact⟨.int k (k.wrap (0-n)),by simp only[execOp,ho,h1,Op.unary,Op.intArith,Sem.run_bind];rfl,.imm _ _ (.int _ _)⟩
theorem T0{P:Program}{o:Oper}{ev:Operand->AV}{h:Hp}{nb:Nat}{x:Operand}{i:Nat}{vs:List AV}{v:AV}
  (ho:o.op = .extract x i) (hx:ev x = .tup vs) (hi:vs[i]?=some v):Aq P o ev h nb {v}:=by
 refine .value fun φ A w ρ _ hv _=>?_
 have h1:=hv x;rw[hx] at h1;obtain⟨us,he,hl,hh⟩:=h1.tup_inv;have hlt:i<us.length:=by have:=(Vx.1 hi).1;omega
 exact⟨us[i],by simp[execOp,ho,he,Instr.extract,hlt,go_sem,pure,Sem.run],hh i v us[i] hi (by simp[hlt])⟩
def J7:TypeDesc->Bool | .struct _=>true | .array _ _=>true | _=>false
def tsz(P:Program)(t:TypeId):Option (Nat×Bool):=
 match P.info? t,P.underlying t with
 | some i,some d=>some (i.size,J7 d)
 | _,_=>none
def mkV(ag:Bool)(cs:List AV):Option AV:=
 match ag,cs with
 | true,cs=>some (.agg cs)
 | false,[c]=>some c
 | false,_=>none
def At(φ:Phi)(A:Nat->Prop)(w:World)(ad:Addr)(cs:List AV):Prop:=∃us:List Value,us.length=cs.length/\(∀(k:Nat) u,us[k]?=some u->w.cell? (ad.add k)=some u)/\ ∀(k:Nat) c u,cs[k]?=some c->us[k]?=some u->c.one=true/\VR φ A w c u
variable {φ:Phi} {A:Nat->Prop} {w:World} {P:Program}
theorem add_add(ad:Addr)(i j:Nat)(h:ad.spot=none):(ad.add i).add j=ad.add (i+j):=by
 cases ad with | mk b o s=>
 simp only at h;subst h;simp[Go.Addr.add_lit,Nat.add_assoc]
theorem At.sub{ad:Addr}{cs:List AV}(h:At φ A w ad cs)(hs:ad.spot=none)(j s:Nat):At φ A w (ad.add j) ((cs.drop j).take s):=by
 obtain⟨us,hl,hc,hv⟩:=h;refine⟨(us.drop j).take s,by simp[hl],fun k u hk=>?_,fun k c u hk hu=>?_⟩
 .rw[VO] at hk;split at hk
  .rw[Vi] at hk;rw[add_add _ _ _ hs];exact hc (j+k) u hk
  .cases hk
 .rw[VO] at hk hu;split at hk
  .rename_i hlt;rw[Vt hlt] at hu;rw[Vi] at hk hu;exact hv (j+k) c u hk hu
  .cases hk
theorem Qz{t:TypeId}{s:Nat}{ag:Bool}{ad:Addr}{cs:List AV}{v:AV}(hat:At φ A w ad cs)(_hs:ad.spot=none)(ht:tsz P t=some (s,ag))(hl:cs.length=s)(hm:mkV ag cs=some v):
  ∃u,(loadVar t ad).run P w = .ok u w/\VR φ A w v u:=by
 obtain⟨us,hul,hc,hv⟩:=hat;unfold tsz at ht;cases hi:P.info? t with
 | none=>simp[hi] at ht
 | some i=>
  cases hu:P.underlying t with
  | none=>simp[hi,hu] at ht
  | some d=>
   simp only[hi,hu,Vc,Vm] at ht;obtain⟨rfl,rfl⟩:=ht;have hcs:(loadCells ad us.length).run P w = .ok us.toArray w:=run_loadCells_list w ad us hc;have hlen:us.length=i.size:=by omega
   rw[hlen] at hcs;have single:J7 d=false->∃u,(load ad).run P w = .ok u w/\VR φ A w v u:=by
    intro hd;rw[hd] at hm;unfold mkV at hm;split at hm<;>try (simp_all;done)
    rename_i c;cases hm;simp at hl;match us,hul with
    | [u],_=>have h0:=hc 0 u rfl;simp only[Addr.add,if_true] at h0;exact⟨u,by simp[h0],(hv 0 _ u rfl rfl).2⟩
   have aggr:J7 d=true->VR φ A w v (.agg us.toArray):=by intro hd;rw[hd] at hm;simp[mkV] at hm;subst hm;exact .agg _ _ hul fun k c u h1 h2=>(hv k c u h1 h2).2
   unfold loadVar isAgg
   cases d<;>first
    | (refine⟨_,?_,aggr rfl⟩;simp[run_underlying hu,sizeOf,typeInfo,hi,hcs];done)
    | (obtain⟨u,h1,h2⟩:=single rfl
       refine⟨u,?_,h2⟩;simp only[Sem.run_bind,run_underlying hu,Result.andThen_ok,Sem.run_pure];simpa using h1)
theorem HR.at{h:Hp}(hh:HR φ A w h){b:Nat}{blk:Blk}(hb:h b=some blk){i:Nat}{e:AV}(he:blk.es[i]?=some e){r z:Nat}(hφ:φ b=some (r,z)):
  z=blk.z/\e.cells.length=z/\At φ A w ⟨r,i * z,none⟩ e.cells:=by
 rcases hh.blk b blk hb with ⟨h0,_⟩ | ⟨r',cs,T,hφ',hr,⟨hsz,_⟩,hel⟩ | ⟨_,_,_,_,⟨h0,_⟩,_⟩
 .rw[h0] at he;simp at he
 case inr.inr=>rw[h0] at he;simp at he
 rw[hφ] at hφ';simp only[Vc,Vm] at hφ';obtain⟨rfl,rfl⟩:=hφ';obtain⟨hl,hc⟩:=hel i e he;refine⟨rfl,hl,(List.range blk.z).map fun j=>cs.getD (i * blk.z+j) undef,by simp[hl],fun k u hk=>?_,fun k c u hk hu=>?_⟩
 .simp only[VF,Option.map_eq_some_iff] at hk;obtain⟨j,hj,rfl⟩:=hk;have hjk:j=k:=by have:=Vx.1 hj;obtain⟨h1,h2⟩:=this;simpa using h2.symm
  subst hjk;have hlt:j<blk.z:=by have:=(Vx.1 hj).1;simpa using this
  obtain⟨_,v,hv,_⟩:=hc j e.cells[j] (by simp);rw[Addr.add_lit,cell_of_row w r _ cs T (0,0) hr];simp[hv]
 .simp only[VF,Option.map_eq_some_iff] at hu;obtain⟨j,hj,rfl⟩:=hu;have hjk:j=k:=by obtain⟨h1,h2⟩:=Vx.1 hj;simpa using h2.symm
  subst hjk;obtain⟨h1,v,hv,hvr⟩:=hc j c hk;refine⟨h1,?_⟩;simpa [hv] using hvr
theorem EC{o:Oper}{ev:Operand->AV}{h:Hp}{nb:Nat}{t:TypeId}{x:Operand}{b i j s:Nat}{blk:Blk}{e v:AV}{ag:Bool}
  (ho:o.op = .load t x) (hx:ev x = .ptr b i j) (hb:h b=some blk) (he:blk.es[i]?=some e) (ht:tsz P t=some (s,ag))
  (hl:((e.cells.drop j).take s).length=s) (hm:mkV ag ((e.cells.drop j).take s)=some v):Aq P o ev h nb {v}:=by
 refine .value fun φ A w ρ _ hv hh=>?_
 have h1:=hv x;rw[hx] at h1;obtain⟨r,z,hφ,hp⟩:=h1.ptr_inv;obtain⟨rfl,_,hat⟩:=hh.at hb he hφ;have hat':=hat.sub rfl j s;rw[Addr.add_lit] at hat';obtain⟨u,hr,hvr⟩:=Qz (P:=P) hat' rfl ht hl hm;exact⟨u,by simp[execOp,ho,Instr.loadAt,hp,Instr.sureAddr,hr],hvr⟩
theorem At.of_iptr{cs:List AV}{r o:Nat}{g:Nat->Value}(h1:∀c∈cs,c.one=true)(hc:∀j,j<cs.length->w.cell? ⟨r,o+j,none⟩=some (g j))
  (h:∀(j:Nat) c,cs[j]?=some c->RT A w c (g j)):At φ A w ⟨r,o,none⟩ cs:=by
 refine⟨(List.range cs.length).map g,by simp,fun k u hk=>?_,fun k c u hk hu=>?_⟩
 .simp only[VF,Option.map_eq_some_iff] at hk;obtain⟨j,hj,rfl⟩:=hk;obtain⟨h1,h2⟩:=Vx.1 hj;simp at h1 h2;subst h2;rw[Addr.add_lit];exact hc _ h1
 .simp only[VF,Option.map_eq_some_iff] at hu;obtain⟨j,hj,rfl⟩:=hu;obtain⟨_,h2⟩:=Vx.1 hj;simp at h2;subst h2;exact⟨h1 c (Vz hk),.imm _ _ (h _ c hk)⟩
theorem Db{o:Oper}{ev:Operand->AV}{h:Hp}{nb:Nat}{t:TypeId}{x:Operand}{s:Nat}{cs:List AV}{v:AV}{ag:Bool}
  (ho:o.op = .load t x) (hx:ev x = .iptr cs) (ht:tsz P t=some (s,ag)) (hl:(cs.take s).length=s) (hm:mkV ag (cs.take s)=some v):Aq P o ev h nb {v}:=by
 refine .value fun φ A w ρ _ hv hh=>?_
 have h1:=hv x;rw[hx] at h1;obtain⟨r,o',g,hp,hA,hone,hc,hrt⟩:=h1.iptr_inv;have hat:=(At.of_iptr (φ:=φ) hone hc hrt).sub rfl 0 s;simp only[List.drop_zero,Addr.add,if_true] at hat;obtain⟨u,hr,hvr⟩:=Qz (P:=P) hat rfl ht hl hm;exact⟨u,by simp[execOp,ho,Instr.loadAt,hp,Instr.sureAddr,hr],hvr⟩
def Jq(P:Program)(t:TypeId)(f:Nat):Option Nat:=
 match P.underlying t with
 | some (.struct fs)=>match fs[f]? with
  | some fd=>match tsz P fd.type with
   | some (0,_)=>none
   | some _=>some fd.offset
   | none=>none
  | none=>none
 | _=>none
theorem Sb{t:TypeId}{f off:Nat}(hf:Jq P t f=some off)(ad:Addr):
  (Instr.fieldAt t (.pointer (some ad)) f).run P w = .ok (.pointer (some (ad.add off))) w:=by
 unfold Jq at hf;split at hf
 .rename_i fs hu;split at hf
  .rename_i fd hfd;cases hi:P.info? fd.type with
   | none=>simp[tsz,hi] at hf
   | some i=>
    cases hd:P.underlying fd.type with
    | none=>simp[tsz,hi,hd] at hf
    | some d=>
     simp only[tsz,hi,hd] at hf;by_cases hsz:i.size=0
     .simp[hsz] at hf
     .have hoff:fd.offset=off:=by
       split at hf
       .rename_i x h0;simp only[Vc,Vm] at h0;exact absurd h0.1 hsz
       .simpa using hf
       .cases hf
      subst hoff;simp[Instr.fieldAt,run_underlying hu,hfd,Instr.sureAddr,fieldPlace,sizeOf,typeInfo,hi,hsz]
  .cases hf
 .cases hf
theorem Tg{o:Oper}{ev:Operand->AV}{h:Hp}{nb:Nat}{t:TypeId}{x:Operand}{b i j f off:Nat}
  (ho:o.op = .fieldAddr t x f) (hx:ev x = .ptr b i j) (hf:Jq P t f=some off):Aq P o ev h nb {v:=.ptr b i (j+off)}:=by
 refine .value fun φ A w ρ _ hv _=>?_
 have h1:=hv x;rw[hx] at h1;obtain⟨r,z,hφ,hp⟩:=h1.ptr_inv;refine⟨.pointer (some ⟨r,i * z+(j+off),none⟩),?_,.ptr b i (j+off) r z hφ⟩;simp[execOp,ho,hp,Sb hf,Addr.add_lit,Nat.add_assoc]
theorem VR.iptr_mk{cs:List AV}{r o:Nat}{g:Nat->Value}(hA:cs≠[]->A r)(h1:∀c∈cs,c.one=true)(hc:∀j,j<cs.length->w.cell? ⟨r,o+j,none⟩=some (g j))
  (h:∀(j:Nat) c,cs[j]?=some c->RT A w c (g j)) (k:Nat):VR φ A w (.iptr (cs.drop k)) (.pointer (some ⟨r,o+k,none⟩)):=by
 refine .imm _ _ (.iptr _ r (o+k) (fun j=>g (k+j)) (fun hn=>hA fun he=>hn (by simp[he])) (fun c hm=>h1 c (List.mem_of_mem_drop hm)) (fun j hj=>?_) fun j c hj=>?_)
 .rw[Nat.add_assoc];exact hc (k+j) (by simp at hj;omega)
 .rw[Vi] at hj;exact h _ _ hj
theorem TP{o:Oper}{ev:Operand->AV}{h:Hp}{nb:Nat}{t:TypeId}{x:Operand}{cs:List AV}{f off:Nat}
  (ho:o.op = .fieldAddr t x f) (hx:ev x = .iptr cs) (hf:Jq P t f=some off):Aq P o ev h nb {v:=.iptr (cs.drop off)}:=by
 refine .value fun φ A w ρ _ hv _=>?_
 have h1:=hv x;rw[hx] at h1;obtain⟨r,o',g,hp,hA,hone,hc,hrt⟩:=h1.iptr_inv;refine⟨.pointer (some ⟨r,o'+off,none⟩),?_,VR.iptr_mk hA hone hc hrt off⟩;simp[execOp,ho,hp,Sb hf,Addr.add_lit]
def Bv(P:Program)(t:TypeId):Option (Option Nat×Nat):=
 match P.underlying t with
 | some (.slice e)=>match P.info? e with | some i=>some (none,i.size) | none=>none
 | some (.array n e)=>match P.info? e with | some i=>some (some n,i.size) | none=>none
 | _=>none
theorem Fc{t:TypeId}{z:Nat}(h:Bv P t=some (none,z)):∃e i,P.underlying t=some (.slice e)/\P.info? e=some i/\i.size=z:=by
 unfold Bv at h;split at h
 .rename_i e hu;split at h
  .rename_i i hi;simp at h;exact⟨e,i,hu,hi,h⟩
  .cases h
 .split at h<;>simp at h
 .cases h
theorem QR{t:TypeId}{n z:Nat}(h:Bv P t=some (some n,z)):∃e i,P.underlying t=some (.array n e)/\P.info? e=some i/\i.size=z:=by
 unfold Bv at h;split at h
 .split at h<;>simp at h
 .rename_i m e hu;split at h
  .rename_i i hi;simp at h;obtain⟨rfl,h⟩:=h;exact⟨e,i,hu,hi,h⟩
  .cases h
 .cases h
theorem DF{o:Oper}{ev:Operand->AV}{h:Hp}{nb:Nat}{t:TypeId}{x y:Operand}{b i n z:Nat}{k:IntKind}{m:Int}{blk:Blk}
  (ho:o.op = .indexAddr t x y) (hx:ev x = .sl b i n) (hy:ev y = .int k m) (ht:Bv P t=some (none,z)) (hb:h b=some blk) (hz:blk.z=z) (hm:0<=m/\m<n):
  Aq P o ev h nb {v:=.ptr b (i+m.toNat) 0}:=by
 refine .value fun φ A w ρ _ hv hh=>?_
 have h1:=hv x;rw[hx] at h1;have h2:=hv y;rw[hy] at h2;have h2:=h2.int_inv;obtain⟨e,inf,hu,hi,hsz⟩:=Fc ht;rcases h1.sl_inv with ⟨hn,_⟩ | ⟨r,z',cap,hφ,hn,hr,hp⟩
 .omega
 have hzz:z'=z:=by
  rcases hh.blk b blk hb with ⟨_,hn,_⟩ | ⟨r',cs,T,hφ',_⟩ | ⟨_,_,_,hφ',_⟩
  .rw[hφ] at hn;cases hn
  .rw[hφ] at hφ';simp at hφ';omega
  .rw[hφ] at hφ';simp at hφ';omega
 subst hzz;refine⟨.pointer (some ⟨r,(i+m.toNat) * z'+0,none⟩),?_,.ptr b _ 0 r z' hφ⟩;simp[execOp,ho,hp,h2,Instr.indexAt,asIntOf,run_underlying hu,sizeOf,typeInfo,hi,hsz,hm.1,hm.2,Addr.add_lit,Ve]
theorem C2{o:Oper}{ev:Operand->AV}{h:Hp}{nb:Nat}{t:TypeId}{x y:Operand}{z:Nat}{k:IntKind}{m:Int}{es:List AV}{e:AV}
  (ho:o.op = .indexAddr t x y) (hx:ev x = .lst es) (hy:ev y = .int k m) (ht:Bv P t=some (none,z)) (hm:0<=m) (he:es[m.toNat]?=some e) (hl:e.cells.length=z):
  Aq P o ev h nb {v:=.iptr e.cells}:=by
 refine .value fun φ A w ρ _ hv hh=>?_
 have h1:=hv x;rw[hx] at h1;have h2:=hv y;rw[hy] at h2;have h2:=h2.int_inv;obtain⟨el,inf,hu,hi,hsz⟩:=Fc ht;have hlt:=(Vx.1 he).1;have hmem:e∈es:=Vz he;have hne:es≠[]:=List.ne_nil_of_mem hmem;rcases h1.lst_inv with ⟨h0,_⟩ | ⟨r,o',cap,z',g,hp,hcap,hA,hz,hone,hc,hrt⟩
 .exact absurd h0 hne
 have hzz:z'=z:=by rw[<-hz e hmem,hl]
 subst hzz;refine⟨.pointer (some ⟨r,o'+m.toNat * z',none⟩),?_,?_⟩
 .have hlt':m<es.length:=by omega
  simp[execOp,ho,hp,h2,Instr.indexAt,asIntOf,run_underlying hu,sizeOf,typeInfo,hi,hsz,hm,hlt',Addr.add_lit]
 .have:=VR.iptr_mk (φ:=φ) (A:=A) (w:=w) (cs:=e.cells) (r:=r) (o:=o'+m.toNat * z') (g:=g m.toNat) (fun _=>hA hne) (hone e hmem) (fun j hj=>hc _ j hlt (by omega)) (fun j c hj=>hrt _ j e c he hj) 0;simpa using this
theorem UN{o:Oper}{ev:Operand->AV}{h:Hp}{nb:Nat}{t:TypeId}{x y:Operand}{b i j n z:Nat}{k:IntKind}{m:Int}
  (ho:o.op = .indexAddr t x y) (hx:ev x = .ptr b i j) (hy:ev y = .int k m) (ht:Bv P t=some (some n,z)) (hm:0<=m/\m<n):
  Aq P o ev h nb {v:=.ptr b i (j+m.toNat * z)}:=by
 refine .value fun φ A w ρ _ hv hh=>?_
 have h1:=hv x;rw[hx] at h1;have h2:=hv y;rw[hy] at h2;have h2:=h2.int_inv;obtain⟨e,inf,hu,hi,hsz⟩:=QR ht;obtain⟨r,z',hφ,hp⟩:=h1.ptr_inv;refine⟨.pointer (some ⟨r,i * z'+(j+m.toNat * z),none⟩),?_,.ptr b i _ r z' hφ⟩;simp[execOp,ho,hp,h2,Instr.indexAt,Instr.sureAddr,asIntOf,run_underlying hu,sizeOf,typeInfo,hi,hsz,hm.1,hm.2,Addr.add_lit,Nat.add_assoc]
theorem KU{o:Oper}{ev:Operand->AV}{h:Hp}{nb:Nat}{x:Operand}{ts:Array TypeId}{t:TypeId}{e:TypeId}{n:Nat}
  (ho:o.op = .call {callee:=.builtin .len,args:=#[x],argTypes:=ts}) (hts:ts[0]?=some t) (hu:P.underlying t=some (.slice e))
  (hx:(∃b i,ev x = .sl b i n)\/(∃es,ev x = .lst es/\es.length=n)\/(ev x = .nils/\n=0)):Aq P o ev h nb {v:=.int .i64 n}:=by
 refine .value fun φ A w ρ _ hv hh=>⟨.int .i64 n,?_,.imm _ _ (.int _ _)⟩
 have hp:∃a c,ρ x = .slice a n c:=by
  have h1:=hv x;rcases hx with ⟨b,i,hx⟩ | ⟨es,hx,rfl⟩ | ⟨hx,rfl⟩<;>rw[hx] at h1
  .rcases h1.sl_inv with ⟨rfl,a,he⟩ | ⟨r,z,cap,_,_,_,he⟩<;>exact⟨_,_,he⟩
  .rcases h1.lst_inv with ⟨rfl,a,he⟩ | ⟨r,o',cap,z,g,he,_⟩<;>exact⟨_,_,he⟩
  .exact⟨_,_,h1.nils_inv⟩
 obtain⟨a,c,he⟩:=hp;simp[execOp,ho,resolve,invoke,builtin,Builtin.len_,hts,run_underlying hu,he,goInt]
theorem TU{o:Oper}{ev:Operand->AV}{h:Hp}{nb:Nat}{x:Operand}{ts:Array TypeId}{t:TypeId}{e:TypeId}
  (ho:o.op = .call {callee:=.builtin .cap,args:=#[x],argTypes:=ts}) (hts:ts[0]?=some t) (hu:P.underlying t=some (.slice e))
  (hx:ev x = .nils):Aq P o ev h nb {v:=.int .i64 0}:=by
 refine .value fun φ A w ρ _ hv hh=>⟨.int .i64 0,?_,.imm _ _ (.int _ _)⟩
 have h1:=hv x;rw[hx] at h1;have he:=h1.nils_inv;simp[execOp,ho,resolve,invoke,builtin,Builtin.cap_,hts,run_underlying hu,he,goInt]
theorem Ue{o:Oper}{ev:Operand->AV}{h:Hp}{nb:Nat}{x:Operand}{ts:Array TypeId}{t:TypeId}{e:TypeId}{n:Nat}
  (ho:o.op = .call {callee:=.builtin .len,args:=#[x],argTypes:=ts}) (hts:ts[0]?=some t) (hu:P.underlying t=some (.array n e)):Aq P o ev h nb {v:=.int .i64 n}:=by
 refine .value fun φ A w ρ _ hv hh=>⟨.int .i64 n,?_,.imm _ _ (.int _ _)⟩
 simp[execOp,ho,resolve,invoke,builtin,Builtin.len_,hts,run_underlying hu,goInt]
theorem Ui{o:Oper}{ev:Operand->AV}{h:Hp}{nb:Nat}{x:Operand}{ts:Array TypeId}{t:TypeId}{s:ByteArray}
  (ho:o.op = .call {callee:=.builtin .len,args:=#[x],argTypes:=ts}) (hts:ts[0]?=some t) (hu:P.underlying t=some .string) (hx:ev x = .str s):Aq P o ev h nb {v:=.int .i64 s.size}:=by
 refine .value fun φ A w ρ _ hv hh=>⟨.int .i64 s.size,?_,.imm _ _ (.int _ _)⟩
 have h1:=hv x;rw[hx] at h1;have h1:=h1.str_inv;simp[execOp,ho,resolve,invoke,builtin,Builtin.len_,hts,run_underlying hu,h1,goInt]
theorem Kr(w w':World)(o:Obj)(h:w'.heap=w.heap.push o)(r:Nat):Bj w r<=Bj w' r:=by
 unfold Bj;rw[h];by_cases he:r=w.heap.size
 .subst he;rw[Array.getElem?_eq_none (VH _)];exact VI _
 .rw[Array.getElem?_push,Vu he];exact VH _
theorem Aq.alloc{o:Oper}{ev:Operand->AV}{h:Hp}{nb:Nat}{v:AV}{es:List AV}{z:Nat}{flat:Bool}(hfl:flat=true->Bw es)
  (H:∀(φ:Phi) (A:Nat->Prop) (w:World) (ρ:Operand->Value),(∀x,VR φ A w (ev x) (ρ x))->HR φ A w h->
   ∃(us:List Value) (T:TypeId) (v':Value),(execOp ρ o).run P w = .ok (.value v') (w.alloc (.cells us.toArray T))/\es.length * z<=us.length/\
    (∀(i:Nat) e,es[i]?=some e->e.cells.length=z/\∀(j:Nat) c,e.cells[j]?=some c->c.one=true/\∃u,us[i * z+j]?=some u/\VR φ A w c u)/\
    ∀(φ':Phi) (A':Nat->Prop) (w':World),φ' nb=some (w.heap.size,z)->us.length<=Bj w' w.heap.size->VR φ' A' w' v v'):
  Aq P o ev h nb {v,new:=[{es,z,flat}]}:=by
 intro φ A w a K Q hA hv hh hn k;obtain⟨us,T,v',hr,hsz,hcell,hval⟩:=H φ A w a.eval hv hh;unfold Oper.wp;rw[hr];have hnew:(w.alloc (.cells us.toArray T)).heap[w.heap.size]?=some (.cells us.toArray T (0,0)):=heap_alloc_new w _;have hrow:Bj (w.alloc (.cells us.toArray T)) w.heap.size=us.length:=by unfold Bj;rw[hnew];simp
 let φ':Phi:=fun b=>if b=nb then some (w.heap.size,z) else φ b
 have hφ:∀b x,φ b=some x->φ' b=some x:=fun b x hb=>by
  simp only[φ'];split
  .rename_i he;subst he;rw[hn b (VH _)] at hb;cases hb
  .exact hb
 refine k v' _ φ' ⟨⟨rfl,rfl,rfl,by simp,fun r hr _=>RowKit.Below.heap_alloc w _ r hr,Kr w _ _ rfl⟩,fun b hb=>?_,fun b hb=>?_,fun b r z' hb h1=>?_,fun b b' r z1 z2 hb hb' h1 h2=>?_,?_,fun b blk hm=>by simp at hm,fun blk hm=>by simp at hm;subst hm;exact hfl,?_,?_⟩
 .simp only[φ'];rw[Vu (by omega)]
 .simp at hb;simp only[φ'];rw[Vu (by omega)];exact hn b (by omega)
 .simp only[φ'] at h1;split at h1
  .simp at h1;left;simp;omega
  .rw[hn b hb] at h1;cases h1
 .simp only[φ'] at h1 h2;by_cases e1:b=nb
  .by_cases e2:b'=nb
   .omega
   .rw[Vu e2,hn b' hb'] at h2;cases h2
  .rw[Vu e1,hn b hb] at h1;cases h1
 .exact hval _ _ _ (by simp[φ']) (by rw[hrow];exact VH _)
 .intro b blk hm;simp at hm
 .intro k' blk hk;match k',hk with
  | 0,hk=>simp at hk;subst hk;refine .inr (.inl ⟨w.heap.size,us.toArray,T,by simp[φ'],hnew,⟨by simpa using hsz,rfl⟩,fun i e he=>?_⟩);obtain⟨hl,hc⟩:=hcell i e he;refine⟨hl,fun j c hj=>?_⟩;obtain⟨h1,u,hu,hvr⟩:=hc j c hj;refine⟨h1,u,by simpa using hu,hvr.mono hφ (fun _ h=>.inl h) (fun r hr=>RowKit.Below.heap_alloc w _ r (hA r hr).1) (Kr w _ _ rfl)⟩
def absC:Value->AV | .bool b=>.bool b | .int k n=>.int k n | .string s=>.str s | .slice none 0 0=>.nils | .agg _=>.unk | .tuple _=>.unk | v=>.con v
def absV:Value->AV | .agg cs=>.agg (cs.toList.map absC) | v=>absC v
theorem RT.absC(v:Value):RT A w (absC v) v:=by
 unfold AX.absC;split
 .exact .bool _
 .exact .int _ _
 .exact .str _
 .exact .nils
 .exact .unk _
 .exact .unk _
 .refine .con _ ?_;cases v<;>simp_all [Value.oneCell']
theorem RT.absV(v:Value):RT A w (absV v) v:=by
 unfold AX.absV;split
 .rename_i cs;have:=RT.agg (A:=A) (w:=w) (cs.toList.map AX.absC) cs.toList (by simp) (fun i c u hc hu=>by
   simp only[VF,hu,Option.map_some,Vc] at hc;subst hc;exact RT.absC u)
  simpa using this
 .exact RT.absC _
def CR(φ:Phi)(A:Nat->Prop)(w:World)(cs:List AV)(us:List Value):Prop:=us.length=cs.length/\∀(i:Nat) c u,cs[i]?=some c->us[i]?=some u->VR φ A w c u
theorem VR.cr{a:AV}{v:Value}(h:VR φ A w a v)(hk:a.known=true):CR φ A w a.cells v.cells.toList:=h.cells hk
def BN(cs:List AV):Bool:=cs.all AV.one
theorem CR.block{cs:List AV}{us:List Value}(h:CR φ A w cs us)(h1:BN cs=true)(e:AV)(he:e.cells=cs):
  ∀(i:Nat) e',[e][i]?=some e'->e'.cells.length=cs.length/\∀(j:Nat) c,e'.cells[j]?=some c->c.one=true/\∃u,us[i * cs.length+j]?=some u/\VR φ A w c u:=by
 intro i e' hi;match i,hi with
 | 0,hi=>
  simp at hi;subst hi;refine⟨by rw[he],fun j c hj=>?_⟩;rw[he] at hj;have hlt:=(Vx.1 hj).1;have hlu:j<us.length:=by rw[h.1];exact hlt
  refine⟨?_,us[j],by simp[hlu],h.2 j c us[j] hj (by simp[hlu])⟩;exact VK.1 h1 c (Vz hj)
theorem Rp(a:AV):A8 a.cells=true->Bw [a]:=by intro h e he c hc;simp at he;subst he;exact VK.1 h c hc
theorem ok_alloc{o:Oper}{ev:Operand->AV}{h:Hp}{nb:Nat}{t:TypeId}{i:TypeInfo}{zv:Value}
  (ho:o.op = .alloc t) (hi:P.info? t=some i) (hz:i.zero=some zv) (hk:(absV zv).known=true) (h1:BN (absV zv).cells=true):
  Aq P o ev h nb {v:=.ptr nb 0 0,new:=[{es:=[absV zv],z:=(absV zv).cells.length,flat:=A8 (absV zv).cells}]}:=by
 refine .alloc (Rp _) fun φ A w ρ _ _=>?_
 have hcr:CR φ A w (absV zv).cells zv.cells.toList:=(VR.imm _ _ (RT.absV zv)).cr hk;refine⟨zv.cells.toList,t,.pointer (some ⟨w.heap.size,0,none⟩),?_,?_,hcr.block h1 _ rfl,fun φ' A' w' hφ _=>?_⟩
 .simp[execOp,ho,Instr.alloc,zeroValue,typeInfo,hi,hz,newVar,newRow]
 .simp[hcr.1]
 .have:=VR.ptr (A:=A') (w:=w') nb 0 0 w.heap.size _ hφ;simpa using this
theorem ok_box{o:Oper}{ev:Operand->AV}{h:Hp}{nb:Nat}{t:TypeId}{x:Operand}
  (ho:o.op = .box t x) (hk:(ev x).known=true) (h1:BN (ev x).cells=true):
  Aq P o ev h nb {v:=.ptr nb 0 0,new:=[{es:=[ev x],z:=(ev x).cells.length,flat:=A8 (ev x).cells}]}:=by
 refine .alloc (Rp _) fun φ A w ρ hv _=>?_
 have hcr:=(hv x).cr hk;refine⟨(ρ x).cells.toList,t,.pointer (some ⟨w.heap.size,0,none⟩),?_,?_,hcr.block h1 _ rfl,fun φ' A' w' hφ _=>?_⟩
 .simp[execOp,ho,Instr.box,newVar,newRow]
 .simp[hcr.1]
 .have:=VR.ptr (A:=A') (w:=w') nb 0 0 w.heap.size _ hφ;simpa using this
def F3(place:Nat->Option (Nat×Nat))(cells:List AV):List (Nat×AV)->Option (List AV)
 | []=>some cells
 | (i,v)::rest=>
  match place i with
  | none=>none
  | some (off,size)=>
   match v.known&&Nat.beq v.cells.length size&&Nat.ble (off+size) cells.length with
   | true=>F3 place (cells.take off++v.cells++cells.drop (off+size)) rest
   | false=>none
theorem T5(us:List Value):∀(off:Nat) (cs:Array Value),off+us.length<=cs.size->
  ((us.zipIdx).foldl (fun(cs:Array Value) (x:Value×Nat)=>cs.setIfInBounds (off+x.2) x.1) cs).toList=cs.toList.take off++us++cs.toList.drop (off+us.length):=by
 have key:∀(us:List Value) (n off:Nat) (cs:Array Value),off+n+us.length<=cs.size->
   ((us.zipIdx n).foldl (fun(cs:Array Value) (x:Value×Nat)=>cs.setIfInBounds (off+x.2) x.1) cs).toList=cs.toList.take (off+n)++us++cs.toList.drop (off+n+us.length):=by
  intro us;induction us with
  | nil=>intro n off cs _;simp
  | cons u us ih=>
   intro n off cs hl;simp only[Wa] at hl;simp only[List.zipIdx_cons,List.foldl_cons];rw[ih (n+1) off _ (by simp;omega)];apply List.ext_getElem?;intro k;have hk:off+n<cs.toList.length:=by simp;omega
   simp only[Array.toList_setIfInBounds,List.append_assoc,V5,VX,V4,VO,Wk,Vi,Wa,Array.length_toList,
    List.getElem?_cons]
   (repeat' split)<;>first | rfl | (exfalso;omega) | (congr 1;omega) | skip
 intro off cs hl;have:=key us 0 off cs (by simpa using hl);simpa using this
theorem CR.splice{cs ds:List AV}{us vs:List Value}(h:CR φ A w cs us)(h':CR φ A w ds vs)(off:Nat)(hl:off+ds.length<=cs.length):
  CR φ A w (cs.take off++ds++cs.drop (off+ds.length)) (us.take off++vs++us.drop (off+vs.length)):=by
 refine⟨by simp[h.1,h'.1],fun i c u hc hu=>?_⟩;simp only[List.append_assoc,V5,VX,VO,Vi] at hc hu;have e1:min off cs.length=off:=by omega
 have e2:min off us.length=off:=by have:=h.1;omega
 rw[e1] at hc;rw[e2] at hu;by_cases hi:i<off
 .rw[Vt hi,Vt hi] at hc hu;exact h.2 i c u hc hu
 .rw[Vu hi] at hc hu;by_cases h2:i-off<ds.length
  .rw[Vt h2] at hc;rw[Vt (by rw[h'.1];exact h2)] at hu;exact h'.2 _ c u hc hu
  .rw[Vu h2] at hc;rw[Vu (by rw[h'.1];exact h2)] at hu;rw[h'.1] at hu;exact h.2 _ c u hc hu
theorem MI(place:Nat->Option (Nat×Nat)):∀(parts:List (Nat×AV)) (reals:List (Nat×Value)) (cs:List AV) (us:Array Value) (cs':List AV),
  CR φ A w cs us.toList->parts.map (·.1)=reals.map (·.1)->(∀(k:Nat) x y,parts[k]?=some x->reals[k]?=some y->VR φ A w x.2 y.2)->F3 place cs parts=some cs'->
  ∃us',Instr.fill place us reals=some us'/\CR φ A w cs' us'.toList:=by
 intro parts;induction parts with
 | nil=>
  intro reals cs us cs' h hm _ hf;cases reals with
  | nil=>simp[F3] at hf;subst hf;exact⟨us,rfl,h⟩
  | cons x r=>simp at hm
 | cons p parts ih=>
  intro reals cs us cs' h hm hv hf;cases reals with
  | nil=>simp at hm
  | cons x reals=>
   obtain⟨i,a⟩:=p;obtain⟨i',v⟩:=x;simp only[Vr,List.cons.injEq] at hm;obtain⟨rfl,hm⟩:=hm;have hav:VR φ A w a v:=hv 0 _ _ rfl rfl;simp only[F3] at hf;cases hp:place i with
   | none=>simp[hp] at hf
   | some x=>
    obtain⟨off,size⟩:=x;simp only[hp] at hf;split at hf
    .rename_i hc;simp only[VD] at hc;obtain⟨⟨hk,hl⟩,hle⟩:=hc;have hl:=VC hl;have hle:=VU hle;have hcr:=hav.cr hk;have hsz:v.cells.size=size:=by have:=hcr.1;simp at this;omega
     have hus:us.size=cs.length:=by have:=h.1;simpa using this
     have hsp:=h.splice hcr off (by omega);have hset:=T5 v.cells.toList off us (by simp;omega);obtain⟨us',h1,h2⟩:=ih reals _ _ cs' (by rw[hset];rw[hl] at hsp;exact hsp) hm (fun k x y hx hy=>hv (k+1) x y hx hy) hf;refine⟨us',?_,h2⟩;simp only[Instr.fill,hp];rw[Vu (by simp;omega),<-h1];congr 1;rw[<-Array.foldl_toList,Array.toList_zipIdx]
    .cases hf
def Nx(P:Program)(t:TypeId)(parts:List (Nat×AV)):Option AV:=
 match P.info? t,P.underlying t with
 | some it,some (.array _ e)=>
  match it.zero,P.info? e with
  | some z,some ie=>match (absV z).known with
   | true=>(F3 (fun i=>some (i * ie.size,ie.size)) (absV z).cells parts).map .agg
   | false=>none
  | _,_=>none
 | some it,some (.struct fields)=>
  match it.zero,fields.toList.mapM (fun f=>(P.info? f.type).map fun i=>(f.offset,i.size)) with
  | some z,some places=>match (absV z).known with
   | true=>(F3 (places.toArray[·]?) (absV z).cells parts).map .agg
   | false=>none
  | _,_=>none
 | _,_=>none
theorem VR.agg_mk{cs:List AV}{us:Array Value}(h:CR φ A w cs us.toList):VR φ A w (.agg cs) (.agg us):=by have:=VR.agg (φ:=φ) (A:=A) (w:=w) cs us.toList h.1 h.2;simpa using this
theorem ok_build{o:Oper}{ev:Operand->AV}{h:Hp}{nb:Nat}{t:TypeId}{parts:Array (Nat×Operand)}{v:AV}
  (ho:o.op = .build t parts) (hb:Nx P t (parts.toList.map fun p=>(p.1,ev p.2))=some v):Aq P o ev h nb {v}:=by
 refine .value fun φ A w ρ _ hv _=>?_
 have hm:(parts.toList.map fun p=>(p.1,ev p.2)).map (·.1)=(parts.toList.map fun p=>(p.1,ρ p.2)).map (·.1):=by simp
 have hvv:∀(k:Nat) x y,(parts.toList.map fun p=>(p.1,ev p.2))[k]?=some x->(parts.toList.map fun p=>(p.1,ρ p.2))[k]?=some y->VR φ A w x.2 y.2:=by intro k x y hx hy;simp only[VF,Option.map_eq_some_iff] at hx hy;obtain⟨p,hp,rfl⟩:=hx;obtain⟨q,hq,rfl⟩:=hy;rw[hp] at hq;cases hq;exact hv p.2
 have fin:∀us:Array Value,P.built t (parts.toList.map fun p=>(p.1,ρ p.2))=some us->VR φ A w v (.agg us)->∃v',(execOp ρ o).run P w = .ok (.value v') w/\VR φ A w v v':=by
  intro us hus hvr;refine⟨.agg us,?_,hvr⟩;have hl:(parts.map fun p=>(p.1,ρ p.2)).toList=parts.toList.map fun p=>(p.1,ρ p.2):=by simp
  rw[<-hl] at hus;simp only[execOp,ho,Sem.run_bind];rw[show (parts.map fun(i,x)=>(i,ρ x))=parts.map fun p=>(p.1,ρ p.2) from rfl,run_build w t _ us hus];rfl
 unfold Nx at hb;cases hit:P.info? t with
 | none=>simp[hit] at hb
 | some it=>
  cases hu:P.underlying t with
  | none=>simp[hit,hu] at hb
  | some d=>
   cases hz:it.zero with
   | none=>cases d<;>simp[hit,hu,hz] at hb
   | some z=>
    cases d<;>try (simp[hit,hu] at hb;done)
    case array n e=>
     cases hie:P.info? e with
     | none=>simp[hit,hu,hz,hie] at hb
     | some ie=>
      simp only[hit,hu,hz,hie] at hb;split at hb
      .rename_i hk;obtain⟨cs',hf,rfl⟩:=Option.map_eq_some_iff.1 hb;obtain⟨us,h1,h2⟩:=MI _ _ _ _ z.cells _ ((VR.imm _ _ (RT.absV z)).cr hk) hm hvv hf;exact fin us (by unfold Program.built;simp only[hit,hu,hz,hie];exact h1) (.agg_mk h2)
      .cases hb
    case struct fields=>
     cases hp:fields.toList.mapM (fun f=>(P.info? f.type).map fun i=>(f.offset,i.size)) with
     | none=>simp[hit,hu,hz,hp] at hb
     | some places=>
      simp only[hit,hu,hz,hp] at hb;split at hb
      .rename_i hk;obtain⟨cs',hf,rfl⟩:=Option.map_eq_some_iff.1 hb;obtain⟨us,h1,h2⟩:=MI _ _ _ _ z.cells _ ((VR.imm _ _ (RT.absV z)).cr hk) hm hvv hf;exact fin us (by unfold Program.built;simp only[hit,hu,hz,hp];exact h1) (.agg_mk h2)
      .cases hb
def mkE(ag:Bool)(cs:List AV):AV:=
 match ag,cs with
 | true,cs=>.agg cs
 | false,[c]=>c
 | false,_=>.unk
def chunk(ag:Bool)(z:Nat):Nat->List AV->List AV | 0,_=>[] | n+1,cs=>mkE ag (cs.take z)::chunk ag z n (cs.drop z)
theorem Mn{c:AV}(h:c.one=true):c.cells=[c]:=by cases c<;>simp_all [AV.one,AV.cells]
theorem Uo{ag:Bool}{cs:List AV}(h:ag=true\/cs.length=1)(h1:BN cs=true):(mkE ag cs).cells=cs:=by
 cases ag with
 | true=>rfl
 | false=>
  rcases h with h | h
  .cases h
  .match cs,h with
   | [c],_=>simp[BN] at h1;simpa [mkE] using Mn h1
theorem Uh{ag:Bool}{z:Nat}(hz:ag=true\/z=1):∀(n:Nat) (cs:List AV),n * z<=cs.length->BN cs=true->∀(i:Nat) e,(chunk ag z n cs)[i]?=some e->
  e.cells=(cs.drop (i * z)).take z/\i<n:=by
 intro n;induction n with
 | zero=>intro cs _ _ i e he;simp[chunk] at he
 | succ n ih=>
  intro cs hl h1 i e he;have hl':n * z+z<=cs.length:=by rw[Ve] at hl;omega
  cases i with
  | zero=>
   simp[chunk] at he;subst he;refine⟨?_,by omega⟩;rw[Uo]
   .simp
   .rcases hz with h | h
    .exact .inl h
    .right;simp;omega
   .simp only[BN,VK] at h1 ⊢
    exact fun c hc=>h1 c (List.mem_of_mem_take hc)
  | succ i=>simp[chunk] at he;obtain⟨h2,h3⟩:=ih (cs.drop z) (by simp;omega) (by simp only[BN,VK] at h1 ⊢;exact fun c hc=>h1 c (List.mem_of_mem_drop hc)) i e he;refine⟨?_,by omega⟩;rw[h2,Vh,Ve];congr 2;omega
theorem QH{ag:Bool}{z:Nat}:∀(n:Nat) (cs:List AV),(chunk ag z n cs).length=n | 0,_=>rfl | n+1,cs=>by simp[chunk,QH n]
theorem CR.chunk{cs:List AV}{us:List Value}(h:CR φ A w cs us)(h1:BN cs=true){ag:Bool}{z n:Nat}(hz:ag=true\/z=1)(hl:cs.length=n * z):
  ∀(i:Nat) e,(chunk ag z n cs)[i]?=some e->e.cells.length=z/\∀(j:Nat) c,e.cells[j]?=some c->c.one=true/\∃u,us[i * z+j]?=some u/\VR φ A w c u:=by
 intro i e he;obtain⟨hc,hi⟩:=Uh hz n cs (by omega) h1 i e he;have hle:i * z+z<=n * z:=by have:=VM z hi;rw[Nat.succ_mul] at this;exact this
 refine⟨by rw[hc];simp;omega,fun j c hj=>?_⟩;rw[hc,VO] at hj;split at hj
 .rw[Vi] at hj;have hlt:=(Vx.1 hj).1;have hlu:i * z+j<us.length:=by rw[h.1];exact hlt
  exact⟨VK.1 h1 c (Vz hj),us[i * z+j],by simp[hlu],h.2 _ c _ hj (by simp[hlu])⟩
 .cases hj
def G4(es:List AV):Bool:=es.all fun e=>A8 e.cells
theorem LL(es:List AV):G4 es=true->Bw es:=fun h e he c hc=>VK.1 (VK.1 h e he) c hc
def litA(P:Program)(t:TypeId)(n:Nat)(parts:List (Nat×AV)):Option (List AV×Nat):=
 match P.underlying t with
 | some (.slice e)=>
  match P.info? e,tsz P e with
  | some ie,some (z,ag)=>
   match ie.zero with
   | some zv=>
    match (absV zv).known&&Nat.beq (absV zv).cells.length z&&Nat.ble (n * z) 16777216&&(ag||Nat.beq z 1)&&Nat.blt 0 z with
    | true=>
     match F3 (fun i=>some (i * z,z)) ((List.range (n * z)).map fun k=>(absV zv).cells.getD (k % z) .unk) parts with
     | some cs=>match BN cs&&Nat.beq cs.length (n * z) with
      | true=>some (chunk ag z n cs,z)
      | false=>none
     | none=>none
    | false=>none
   | none=>none
  | _,_=>none
 | _=>none
theorem RF{t:TypeId}{z:Nat}{ag:Bool}(h:tsz P t=some (z,ag)):∃i,P.info? t=some i/\i.size=z:=by
 unfold tsz at h;split at h
 .rename_i i d hi hd;simp at h;exact⟨i,hi,h.1⟩
 .cases h
theorem Gq{o:Oper}{ev:Operand->AV}{h:Hp}{nb:Nat}{t:TypeId}{n z:Nat}{parts:Array (Nat×Operand)}{es:List AV}
  (ho:o.op = .buildSlice t n parts) (hb:litA P t n (parts.toList.map fun p=>(p.1,ev p.2))=some (es,z)):
  Aq P o ev h nb {v:=.sl nb 0 n,new:=[{es,z,flat:=G4 es}]}:=by
 refine .alloc (LL es) fun φ A w ρ hv _=>?_
 unfold litA at hb;split at hb
 case h_2=>cases hb
 rename_i e hu;split at hb
 case h_2=>cases hb
 rename_i ie z' ag hi hts;split at hb
 case h_2=>cases hb
 rename_i zv hz;split at hb
 case h_2=>cases hb
 rename_i hc;split at hb
 case h_2=>cases hb
 rename_i cs hf;split at hb
 case h_2=>cases hb
 rename_i hone;simp only[Vc,Vm] at hb;obtain⟨rfl,rfl⟩:=hb;simp only[VD,Bool.or_eq_true] at hc hone;obtain⟨⟨⟨⟨hk,hzl⟩,hle⟩,hag⟩,hpos⟩:=hc;have hzl:=VC hzl;have hle:=VU hle;have hpos:0<z':=by have:=hpos;simp only[Nat.blt] at this;exact VU this
 have hag:ag=true\/z'=1:=hag.imp id VC;have hlen:=VC hone.2;obtain⟨i',hi',hsz⟩:=RF hts;rw[hi] at hi';cases hi';have hcr:=(VR.imm (φ:=φ) (A:=A) (w:=w) _ _ (RT.absV zv)).cr hk;have hzs:zv.cells.size=z':=by have:=hcr.1;simp at this;omega
 have hinit:CR φ A w ((List.range (n * z')).map fun k=>(absV zv).cells.getD (k % z') .unk) (((Array.range (n * z')).map (zv.cells[· % zv.cells.size]!)).toList):=by
  refine⟨by simp,fun k c u hc hu=>?_⟩;simp only[VF,Option.map_eq_some_iff,Array.toList_map,Array.toList_range] at hc hu;obtain⟨a,ha,rfl⟩:=hc;obtain⟨b,hb,rfl⟩:=hu;rw[ha] at hb;cases hb;have hmod:a % z'<z':=Nat.mod_lt _ hpos;rw[hzs];refine hcr.2 (a % z') _ _ ?_ ?_
  .simp[List.getD,Vv (show a % z'<(absV zv).cells.length by omega)]
  .simp[hzs,hmod]
 have hm:(parts.toList.map fun p=>(p.1,ev p.2)).map (·.1)=(parts.toList.map fun p=>(p.1,ρ p.2)).map (·.1):=by simp
 have hvv:∀(k:Nat) x y,(parts.toList.map fun p=>(p.1,ev p.2))[k]?=some x->(parts.toList.map fun p=>(p.1,ρ p.2))[k]?=some y->VR φ A w x.2 y.2:=by intro k x y hx hy;simp only[VF,Option.map_eq_some_iff] at hx hy;obtain⟨p,hp,rfl⟩:=hx;obtain⟨q,hq,rfl⟩:=hy;rw[hp] at hq;cases hq;exact hv p.2
 obtain⟨us,h1,h2⟩:=MI _ _ _ _ _ _ hinit hm hvv hf;refine⟨us.toList,e,.slice (some ⟨w.heap.size,0,none⟩) n n,?_,?_,?_,fun φ' A' w' hφ hr=>?_⟩
 .by_cases hn0:n=0
  .subst hn0;have h1':Instr.fill (fun i=>some (i * z',z')) #[] (parts.toList.map fun p=>(p.1,ρ p.2))=some us:=by have e0:(Array.range 0).map (fun x=>zv.cells[x % zv.cells.size]!) = #[]:=Array.eq_empty_of_size_eq_zero (by simp);rw[<-e0];simpa using h1
   simp[execOp,ho,Instr.buildSlice,run_underlying hu,sizeOf,typeInfo,hi,hsz,newRow];have e1:(Array.range 0).map (fun _=>(default:Value)) = #[]:=Array.eq_empty_of_size_eq_zero (by simp);rw[e1];simp[h1']
  .have hnz:¬(n * z'=0):=by intro h0;rcases Nat.mul_eq_zero.1 h0 with h | h<;>omega
   have hp0:¬(16777216<n * z'):=by omega
   simp[execOp,ho,Instr.buildSlice,run_underlying hu,sizeOf,typeInfo,zeroValue,hi,hz,hsz,newRow,hp0,hnz];have h1':Instr.fill (fun i=>some (i * z',z')) (Array.map (fun x=>zv.cells[x % zv.cells.size]!) (Array.range (n * z'))) (parts.toList.map fun p=>(p.1,ρ p.2))=some us:=h1;simp[h1']
 .rw[QH,h2.1,hlen];exact VH _
 .exact h2.chunk hone.1 hag hlen
 .have:=VR.sl (φ:=φ') (A:=A') (w:=w') nb 0 n w.heap.size z' n hφ (VH _) (by rw[VL];refine Wd ?_ hr;rw[h2.1,hlen];exact VH _);simpa using this
def Cl(P:Program)(t:TypeId):Option (AV×Nat×Nat):=
 match P.underlying t with
 | some (.slice e)=>
  match P.info? e with
  | some ie=>match ie.zero with
   | some zv=>match (absV zv).known&&Nat.beq (absV zv).cells.length ie.size&&BN (absV zv).cells&&Nat.blt 0 ie.size with
    | true=>some (absV zv,ie.size,ie.bytes)
    | false=>none
   | none=>none
  | none=>none
 | _=>none
theorem Fu{t:TypeId}{e:AV}{z by_:Nat}(h:Cl P t=some (e,z,by_)):
  ∃el i zv,P.underlying t=some (.slice el)/\P.info? el=some i/\i.zero=some zv/\e=absV zv/\i.size=z/\i.bytes=by_/\e.known=true/\e.cells.length=z/\BN e.cells=true/\0<z:=by
 unfold Cl at h;split at h
 case h_2=>cases h
 rename_i el hu;split at h
 case h_2=>cases h
 rename_i i hi;split at h
 case h_2=>cases h
 rename_i zv hz;split at h
 case h_2=>cases h
 rename_i hc;simp only[Vc,Vm] at h;obtain⟨rfl,rfl,rfl⟩:=h;simp only[VD] at hc;obtain⟨⟨⟨h1,h2⟩,h3⟩,h4⟩:=hc;exact⟨el,i,zv,hu,hi,hz,rfl,rfl,rfl,h1,VC h2,h3,by simp only[Nat.blt] at h4;exact VU h4⟩
theorem Rm{o:Oper}{ev:Operand->AV}{h:Hp}{nb:Nat}{t:TypeId}{x y:Operand}{kl kc:IntKind}{l c:Int}{e:AV}{z by_:Nat}
  (ho:o.op = .makeSlice t x y) (hx:ev x = .int kl l) (hy:ev y = .int kc c) (ht:Cl P t=some (e,z,by_)) (h0:0<=l) (hlc:l<=c) (hb:(by_:Int) * c<=281474976710656) (h63:c<=9223372036854775807):
  Aq P o ev h nb {v:=.sl nb 0 l.toNat,new:=[{es:=List.replicate l.toNat e,z,flat:=A8 e.cells}]}:=by
 refine .alloc (fun hf e' he c' hc=>by rw[(List.mem_replicate.1 he).2] at hc;exact VK.1 hf c' hc) fun φ A w ρ hv _=>?_
 obtain⟨el,i,zv,hu,hi,hz,rfl,hsz,hby,hk,hl,hone,hpos⟩:=Fu ht;have h1:=hv x;rw[hx] at h1;have h1:=h1.int_inv;have h2:=hv y;rw[hy] at h2;have h2:=h2.int_inv;have hcr:=(VR.imm (φ:=φ) (A:=A) (w:=w) _ _ (RT.absV zv)).cr hk;have hzs:zv.cells.size=z:=by have:=hcr.1;simp at this;omega
 have hrun:=run_make (P:=P) w t el i zv hu hi hz kl kc l c h0 hlc (by rw[hby];exact hb) h63;have hlc':l.toNat<=c.toNat:=by omega
 have hsize:(madeCells zv.cells (c.toNat * z)).toList.length=c.toNat * z:=by simp[size_madeCells]
 refine⟨(madeCells zv.cells (c.toNat * z)).toList,el,.slice (some ⟨w.heap.size,0,none⟩) l.toNat c.toNat,?_,?_,fun k e' he=>?_,fun φ' A' w' hφ hr=>?_⟩
 .rw[hsz] at hrun;simp[execOp,ho,h1,h2,hrun]
 .rw[hsize];simp;exact VM _ hlc'
 .have hlt:=(Vx.1 he).1;simp at hlt;rw[VV,Vt (by omega)] at he;cases he;refine⟨hl,fun j c' hj=>?_⟩;have hjl:=(Vx.1 hj).1;have hidx:k * z+j<c.toNat * z:=by
   have hk':k+1<=c.toNat:=by omega
   have:=VM z hk';rw[Nat.succ_mul] at this;omega
  have hmod:(k * z+j) % z=j:=by rw[Vd,Nat.mul_add_mod];exact Vo (by omega)
  have hju:j<zv.cells.toList.length:=by simp;omega
  refine⟨VK.1 hone c' (Vz hj),zv.cells.toList[j],?_,hcr.2 j c' _ hj (by simp)⟩;simp[madeCells,hidx,hzs,hmod,getElem!_pos zv.cells j (by omega)]
 .have:=VR.sl (φ:=φ') (A:=A') (w:=w') nb 0 l.toNat w.heap.size z c.toNat hφ hlc' (by rw[VL,<-hsize];exact hr);simpa using this
def bnd(ev:Operand->AV)(x:Option Operand)(d:Int):Option Int:=
 match x with
 | none=>some d
 | some x=>match ev x with
  | .int _ n=>some n
  | _=>none
theorem Q4{ev:Operand->AV}{ρ:Operand->Value}(hv:∀x,VR φ A w (ev x) (ρ x)){lo hi mx:Option Operand}{n l u m:Int}{len cap:Nat}(isS:Bool)
  (hl:bnd ev lo 0=some l) (hu:bnd ev hi n=some u) (hm:bnd ev mx n=some m) (hmx:mx.isSome=true->hi.isSome=true) (hn:n=len)
  (h0:0<=l) (h1:l<=u) (h2:u<=m) (h3:m<=n) (hc:len<=cap):
  ∃m':Nat,u.toNat<=m'/\m'<=cap/\(mx.isSome=true->m'=m.toNat)/\(Instr.sliceBounds isS len cap (lo.map ρ) (hi.map ρ) (mx.map ρ)).run P w = .ok (l.toNat,u.toNat,m') w:=by
 have get:∀(x:Operand) (d k:Int),bnd ev (some x) d=some k->∃kk,ρ x = .int kk k:=by
  intro x d k h;simp only[bnd] at h;split at h
  .rename_i kk nn he;cases h;have:=hv x;rw[he] at this;exact⟨kk,this.int_inv⟩
  .cases h
 have sb:∀(x:Operand) (d k:Int) (y:Nat) (cd:BoundsCode),bnd ev (some x) d=some k->0<=k->k<=y->(Instr.sliceBound (ρ x) y cd).run P w = .ok k.toNat w:=by intro x d k y cd h ha hb;obtain⟨kk,he⟩:=get x d k h;simp[Instr.sliceBound,he,asIntOf,ha,hb]
 cases mx with
 | none=>
  simp only[bnd,Vc] at hm;subst hm;refine⟨cap,by omega,VH _,by simp,?_⟩;cases hi with
  | none=>
   simp only[bnd,Vc] at hu;subst hu;cases lo with
   | none=>simp only[bnd,Vc] at hl;subst hl;subst hn;simp[Instr.sliceBounds]
   | some x=>
    have:=sb x 0 l len (if false then .slice3C else .sliceB) hl h0 (by omega);subst hn;simp[Instr.sliceBounds] at this ⊢
    simp[this]
  | some y=>
   have hy:=sb y n u cap (if isS then .sliceAcap else .sliceAlen) hu (by omega) (by omega);cases lo with
   | none=>simp only[bnd,Vc] at hl;subst hl;simp[Instr.sliceBounds,hy]
   | some x=>have hx:=sb x 0 l u.toNat .sliceB hl h0 (by omega);simp[Instr.sliceBounds,hy,hx]
 | some q=>
  refine⟨m.toNat,by omega,by omega,fun _=>rfl,?_⟩;have hq:=sb q n m cap (if isS then .slice3Acap else .slice3Alen) hm (by omega) (by omega);cases hi with
  | none=>simp at hmx
  | some y=>
   have hy:=sb y n u m.toNat .slice3B hu (by omega) (by omega);cases lo with
   | none=>simp only[bnd,Vc] at hl;subst hl;simp[Instr.sliceBounds,hq,hy]
   | some x=>have hx:=sb x 0 l u.toNat .slice3C hl h0 (by omega);simp[Instr.sliceBounds,hq,hy,hx]
theorem N5{ev:Operand->AV}{ρ:Operand->Value}(hv:∀x,VR φ A w (ev x) (ρ x)){lo hi mx:Option Operand}{n l u m:Int}{len cap:Nat}(isS:Bool)
  (hl:bnd ev lo 0=some l) (hu:bnd ev hi n=some u) (hm:bnd ev mx n=some m) (hmx:mx.isSome=true->hi.isSome=true) (hn:n=len)
  (h0:0<=l) (h1:l<=u) (h2:u<=m) (h3:m<=n) (hc:len<=cap):
  ∃m':Nat,u.toNat<=m'/\m'<=cap/\(Instr.sliceBounds isS len cap (lo.map ρ) (hi.map ρ) (mx.map ρ)).run P w = .ok (l.toNat,u.toNat,m') w:=by
 obtain⟨m',h5,h6,_,h7⟩:=Q4 (P:=P) hv isS hl hu hm hmx hn h0 h1 h2 h3 hc;exact⟨m',h5,h6,h7⟩
theorem P2{o:Oper}{ev:Operand->AV}{h:Hp}{nb:Nat}{t:TypeId}{x:Operand}{lo hi mx:Option Operand}{b i n z:Nat}{l u m:Int}{blk:Blk}
  (ho:o.op = .slice t x lo hi mx) (hx:ev x = .sl b i n) (ht:Bv P t=some (none,z)) (hb:h b=some blk) (hz:blk.z=z)
  (hl:bnd ev lo 0=some l) (hu:bnd ev hi n=some u) (hm:bnd ev mx n=some m) (hmx:mx.isSome=true->hi.isSome=true)
  (h0:0<=l/\l<=u/\u<=m/\m<=n):Aq P o ev h nb {v:=.sl b (i+l.toNat) (u.toNat-l.toNat)}:=by
 refine .value fun φ A w ρ _ hv hh=>?_
 have h1:=hv x;rw[hx] at h1;obtain⟨e,inf,hun,hi',hsz⟩:=Fc ht;obtain⟨h0,h01,h02,h03⟩:=h0
 have fin:∀(a:Option Addr) (cap:Nat),ρ x = .slice a n cap->n<=cap->(∀m':Nat,u.toNat<=m'->m'<=cap->VR φ A w (.sl b (i+l.toNat) (u.toNat-l.toNat))
   (.slice (if m'=l.toNat then a else a.map (·.add (l.toNat * inf.size))) (u.toNat-l.toNat) (m'-l.toNat)))->
   ∃v',(execOp ρ o).run P w = .ok (.value v') w/\VR φ A w (.sl b (i+l.toNat) (u.toNat-l.toNat)) v':=by
  intro a cap he hc hvr;obtain⟨m',hm1,hm2,hr⟩:=N5 (P:=P) hv (len:=n) (cap:=cap) true hl hu hm hmx rfl h0 h01 h02 h03 hc;refine⟨_,?_,hvr m' hm1 hm2⟩;simp[execOp,ho,he,Instr.sliceAt,Instr.slice,run_underlying hun,hr,sizeOf,typeInfo,hi']
 rcases h1.sl_inv with ⟨hn,a,he⟩ | ⟨r,z',cap,hφ,hn,hrow,he⟩
 .refine fin a 0 (by rw[he,hn]) (by omega) fun m' hm1 hm2=>?_
  have hl0:l.toNat=0:=by omega
  have hu0:u.toNat=0:=by omega
  have hm0:m'=0:=by omega
  rw[hl0,hu0,hm0];exact .slnil b _ a
 .have hzz:z'=blk.z:=by
   rcases hh.blk b blk hb with ⟨_,hno,_⟩ | ⟨r',cs,T,hφ',_⟩ | ⟨_,_,_,hφ',_⟩
   .rw[hφ] at hno;cases hno
   .rw[hφ] at hφ';simp at hφ';omega
   .rw[hφ] at hφ';simp at hφ';omega
  refine fin _ cap he hn fun m' hm1 hm2=>?_
  by_cases hml:m'=l.toNat
  .rw[Vt hml];have e1:u.toNat-l.toNat=0:=by omega
   have e2:m'-l.toNat=0:=by omega
   rw[e1,e2];exact .slnil b _ _
  .rw[Vu hml];have:=VR.sl (φ:=φ) (A:=A) (w:=w) b (i+l.toNat) (u.toNat-l.toNat) r z' (m'-l.toNat) hφ (by omega) (by
    refine Wd (VM _ ?_) hrow;omega)
   have ead:(⟨r,i * z',none⟩:Addr).add (l.toNat * inf.size)=⟨r,(i+l.toNat) * z',none⟩:=by rw[Addr.add_lit,hsz,<-hz,<-hzz,Ve]
   simp only[Option.map_some,ead];exact this
theorem KE(w:World)(r:Nat)(cs cs':Array Value)(T:TypeId)(fr:Nat×Nat)(h:w.heap[r]?=some (.cells cs T fr))(hs:cs.size=cs'.size)(q:Nat):
  Bj w q<=Bj (w.setRow r cs') q:=by
 unfold Bj;by_cases hq:q=r
 .subst hq;rw[h,setRow_heap w q cs cs' T fr h];simp[hs]
 .rw[setRow_other w r q cs' hq];exact VH _
theorem Eff.write{h:Hp}{nb b r z:Nat}{blk blk':Blk}{cs cs':Array Value}{T:TypeId}{v:AV}{v':Value}
  (hA:∀r,A r->r<w.heap.size/\¬Mut φ h r) (hn:∀b,nb<=b->φ b=none) (hb:h b=some blk) (hw:blk.wr=true) (hφ:φ b=some (r,z)) (hz:blk'.z=z)
  (hr:w.heap[r]?=some (.cells cs T (0,0))) (hmp:blk'.mp=none) (hs:cs.size=cs'.size) (hv:VR φ A w v v') (hfl:blk'.flat=true->Bw blk'.es) (hsz:blk'.es.length * z<=cs'.size)
  (hc:∀(i:Nat) e,blk'.es[i]?=some e->e.cells.length=z/\∀(j:Nat) c,e.cells[j]?=some c->c.one=true/\∃u,cs'[i * z+j]?=some u/\VR φ A w c u):
  Eff φ A w h nb {v,chg:=[(b,blk')]} v' (w.setRow r cs') φ:=by
 have hAr:∀q,A q->q≠r:=fun q hq he=>(hA q hq).2 ⟨b,blk,z,hb,hw,by rw[he];exact hφ⟩
 have hkeep:∀q,A q->(w.setRow r cs').heap[q]?=w.heap[q]?:=fun q hq=>setRow_other w r q cs' (hAr q hq)
 have hmono:∀{c u},VR φ A w c u->VR φ (Bk A φ nb w (w.setRow r cs')) (w.setRow r cs') c u:=fun h=>
  h.mono (fun _ _ h=>h) (fun _ h=>.inl h) hkeep (KE w r cs cs' T _ hr hs)
 refine⟨⟨rfl,rfl,rfl,by simp,fun q _ hq=>setRow_other w r q cs' fun he=>hq ⟨b,z,.inr ⟨blk',by simp⟩,by rw[he];exact hφ⟩,KE w r cs cs' T _ hr hs⟩,fun _ _=>rfl,
  fun b' hb'=>hn b' (by simpa using hb'),fun b' q z' hb' h1=>?_,fun b1 b2 q z1 z2 h1 _ h2 _=>?_,hmono hv,fun b' blk'' hm=>by simp at hm;obtain⟨_,rfl⟩:=hm;exact hfl,fun blk'' hm=>by simp at hm,fun b' blk'' hm=>?_,fun k blk'' hm=>by simp at hm⟩
 .rw[hn b' hb'] at h1;cases h1
 .rw[hn b1 h1] at h2;cases h2
 .simp only[Vn,Vm] at hm;obtain⟨rfl,rfl⟩:=hm;subst hz;refine .inr (.inl ⟨r,cs',T,hφ,setRow_heap w r cs cs' T _ hr,⟨hsz,hmp⟩,fun i e he=>?_⟩);obtain⟨hl,hc'⟩:=hc i e he;refine⟨hl,fun j c hj=>?_⟩;obtain⟨h1,u,hu,hvr⟩:=hc' j c hj;exact⟨h1,u,hu,hmono hvr⟩
theorem Ri(l m:List Value)(o k:Nat)(h:o+m.length<=l.length):
  (l.take o++m++l.drop (o+m.length))[k]?=if k<o then l[k]? else if k<o+m.length then m[k-o]? else l[k]?:=by
 simp only[List.append_assoc,V5,VX,VO,Vi];have e1:min o l.length=o:=by omega
 rw[e1]
 (repeat' split)<;>first | rfl | (exfalso;omega) | (congr 1;omega)
theorem idx_ne{z i i' j j':Nat}(hj:j<z)(hj':j'<z)(h:i * z+j=i' * z+j'):i=i'/\j=j':=by
 have hi:i=i':=by
  rcases Nat.lt_trichotomy i i' with hlt | he | hgt
  .have:=VM z hlt;rw[Nat.succ_mul] at this;omega
  .exact he
  .have:=VM z hgt;rw[Nat.succ_mul] at this;omega
 subst hi;exact⟨rfl,by omega⟩
theorem JR{o:Oper}{ev:Operand->AV}{h:Hp}{nb:Nat}{t:TypeId}{x y:Operand}{b i j s:Nat}{ag:Bool}{blk:Blk}{e:AV}
  (ho:o.op = .store t x y) (hx:ev x = .ptr b i j) (hb:h b=some blk) (hw:blk.wr=true) (ht:tsz P t=some (s,ag)) (hk:(ev y).known=true)
  (hl:(ev y).cells.length=s) (h1:BN (ev y).cells=true) (he:i<blk.es.length) (hj:j+s<=blk.z)
  (hnew:e.cells.length=blk.z) (hcell:∀(k:Nat) c,e.cells[k]?=some c->(j<=k/\k<j+s/\(ev y).cells[k-j]?=some c)\/((k<j\/j+s<=k)/\∃e0,blk.es[i]?=some e0/\e0.cells[k]?=some c)):
  Aq P o ev h nb {v:=.unk,chg:=[(b,{blk with es:=blk.es.set i e,flat:=blk.flat&&A8 (ev y).cells})]}:=by
 intro φ A w a K Q hA hv hh hn k;have hx':=hv x;rw[hx] at hx';obtain⟨r,z,hφ,hp⟩:=hx'.ptr_inv;rcases hh.blk b blk hb with ⟨h0,_⟩ | ⟨r',cs,T,hφ',hr,⟨hsz,hmp⟩,hel⟩ | ⟨_,_,_,_,⟨h0,_⟩,_⟩
 .rw[h0] at he;simp at he
 case inr.inr=>rw[h0] at he;simp at he
 rw[hφ] at hφ';simp only[Vc,Vm] at hφ';obtain⟨rfl,rfl⟩:=hφ';have hcr:=(hv y).cr hk;obtain⟨ti,hti,hts⟩:=RF ht;have hlen:(a.eval y).cells.toList.length=s:=by rw[hcr.1,hl]
 have hfit:i * blk.z+j+s<=cs.size:=by have:=VM blk.z he;rw[Nat.succ_mul] at this;omega
 have hones:∀u∈(a.eval y).cells.toList,u.oneCell'=true:=by
  intro u hu;obtain⟨q,hq⟩:=List.getElem?_of_mem hu;have hql:=(Vx.1 hq).1;have hqc:q<(ev y).cells.length:=by omega
  refine(hcr.2 q (ev y).cells[q] u (by simp[hqc]) hq).one ?_;exact VK.1 h1 _ (V2 _)
 have hrun:=run_storeCells_at P r (i * blk.z+j) T (a.eval y).cells.toList 0 cs w hr (by simpa [hlen] using hfit) hones;simp only[Vk] at hrun;have hsize2:(a.eval y).cells.size=s:=by simpa using hlen
 have hnewsz:cs.size=(cs.toList.take (i * blk.z+j)++(a.eval y).cells.toList++cs.toList.drop (i * blk.z+j+(a.eval y).cells.toList.length)).toArray.size:=by simp;omega
 unfold Oper.wp;have hex:(execOp a.eval o).run P w = .ok .skip (w.setRow r (cs.toList.take (i * blk.z+j)++(a.eval y).cells.toList++cs.toList.drop (i * blk.z+j+(a.eval y).cells.toList.length)).toArray):=by
  generalize a.eval=ρ at *;simp[execOp,ho,hp,Instr.storeAt,Instr.sureAddr,storeVar,sizeOf,typeInfo,hti,hts,<-hlen] at hrun ⊢
  simp[hrun]
 rw[hex];refine k undef _ φ (Eff.write (blk':={blk with es:=blk.es.set i e,flat:=blk.flat&&A8 (ev y).cells}) (v:=.unk) hA hn hb hw hφ rfl hr hmp ?_ (.imm _ _ (.unk _)) ?_ ?_ fun i' e' he'=>?_)
 .exact hnewsz
 .intro hf e' he' c hc;simp only[VD] at hf;rcases List.mem_or_eq_of_mem_set he' with hm | rfl
  .exact hh.flat b blk hb hf.1 e' hm c hc
  .obtain⟨q,hq⟩:=List.getElem?_of_mem hc;rcases hcell q c hq with ⟨_,_,h4⟩ | ⟨_,e0,he0,h4⟩
   .exact VK.1 hf.2 c (Vz h4)
   .exact hh.flat b blk hb hf.1 e0 (Vz he0) c (Vz h4)
 .rw[<-hnewsz];simpa using hsz
 .simp only[Wk] at he';have old:∀e0,blk.es[i']?=some e0->∀(q:Nat) c,e0.cells[q]?=some c->(i'≠i\/q<j\/j+s<=q)->c.one=true/\∃u,(cs.toList.take (i * blk.z+j)++(a.eval y).cells.toList++cs.toList.drop (i * blk.z+j+(a.eval y).cells.toList.length)).toArray[i' * blk.z+q]?=some u/\VR φ A w c u:=by
   intro e0 he0 q c hq hout;obtain⟨hl0,hc0⟩:=hel i' e0 he0;obtain⟨g1,u,hu,hvr⟩:=hc0 q c hq;refine⟨g1,u,?_,hvr⟩;have hqz:q<blk.z:=by have:=(Vx.1 hq).1;omega
   rw[List.getElem?_toArray,Ri _ _ _ _ (by simpa [hlen] using hfit),hlen];have hui:cs.toList[i' * blk.z+q]?=some u:=by simpa using hu
   by_cases g:i' * blk.z+q<i * blk.z+j
   .rw[Vt g];exact hui
   .rw[Vu g];by_cases g2:i' * blk.z+q<i * blk.z+j+s
    .exfalso;have:∃d,d<s/\i' * blk.z+q=i * blk.z+(j+d):=⟨i' * blk.z+q-(i * blk.z+j),by omega,by omega⟩;obtain⟨d,hd,hde⟩:=this;have:=idx_ne hqz (by omega) hde;omega
    .rw[Vu g2];exact hui
  by_cases hii:i=i'
  .subst hii;rw[Vt rfl,Vt he] at he';cases he';refine⟨hnew,fun q c hq=>?_⟩;rcases hcell q c hq with ⟨h2,h3,h4⟩ | ⟨h2,e0,he0,h4⟩
   .refine⟨VK.1 h1 c (Vz h4),?_⟩;have hlt:q-j<(a.eval y).cells.toList.length:=by omega
    refine⟨(a.eval y).cells.toList[q-j],?_,hcr.2 (q-j) c _ h4 (by simp only[Vv hlt])⟩;rw[List.getElem?_toArray,Ri _ _ _ _ (by simpa [hlen] using hfit),hlen,Vu (by omega),Vt (by omega)];rw[show i * blk.z+q-(i * blk.z+j)=q-j from by omega,Vv hlt]
   .exact old e0 he0 q c h4 (.inr h2)
  .rw[Vu hii] at he';exact⟨(hel i' e' he').1,fun q c hq=>old e' he' q c hq (.inl (Ne.symm hii))⟩
structure Row(φ:Phi)(A:Nat->Prop)(w:World)(z:Nat)(es:List AV)(us:List Value):Prop where
 len:us.length=es.length * z
 cell:∀(i:Nat) e,es[i]?=some e->e.cells.length=z/\∀(j:Nat) c,e.cells[j]?=some c->c.one=true/\∃u,us[i * z+j]?=some u/\VR φ A w c u
theorem Row.one{z:Nat}{es:List AV}{us:List Value}(h:Row φ A w z es us)(hz:0<z):∀u∈us,u.oneCell'=true:=by
 intro u hu;obtain⟨k,hk⟩:=List.getElem?_of_mem hu;have hlt:=(Vx.1 hk).1;have hi:k / z<es.length:=by rw[Nat.div_lt_iff_lt_mul hz,<-h.len];exact hlt
 obtain⟨hl,hc⟩:=h.cell (k / z) es[k / z] (by simp[hi]);have hj:k % z<es[k / z].cells.length:=by rw[hl];exact Nat.mod_lt _ hz
 obtain⟨h1,u',hu',hvr⟩:=hc (k % z) _ (Vv hj);rw[Vd,Nat.div_add_mod,hk] at hu';cases hu';exact hvr.one h1
theorem Row.append{z:Nat}{es es':List AV}{us us':List Value}(h:Row φ A w z es us)(h':Row φ A w z es' us'):Row φ A w z (es++es') (us++us'):=by
 refine⟨by simp[h.len,h'.len,Ve],fun i e he=>?_⟩;rw[V5] at he;split at he
 .rename_i hi;obtain⟨hl,hc⟩:=h.cell i e he;refine⟨hl,fun j c hj=>?_⟩;obtain⟨h1,u,hu,hvr⟩:=hc j c hj;refine⟨h1,u,?_,hvr⟩;rw[List.getElem?_append_left (Vx.1 hu).1];exact hu
 .rename_i hi;obtain⟨hl,hc⟩:=h'.cell _ e he;refine⟨hl,fun j c hj=>?_⟩;obtain⟨h1,u,hu,hvr⟩:=hc j c hj;refine⟨h1,u,?_,hvr⟩;have hsub:(i-es.length) * z=i * z-es.length * z:=Nat.sub_mul _ _ _;have hle:es.length * z<=i * z:=VM z (by omega);rw[List.getElem?_append_right (by rw[h.len];omega),h.len,show i * z+j-es.length * z=(i-es.length) * z+j by omega];exact hu
theorem Row.sub{z:Nat}{es:List AV}{us:List Value}(h:Row φ A w z es us)(o m:Nat)(hl:o+m<=es.length):Row φ A w z ((es.drop o).take m) ((us.drop (o * z)).take (m * z)):=by
 have hm:(o+m) * z<=us.length:=by rw[h.len];exact VM z hl
 rw[Ve] at hm;refine⟨by simp only[VX,Vl];rw[Nat.min_eq_left (by omega),Nat.min_eq_left (by omega)],fun i e he=>?_⟩;rw[VO] at he;split at he
 .rename_i hi;rw[Vi] at he;obtain⟨hl',hc⟩:=h.cell _ e he;refine⟨hl',fun j c hj=>?_⟩;obtain⟨h1,u,hu,hvr⟩:=hc j c hj;refine⟨h1,u,?_,hvr⟩;have hjz:j<z:=by have:=(Vx.1 hj).1;omega
  have hlt:i * z+j<m * z:=by have:=VM z (show i+1<=m from hi);rw[Nat.succ_mul] at this;omega
  rw[VO,Vt hlt,Vi,<-Nat.add_assoc,<-Ve];exact hu
 .cases he
theorem HR.row{h:Hp}(hh:HR φ A w h){b:Nat}{blk:Blk}(hb:h b=some blk){r z:Nat}(hφ:φ b=some (r,z))(hpos:0<z\/blk.mp=none):
  z=blk.z/\blk.mp=none/\∃cs T,w.heap[r]?=some (.cells cs T (0,0))/\blk.es.length * z<=cs.size/\Row φ A w z blk.es (cs.toList.take (blk.es.length * z)):=by
 rcases hh.blk b blk hb with ⟨_,h0,_⟩ | ⟨r',cs,T,hφ',hr,⟨hsz,hmp⟩,hel⟩ | ⟨_,_,hm0,hφ',⟨_,hz0⟩,_⟩
 .rw[hφ] at h0;cases h0
 case inr.inr=>
  rcases hpos with hpos | hpos
  .rw[hφ] at hφ';simp at hφ';omega
  .rw[hpos] at hm0;cases hm0
 rw[hφ] at hφ';simp only[Vc,Vm] at hφ';obtain⟨rfl,rfl⟩:=hφ';refine⟨rfl,hmp,cs,T,hr,hsz,by simp;omega,fun i e he=>?_⟩;obtain⟨hl,hc⟩:=hel i e he;refine⟨hl,fun j c hj=>?_⟩;obtain⟨h1,u,hu,hvr⟩:=hc j c hj;refine⟨h1,u,?_,hvr⟩;have hjz:j<blk.z:=by have:=(Vx.1 hj).1;omega
 have hi:=(Vx.1 he).1;have hlt:i * blk.z+j<blk.es.length * blk.z:=by have:=VM blk.z (show i+1<=blk.es.length from hi);rw[Nat.succ_mul] at this;omega
 rw[VO,Vt hlt];simpa using hu
theorem HR.zpos{h:Hp}(hh:HR φ A w h){b:Nat}{blk:Blk}(hb:h b=some blk){r z:Nat}(hφ:φ b=some (r,z))(hz:0<blk.z):0<z:=by
 rcases hh.blk b blk hb with ⟨_,h0,_⟩ | ⟨_,_,_,h0,_⟩ | ⟨_,_,_,h0,_⟩
 .rw[hφ] at h0;cases h0
 .rw[hφ] at h0;simp at h0;omega
 .rw[hφ] at h0;simp at h0;omega
def Src(φ:Phi)(A:Nat->Prop)(w:World)(z:Nat)(src:List AV)(v:Value):Prop:=∃(a:Option Addr) (c:Nat) (us:List Value),v = .slice a src.length c/\Row φ A w z src us/\(a=none->src=[]/\c=0)/\ ∀ad,a=some ad->∀(j:Nat) u,us[j]?=some u->w.cell? (ad.add j)=some u
theorem Src.nil{z:Nat}{a:Option Addr}:Src φ A w z [] (.slice a 0 0):=⟨a,0,[],rfl,⟨by simp,fun i e he=>by simp at he⟩,fun _=>⟨rfl,rfl⟩,fun _ _ j u hu=>by simp at hu⟩
theorem Src.sl{h:Hp}(hh:HR φ A w h){b i m z:Nat}{blk:Blk}{v:Value}(hb:h b=some blk)(hv:VR φ A w (.sl b i m) v)(hz:blk.z=z)(hl:i+m<=blk.es.length)(hpos:0<z):
  Src φ A w z ((blk.es.drop i).take m) v:=by
 have hlen:((blk.es.drop i).take m).length=m:=by simp;omega
 rcases hv.sl_inv with ⟨rfl,a,rfl⟩ | ⟨r,z',cap,hφ,hn,hrow,rfl⟩
 .simpa using Src.nil
 .obtain⟨hzz,_,cs,T,hr,hsz,hrow'⟩:=hh.row hb hφ (.inl <| by
   rcases hh.blk b blk hb with ⟨_,h0,_⟩ | ⟨_,_,_,h0,_⟩ | ⟨_,_,_,h0,_⟩
   .rw[hφ] at h0;cases h0
   .rw[hφ] at h0;simp at h0;omega
   .rw[hφ] at h0;simp at h0;omega)
  subst hzz;subst hz;refine⟨some ⟨r,i * blk.z,none⟩,cap,_,by rw[hlen],hrow'.sub i m hl,by simp,fun ad hd j u hu=>?_⟩;cases hd;rw[VO] at hu;split at hu
  .rw[Vi,VO] at hu;split at hu
   .rw[Addr.add_lit,cell_of_row w r _ cs T (0,0) hr];simpa using hu
   .cases hu
  .cases hu
theorem Src.lst{es:List AV}{v:Value}{z:Nat}(hv:VR φ A w (.lst es) v)(hz:∀e∈es,e.cells.length=z)(hpos:0<z):Src φ A w z es v:=by
 rcases hv.lst_inv with ⟨rfl,a,rfl⟩ | ⟨r,o,cap,z',g,rfl,hcap,hA,hz',h1,hc,hrt⟩
 .exact Src.nil
 .by_cases hes:es=[]
  .subst hes;exact⟨some ⟨r,o,none⟩,cap,[],rfl,⟨by simp,fun i e he=>by simp at he⟩,by simp,fun _ _ j u hu=>by simp at hu⟩
  .have hzz:z'=z:=by obtain⟨e,he⟩:=List.exists_mem_of_ne_nil es hes;rw[<-hz e he,hz' e he]
   subst hzz;refine⟨some ⟨r,o,none⟩,cap,(List.range (es.length * z')).map fun k=>g (k / z') (k % z'),rfl,⟨by simp,fun i e he=>?_⟩,by simp,fun ad hd j u hu=>?_⟩
   .refine⟨hz e (Vz he),fun j c hj=>?_⟩;have hi:=(Vx.1 he).1;have hjz:j<z':=by have:=(Vx.1 hj).1;rw[hz e (Vz he)] at this;exact this
    have hlt:i * z'+j<es.length * z':=by have:=VM z' (show i+1<=es.length from hi);rw[Nat.succ_mul] at this;omega
    refine⟨h1 e (Vz he) c (Vz hj),g i j,?_,.imm _ _ (hrt i j e c he hj)⟩;have hdiv:(i * z'+j) / z'=i:=by rw[Vd,Nat.mul_add_div hpos,Nat.div_eq_of_lt hjz,Vk]
    have hmod:(i * z'+j) % z'=j:=by rw[Vd,Nat.mul_add_mod];exact Vo hjz
    simp[hlt,hdiv,hmod]
   .cases hd;simp only[VF,Option.map_eq_some_iff] at hu;obtain⟨k,hk,rfl⟩:=hu;obtain⟨hk1,hk2⟩:=Vx.1 hk;simp at hk1 hk2;subst hk2;have hkd:j / z'<es.length:=by rw[Nat.div_lt_iff_lt_mul hpos];exact hk1
    have:=hc (j / z') (j % z') hkd (Nat.mod_lt _ hpos);rw[Nat.add_assoc,Vd,Nat.div_add_mod] at this;rw[Addr.add_lit];exact this
def Ca(h:Hp)(x:AV):Option (List AV):=
 match x with
 | .nils=>some []
 | .lst es=>some es
 | .sl b i m=>match h b with
  | some blk=>some ((blk.es.drop i).take m)
  | none=>none
 | _=>none
def BG(h:Hp)(z:Nat)(x:AV):Prop:=
 match x with
 | .nils=>True
 | .lst es=>∀e∈es,e.cells.length=z
 | .sl b i m=>match h b with
  | some blk=>blk.z=z/\i+m<=blk.es.length
  | none=>False
 | _=>False
theorem Src.of{h:Hp}(hh:HR φ A w h){x:AV}{src:List AV}{z:Nat}{v:Value}(hx:Ca h x=some src)(hf:BG h z x)(hv:VR φ A w x v)(hpos:0<z):Src φ A w z src v:=by
 cases x<;>simp only[Ca,BG] at hx hf<;>try (simp at hx;done)
 .cases hx;rw[hv.nils_inv];exact Src.nil
 .cases hx;exact Src.lst hv hf hpos
 .rename_i b i m;cases hb:h b with
  | none=>simp[hb] at hx
  | some blk=>simp only[hb] at hx hf;cases hx;exact Src.sl hh hb hv hf.1 hf.2 hpos
def Bd(h:Hp)(x:AV):Bool:=
 match x with
 | .sl b _ _=>match h b with
  | some blk=>blk.flat
  | none=>false
 | _=>true
theorem RT.noref{a:AV}{v:Value}(h:RT A w a v)(h1:a.one=true):a.noref=true:=by cases h<;>simp_all [AV.one,AV.noref]
theorem L7{h:Hp}(hh:HR φ A w h){x:AV}{src:List AV}{v:Value}(hx:Ca h x=some src)(hv:VR φ A w x v)(hf:Bd h x=true):Bw src:=by
 cases x<;>simp only[Ca,Bd] at hx hf<;>try (simp at hx;done)
 .cases hx;intro e he;simp at he
 .rename_i es;cases hx;intro e he c hc;rcases hv.lst_inv with ⟨rfl,_⟩ | ⟨r,o,cap,z,g,_,_,_,_,h1,_,hrt⟩
  .simp at he
  .obtain⟨i,hi⟩:=List.getElem?_of_mem he;obtain⟨j,hj⟩:=List.getElem?_of_mem hc;exact(hrt i j e c hi hj).noref (h1 e he c hc)
 .rename_i b i m;cases hb:h b with
  | none=>simp[hb] at hx
  | some blk=>simp only[hb] at hx hf;cases hx;exact fun e he=>hh.flat b blk hb hf e (List.mem_of_mem_drop (List.mem_of_mem_take he))
variable {P:Program}
theorem Tu{w:World}(t ty e:TypeId)(i:TypeInfo)(ht:P.underlying t=some (.slice e))(hi:P.info? e=some i)
  (g sLen sCap:Nat) (cur:Array Value) (T:TypeId) (hg:w.heap[g]?=some (.cells cur T (0,0)))
  (ao:Option Addr) (m c:Nat) (news:List Value) (hl:news.length=m * i.size) (hao:ao=none->m=0/\c=0) (hnews:∀ad,ao=some ad->∀(j:Nat) u,news[j]?=some u->w.cell? (ad.add j)=some u)
  (h1:∀u∈news,u.oneCell'=true) (hroom:sLen+m<=sCap) (hfit:sLen * i.size+news.length<=cur.size):
  (Builtin.append_ #[t,t] ty #[.slice (some ⟨g,0,none⟩) sLen sCap,.slice ao m c]).run P w =
   .ok (.slice (some ⟨g,0,none⟩) (sLen+m) sCap) (w.setRow g (cur.toList.take (sLen * i.size)++news++cur.toList.drop (sLen * i.size+news.length)).toArray):=by
 have hst:=run_storeCells_at P g (sLen * i.size) T news 0 cur w hg (by simpa using hfit) h1;simp only[Vk] at hst;have hf:(Builtin.firstCells i.size m (.slice ao m c)).run P w = .ok news.toArray w:=by
  cases ao with
  | none=>obtain⟨rfl,rfl⟩:=hao rfl;have:news=[]:=List.eq_nil_of_length_eq_zero (by simpa using hl);subst this;exact run_firstCells_none w i.size 0 0 0
  | some ad=>exact run_firstCells_some (P:=P) w i.size m ad m c news hl (hnews ad rfl)
 simp[Builtin.append_,run_underlying ht,sizeOf,typeInfo,hi,Builtin.lenOf,hroom,hf,Addr.add_lit,hst]
theorem TY{w:World}(t ty e:TypeId)(i:TypeInfo)(ht:P.underlying t=some (.slice e))(hi:P.info? e=some i)(a ao:Option Addr)(c:Nat):
  (Builtin.append_ #[t,t] ty #[.slice a 0 0,.slice ao 0 c]).run P w = .ok (.slice a 0 0) w:=by
 have hf:(Builtin.firstCells i.size 0 (.slice ao 0 c)).run P w = .ok #[] w:=by
  cases ao with
  | none=>simp[Builtin.firstCells]
  | some ad=>simp[Builtin.firstCells,loadCells,loadCellsFrom]
 cases a<;>simp[Builtin.append_,run_underlying ht,sizeOf,typeInfo,hi,Builtin.lenOf,hf,storeCells]
def upd(φ:Phi)(nb:Nat)(x:Nat×Nat):Phi:=fun b=>if b=nb then some x else φ b
theorem Eff.grow{φ:Phi}{A:Nat->Prop}{w:World}{h:Hp}{nb z:Nat}{dead:List Nat}{es:List AV}{us extra:List Value}{T:TypeId}{n cap:Nat}{flat:Bool}(hfl:flat=true->Bw es)
  (hA:∀r,A r->r<w.heap.size/\¬Mut φ h r) (hn:∀b,nb<=b->φ b=none) (hrow:Row φ A w z es us) (_hlen:n=es.length) (hcap:n<=cap) (hsz:cap * z<=us.length+extra.length):
  Eff φ A w h nb {v:=.sl nb 0 n,dead,new:=[{es,z,flat}]} (.slice (some ⟨w.heap.size,0,none⟩) n cap) (w.drew.alloc (.cells (us++extra).toArray T)) (upd φ nb (w.heap.size,z)):=by
 have hheap:(w.drew.alloc (.cells (us++extra).toArray T)).heap=w.heap.push (.cells (us++extra).toArray T):=rfl;have hnew:(w.drew.alloc (.cells (us++extra).toArray T)).heap[w.heap.size]?=some (.cells (us++extra).toArray T (0,0)):=heap_alloc_new w.drew _;have hold:∀r,r<w.heap.size->(w.drew.alloc (.cells (us++extra).toArray T)).heap[r]?=w.heap[r]?:=fun r hr=>RowKit.Below.heap_alloc w.drew _ r hr
 have hrs:Bj (w.drew.alloc (.cells (us++extra).toArray T)) w.heap.size=us.length+extra.length:=by unfold Bj;rw[hnew];simp
 have hφ:∀b x,φ b=some x->upd φ nb (w.heap.size,z) b=some x:=fun b x hb=>by
  simp only[upd];split
  .rename_i he;subst he;rw[hn b (VH _)] at hb;cases hb
  .exact hb
 refine⟨⟨rfl,rfl,rfl,by simp,fun r hr _=>hold r hr,Kr w _ _ hheap⟩,fun b hb=>?_,fun b hb=>?_,fun b r z' hb h1=>?_,fun b b' r z1 z2 hb hb' h1 h2=>?_,?_,fun b blk hm=>by simp at hm,fun blk hm=>by simp at hm;subst hm;exact hfl,?_,?_⟩
 .simp only[upd];rw[Vu (by omega)]
 .simp at hb;simp only[upd];rw[Vu (by omega)];exact hn b (by omega)
 .simp only[upd] at h1;split at h1
  .simp at h1;left;simp;omega
  .rw[hn b hb] at h1;cases h1
 .simp only[upd] at h1 h2;by_cases e1:b=nb
  .by_cases e2:b'=nb
   .omega
   .rw[Vu e2,hn b' hb'] at h2;cases h2
  .rw[Vu e1,hn b hb] at h1;cases h1
 .have:=VR.sl (φ:=upd φ nb (w.heap.size,z)) (A:=Bk A (upd φ nb (w.heap.size,z)) nb w (w.drew.alloc (.cells (us++extra).toArray T)))
   (w:=w.drew.alloc (.cells (us++extra).toArray T)) nb 0 n w.heap.size z cap (by simp[upd]) hcap (by rw[hrs,VL];exact hsz)
  simpa using this
 .intro b blk hm;simp at hm
 .intro k' blk hk;match k',hk with
  | 0,hk=>simp at hk;subst hk;refine .inr (.inl ⟨w.heap.size,(us++extra).toArray,T,by simp[upd],hnew,⟨by simp[hrow.len],rfl⟩,fun i e he=>?_⟩);obtain⟨hl,hc⟩:=hrow.cell i e he;refine⟨hl,fun j c hj=>?_⟩;obtain⟨h1,u,hu,hvr⟩:=hc j c hj;refine⟨h1,u,?_,hvr.mono hφ (fun _ h=>.inl h) (fun r hr=>hold r (hA r hr).1) (Kr w _ _ hheap)⟩;have hlt:=(Vx.1 hu).1;rw[List.getElem?_toArray,List.getElem?_append_left hlt];exact hu
theorem Jl(l:List Value)(a:Array Value):l.toArray++a=(l++a.toList).toArray:=by apply Array.ext';simp
theorem Eff.nought{φ:Phi}{A:Nat->Prop}{w:World}{h:Hp}{nb z:Nat}{dead:List Nat}{a:Option Addr}{flat:Bool}(hn:∀b,nb<=b->φ b=none):
  Eff φ A w h nb {v:=.sl nb 0 0,dead,new:=[{es:=[],z,flat}]} (.slice a 0 0) w φ:=by
 refine⟨Bt.refl _ w,fun _ _=>rfl,fun b hb=>hn b (by simp at hb;omega),fun b r z' hb h1=>?_,fun b b' r z1 z2 hb hb' h1 h2=>?_,.slnil nb 0 a,fun b blk hm=>by simp at hm,fun blk hm=>by simp at hm;subst hm;intro _ e he;simp at he,fun b blk hm=>by simp at hm,fun k blk hk=>?_⟩
 .rw[hn b hb] at h1;cases h1
 .rw[hn b hb] at h1;cases h1
 .match k,hk with
  | 0,hk=>simp at hk;subst hk;exact .inl ⟨rfl,hn _ (by omega),rfl,rfl⟩
theorem K0{o:Oper}{ev:Operand->AV}{h:Hp}{nb:Nat}{t:TypeId}{x y:Operand}{e:AV}{z by_:Nat}{old src:List AV}{dead:List Nat}{fl:Bool}
  (ho:o.op = .call {callee:=.builtin .append,args:=#[x,y],argTypes:=#[t,t]}) (ht:Cl P t=some (e,z,by_))
  (hx:((ev x = .nils\/∃b,nb<=b/\ev x = .sl b 0 0)/\old=[]/\dead=[]/\fl=true)\/∃b n blk,ev x = .sl b 0 n/\h b=some blk/\blk.z=z/\blk.wr=true/\blk.flat=fl/\blk.es=old/\blk.es.length=n/\dead=[b])
  (hy:Ca h (ev y)=some src) (hf:BG h z (ev y)) (h63:old.length+src.length<=9223372036854775807) (hb:(old.length+src.length) * by_<=140737488355328):
  Aq P o ev h nb {v:=.sl nb 0 (old.length+src.length),dead,new:=[{es:=old++src,z,flat:=fl&&Bd h (ev y)}]}:=by
 intro φ A w ac K Q hA hv hh hn k
 obtain⟨el,i,zv,hu,hi,hz,rfl,hsz,hby,hkn,hzl,hone,hpos⟩:=Fu ht
 obtain⟨ao,c,news,hvy,hrow,hao,hnews⟩:=Src.of hh hy hf (hv y) hpos
 have hnl:news.length=src.length * i.size:=by rw[hrow.len,hsz]
 have h1s:=hrow.one hpos
 have hzs:zv.cells.size=z:=by
  have:=((VR.imm (φ:=φ) (A:=A) (w:=w) _ _ (RT.absV zv)).cr hkn).1
  simp at this;omega
 have hsf:=L7 hh hy (hv y)
 have wrap:∀(r:Value) (w':World) (φ':Phi),(Builtin.append_ #[t,t] o.type #[ac.eval x,.slice ao src.length c]).run P w = .ok r w'->
   Eff φ A w h nb {v:=.sl nb 0 (old.length+src.length),dead,new:=[{es:=old++src,z,flat:=fl&&Bd h (ev y)}]} r w' φ'->o.wp P ac w K Q:=by
  intro r w' φ' hr he
  unfold Oper.wp
  have hex:(execOp ac.eval o).run P w = .ok (.value r) w':=by
   rw[<-hvy] at hr
   generalize ac.eval=ρ at *
   simp[execOp,ho,resolve,invoke,builtin,hr]
  rw[hex]
  exact k r w' φ' he
 have hzero:∀n,(Builtin.zeroCells zv.cells n).toList.length=n * z:=by intro n;simp[size_zeroCells,hzs]
 -- the base has length and capacity nought
 have nought:∀a:Option Addr,ac.eval x = .slice a 0 0->old=[]->o.wp P ac w K Q:=by
  intro a ha hold
  subst hold
  by_cases hm:src.length=0
  .have hs:src=[]:=List.eq_nil_of_length_eq_zero hm
   subst hs
   refine wrap (.slice a 0 0) w φ (by rw[ha];exact TY t o.type el i hu hi a ao c) ?_
   simpa using Eff.nought (z:=z) hn
  .have hne:ao≠none:=fun h0=>hm (by rw[(hao h0).1];rfl)
   obtain⟨ad,rfl⟩:=Option.ne_none_iff_exists'.1 hne
   simp only[Wb,VL] at h63 hb
   have hg:=grownCap_ge w src.length 0 el
   refine wrap (.slice (some ⟨w.heap.size,0,none⟩) src.length (grownCap w src.length 0 el)) (w.drew.alloc (.cells (news.toArray++Builtin.zeroCells zv.cells (grownCap w src.length 0 el-src.length)) el)) (upd φ nb (w.heap.size,i.size)) ?_ ?_
   .rw[ha]
    cases a with
    | none=>exact run_append_nil w t o.type el i zv hu hi hz ad src.length c news hnl (hnews ad rfl) (by omega) (by omega) (by rw[hby];omega)
    | some a'=>
     have:=run_append_grow (P:=P) w t o.type el i zv hu hi hz a' 0 0 [] (by simp) (by intro j v hj;simp at hj) ad src.length c news hnl (hnews ad rfl) (by omega) (by omega) (growslice_fits (by omega) (by rw[hby];simpa using hb))
     simpa using this
   .rw[hsz]
    have:=Eff.grow (dead:=dead) (T:=el) (n:=src.length) (cap:=grownCap w src.length 0 el) (flat:=fl&&Bd h (ev y)) (fun hf=>hsf (by simp only[VD] at hf;exact hf.2)) (extra:=(Builtin.zeroCells zv.cells (grownCap w src.length 0 el-src.length)).toList) hA hn hrow rfl hg
     (by rw[hzero,hrow.len,Nat.sub_mul];have:=VM z hg;omega)
    rw[Jl]
    simpa using this
 rcases hx with ⟨hx,rfl,rfl,rfl⟩ | ⟨b,n,blk,hx,hbl,hbz,hwr,rfl,rfl,hln,rfl⟩
 .rcases hx with hx | ⟨b,hnb,hx⟩
  .have h0:=hv x;rw[hx] at h0
   exact nought none h0.nils_inv rfl
  .have h0:=hv x;rw[hx] at h0
   rcases h0.sl_inv with ⟨_,a,he⟩ | ⟨r,z',cap,hφ,_⟩
   .exact nought a he rfl
   .rw[hn b hnb] at hφ;cases hφ
 .have h0:=hv x;rw[hx] at h0
  rcases h0.sl_inv with ⟨hn0,a,he⟩ | ⟨r,z',cap,hφ,hnc,hrw,he⟩
  .exact nought a he (List.eq_nil_of_length_eq_zero (by omega))
  .obtain⟨hzz,hmpn,cs,T,hr,hsz',hrow'⟩:=hh.row hbl hφ (.inl (hh.zpos hbl hφ (by omega)))
   have hz':z'=z:=by omega
   subst hz'
   have hrc:cap * z'<=cs.size:=by have:=hrw;rw[VL] at this;unfold Bj at this;rw[hr] at this;exact this
   have hboth:=hrow'.append hrow
   have hboth2:(blk.flat&&Bd h (ev y))=true->Bw (blk.es++src):=by
    intro hf e' he'
    simp only[VD] at hf
    rcases VZ.1 he' with hm | hm
    .exact hh.flat b blk hbl hf.1 e' hm
    .exact hsf hf.2 e' hm
   simp only[Nat.zero_mul] at he
   by_cases hroom:n+src.length<=cap
   .have hfit:n * i.size+news.length<=cs.size:=by rw[hnl,<-Ve,hsz];exact Wd (VM z' hroom) hrc
    have hrun:=Tu (P:=P) (w:=w) t o.type el i hu hi r n cap cs T hr ao src.length c news hnl (fun h0=>⟨by rw[(hao h0).1];rfl,(hao h0).2⟩) hnews h1s hroom hfit
    have hcs':cs.size=(cs.toList.take (n * i.size)++news++cs.toList.drop (n * i.size+news.length)).toArray.size:=by simp;omega
    let φ':Phi:=fun b'=>if b'=nb then some (r,z') else φ b'
    have hbn:b<nb:=by
     rcases Wm b nb with h1 | h1
     .exact h1
     .rw[hn b h1] at hφ;cases hφ
    have hφ':∀b x,φ b=some x->φ' b=some x:=fun b' x hb'=>by
     simp only[φ'];split
     .rename_i he;subst he;rw[hn b' (VH _)] at hb';cases hb'
     .exact hb'
    have hother:∀q,q≠r->(w.setRow r (cs.toList.take (n * i.size)++news++cs.toList.drop (n * i.size+news.length)).toArray).heap[q]?=w.heap[q]?:=fun q hq=>setRow_other w r q _ hq
    have hAr:∀q,A q->q≠r:=fun q hq he'=>(hA q hq).2 ⟨b,blk,z',hbl,hwr,by rw[he'];exact hφ⟩
    have hrs:=KE w r cs _ T _ hr hcs'
    refine wrap _ _ φ' (by rw[he];exact hrun) ?_
    refine⟨⟨rfl,rfl,rfl,by simp,fun q _ hq=>hother q fun he'=>hq ⟨b,z',.inl (by simp),by rw[he'];exact hφ⟩,hrs⟩,fun b' hb'=>?_,fun b' hb'=>?_,fun b' q z1 hb' h1=>?_,fun b1 b2 q z1 z2 hb1 hb2 h1 h2=>?_,?_,fun b' blk' hm=>by simp at hm,fun blk' hm=>by simp at hm;subst hm;exact hboth2,fun b' blk' hm=>by simp at hm,fun k' blk' hk=>?_⟩
    .simp only[φ'];rw[Vu (by omega)]
    .simp at hb';simp only[φ'];rw[Vu (by omega)];exact hn b' (by omega)
    .simp only[φ'] at h1
     split at h1
     .simp at h1;right;exact⟨b,z',blk,by simp,hbl,hwr,by rw[<-h1.1];exact hφ⟩
     .rw[hn b' hb'] at h1;cases h1
    .simp only[φ'] at h1 h2
     by_cases e1:b1=nb
     .by_cases e2:b2=nb
      .omega
      .rw[Vu e2,hn b2 hb2] at h2;cases h2
     .rw[Vu e1,hn b1 hb1] at h1;cases h1
    .have:=VR.sl (φ:=φ') (A:=Bk A φ' nb w (w.setRow r (cs.toList.take (n * i.size)++news++cs.toList.drop (n * i.size+news.length)).toArray))
      (w:=w.setRow r (cs.toList.take (n * i.size)++news++cs.toList.drop (n * i.size+news.length)).toArray) nb 0 (n+src.length) r z' cap (by simp[φ']) hroom (Wd hrw (hrs r))
     rw[hln]
     simpa using this
    .match k',hk with
     | 0,hk=>
      simp at hk;subst hk
      refine .inr (.inl ⟨r,_,T,by simp[φ'],setRow_heap w r cs _ T _ hr,⟨?_,rfl⟩,fun q e' he'=>?_⟩)
      .rw[<-hcs'];simp only[VP];rw[hln];exact Wd (VM z' hroom) hrc
      .obtain⟨hl,hc⟩:=hboth.cell q e' he'
       refine⟨hl,fun j c' hj=>?_⟩
       obtain⟨g1,u,hu',hvr⟩:=hc j c' hj
       refine⟨g1,u,?_,hvr.mono hφ' (fun _ h=>.inl h) (fun q hq=>hother q (hAr q hq)) hrs⟩
       have hlt:=(Vx.1 hu').1
       rw[List.getElem?_toArray,hsz,<-hln,List.getElem?_append_left hlt];exact hu'
   .have holds:∀(j:Nat) v,(cs.toList.take (blk.es.length * z'))[j]?=some v->w.cell? ((⟨r,0,none⟩:Addr).add j)=some v:=by
     intro j v hj
     rw[VO] at hj
     split at hj
     .rw[Addr.add_lit,cell_of_row w r _ cs T (0,0) hr];simpa using hj
     .cases hj
    have hge:=grownCap_ge w (n+src.length) cap el
    have hne:ao≠none:=by
     intro h0;have:=(hao h0).1;subst this;simp at hroom;omega
    obtain⟨ad,rfl⟩:=Option.ne_none_iff_exists'.1 hne
    refine wrap (.slice (some ⟨w.heap.size,0,none⟩) (n+src.length) (grownCap w (n+src.length) cap el))
     (w.drew.alloc (.cells ((cs.toList.take (blk.es.length * z')).toArray++news.toArray++Builtin.zeroCells zv.cells (grownCap w (n+src.length) cap el-(n+src.length))) el)) (upd φ nb (w.heap.size,z')) ?_ ?_
    .rw[he]
     exact run_append_grow (P:=P) w t o.type el i zv hu hi hz ⟨r,0,none⟩ n cap (cs.toList.take (blk.es.length * z')) (by rw[hrow'.len,hln,hsz]) holds ad src.length c news hnl (hnews ad rfl) (by omega) (by omega)
      (growslice_fits (by omega) (by rw[hby,<-hln];exact hb))
    .have:=Eff.grow (dead:=[b]) (T:=el) (n:=n+src.length) (cap:=grownCap w (n+src.length) cap el) (flat:=blk.flat&&Bd h (ev y)) hboth2 (extra:=(Builtin.zeroCells zv.cells (grownCap w (n+src.length) cap el-(n+src.length))).toList) hA hn hboth
      (by simp[hln]) hge (by rw[hzero,hboth.len,VP,hln,Nat.sub_mul];have:=VM z' hge;omega)
     rw[List.append_toArray,Jl]
     rw[<-hln] at this ⊢
     simpa using this
theorem U3{o:Oper}{ev:Operand->AV}{h:Hp}{nb:Nat}{t:TypeId}{x y:Operand}{e:AV}{z by_:Nat}{old src:List AV}
  (ho:o.op = .call {callee:=.builtin .append,args:=#[x,y],argTypes:=#[t,t]}) (ht:Cl P t=some (e,z,by_)) (hx:ev x = .lstc old) (hold:∀e∈old,e.cells.length=z)
  (hy:Ca h (ev y)=some src) (hf:BG h z (ev y)) (hpl:0<src.length) (h63:old.length+src.length<=9223372036854775807) (hb:(old.length+src.length) * by_<=140737488355328):
  Aq P o ev h nb {v:=.sl nb 0 (old.length+src.length),new:=[{es:=old++src,z,flat:=Bd h (ev y)}]}:=by
 intro φ A w ac K Q hA hv hh hn k;obtain⟨el,i,zv,hu,hi,hz,rfl,hsz,hby,hkn,hzl,hone,hpos⟩:=Fu ht;obtain⟨ao,c,news,hvy,hrow,hao,hnews⟩:=Src.of hh hy hf (hv y) hpos;have hnl:news.length=src.length * i.size:=by rw[hrow.len,hsz]
 have hzs:zv.cells.size=z:=by have:=((VR.imm (φ:=φ) (A:=A) (w:=w) _ _ (RT.absV zv)).cr hkn).1;simp at this;omega
 have hsf:=L7 hh hy (hv y);have h0:=hv x;rw[hx] at h0;obtain⟨a0,hv0,hl0⟩:=h0.lstc_inv;have hnoref:Bw old:=by
  intro e he c hc;rcases hl0.lst_inv with ⟨rfl,_⟩ | ⟨r,o,cap,z,g,_,_,_,_,h1,_,hrt⟩
  .simp at he
  .obtain⟨i,hi⟩:=List.getElem?_of_mem he;obtain⟨j,hj⟩:=List.getElem?_of_mem hc;exact(hrt i j e c hi hj).noref (h1 e he c hc)
 obtain⟨a,c0,us,hvx,hrow0,ha0,hus⟩:=Src.lst hl0 hold hpos;rw[hvx] at hv0;cases hv0
 have wrap:∀(r:Value) (w':World) (φ':Phi),(Builtin.append_ #[t,t] o.type #[.slice a0 old.length old.length,.slice ao src.length c]).run P w = .ok r w'->
   Eff φ A w h nb {v:=.sl nb 0 (old.length+src.length),new:=[{es:=old++src,z,flat:=Bd h (ev y)}]} r w' φ'->o.wp P ac w K Q:=by
  intro r w' φ' hr he;unfold Oper.wp;have hex:(execOp ac.eval o).run P w = .ok (.value r) w':=by rw[<-hvy,<-hvx] at hr;generalize ac.eval=ρ at *;simp[execOp,ho,resolve,invoke,builtin,hr]
  rw[hex];exact k r w' φ' he
 have hzero:∀n,(Builtin.zeroCells zv.cells n).toList.length=n * z:=by intro n;simp[size_zeroCells,hzs]
 have hne:ao≠none:=fun h0=>by have:=(hao h0).1;subst this;simp at hpl
 obtain⟨ad,rfl⟩:=Option.ne_none_iff_exists'.1 hne;have hboth:=hrow0.append hrow;have hge:=grownCap_ge w (old.length+src.length) old.length el;have hfl:Bd h (ev y)=true->Bw (old++src):=by
  intro hf e' he';rcases VZ.1 he' with hm | hm
  .exact hnoref e' hm
  .exact hsf hf e' hm
 have hlen0:us.length=old.length * i.size:=by rw[hrow0.len,hsz]
 have fin:∀capn,old.length+src.length<=capn->(Builtin.append_ #[t,t] o.type #[.slice a0 old.length old.length,.slice (some ad) src.length c]).run P w = .ok (.slice (some ⟨w.heap.size,0,none⟩) (old.length+src.length) capn) (w.drew.alloc (.cells (us.toArray++news.toArray++Builtin.zeroCells zv.cells (capn-(old.length+src.length))) el))->o.wp P ac w K Q:=by
  intro capn hcap hrun;refine wrap _ _ (upd φ nb (w.heap.size,z)) hrun ?_
  have:=Eff.grow (dead:=[]) (T:=el) (n:=old.length+src.length) (cap:=capn) (flat:=Bd h (ev y)) hfl (extra:=(Builtin.zeroCells zv.cells (capn-(old.length+src.length))).toList) hA hn hboth
   (by simp) hcap (by rw[hzero,hboth.len,VP,Nat.sub_mul];have:=VM z hcap;omega)
  rw[List.append_toArray,Jl];simpa using this
 cases a0 with
 | none=>obtain⟨rfl,_⟩:=ha0 rfl;have hus0:us=[]:=List.eq_nil_of_length_eq_zero (by rw[hlen0];simp);subst hus0;simp only[Wb,VL] at h63 hb;have hg:=grownCap_ge w src.length 0 el;refine fin (grownCap w src.length 0 el) (by simpa using hg) ?_;have:=run_append_nil (P:=P) w t o.type el i zv hu hi hz ad src.length c news hnl (hnews ad rfl) (by omega) (by omega) (by rw[hby];omega);simpa using this
 | some a'=>
  refine fin _ hge ?_
  exact run_append_grow (P:=P) w t o.type el i zv hu hi hz a' old.length old.length us hlen0 (fun j v hj=>hus a' rfl j v hj) ad src.length c news hnl (hnews ad rfl) (by omega) (by omega)
   (growslice_fits (by omega) (by rw[hby];exact hb))
theorem R2(l:List Value)(p q:Nat)(h:p<=q):l.drop p=(l.take q).drop p++l.drop q:=by
 have:l.drop q=(l.drop p).drop (q-p):=by rw[Vh];congr 1;omega
 rw[List.drop_take,this,List.take_append_drop]
theorem ok_copy{o:Oper}{ev:Operand->AV}{h:Hp}{nb:Nat}{t t':TypeId}{x y:Operand}{b i n z by_:Nat}{blk:Blk}{src:List AV}{e:AV}
  (ho:o.op = .call {callee:=.builtin .copy,args:=#[x,y],argTypes:=#[t,t']}) (ht:Cl P t=some (e,z,by_))
  (hx:ev x = .sl b i n) (hb:h b=some blk) (hz:blk.z=z) (hw:blk.wr=true) (hin:i+n<=blk.es.length) (hy:Ca h (ev y)=some src) (hf:BG h z (ev y)):
  Aq P o ev h nb {v:=.int .i64 (min src.length n:Nat),chg:=[(b,{blk with es:=blk.es.take i++src.take (min src.length n)++blk.es.drop (i+min src.length n),flat:=blk.flat&&Bd h (ev y)})]}:=by
 intro φ A w ac K Q hA hv hh hn k;obtain⟨el,inf,zv,hu,hi,hzz,rfl,hsz,hby,hkn,hzl,hone,hpos⟩:=Fu ht;obtain⟨ao,c,news,hvy,hrow,hao,hnews⟩:=Src.of hh hy hf (hv y) hpos;generalize hm:min src.length n=m at *;have hms:m<=src.length:=by omega
 have hmn:m<=n:=by omega
 have h0:=hv x;rw[hx] at h0;have hsub:=hrow.sub 0 m (by omega);simp only[Nat.zero_mul,List.drop_zero] at hsub;have hvl:(news.take (m * z)).length=m * z:=by have:=hsub.len;rw[this];simp;rw[Nat.min_eq_left hms]
 have hfirst:(Builtin.firstCells inf.size m (.slice ao src.length c)).run P w = .ok (news.take (m * z)).toArray w:=by
  cases ao with
  | none=>
   have:m=0:=by have:=(hao rfl).1;subst this;simpa using hms
   subst this;simp[Builtin.firstCells]
  | some ad=>
   refine run_firstCells_some (P:=P) w inf.size m ad src.length c _ (by rw[hvl,hsz]) fun j u hj=>hnews ad rfl j u ?_
   rw[VO] at hj;split at hj
   .exact hj
   .cases hj
 have exec:∀(a:Option Addr) (cap:Nat) (w':World),ac.eval x = .slice a n cap->((∀ad,a=some ad->(storeCells ad (news.take (m * z))).run P w = .ok () w')/\(a=none->w'=w))->
   (execOp ac.eval o).run P w = .ok (.value (.int .i64 (m:Nat))) w':=by
  intro a cap w' ha hst;generalize ac.eval=ρ at *;have hmin:Nat.min src.length n=m:=hm;cases a with
  | none=>have:=hst.2 rfl;subst this;simp[execOp,ho,resolve,invoke,builtin,Builtin.copy_,run_underlying hu,ha,hvy,Builtin.lenOf,sizeOf,typeInfo,hi,hmin,hfirst,goInt]
  | some ad=>have:=hst.1 ad rfl;simp[execOp,ho,resolve,invoke,builtin,Builtin.copy_,run_underlying hu,ha,hvy,Builtin.lenOf,sizeOf,typeInfo,hi,hmin,hfirst,this,goInt]
 have hsf:=L7 hh hy (hv y);have hfl:(blk.flat&&Bd h (ev y))=true->Bw (blk.es.take i++src.take m++blk.es.drop (i+m)):=by
  intro hf e' he';simp only[VD] at hf;rcases VZ.1 he' with hm' | hm'
  .rcases VZ.1 hm' with hm' | hm'
   .exact hh.flat b blk hb hf.1 e' (List.mem_of_mem_take hm')
   .exact hsf hf.2 e' (List.mem_of_mem_take hm')
  .exact hh.flat b blk hb hf.1 e' (List.mem_of_mem_drop hm')
 have same:m=0->blk.es.take i++src.take m++blk.es.drop (i+m)=blk.es:=by intro h;subst h;simp
 unfold Oper.wp;rcases h0.sl_inv with ⟨hn0,a,he⟩ | ⟨r,z',cap,hφ,hnc,hrw,he⟩
 .have hm0:m=0:=by omega
  rw[exec a 0 w (by rw[he,hn0]) ⟨fun ad _=>by rw[hm0];simp[storeCells],fun _=>rfl⟩];refine k _ w φ ⟨Bt.refl _ w,fun _ _=>rfl,fun b' hb'=>hn b' (by simpa using hb'),fun b' r' z' hb' h1=>?_,fun b1 b2 r' z1 z2 hb1 hb2 h1 h2=>?_,.imm _ _ (.int _ _),fun b' blk' hmm=>by simp only[Vn,Vm] at hmm;obtain⟨_,rfl⟩:=hmm;exact hfl,fun blk' hmm=>by simp at hmm,fun b' blk' hmm=>?_,fun k' blk' hk=>by simp at hk⟩
  .rw[hn b' hb'] at h1;cases h1
  .rw[hn b1 hb1] at h1;cases h1
  .simp only[Vn,Vm] at hmm;obtain⟨rfl,rfl⟩:=hmm;rw[same hm0];rcases hh.blk b' blk hb with hl | ⟨r,cs,T,h1,h2,h3,h4⟩ | hl
   .exact .inl hl
   .refine .inr (.inl ⟨r,cs,T,h1,h2,h3,fun i e he=>?_⟩);obtain⟨g1,g2⟩:=h4 i e he;refine⟨g1,fun j c hj=>?_⟩;obtain⟨g3,u,g4,g5⟩:=g2 j c hj;exact⟨g3,u,g4,g5.mono (fun _ _ h=>h) (fun _ h=>.inl h) (fun _ _=>rfl) (fun _=>VH _)⟩
   .exact .inr (.inr hl)
 .obtain⟨hz2,hmpn,cs,T,hr,hsz',hrow'⟩:=hh.row hb hφ (.inl (hh.zpos hb hφ (by omega)));have hz3:z'=z:=by omega
  subst hz3;have hle:(i+m) * z'<=blk.es.length * z':=VM z' (by omega);have hle':=hle;rw[Ve] at hle';have hones:∀u∈news.take (m * z'),u.oneCell'=true:=hsub.one hpos;have hst:=run_storeCells_at P r (i * z') T (news.take (m * z')) 0 cs w hr (by rw[hvl];omega) hones;simp only[Vk] at hst;rw[exec _ cap _ he ⟨fun ad had=>by cases had;exact hst,fun h=>by cases h⟩];have hlenU:(cs.toList.take (blk.es.length * z')).length=blk.es.length * z':=by simp;omega
  have h1:=hrow'.sub 0 i (by omega);have h2:=hrow'.sub (i+m) (blk.es.length-(i+m)) (by omega);simp only[Nat.zero_mul,List.drop_zero] at h1;have htk:(blk.es.drop (i+m)).take (blk.es.length-(i+m))=blk.es.drop (i+m):=List.take_of_length_le (by simp);rw[htk] at h2;have hall:=(h1.append hsub).append h2
  have hcs:cs.toList.take (i * z')++news.take (m * z')++cs.toList.drop (i * z'+(news.take (m * z')).length) =
    ((cs.toList.take (blk.es.length * z')).take (i * z')++news.take (m * z')++((cs.toList.take (blk.es.length * z')).drop ((i+m) * z')).take ((blk.es.length-(i+m)) * z'))++cs.toList.drop (blk.es.length * z'):=by
   rw[hvl,<-Ve];have e1:(cs.toList.take (blk.es.length * z')).take (i * z')=cs.toList.take (i * z'):=by rw[List.take_take];congr 1;omega
   have e2:((cs.toList.take (blk.es.length * z')).drop ((i+m) * z')).take ((blk.es.length-(i+m)) * z')=(cs.toList.take (blk.es.length * z')).drop ((i+m) * z'):=by apply List.take_of_length_le;rw[Vl,hlenU,Nat.sub_mul];exact VH _
   rw[e1,e2];have e3:=R2 cs.toList ((i+m) * z') (blk.es.length * z') hle;rw[e3];simp only[List.append_assoc]
  refine k _ _ φ (Eff.write (blk':={blk with es:=blk.es.take i++src.take m++blk.es.drop (i+m),flat:=blk.flat&&Bd h (ev y)}) hA hn hb hw hφ hz hr hmpn ?_ (.imm _ _ (.int _ _)) hfl ?_ fun q e he=>?_)
  .simp only[List.size_toArray,VP,VX,Vl,Array.length_toList] at hvl ⊢;rw[hvl];omega
  .simp only[VP,VX,Vl,List.size_toArray,Array.length_toList] at hvl ⊢
   rw[hvl];have:(min i blk.es.length+min m src.length+(blk.es.length-(i+m)))=blk.es.length:=by omega
   rw[this];omega
  .obtain⟨g1,g2⟩:=hall.cell q e he;refine⟨g1,fun j c hj=>?_⟩;obtain⟨g3,u,g4,g5⟩:=g2 j c hj;refine⟨g3,u,?_,g5⟩;rw[hcs,List.getElem?_toArray,List.getElem?_append_left (Vx.1 g4).1];exact g4
def Iu(P:Program)(t:TypeId)(cs:List AV)(off:Nat):Option AV:=
 match tsz P t with
 | some (s,true)=>match Nat.ble (off+s) cs.length with
  | true=>some (.agg ((cs.drop off).take s))
  | false=>none
 | some (_,false)=>cs[off]?
 | none=>none
theorem OA{t:TypeId}{cs:List AV}{us:Array Value}{off:Nat}{v:AV}(hc:CR φ A w cs us.toList)(h:Iu P t cs off=some v):
  ∃u,(part t us off).run P w = .ok u w/\VR φ A w v u:=by
 unfold Iu at h;split at h
 .rename_i s hs;split at h
  .rename_i hle;have hle:=VU hle;cases h;unfold tsz at hs;split at hs
   case h_2=>cases hs
   rename_i i d hi hd;simp only[Vc,Vm] at hs;obtain⟨rfl,hag⟩:=hs;have hus:us.size=cs.length:=by have:=hc.1;simpa using this
   refine⟨.agg (us.extract off (off+i.size)),?_,.agg_mk ⟨by simp;omega,fun k c u hk hu=>?_⟩⟩
   .unfold part isAgg;cases d<;>simp[J7] at hag<;>simp[run_underlying hd,sizeOf,typeInfo,hi]
   .rw[VO] at hk;split at hk
    .rename_i hlt;rw[Vi] at hk;have hu':us.toList[off+k]?=some u:=by
      simp only[Array.toList_extract,List.extract_eq_take_drop] at hu;rw[VO] at hu;split at hu
      .rw[Vi] at hu;exact hu
      .cases hu
     exact hc.2 _ c u hk hu'
    .cases hk
  .cases h
 .rename_i s hs;unfold tsz at hs;split at hs
  case h_2=>cases hs
  rename_i i d hi hd;simp only[Vc,Vm] at hs;obtain⟨_,hag⟩:=hs;have hlt:=(Vx.1 h).1;have hus:us.size=cs.length:=by have:=hc.1;simpa using this
  have hu:us[off]?=some us[off]:=Array.getElem?_eq_getElem (by omega);refine⟨us[off],?_,hc.2 off v _ h (by rw[Array.getElem?_toList];exact hu)⟩;unfold part isAgg;cases d<;>simp[J7] at hag<;>simp[run_underlying hd,hu]
 .cases h
theorem ok_field{o:Oper}{ev:Operand->AV}{h:Hp}{nb:Nat}{t:TypeId}{x:Operand}{f:Nat}{cs:List AV}{fs:Array Field}{fd:Field}{v:AV}
  (ho:o.op = .field t x f) (hx:ev x = .agg cs) (hu:P.underlying t=some (.struct fs)) (hf:fs[f]?=some fd) (hp:Iu P fd.type cs fd.offset=some v):Aq P o ev h nb {v}:=by
 refine .value fun φ A w ρ _ hv _=>?_
 have h1:=hv x;rw[hx] at h1;obtain⟨us,he,hl,hh⟩:=h1.agg_inv;obtain⟨u,hr,hvr⟩:=OA (P:=P) (us:=us.toArray) (φ:=φ) (A:=A) (w:=w) ⟨by simpa using hl,by simpa using hh⟩ hp;exact⟨u,by simp[execOp,ho,Instr.field,run_underlying hu,hf,he,asAgg,hr],hvr⟩
mutual
def eqA(P:Program):Nat->TypeId->AV->AV->Option Bool
 | 0,_,_,_=>none
 | d+1,t,x,y=>
  match P.underlying t,x,y with
  | some .bool,.bool a,.bool b=>some (a==b)
  | some (.int _),.int k a,.int k' b=>if k=k' then some (a==b) else none
  | some .string,.str a,.str b=>some (a==b)
  | some (.struct fs),.agg xs,.agg ys=>match P.stoodInHeld t with
   | false=>eqF P d xs ys fs.toList
   | true=>none
  | _,_,_=>none
def eqF(P:Program):Nat->List AV->List AV->List Field->Option Bool
 | 0,_,_,_=>none
 | _+1,_,_,[]=>some true
 | d+1,xs,ys,f::fs=>
  match decide (f.name = "_"), Iu P f.type xs f.offset, Iu P f.type ys f.offset with
  | false,some a,some b=>match eqA P d f.type a b,eqF P d xs ys fs with
   | some p,some q=>some (p&&q)
   | _,_=>none
  | _,_,_=>none
end
theorem eq_sound:∀(n:Nat),
  (∀(t:TypeId) (x y:AV) (u v:Value) (b:Bool),eqA P n t x y=some b->VR φ A w x u->VR φ A w y v->∀d,n<=d->(Op.equalIn d t u v).run P w = .ok b w)/\
  (∀(xs ys:List AV) (us vs:Array Value) (fs:List Field) (b:Bool),eqF P n xs ys fs=some b->CR φ A w xs us.toList->CR φ A w ys vs.toList->∀d,n<=d->(Op.eqFields d us vs fs).run P w = .ok b w):=by
 intro n
 induction n with
 | zero=>exact⟨fun t x y u v b h=>by simp[eqA] at h,fun xs ys us vs fs b h=>by simp[eqF] at h⟩
 | succ n ih=>
  refine⟨fun t x y u v b h hx hy d hd=>?_,fun xs ys us vs fs b h hx hy d hd=>?_⟩
  .obtain⟨d,rfl⟩:∃d',d=d'+1:=⟨d-1,by omega⟩
   simp only[eqA] at h
   split at h
   .rename_i a b' hu;cases h;rw[hx.bool_inv,hy.bool_inv];exact run_equalIn_bool' w d t _ _ hu
   .rename_i k0 k a k' b' hu
    split at h
    .rename_i hk;subst hk;cases h;rw[hx.int_inv,hy.int_inv];exact run_equalIn_int w d t k k0 _ _ hu
    .cases h
   .rename_i a b' hu;cases h;rw[hx.str_inv,hy.str_inv,run_equalIn_string w d t _ _ hu,beq_toListBytes]
   .rename_i fs xs ys hu
    split at h
    .rename_i hp
     obtain⟨us,rfl,hl,hh⟩:=hx.agg_inv
     obtain⟨vs,rfl,hl',hh'⟩:=hy.agg_inv
     have hfo:P.fieldsOf t=fs:=by unfold Program.fieldsOf;simp[hu]
     rw[run_equalIn_struct w d t _ _ (by rw[hfo];exact hu) hp,hfo]
     exact ih.2 xs ys us.toArray vs.toArray fs.toList b h ⟨by simpa using hl,by simpa using hh⟩ ⟨by simpa using hl',by simpa using hh'⟩ d (by omega)
    .cases h
   .cases h
  .cases fs with
   | nil=>simp[eqF] at h;subst h;simp[Op.eqFields]
   | cons f fs=>
    simp only[eqF] at h
    split at h
    .rename_i a b' hname ha hb
     split at h
     .rename_i p q hp hq
      cases h
      have hname : ¬ f.name = "_" := of_decide_eq_false hname
      obtain⟨u,hru,hvu⟩:=OA (P:=P) hx ha
      obtain⟨v,hrv,hvv⟩:=OA (P:=P) hy hb
      have h1:=ih.1 f.type a b' u v p hp hvu hvv d (by omega)
      have h2:=ih.2 xs ys us vs fs q hq hx hy d (by omega)
      simp only[Op.eqFields,ne_eq,hname,not_false_eq_true,if_true,Sem.run_bind,hru,hrv,Result.andThen_ok,h1]
      cases p
      .simp
      .simp[h2]
     .cases h
    .cases h
theorem QI{o:Oper}{ev:Operand->AV}{h:Hp}{nb:Nat}{t t':TypeId}{x y:Operand}{xs ys:List AV}{b v:Bool}{op:BinOp}{n:Nat}
  (ho:o.op = .binOp op t x y t') (hx:ev x = .agg xs) (hy:ev y = .agg ys) (he:eqA P n t (.agg xs) (.agg ys)=some b) (hn:n<=10000) (hg:P.eqGuardType P.depth t=false)
  (hop:(op = .eql/\v=b)\/(op = .neq/\v=!b)):Aq P o ev h nb {v:=.bool v}:=by
 refine .value fun φ A w ρ _ hv _=>⟨.bool v,?_,.imm _ _ (.bool _)⟩
 have h1:=hv x;rw[hx] at h1;have h2:=hv y;rw[hy] at h2;have hr:=(eq_sound (P:=P) (φ:=φ) (A:=A) (w:=w) n).1 t _ _ _ _ b he h1 h2 10000 hn;obtain⟨us,e1,_,_⟩:=h1.agg_inv;obtain⟨vs,e2,_,_⟩:=h2.agg_inv;rw[e1,e2] at hr;have hgd:=run_eqGuard_agg (P:=P) w op t x y us.toArray vs.toArray hg;rcases hop with ⟨rfl,rfl⟩ | ⟨rfl,rfl⟩
 .simp only[execOp,ho,e1,e2,Sem.run_bind,hgd,Result.andThen_ok,run_eql_struct,hr];rfl
 .simp only[execOp,ho,e1,e2,Sem.run_bind,hgd,Result.andThen_ok,run_neq_struct,hr];rfl
theorem Uq(op:BinOp)(t:TypeId)(x y:Operand)(a b:Bool)(w:World):
  (eqGuard op t x y (.bool a) (.bool b)).run P w = .ok () w:=by
 unfold eqGuard;split<;>simp_all
theorem Va(op:BinOp)(t:TypeId)(x y:Operand)(a b:ByteArray)(w:World):
  (eqGuard op t x y (.string a) (.string b)).run P w = .ok () w:=by
 unfold eqGuard;split<;>simp_all
theorem Sv{o:Oper}{ev:Operand->AV}{h:Hp}{nb:Nat}{t t':TypeId}{x y:Operand}{a b v:Bool}{op:BinOp}
  (ho:o.op = .binOp op t x y t') (hx:ev x = .bool a) (hy:ev y = .bool b) (hu:P.underlying t=some .bool)
  (hop:(op = .eql/\v=(a==b))\/(op = .neq/\v=!(a==b))):Aq P o ev h nb {v:=.bool v}:=by
 refine .value fun φ A w ρ _ hv _=>⟨.bool v,?_,.imm _ _ (.bool _)⟩
 have h1:=hv x;rw[hx] at h1;have h1:=h1.bool_inv;have h2:=hv y;rw[hy] at h2;have h2:=h2.bool_inv;have hgd:=Uq (P:=P) op t x y a b w;have hr:=run_equalIn_bool' (P:=P) w 9999 t a b hu
 rcases hop with ⟨rfl,rfl⟩ | ⟨rfl,rfl⟩<;>
  simp only[execOp,ho,h1,h2,Sem.run_bind,hgd,Result.andThen_ok,binOp,Op.equal,Op.maxDepth,hr]<;>rfl
theorem Ld{o:Oper}{ev:Operand->AV}{h:Hp}{nb:Nat}{t t':TypeId}{x y:Operand}{a b:ByteArray}{v:AV}{op:BinOp}
  (ho:o.op = .binOp op t x y t') (hx:ev x = .str a) (hy:ev y = .str b)
  (hop:(op = .eql/\v = .bool (a.toList==b.toList))\/(op = .neq/\v = .bool (!(a.toList==b.toList)))\/(op = .lss/\v = .bool (Op.bytesLess a.toList b.toList))
   \/(op = .add/\a.size+b.size<=9223372036854775807/\v = .str (a++b))):Aq P o ev h nb {v}:=by
 have key:∀(φ:Phi) (A:Nat->Prop) (w:World) (ρ:Operand->Value),ρ x = .string a->ρ y = .string b->∀r,(Op.stringOp op a b).run P w = .ok r w->(execOp ρ o).run P w = .ok (.value r) w:=by intro φ A w ρ h1 h2 r hr;have hgd:=Va (P:=P) op t x y a b w;cases op<;>simp only[execOp,ho,h1,h2,Sem.run_bind,hgd,Result.andThen_ok,binOp,hr]<;>rfl
 refine .value fun φ A w ρ _ hv _=>?_
 have h1:=hv x;rw[hx] at h1;have h1:=h1.str_inv;have h2:=hv y;rw[hy] at h2;have h2:=h2.str_inv;rcases hop with ⟨rfl,rfl⟩ | ⟨rfl,rfl⟩ | ⟨rfl,rfl⟩ | ⟨rfl,hle,rfl⟩
 .exact⟨_,key φ A w ρ h1 h2 (.bool (a.toList==b.toList)) (by simp[Op.stringOp]),.imm _ _ (.bool _)⟩
 .exact⟨_,key φ A w ρ h1 h2 (.bool (!(a.toList==b.toList))) (by simp[Op.stringOp]),.imm _ _ (.bool _)⟩
 .exact⟨_,key φ A w ρ h1 h2 (.bool (Op.bytesLess a.toList b.toList)) (by simp[Op.stringOp]),.imm _ _ (.bool _)⟩
 .refine⟨_,key φ A w ρ h1 h2 (.string (a++b)) ?_,.imm _ _ (.str _)⟩;have:¬((a.size+b.size:Nat):Int) > i64.max:=by simp[IntKind.max,IntKind.signed,IntKind.bits];omega
  simp only[Op.stringOp,this,if_false];rfl
theorem ok_convI{o:Oper}{ev:Operand->AV}{h:Hp}{nb:Nat}{s t:TypeId}{x:Operand}{k k':IntKind}{n:Int}
  (ho:o.op = .convert s t x) (hx:ev x = .int k n) (hs:∃d,P.underlying s=some d) (ht:P.underlying t=some (.int k')):Aq P o ev h nb {v:=.int k' (k'.wrap n)}:=by
 refine .value fun φ A w ρ _ hv _=>⟨.int k' (k'.wrap n),?_,.imm _ _ (.int _ _)⟩
 have h1:=hv x;rw[hx] at h1;have h1:=h1.int_inv;obtain⟨d,hd⟩:=hs;simp[execOp,ho,h1,convert,run_underlying hd,run_underlying ht,Conv.intToInt]
theorem Tf{o:Oper}{ev:Operand->AV}{h:Hp}{nb:Nat}{f:FuncId}{caps:Array Operand}
  (ho:o.op = .makeFunc (.func f) #[] caps):Aq P o ev h nb {v:=.fn f (caps.toList.map ev)}:=by
 refine .value fun φ A w ρ _ hv _=>⟨.func (.func f) #[] (caps.map ρ),?_,?_⟩
 .simp[execOp,ho,Instr.makeFunc]
 .have:=VR.fn (φ:=φ) (A:=A) (w:=w) f (caps.toList.map ev) (caps.toList.map ρ) (by simp) (fun i c u hc hu=>by
   simp only[VF,Option.map_eq_some_iff] at hc hu;obtain⟨p,hp,rfl⟩:=hc;obtain⟨q,hq,rfl⟩:=hu;rw[hp] at hq;cases hq;exact hv p)
  have e:(caps.toList.map ρ).toArray=caps.map ρ:=by apply Array.ext';simp
  rw[e] at this;exact this
theorem SB{o:Oper}{ev:Operand->AV}{h:Hp}{nb:Nat}{x y:Operand}{ts:Array TypeId}{k:IntKind}{a b c:Int}{bi:Builtin}
  (ho:o.op = .call {callee:=.builtin bi,args:=#[x,y],argTypes:=ts}) (hx:ev x = .int k a) (hy:ev y = .int k b)
  (hop:(bi = .min/\c=if b<a then b else a)\/(bi = .max/\c=if a<b then b else a)):Aq P o ev h nb {v:=.int k c}:=by
 refine .value fun φ A w ρ _ hv _=>⟨.int k c,?_,.imm _ _ (.int _ _)⟩
 have h1:=hv x;rw[hx] at h1;have h1:=h1.int_inv;have h2:=hv y;rw[hy] at h2;have h2:=h2.int_inv;rcases hop with ⟨rfl,rfl⟩ | ⟨rfl,rfl⟩
 .simp[execOp,ho,h1,h2,resolve,invoke,builtin,Builtin.min_,Builtin.min2]
 .simp[execOp,ho,h1,h2,resolve,invoke,builtin,Builtin.max_,Builtin.max2]
def Ok(A0:Nat->Prop)(n0:Nat)(φ:Phi)(h:Hp)(w:World)(r:Nat):Prop:=(A0 r\/n0<=r)/\r<w.heap.size/\¬Mut φ h r
structure Rel(A0:Nat->Prop)(n0 m:Nat)(φ:Phi)(st:St)(a:Act)(w:World):Prop where
 defs:a.defers=[]
 size:a.tmps.size=st.n
 slot:∀s,VR φ (Ok A0 n0 φ st.h w) w (Av st.fr s) (a.tmps.getD s undef)
 heap:HR φ (Ok A0 n0 φ st.h w) w st.h
 out:∀b,st.hp.length<=b->φ b=none
 base:n0<=w.heap.size
 own:∀b r z,m<=b->φ b=some (r,z)->A0 r\/n0<=r
structure Tr(m:Nat)(φ:Phi)(h:Hp)(w:World)(φ':Phi)(h':Hp)(w':World):Prop where
 par:∀b,b<m->φ' b=φ b
 keep:Bt (Mut φ h) w w'
 mutd:∀r,Mut φ' h' r->Mut φ h r\/w.heap.size<=r
theorem Tr.refl(m:Nat)(φ:Phi)(h:Hp)(w:World):Tr m φ h w φ h w:=⟨fun _ _=>rfl,Bt.refl _ w,fun _ h=>.inl h⟩
theorem Tr.trans{m:Nat}{φ φ' φ'':Phi}{h h' h'':Hp}{w w' w'':World}(t:Tr m φ h w φ' h' w')(u:Tr m φ' h' w' φ'' h'' w''):Tr m φ h w φ'' h'' w'':=⟨fun b hb=>(u.par b hb).trans (t.par b hb),t.keep.trans u.keep t.mutd,fun r hr=>(u.mutd r hr).elim (t.mutd r) fun hs=>.inr (Wd t.keep.size hs)⟩
def St.ev(st:St):Operand->AV | .tmp t=>Av st.fr t | .const v=>absC v | .global _=>.unk | .func f=>.fn f []
theorem Rel.ev{A0:Nat->Prop}{n0 m:Nat}{φ:Phi}{st:St}{a:Act}{w:World}(h:Rel A0 n0 m φ st a w)(x:Operand):
  VR φ (Ok A0 n0 φ st.h w) w (st.ev x) (a.eval x):=by
 cases x with
 | tmp t=>exact h.slot t
 | const v=>exact .imm _ _ (RT.absC v)
 | global g=>exact .imm _ _ (.unk _)
 | func f=>exact VR.fn (φ:=φ) (A:=Ok A0 n0 φ st.h w) (w:=w) f [] [] rfl (fun i c v hc=>by simp at hc)
def BJ:List (Nat×Blk)->Nat->Option Blk
 | [],_=>none
 | (k,v)::r,s=>match Nat.beq k s with | true=>some v | false=>BJ r s
def Bf:List Nat->Nat->Bool
 | [],_=>false
 | k::r,s=>match Nat.beq k s with | true=>true | false=>Bf r s
def BW(dead:List Nat)(chg:List (Nat×Blk)):Nat->List (Option Blk)->List (Option Blk)
 | _,[]=>[]
 | i,x::r=>(match BJ chg i with
   | some blk=>some blk
   | none=>match Bf dead i with | true=>none | false=>x)::BW dead chg (i+1) r
def AW:List Blk->List (Option Blk) | []=>[] | x::r=>some x::AW r
def put(dst:Option Nat)(v:AV)(fr:List (Nat×AV)):List (Nat×AV):=
 match dst with
 | some d=>(d,v)::fr
 | none=>fr
def St.app(st:St)(dst:Option Nat)(R:OpR):St:={n:=st.n,fr:=put dst R.v st.fr,hp:=BW R.dead R.chg 0 st.hp++AW R.new}
theorem Cr{α:Type}(l:List (Option α))(b:Nat):nth l b=(l[b]?).join:=by
 induction l generalizing b with
 | nil=>rfl
 | cons x r ih=>cases b with
  | zero=>simp[nth]
  | succ b=>simp[nth,ih]
theorem Er(dead:List Nat)(chg:List (Nat×Blk)):∀(l:List (Option Blk)) (i:Nat),(BW dead chg i l).length=l.length | [],_=>rfl | x::r,i=>by simp[BW,Er dead chg r (i+1)]
theorem nth_updL(dead:List Nat)(chg:List (Nat×Blk)):∀(l:List (Option Blk)) (i b:Nat),b<l.length->
  nth (BW dead chg i l) b=match BJ chg (i+b) with
   | some blk=>some blk
   | none=>match Bf dead (i+b) with | true=>none | false=>nth l b:=by
 intro l;induction l with
 | nil=>intro i b hb;simp at hb
 | cons x r ih=>
  intro i b hb;cases b with
  | zero=>simp[BW,nth]
  | succ b=>simp only[BW,nth];rw[ih (i+1) b (by simpa using hb),show i+1+b=i+(b+1) by omega]
theorem DW(l:List Blk):(AW l).length=l.length:=by induction l<;>simp_all [AW]
theorem Ee(l:List Blk)(b:Nat):nth (AW l) b=l[b]?:=by
 induction l generalizing b with
 | nil=>rfl
 | cons x r ih=>cases b<;>simp[AW,nth,ih]
theorem Cb{α:Type}(l m:List (Option α))(b:Nat):nth (l++m) b=if b<l.length then nth l b else nth m (b-l.length):=by
 rw[Cr,V5];split
 .rw[Cr]
 .rw[Cr]
theorem FA{l:List (Nat×Blk)}{k:Nat}{v:Blk}(h:BJ l k=some v):(k,v)∈l:=by
 induction l with
 | nil=>simp[BJ] at h
 | cons x r ih=>
  obtain⟨k',v'⟩:=x;simp only[BJ] at h;split at h
  .rename_i he;have:=VC he;subst this;cases h;simp
  .exact VN _ (ih h)
theorem GH{l:List (Nat×Blk)}{k:Nat}(h:BJ l k=none)(v:Blk):(k,v)∉l:=by
 induction l with
 | nil=>simp
 | cons x r ih=>
  obtain⟨k',v'⟩:=x;simp only[BJ] at h;split at h
  .cases h
  .rename_i he;intro hm;rcases VY.1 hm with hm | hm
   .cases hm;rw[Nat.beq_refl] at he;cases he
   .exact ih h hm
theorem CM{l:List Nat}{k:Nat}:Bf l k=true↔k∈l:=by
 induction l with
 | nil=>simp[Bf]
 | cons x r ih=>
  simp only[Bf];split
  .rename_i he;have:=VC he;subst this;simp
  .rename_i he;rw[ih,VY];constructor
   .exact .inr
   .rintro(h | h)
    .subst h;rw[Nat.beq_refl] at he;cases he
    .exact h
theorem Mc(st:St)(dst:Option Nat)(R:OpR)(b:Nat):(st.app dst R).h b =
  if b<st.hp.length then (match BJ R.chg b with
   | some blk=>some blk
   | none=>match Bf R.dead b with | true=>none | false=>st.h b) else R.new[b-st.hp.length]?:=by
 unfold St.h St.app;rw[Cb,Er];split
 .rename_i hb;rw[nth_updL _ _ _ _ _ hb];simp
 .rw[Ee]
def OpR.fits(R:OpR)(h:Hp):Prop:=(∀b blk,(b,blk)∈R.chg->∃blk0,h b=some blk0/\blk0.wr=true)/\ ∀b,b∈R.dead->(∃blk,h b=some blk/\blk.wr=true)/\BJ R.chg b=none
theorem RC(dst:Option Nat)(v:AV)(fr:List (Nat×AV))(s:Nat):Av (put dst v fr) s=if dst=some s then v else Av fr s:=by
 cases dst with
 | none=>simp[put]
 | some d=>
  simp only[put,Av];by_cases h:d=s
  .subst h;simp[Nat.beq_refl]
  .have:Nat.beq d s=false:=by
    cases hb:Nat.beq d s with
    | false=>rfl
    | true=>exact absurd (VC hb) h
   simp[this,h]
def Ko(φ:Phi)(h:Hp)(R:OpR)(φ':Phi)(nb r:Nat):Prop:=∃b blk z,b∈R.dead/\h b=some blk/\φ b=some (r,z)/\¬New φ' nb r
def EW(P:Program)(o:Oper)(ev:Operand->AV)(h:Hp)(nb:Nat)(R:OpR):Prop:=∀(φ:Phi) (A:Nat->Prop) (w:World) (a:Act) (K:Act->World->Prop) (Q:Exit->Act->World->Prop),(∀r,A r->r<w.heap.size/\¬Mut φ h r)->(∀x,VR φ A w (ev x) (a.eval x))->HR φ A w h->(∀b,nb<=b->φ b=none)-> (∀v' w' φ' A',(∀r,A r->A' r)->(∀r,A' r->A r\/Ko φ h R φ' nb r)->Eff φ A' w h nb R v' w' φ'->K (a.put o.dst v') w')->o.wp P a w K Q
theorem Aq.up{P:Program}{o:Oper}{ev:Operand->AV}{h:Hp}{nb:Nat}{R:OpR}(hk:Aq P o ev h nb R):EW P o ev h nb R:=fun φ A w a K Q h1 h2 h3 h4 k=>hk φ A w a K Q h1 h2 h3 h4 fun v' w' φ' he=>k v' w' φ' A (fun _ h=>h) (fun _ h=>.inl h) he
theorem Rel.stepD{A0:Nat->Prop}{n0 m:Nat}{φ:Phi}{st:St}{a:Act}{w:World}(hr:Rel A0 n0 m φ st a w){o:Oper}{R:OpR}{v':Value}{w':World}{φ':Phi}
  (hm:m<=st.hp.length) (hmd:∀b,b∈R.dead->m<=b) (hd:∀d,o.dst=some d->d<st.n) (hf:R.fits st.h)
  {A':Nat->Prop} (hA1:∀r,Ok A0 n0 φ st.h w r->A' r) (hA2:∀r,A' r->Ok A0 n0 φ st.h w r\/Ko φ st.h R φ' st.hp.length r) (he:Eff φ A' w st.h st.hp.length R v' w' φ'):
  Rel A0 n0 m φ' (st.app o.dst R) (a.put o.dst v') w'/\Tr m φ st.h w φ' (st.app o.dst R).h w':=by
 have hφ:∀b x,φ b=some x->φ' b=some x:=fun b x hb=>by
  rcases Wm b st.hp.length with h | h
  .rw[he.old b h];exact hb
  .rw[hr.out b h] at hb;cases hb
 have hmut:∀r,Mut φ' (st.app o.dst R).h r->Mut φ st.h r\/(w.heap.size<=r/\New φ' st.hp.length r):=by
  rintro r ⟨b,blk,z,hb,hw,hbr⟩
  rw[Mc] at hb;split at hb
  .rename_i hlt;rw[he.old b hlt] at hbr;split at hb
   .rename_i blk' ha;obtain⟨blk0,h0,h1⟩:=hf.1 b blk' (FA ha);exact .inl ⟨b,blk0,z,h0,h1,hbr⟩
   .split at hb
    .cases hb
    .exact .inl ⟨b,blk,z,hb,hw,hbr⟩
  .rename_i hge;rcases he.fresh b r z (by omega) hbr with ⟨h1,_⟩ | ⟨b0,z0,blk0,h1,h2,h3,h4⟩
   .exact .inr ⟨h1,b,z,by omega,hbr⟩
   .exact .inl ⟨b0,blk0,z0,h2,h3,h4⟩
 have hdirty:∀r,(∃b z,R.dirty b/\φ b=some (r,z))->Mut φ st.h r:=by
  rintro r ⟨b,z,hb,hbr⟩
  rcases hb with hb | ⟨blk,hb⟩
  .obtain⟨⟨blk0,h0,h1⟩,_⟩:=hf.2 b hb;exact⟨b,blk0,z,h0,h1,hbr⟩
  .obtain⟨blk0,h0,h1⟩:=hf.1 b blk hb;exact⟨b,blk0,z,h0,h1,hbr⟩
 have hlive:∀b blk r z,st.h b=some blk->φ b=some (r,z)->r<w.heap.size:=by
  intro b blk r z hb hbr;rcases hr.heap.blk b blk hb with ⟨_,h0,_⟩ | ⟨r',cs,T,h1,h2,_⟩ | ⟨_,r',_,h1,_,h2⟩
  .rw[hbr] at h0;cases h0
  .rw[hbr] at h1;simp at h1;rw[h1.1];exact(Wf.1 h2).1
  .rw[hbr] at h1;simp at h1;rw[h1.1];exact(Wf.1 h2).1
 have hmutlt:∀r,Mut φ st.h r->r<w.heap.size:=fun r ⟨b,blk,z,hb,_,hbr⟩=>hlive b blk r z hb hbr
 have hG:∀r,Bk A' φ' st.hp.length w w' r->Ok A0 n0 φ' (st.app o.dst R).h w' r:=by
  rintro r (h0 | ⟨h1,h2,h3⟩)
  rcases hA2 r h0 with ⟨h1,h2,h3⟩ | ⟨b0,blk0,z0,k1,k2,k3,k4⟩
  rotate_left
  .refine⟨hr.own b0 r z0 (hmd b0 k1) k3,Wc (hlive b0 blk0 r z0 k2 k3) he.keep.size,?_⟩
   rintro⟨b,blk,z,hb,hw,hbr⟩
   rw[Mc] at hb;split at hb
   .rename_i hlt;rw[he.old b hlt] at hbr;split at hb
    .rename_i blk' ha;obtain⟨blk1,h0,h1⟩:=hf.1 b blk' (FA ha);have:=hr.heap.inj b b0 r _ _ (by simp[h0]) (by simp[k2]) hbr k3;subst this;exact GH (hf.2 _ k1).2 _ (FA ha)
    .split at hb
     .cases hb
     .rename_i hd0;have:=hr.heap.inj b b0 r _ _ (by simp[hb]) (by simp[k2]) hbr k3;subst this;rw[CM.2 k1] at hd0;cases hd0
   .rename_i hge;exact k4 ⟨b,z,by omega,hbr⟩
  rotate_left
  .refine⟨h1,Wc h2 he.keep.size,fun hmm=>?_⟩;rcases hmut r hmm with h | ⟨h,_⟩
   .exact h3 h
   .omega
  .refine⟨.inr (Wd hr.base h1),h2,fun hmm=>?_⟩;rcases hmut r hmm with h | ⟨_,h⟩
   .have:=hmutlt r h;omega
   .exact h3 h
 have hA:∀r,Ok A0 n0 φ st.h w r->Ok A0 n0 φ' (st.app o.dst R).h w' r:=fun r h=>hG r (.inl (hA1 r h))
 have hblk:∀r,Ok A0 n0 φ st.h w r->w'.heap[r]?=w.heap[r]?:=fun r h=>he.keep.block r h.2.1 fun hd=>h.2.2 (hdirty r hd)
 have hmono:∀{c u},VR φ (Ok A0 n0 φ st.h w) w c u->VR φ' (Ok A0 n0 φ' (st.app o.dst R).h w') w' c u:=fun h=>h.mono hφ hA hblk he.keep.row
 have hmono2:∀{c u},VR φ' (Bk A' φ' st.hp.length w w') w' c u->VR φ' (Ok A0 n0 φ' (st.app o.dst R).h w') w' c u:=fun h=>
  h.mono (fun _ _ h=>h) hG (fun _ _=>rfl) (fun _=>VH _)
 have hbr2:∀{b blk},BR φ' (Bk A' φ' st.hp.length w w') w' b blk->BR φ' (Ok A0 n0 φ' (st.app o.dst R).h w') w' b blk:=by
  rintro b blk (h | ⟨r,cs,T,h1,h2,h3,h4⟩ | h)
  .exact .inl h
  .refine .inr (.inl ⟨r,cs,T,h1,h2,h3,fun i e hi=>⟨(h4 i e hi).1,fun j c hj=>?_⟩⟩);obtain⟨g1,u,g2,g3⟩:=(h4 i e hi).2 j c hj;exact⟨g1,u,g2,hmono2 g3⟩
  .exact .inr (.inr h)
 have hcase:∀b blk,(st.app o.dst R).h b=some blk->(b<st.hp.length/\((b,blk)∈R.chg\/(BJ R.chg b=none/\b∉R.dead/\st.h b=some blk)))\/∃k,b=st.hp.length+k/\R.new[k]?=some blk:=by
  intro b blk hb;rw[Mc] at hb;split at hb
  .rename_i hlt;split at hb
   .rename_i blk' ha;cases hb;exact .inl ⟨hlt,.inl (FA ha)⟩
   .rename_i ha;split at hb
    .cases hb
    .rename_i hd0;refine .inl ⟨hlt,.inr ⟨ha,fun hm=>?_,hb⟩⟩;rw[CM.2 hm] at hd0;cases hd0
  .rename_i hge;exact .inr ⟨b-st.hp.length,by omega,hb⟩
 have hold:∀b,b<st.hp.length->((st.app o.dst R).h b).isSome=true->(st.h b).isSome=true/\(b∈R.dead->False):=by
  intro b hlt hs;obtain⟨blk,hb⟩:=Option.isSome_iff_exists.1 hs;rcases hcase b blk hb with ⟨_,h | ⟨_,h1,h2⟩⟩ | ⟨k,h1,_⟩
  .obtain⟨blk0,h0,_⟩:=hf.1 b blk h;refine⟨by simp[h0],fun hd0=>?_⟩;exact absurd h (GH (hf.2 b hd0).2 blk)
  .exact⟨by simp[h2],h1⟩
  .omega
 refine⟨⟨?_,?_,fun s=>?_,⟨fun b blk hb=>?_,fun b blk hb hfl=>?_,fun b b' r z z' hb hb' h1 h2=>?_⟩,fun b hb=>?_,Wd hr.base he.keep.size,fun b r z hb hbr=>?_⟩,⟨fun b hb=>he.old b (by omega),?_,fun r h=>(hmut r h).imp id (·.1)⟩⟩
 .cases ho:o.dst<;>simpa [Act.put,ho] using hr.defs
 .cases ho:o.dst<;>simpa [Act.put,ho,St.app] using hr.size
 .show VR _ _ _ (Av (put o.dst R.v st.fr) s) _;rw[RC];cases ho:o.dst with
  | none=>rw[<-ho];have:=hmono (hr.slot s);simpa [Act.put,ho] using this
  | some d=>
   by_cases hds:d=s
   .subst hds;rw[Vt rfl];have:d<a.tmps.size:=by rw[hr.size];exact hd d ho
    have e1:(a.put (some d) v').tmps.getD d undef=v':=by simp[Act.put,this]
    rw[e1,<-ho];exact hmono2 he.val
   .rw[Vu (by simpa using hds)];have e1:(a.put (some d) v').tmps.getD s undef=a.tmps.getD s undef:=by simp[Act.put,Vp hds]
    rw[e1,<-ho];exact hmono (hr.slot s)
 .rcases hcase b blk hb with ⟨hlt,h | ⟨hnone,h1,h2⟩⟩ | ⟨k,rfl,hk⟩
  .exact hbr2 (he.chgd b blk h)
  .have hkp:∀r z,φ b=some (r,z)->w'.heap[r]?=w.heap[r]?:=by
    intro r z g1;refine he.keep.block r (hlive b blk r _ h2 g1) ?_
    .rintro⟨b',z',hdd,hb'⟩
     have hl':(st.h b').isSome=true:=by
      rcases hdd with hdd | ⟨blk',hdd⟩
      .obtain⟨⟨blk0,h0,_⟩,_⟩:=hf.2 b' hdd;simp[h0]
      .obtain⟨blk0,h0,_⟩:=hf.1 b' blk' hdd;simp[h0]
     have hbb:=hr.heap.inj b b' r _ _ (by simp[h2]) hl' g1 hb';subst hbb;rcases hdd with hdd | ⟨blk',hdd⟩
     .exact h1 hdd
     .exact GH hnone blk' hdd
   rcases hr.heap.blk b blk h2 with ⟨g1,g2,g3⟩ | ⟨r,cs,T,g1,g2,g3,g4⟩ | ⟨m,r,g1,g2,g3,g4⟩
   .exact .inl ⟨g1,by rw[he.old b hlt];exact g2,g3⟩
   .refine .inr (.inl ⟨r,cs,T,hφ _ _ g1,by rw[hkp _ _ g1];exact g2,g3,fun i e hi=>⟨(g4 i e hi).1,fun j c hj=>?_⟩⟩);obtain⟨k1,u,k2,k3⟩:=(g4 i e hi).2 j c hj;exact⟨k1,u,k2,hmono k3⟩
   .exact .inr (.inr ⟨m,r,g1,hφ _ _ g2,g3,by rw[hkp _ _ g2];exact g4⟩)
  .exact hbr2 (he.newb k blk hk)
 .rcases hcase b blk hb with ⟨hlt,h | ⟨_,_,h2⟩⟩ | ⟨k,rfl,hk⟩
  .exact he.flc b blk h hfl
  .exact hr.heap.flat b blk h2 hfl
  .exact he.fln blk (Vz hk) hfl
 .have mixed:∀b b' r z z',b<st.hp.length->¬b'<st.hp.length->((st.app o.dst R).h b).isSome=true->φ' b=some (r,z)->φ' b'=some (r,z')->False:=by
   intro b b' r z z' hlt hge hs h1 h2;obtain⟨g1,g2⟩:=hold b hlt hs;obtain⟨blk,hblk⟩:=Option.isSome_iff_exists.1 g1;rw[he.old b hlt] at h1;rcases he.fresh b' r z' (by omega) h2 with ⟨k1,_⟩ | ⟨b0,z0,blk0,k1,k2,k3,k4⟩
   .have:=hlive b blk r z hblk h1;omega
   .have:=hr.heap.inj b b0 r _ _ g1 (by simp[k2]) h1 k4;subst this;exact g2 k1
  by_cases e1:b<st.hp.length
  .by_cases e2:b'<st.hp.length
   .rw[he.old b e1] at h1;rw[he.old b' e2] at h2;exact hr.heap.inj b b' r z z' (hold b e1 hb).1 (hold b' e2 hb').1 h1 h2
   .exact(mixed b b' r z z' e1 e2 hb h1 h2).elim
  .by_cases e2:b'<st.hp.length
   .exact(mixed b' b r z' z e2 e1 hb' h2 h1).elim
   .exact he.inj b b' r z z' (by omega) (by omega) h1 h2
 .refine he.out b ?_;have:(st.app o.dst R).hp.length=st.hp.length+R.new.length:=by simp[St.app,Er,DW]
  omega
 .rcases Wm b st.hp.length with hlt | hge
  .rw[he.old b hlt] at hbr;exact hr.own b r z hb hbr
  .rcases he.fresh b r z hge hbr with ⟨h1,_⟩ | ⟨b0,z0,blk0,h1,_,_,h4⟩
   .exact .inr (Wd hr.base h1)
   .exact hr.own b0 r z0 (hmd b0 h1) h4
 .exact he.keep.mono hdirty
theorem Rel.step{A0:Nat->Prop}{n0 m:Nat}{φ:Phi}{st:St}{a:Act}{w:World}(hr:Rel A0 n0 m φ st a w){o:Oper}{R:OpR}{v':Value}{w':World}{φ':Phi} (hm:m<=st.hp.length) (hmd:∀b,b∈R.dead->m<=b) (hd:∀d,o.dst=some d->d<st.n) (hf:R.fits st.h) (he:Eff φ (Ok A0 n0 φ st.h w) w st.h st.hp.length R v' w' φ'): Rel A0 n0 m φ' (st.app o.dst R) (a.put o.dst v') w'/\Tr m φ st.h w φ' (st.app o.dst R).h w':=hr.stepD hm hmd hd hf (fun _ h=>h) (fun _ h=>.inl h) he
def RQ(A0:Nat->Prop)(n0 m:Nat)(φ:Phi)(h:Hp)(w:World)(post:Exit->St->Prop)(e:Exit)(a':Act)(w':World):Prop:=∃φ' st',post e st'/\Rel A0 n0 m φ' st' a' w'/\m<=st'.hp.length/\Tr m φ h w φ' st'.h w'
def T(P:Program)(m:Nat)(c:Code)(st:St)(post:Exit->St->Prop):Prop:=∀A0 n0 φ a w,m<=st.hp.length->Rel A0 n0 m φ st a w->c.wp P (RQ A0 n0 m φ st.h w post) a w
theorem RQ.trans{A0:Nat->Prop}{n0 m:Nat}{φ φ':Phi}{h h':Hp}{w w':World}{post:Exit->St->Prop}{e:Exit}{a:Act}{w2:World}(t:Tr m φ h w φ' h' w')(hq:RQ A0 n0 m φ' h' w' post e a w2):
  RQ A0 n0 m φ h w post e a w2:=by
 obtain⟨φ2,st2,h1,h2,h3,h4⟩:=hq;exact⟨φ2,st2,h1,h2,h3,t.trans h4⟩
theorem T.mono{m:Nat}{c:Code}{st:St}{post post':Exit->St->Prop}(h:T P m c st post)(hp:∀e st,post e st->post' e st):T P m c st post':=fun A0 n0 φ a w hm hr=>wp_mono (h A0 n0 φ a w hm hr) fun _ _ _ ⟨φ',st',h1,h2⟩=>⟨φ',st',hp _ _ h1,h2⟩
def andThen(post:St->Prop)(other:Exit->St->Prop)(e:Exit)(st:St):Prop:=
 match e with
 | .normal=>post st
 | e=>other e st
theorem T.seq{m:Nat}{c d:Code}{st:St}{post:Exit->St->Prop}(h:T P m c st (andThen (fun st'=>T P m d st' post) post)):T P m (.seq c d) st post:=by
 intro A0 n0 φ a w hm hr;refine wp_seq (wp_mono (h A0 n0 φ a w hm hr) fun e a' w' hq=>?_);obtain⟨φ',st',h1,h2,h3,h4⟩:=hq;cases e with
 | normal=>exact wp_mono (h1 A0 n0 φ' a' w' h3 h2) fun e a w hq=>hq.trans h4
 | _=>exact⟨φ',st',h1,h2,h3,h4⟩
theorem T.skip{m:Nat}{st:St}{post:Exit->St->Prop}(h:post .normal st):T P m .skip st post:=fun _ _ φ _ w hm hr=>wp_skip ⟨φ,st,h,hr,hm,.refl m φ st.h w⟩
theorem T.ret{m:Nat}{st:St}{post:Exit->St->Prop}(h:post .ret st):T P m .ret st post:=fun _ _ φ _ w hm hr=>wp_ret ⟨φ,st,h,hr,hm,.refl m φ st.h w⟩
theorem T.exit{m id:Nat}{st:St}{post:Exit->St->Prop}(h:post (.exit id) st):T P m (.exit id) st post:=fun _ _ φ _ w hm hr=>wp_exit ⟨φ,st,h,hr,hm,.refl m φ st.h w⟩
def Cz(id:Nat)(post:Exit->St->Prop)(e:Exit)(st:St):Prop:=
 match e with
 | .exit id'=>if id'=id then post .normal st else post (.exit id') st
 | e=>post e st
theorem T.block{m id:Nat}{c:Code}{st:St}{post:Exit->St->Prop}(h:T P m c st (Cz id post)):T P m (.block id c) st post:=by
 intro A0 n0 φ a w hm hr;refine wp_block (wp_mono (h A0 n0 φ a w hm hr) fun e a' w' hq=>?_);obtain⟨φ',st',h1,h2⟩:=hq;cases e with
 | exit id'=>
  simp only[Exit.inBlock];simp only[Cz] at h1;split
  .rename_i he;rw[Vt he] at h1;exact⟨φ',st',h1,h2⟩
  .rename_i he;rw[Vu he] at h1;exact⟨φ',st',h1,h2⟩
 | _=>exact⟨φ',st',h1,h2⟩
theorem T.cond{m:Nat}{x:Operand}{c d:Code}{st:St}{post:Exit->St->Prop}{b:Bool}(hx:st.ev x = .bool b)(h:T P m (if b then c else d) st post):T P m (.cond x c d) st post:=by intro A0 n0 φ a w hm hr;have:=hr.ev x;rw[hx] at this;exact wp_cond this.bool_inv (h A0 n0 φ a w hm hr)
theorem T.cond_true{m:Nat}{x:Operand}{c d:Code}{st:St}{post:Exit->St->Prop}(hx:st.ev x = .bool true)(h:T P m c st post):T P m (.cond x c d) st post:=T.cond hx (by simpa using h)
theorem T.cond_false{m:Nat}{x:Operand}{c d:Code}{st:St}{post:Exit->St->Prop}(hx:st.ev x = .bool false)(h:T P m d st post):T P m (.cond x c d) st post:=T.cond hx (by simpa using h)
theorem T.cond_split{m:Nat}{x:Operand}{c d:Code}{st:St}{post:Exit->St->Prop}{b:Bool}(hx:st.ev x = .bool b)(h1:b=true->T P m c st post)(h2:b=false->T P m d st post):T P m (.cond x c d) st post:=by
 cases b
 .exact T.cond_false hx (h2 rfl)
 .exact T.cond_true hx (h1 rfl)
def Dj:List Nat->Nat->Option Nat
 | [],_=>none
 | x::r,b=>match Nat.beq x b with
  | true=>some 0
  | false=>match Dj r b with
   | some k=>some (k+1)
   | none=>none
def DA(σ fz:List Nat)(hp:List (Option Blk))(b i n:Nat):Option (AV×Prop):=
 match Dj σ b with
 | some k=>some (.sl k i n,True)
 | none=>match Bf fz b,nth hp b with
  | true,some blk=>match blk.flat,blk.mp with
   | true,none=>match Bf fz (b+1000) with
    | true=>some (.lst ((blk.es.drop i).take n),i+n<=blk.es.length)
    | false=>match i with
     | 0=>some (.lst blk.es,n=blk.es.length)
     | i=>some (.lst ((blk.es.drop i).take n),i+n<=blk.es.length)
   | _,_=>none
  | _,_=>none
def A6(σ fz:List Nat)(hp:List (Option Blk)):Nat->AV->AV×Prop
 | 0,_=>(.unk,True)
 | d+1,v=>
  match v with
  | .ptr b i j=>match Dj σ b with | some k=>(.ptr k i j,True) | none=>(.unk,True)
  | .sl b i n=>match DA σ fz hp b i n with | some x=>x | none=>(.unk,True)
  | .agg cs=>(.agg (cs.map fun c=>(A6 σ fz hp d c).1),(cs.map fun c=>(A6 σ fz hp d c).2).foldr And True)
  | .tup cs=>(.tup (cs.map fun c=>(A6 σ fz hp d c).1),(cs.map fun c=>(A6 σ fz hp d c).2).foldr And True)
  | .fn f cs=>(.fn f (cs.map fun c=>(A6 σ fz hp d c).1),(cs.map fun c=>(A6 σ fz hp d c).2).foldr And True)
  | .map b=>match Dj σ b with | some k=>(.map k,True) | none=>(.unk,True)
  | .ifc t cs=>(.ifc t (cs.map fun c=>(A6 σ fz hp d c).1),(cs.map fun c=>(A6 σ fz hp d c).2).foldr And True)
  | v=>(v,True)
def Cx{α β:Type}(f:α->Option β):List α->Option (List β)
 | []=>some []
 | x::r=>match f x,Cx f r with
  | some y,some l=>some (y::l)
  | _,_=>none
def B9(σ fz:List Nat)(hp:List (Option Blk)):AV->Option (AV×Prop)
 | .ptr b i j=>match Dj σ b with | some k=>some (.ptr k i j,True) | none=>none
 | .sl b i n=>DA σ fz hp b i n
 | .fn _ _=>none
 | .map _=>none
 | .ifc _ _=>none
 | v=>some (v,True)
def renE(σ fz:List Nat)(hp:List (Option Blk))(e:AV):Option (AV×Prop):=
 match e with
 | .agg cs=>match Cx (B9 σ fz hp) cs with | some l=>some (.agg (l.map (·.1)),(l.map (·.2)).foldr And True) | none=>none
 | v=>B9 σ fz hp v
def Co(σ fz:List Nat)(hp:List (Option Blk))(blk:Blk):Option (Blk×Prop):=
 match blk.flat with
 | true=>some (blk,True)
 | false=>match Cx (renE σ fz hp) blk.es with
  | some es=>some ({blk with es:=es.map (·.1),flat:=G4 (es.map (·.1))},(es.map (·.2)).foldr And True)
  | none=>none
def DT(σ fz:List Nat)(hp:List (Option Blk)):Option (List (Option Blk×Prop)):=
 Cx (fun b=>match nth hp b with
  | some blk=>match Co σ fz hp blk with
   | some x=>some (some x.1,x.2)
   | none=>none
  | none=>some (none,True)) σ
def A4(σ:List Nat)(φ:Phi):Phi:=fun k=>match σ[k]? with
 | some b=>φ b
 | none=>none
theorem UD{σ:List Nat}{b k:Nat}(h:Dj σ b=some k):σ[k]?=some b:=by
 induction σ generalizing k with
 | nil=>simp[Dj] at h
 | cons x r ih=>
  simp only[Dj] at h;split at h
  .rename_i he;have:=VC he;subst this;cases h;rfl
  .split at h
   .rename_i k' hk;cases h;simpa using ih hk
   .cases h
theorem LR{σ:List Nat}{φ:Phi}{b k:Nat}(h:Dj σ b=some k):A4 σ φ k=φ b:=by simp[A4,UD h]
theorem RT.agg_inv{A:Nat->Prop}{w:World}{cs:List AV}{v:Value}(h:RT A w (.agg cs) v):∃vs:List Value,v = .agg vs.toArray/\vs.length=cs.length/\∀(i:Nat) c u,cs[i]?=some c->vs[i]?=some u->RT A w c u:=by
 cases h with | agg cs vs hl h=>exact⟨vs,rfl,hl,h⟩
theorem JY{l:List Prop}:l.foldr And True->∀p∈l,p:=by
 induction l with
 | nil=>intro _ p hp;simp at hp
 | cons x r ih=>
  intro h p hp;rcases VY.1 hp with rfl | hp
  .exact h.1
  .exact ih h.2 p hp
structure F2(φ:Phi)(A A':Nat->Prop)(w:World)(hp:List (Option Blk))(fz:List Nat):Prop where
 sub:∀r,A r->A' r
 fz:∀b blk,b∈fz->nth hp b=some blk->∀r z,φ b=some (r,z)->A' r
 heap:HR φ A w (nth hp)
theorem VR.noref_rt{φ:Phi}{A:Nat->Prop}{w:World}{c:AV}{u:Value}(h:VR φ A w c u)(hn:c.noref=true):RT A w c u:=by cases h<;>simp_all [AV.noref]
theorem VR.lst_mk{φ:Phi}{A:Nat->Prop}{w:World}{es:List AV}{r o cap z:Nat}{cs:Array Value}{T:TypeId}(hr:w.heap[r]?=some (.cells cs T (0,0)))(hA:A r)(hcap:es.length<=cap)(hno:Bw es)
  (hc:∀(i:Nat) e,es[i]?=some e->e.cells.length=z/\∀(j:Nat) c,e.cells[j]?=some c->c.one=true/\∃u,cs[o+i * z+j]?=some u/\VR φ A w c u):
  RT A w (.lst es) (.slice (some ⟨r,o,none⟩) es.length cap):=by
 refine .lst es r o cap z (fun i j=>cs.getD (o+i * z+j) undef) hcap (fun _=>hA) (fun e he=>?_) (fun e he c hcm=>?_) (fun i j hi hj=>?_) fun i j e c he hj=>?_
 .obtain⟨i,hi⟩:=List.getElem?_of_mem he;exact(hc i e hi).1
 .obtain⟨i,hi⟩:=List.getElem?_of_mem he;obtain⟨j,hj⟩:=List.getElem?_of_mem hcm;exact((hc i e hi).2 j c hj).1
 .have he:es[i]?=some es[i]:=by simp[hi]
  obtain⟨h1,h2⟩:=hc i _ he;have hj':j<es[i].cells.length:=by omega
  obtain⟨_,u,hu,_⟩:=h2 j _ (Vv hj');rw[cell_of_row w r _ cs T (0,0) hr];simp[hu]
 .obtain⟨_,u,hu,hv⟩:=(hc i e he).2 j c hj;have:=hv.noref_rt (hno e (Vz he) c (Vz hj));simpa [hu] using this
theorem Q3{φ:Phi}{A A':Nat->Prop}{w:World}{σ fz:List Nat}{hp:List (Option Blk)}{b i n:Nat}{x:AV×Prop}{v:Value}(hk:F2 φ A A' w hp fz)
  (h:DA σ fz hp b i n=some x) (hx:x.2) (hv:VR φ A w (.sl b i n) v):x.1.one=true/\VR (A4 σ φ) A' w x.1 v:=by
 unfold DA at h;split at h
 .rename_i k hki;cases h;refine⟨rfl,?_⟩;rcases hv.sl_inv with ⟨rfl,a,rfl⟩ | ⟨r,z,cap,hb,hn,hr,rfl⟩
  .exact .slnil k i a
  .exact .sl k i n r z cap (by rw[LR hki];exact hb) hn hr
 .split at h
  case h_2=>cases h
  rename_i blk hfz hblk;have hfz:=CM.1 hfz;split at h
  case h_2=>cases h
  rename_i hflat hmp;have hno:=hk.heap.flat b blk hblk hflat;have main:∀(es:List AV),es=(blk.es.drop i).take n->i+n<=blk.es.length->VR (A4 σ φ) A' w (.lst es) v:=by
   intro es hes hle;have hlen:es.length=n:=by rw[hes];simp;omega
   rcases hv.sl_inv with ⟨rfl,a,rfl⟩ | ⟨r,z,cap,hb,hn,hr,rfl⟩
   .have:es=[]:=List.eq_nil_of_length_eq_zero hlen;subst this;exact .imm _ _ (.lnil a)
   .obtain⟨hz,_,cs,T,hrr,hsz,hrow⟩:=hk.heap.row hblk hb (.inr hmp);have hA:=hk.fz b blk hfz hblk r z hb;rw[<-hlen];refine .imm _ _ (VR.lst_mk (φ:=φ) (z:=z) hrr hA (by omega) ?_ fun k e he=>?_)
    .rw[hes];exact fun e he=>hno e (List.mem_of_mem_drop (List.mem_of_mem_take he))
    .rw[hes,VO] at he;split at he
     .rw[Vi] at he;obtain⟨g1,g2⟩:=hrow.cell _ e he;refine⟨g1,fun j c hj=>?_⟩;obtain⟨g3,u,g4,g5⟩:=g2 j c hj;refine⟨g3,u,?_,g5.mono (fun _ _ h=>h) hk.sub (fun _ _=>rfl) (fun _=>VH _)⟩;rw[VO] at g4;split at g4
      .rw[<-Ve];simpa using g4
      .cases g4
     .cases he
  split at h
  .cases h;exact⟨rfl,main _ rfl hx⟩
  split at h
  .cases h;exact⟨rfl,main _ (by simp only[List.drop_zero];exact(List.take_of_length_le (by simp at hx;omega)).symm) (by simp at hx;omega)⟩
  .cases h;exact⟨rfl,main _ rfl hx⟩
theorem VR.ren{φ:Phi}{A A':Nat->Prop}{w:World}{σ fz:List Nat}{hp:List (Option Blk)}(hk:F2 φ A A' w hp fz):∀(d:Nat) (a:AV) (v:Value),VR φ A w a v->(A6 σ fz hp d a).2->VR (A4 σ φ) A' w (A6 σ fz hp d a).1 v:=by
 intro d;induction d with
 | zero=>intro a v _ _;exact .imm _ _ (.unk v)
 | succ d ih=>
  intro a v h hp2
  have kids:∀(cs:List AV) (vs:List Value),(cs.map fun c=>(A6 σ fz hp d c).2).foldr And True->(∀(i:Nat) c u,cs[i]?=some c->vs[i]?=some u->VR φ A w c u)->
    ∀(i:Nat) c u,(cs.map fun c=>(A6 σ fz hp d c).1)[i]?=some c->vs[i]?=some u->VR (A4 σ φ) A' w c u:=by
   intro cs vs hall hh i c u hc hu;simp only[VF,Option.map_eq_some_iff] at hc;obtain⟨c0,hc0,rfl⟩:=hc;exact ih c0 u (hh i c0 u hc0 hu) (JY hall _ (V0.2 ⟨c0,Vz hc0,rfl⟩))
  cases a with
  | ptr b i j=>
   obtain⟨r,z,hb,rfl⟩:=h.ptr_inv;simp only[A6];cases hki:Dj σ b with
   | none=>exact .imm _ _ (.unk _)
   | some k=>exact .ptr k i j r z (by rw[LR hki];exact hb)
  | sl b i n=>
   simp only[A6] at hp2 ⊢
   cases hs:DA σ fz hp b i n with
   | none=>exact .imm _ _ (.unk _)
   | some x=>rw[hs] at hp2;exact(Q3 hk hs hp2 h).2
  | agg cs=>obtain⟨vs,rfl,hl,hh⟩:=h.agg_inv;exact .agg _ _ (by simpa using hl) (kids cs vs hp2 hh)
  | tup cs=>obtain⟨vs,rfl,hl,hh⟩:=h.tup_inv;exact .tup _ _ (by simpa using hl) (kids cs vs hp2 hh)
  | fn f cs=>obtain⟨vs,rfl,hl,hh⟩:=h.fn_inv;exact .fn f _ _ (by simpa using hl) (kids cs vs hp2 hh)
  | ifc t cs=>obtain⟨vs,rfl,hl,hh⟩:=h.ifc_inv;exact .ifc t _ _ (by simpa using hl) (kids cs vs hp2 hh)
  | map b=>
   obtain⟨r,z,hb,rfl⟩:=h.map_inv;simp only[A6];cases hki:Dj σ b with
   | none=>exact .imm _ _ (.unk _)
   | some k=>exact .map k r z (by rw[LR hki];exact hb)
  | _=>cases h with | imm a v h=>exact .imm _ _ (h.mono hk.sub (fun _ _=>rfl))
theorem DN{α β:Type}{f:α->Option β}:∀{l:List α} {l':List β},Cx f l=some l'->l'.length=l.length/\∀(i:Nat) y,l'[i]?=some y->∃x,l[i]?=some x/\f x=some y:=by
 intro l;induction l with
 | nil=>intro l' h;simp[Cx] at h;subst h;simp
 | cons x r ih=>
  intro l' h;simp only[Cx] at h;split at h
  .rename_i y l0 hy hl;cases h;obtain⟨h1,h2⟩:=ih hl;refine⟨by simp[h1],fun i z hz=>?_⟩;cases i with
   | zero=>simp at hz;subst hz;exact⟨x,rfl,hy⟩
   | succ i=>simpa using h2 i z (by simpa using hz)
  .cases h
theorem S3{φ:Phi}{A A':Nat->Prop}{w:World}{σ fz:List Nat}{hp:List (Option Blk)}(hk:F2 φ A A' w hp fz){c:AV}{x:AV×Prop}{u:Value}
  (h:B9 σ fz hp c=some x) (hx:x.2) (h1:c.one=true) (hv:VR φ A w c u):x.1.one=true/\VR (A4 σ φ) A' w x.1 u:=by
 cases c with
 | ptr b i j=>
  simp only[B9] at h;split at h
  .rename_i k hki;cases h;obtain⟨r,z,hb,rfl⟩:=hv.ptr_inv;exact⟨rfl,.ptr k i j r z (by rw[LR hki];exact hb)⟩
  .cases h
 | sl b i n=>exact Q3 hk h hx hv
 | fn f cs=>simp[B9] at h
 | map b=>simp[B9] at h
 | ifc f cs=>simp[B9] at h
 | agg cs=>simp[AV.one] at h1
 | tup cs=>simp[AV.one] at h1
 | unk=>simp[AV.one] at h1
 | _=>simp only[B9,Vc] at h;subst h;exact⟨h1,by cases hv with | imm a v h=>exact .imm _ _ (h.mono hk.sub (fun _ _=>rfl))⟩
theorem renS_one{σ fz:List Nat}{hp:List (Option Blk)}{b i n:Nat}{x:AV×Prop}(h:DA σ fz hp b i n=some x):x.1.one=true:=by
 unfold DA at h;split at h
 .cases h;rfl
 .split at h
  case h_2=>cases h
  split at h
  case h_2=>cases h
  split at h
  .cases h;rfl
  split at h<;>(cases h;rfl)
theorem renC_one{σ fz:List Nat}{hp:List (Option Blk)}{c:AV}{x:AV×Prop}(h:B9 σ fz hp c=some x)(h1:c.one=true):x.1.one=true:=by
 cases c with
 | ptr b i j=>simp only[B9] at h;split at h<;>cases h;rfl
 | sl b i n=>exact renS_one h
 | fn f cs=>simp[B9] at h
 | map b=>simp[B9] at h
 | ifc f cs=>simp[B9] at h
 | agg cs=>simp[AV.one] at h1
 | tup cs=>simp[AV.one] at h1
 | unk=>simp[AV.one] at h1
 | _=>simp only[B9,Vc] at h;subst h;exact h1
theorem Rn{σ fz:List Nat}{hp:List (Option Blk)}{e:AV}{x:AV×Prop}(h:renE σ fz hp e=some x)(hx:x.2)(h1:∀c∈e.cells,c.one=true):
  x.1.cells.length=e.cells.length/\∀(j:Nat) c',x.1.cells[j]?=some c'->∃c y,e.cells[j]?=some c/\B9 σ fz hp c=some y/\y.1=c'/\y.2:=by
 have single:B9 σ fz hp e=some x->e.cells=[e]->x.1.cells.length=e.cells.length/\∀(j:Nat) c',x.1.cells[j]?=some c'->∃c y,e.cells[j]?=some c/\B9 σ fz hp c=some y/\y.1=c'/\y.2:=by
  intro hr hv;have hx1:x.1.cells=[x.1]:=Mn (renC_one hr (h1 e (by rw[hv];simp)));rw[hv,hx1];refine⟨rfl,fun j c' hj=>?_⟩;cases j with
  | zero=>simp at hj;exact⟨e,x,rfl,hr,hj,hx⟩
  | succ j=>simp at hj
 cases e with
 | agg cs=>
  simp only[renE] at h;split at h
  .rename_i l hl;cases h;obtain⟨g1,g2⟩:=DN hl;refine⟨by simp[AV.cells,g1],fun j c' hj=>?_⟩;simp only[AV.cells,VF,Option.map_eq_some_iff] at hj;obtain⟨y,hy,rfl⟩:=hj;obtain⟨c,hc,hcy⟩:=g2 j y hy;exact⟨c,y,hc,hcy,rfl,JY hx _ (V0.2 ⟨y,Vz hy,rfl⟩)⟩
  .cases h
 | _=>exact single h rfl
def Ren(m:Nat)(st st':St):Prop:=∀A0 n0 φ a w,m<=st.hp.length->Rel A0 n0 m φ st a w->∃φ',Rel A0 n0 m φ' st' a w/\m<=st'.hp.length/\Tr m φ st.h w φ' st'.h w
theorem Ren.refl(m:Nat)(st:St):Ren m st st:=fun _ _ φ _ w hm h=>⟨φ,h,hm,.refl m φ _ w⟩
theorem Ren.trans{m:Nat}{a b c:St}(h:Ren m a b)(k:Ren m b c):Ren m a c:=fun A0 n0 φ ac w hm hr=>by obtain⟨φ1,h1,h2,h3⟩:=h A0 n0 φ ac w hm hr;obtain⟨φ2,k1,k2,k3⟩:=k A0 n0 φ1 ac w h2 h1;exact⟨φ2,k1,k2,h3.trans k3⟩
theorem T.ren{m:Nat}{c:Code}{st st':St}{post:Exit->St->Prop}(h:Ren m st st')(ht:T P m c st' post):T P m c st post:=fun A0 n0 φ a w hm hr=>by obtain⟨φ1,h1,h2,h3⟩:=h A0 n0 φ a w hm hr;exact wp_mono (ht A0 n0 φ1 a w h2 h1) fun e a' w' hq=>hq.trans h3
def C0:List Nat->Bool | []=>true | x::r=> !Bf r x&&C0 r
def Hd:Nat->Nat->List Nat->Bool | 0,_,_=>true | _+1,_,[]=>false | m+1,i,x::r=>Nat.beq x i&&Hd m (i+1) r
theorem Lo:∀{l:List Nat},C0 l=true->∀(i j x:Nat),l[i]?=some x->l[j]?=some x->i=j:=by
 intro l;induction l with
 | nil=>intro _ i j x h;simp at h
 | cons y r ih=>
  intro h i j x hi hj;simp only[C0,VD,Wh] at h;have hy:y∉r:=fun hm=>by rw[CM.2 hm] at h;cases h.1
  cases i with
  | zero=>
   cases j with
   | zero=>rfl
   | succ j=>simp at hi hj;subst hi;exact absurd (Vz hj) hy
  | succ i=>
   cases j with
   | zero=>simp at hi hj;subst hj;exact absurd (Vz hi) hy
   | succ j=>simp at hi hj;rw[ih h.2 i j x hi hj]
theorem SF:∀{m i:Nat} {l:List Nat},Hd m i l=true->∀k,k<m->l[k]?=some (i+k):=by
 intro m;induction m with
 | zero=>intro i l _ k hk;omega
 | succ m ih=>
  intro i l h k hk;cases l with
  | nil=>simp[Hd] at h
  | cons x r=>
   simp only[Hd,VD] at h;cases k with
   | zero=>have:=VC h.1;simp[this]
   | succ k=>have:=ih h.2 k (by omega);simp[this];omega
def St.ren(st:St)(σ fz vars:List Nat):Option (St×Prop):=
 match DT σ fz st.hp with
 | some hp=>some ({n:=st.n,fr:=vars.map fun s=>(s,(A6 σ fz st.hp 3 (Av st.fr s)).1),hp:=hp.map (·.1)},
   (vars.map fun s=>(A6 σ fz st.hp 3 (Av st.fr s)).2).foldr And ((hp.map (·.2)).foldr And True))
 | none=>none
theorem look_map(f:Nat->AV):∀(vars:List Nat) (s:Nat),Av (vars.map fun s=>(s,f s)) s = .unk\/Av (vars.map fun s=>(s,f s)) s=f s:=by
 intro vars;induction vars with
 | nil=>intro s;exact .inl rfl
 | cons x r ih=>
  intro s;simp only[Vr,Av];cases hb:Nat.beq x s with
  | true=>have:=VC hb;subst this;exact .inr rfl
  | false=>exact ih s
theorem ED{l:List Prop}{p:Prop}(h:l.foldr And p):(∀q∈l,q)/\p:=by
 induction l with
 | nil=>exact⟨fun q hq=>by simp at hq,h⟩
 | cons x r ih=>obtain⟨h1,h2⟩:=ih h.2;exact⟨fun q hq=>(VY.1 hq).elim (fun e=>by rw[e];exact h.1) (h1 q),h2⟩
theorem mem_vars{f:Nat->AV}:∀{vars:List Nat} {s:Nat},Av (vars.map fun s=>(s,f s)) s≠.unk->s∈vars:=by
 intro vars;induction vars with
 | nil=>intro s h;exact absurd rfl h
 | cons x r ih=>
  intro s h;simp only[Vr,Av] at h;cases hb:Nat.beq x s with
  | true=>have:=VC hb;subst this;simp
  | false=>rw[hb] at h;exact VN _ (ih h)
theorem Ren.of{m:Nat}{st st':St}{p:Prop}(σ fz vars:List Nat)(h:st.ren σ fz vars=some (st',p))(hp:p)(hn:C0 σ=true)(hi:Hd m 0 σ=true)
  (hfz:fz.all (fun b=>Nat.ble m b&&!Bf σ b)=true):Ren m st st':=by
 intro A0 n0 φ a w hm hr;unfold St.ren at h;split at h
 case h_2=>cases h
 rename_i hpl hh;simp only[Vc,Vm] at h;obtain⟨rfl,rfl⟩:=h;obtain⟨hp1,hp2⟩:=ED hp;have hp2:=JY hp2;obtain⟨hlen,hsp⟩:=DN hh;have hml:m<=σ.length:=by
  rcases Wm σ.length m with h | h
  .have:=SF hi σ.length h;simp at this
  .exact h
 have hfirst:∀b,b<m->σ[b]?=some b:=fun b hb=>by have:=SF hi b hb;simpa using this
 have hbig:∀(k b:Nat),m<=k->σ[k]?=some b->m<=b:=fun k b hk hb=>by
  rcases Wm b m with h | h
  .have:=Lo hn b k b (hfirst b h) hb;omega
  .exact h
 have hlive:∀k blk',nth (hpl.map (·.1)) k=some blk'->∃b blk y,σ[k]?=some b/\st.h b=some blk/\Co σ fz st.hp blk=some y/\y.1=blk'/\y.2:=by
  intro k blk' hk;rw[Cr] at hk;cases hq:hpl[k]? with
  | none=>simp[hq] at hk
  | some ob=>
   simp[hq] at hk;obtain⟨b,hb,hf⟩:=hsp k _ hq;split at hf
   .rename_i blk hblk;split at hf
    .rename_i y hy;cases hf;simp at hk;exact⟨b,blk,y,hb,hblk,hy,hk,hp2 _ (V0.2 ⟨_,Vz hq,rfl⟩)⟩
    .cases hf
   .cases hf;simp at hk
 have hwr:∀{blk y},Co σ fz st.hp blk=some y->y.1.wr=blk.wr/\y.1.z=blk.z:=by
  intro blk y h;unfold Co at h;split at h
  .cases h;exact⟨rfl,rfl⟩
  .split at h
   .cases h;exact⟨rfl,rfl⟩
   .cases h
 have hphi:∀k b,σ[k]?=some b->A4 σ φ k=φ b:=fun k b hk=>by simp[A4,hk]
 have hmutb:∀r,Mut (A4 σ φ) (nth (hpl.map (·.1))) r->∃(k b:Nat) (blk:Blk) (z:Nat),σ[k]?=some b/\st.h b=some blk/\blk.wr=true/\φ b=some (r,z):=by
  rintro r ⟨k,blk',z,hk,hw,hφ⟩
  obtain⟨b,blk,y,hb,hblk,hrb,rfl,_⟩:=hlive k blk' hk;rw[hphi k b hb] at hφ;exact⟨k,b,blk,z,hb,hblk,by rw[<-(hwr hrb).1];exact hw,hφ⟩
 have hmut:∀r,Mut (A4 σ φ) (nth (hpl.map (·.1))) r->Mut φ st.h r:=fun r h=>by obtain⟨k,b,blk,z,_,g2,g3,g4⟩:=hmutb r h;exact⟨b,blk,z,g2,g3,g4⟩
 have hK:F2 φ (Ok A0 n0 φ st.h w) (Ok A0 n0 (A4 σ φ) (nth (hpl.map (·.1))) w) w st.hp fz:=by
  refine⟨fun r h=>⟨h.1,h.2.1,fun hm=>h.2.2 (hmut r hm)⟩,fun b blk hb hblk r z hφ=>?_,hr.heap⟩;have hb2:=VK.1 hfz b hb;simp only[VD,Wh] at hb2;refine⟨hr.own b r z (VU hb2.1) hφ,?_,fun hmm=>?_⟩
  .rcases hr.heap.blk b blk hblk with ⟨_,h0,_⟩ | ⟨r',cs,T,h1,h2,_⟩ | ⟨_,r',_,h1,_,h2⟩
   .rw[hφ] at h0;cases h0
   .rw[hφ] at h1;simp at h1;rw[h1.1];exact(Wf.1 h2).1
   .rw[hφ] at h1;simp at h1;rw[h1.1];exact(Wf.1 h2).1
  .obtain⟨k,b',blk',z',g1,g2,_,g4⟩:=hmutb r hmm;have:=hr.heap.inj b b' r _ _ (by show(nth st.hp b).isSome=true;simp[hblk]) (by simp[g2]) hφ g4;subst this;have:=CM.2 (Vz g1);rw[this] at hb2;cases hb2.2
 have mono:∀{c u},RT (Ok A0 n0 φ st.h w) w c u->VR (A4 σ φ) (Ok A0 n0 (A4 σ φ) (nth (hpl.map (·.1))) w) w c u:=fun h=>.imm _ _ (h.mono hK.sub (fun _ _=>rfl))
 refine⟨A4 σ φ,⟨hr.defs,hr.size,fun s=>?_,⟨fun k blk' hk=>?_,fun k blk' hk hfl=>?_,fun k k' r z z' hk hk' h1 h2=>?_⟩,fun b hb=>?_,hr.base,fun k r z hk hφ=>?_⟩,?_,⟨fun b hb=>?_,Bt.refl _ w,fun r h=>.inl (hmut r h)⟩⟩
 .show VR _ _ _ (Av (vars.map fun s=>(s,(A6 σ fz st.hp 3 (Av st.fr s)).1)) s) _;rcases look_map (fun s=>(A6 σ fz st.hp 3 (Av st.fr s)).1) vars s with h | h
  .rw[h];exact .imm _ _ (.unk _)
  .by_cases hu:Av (vars.map fun s=>(s,(A6 σ fz st.hp 3 (Av st.fr s)).1)) s = .unk
   .rw[hu];exact .imm _ _ (.unk _)
   .have hs:=mem_vars hu;rw[h];exact VR.ren hK 3 _ _ (hr.slot s) (hp1 _ (V0.2 ⟨s,hs,rfl⟩))
 .obtain⟨b,blk,y,hb,hblk,hrb,rfl,hy2⟩:=hlive k blk' hk;have hw2:=hwr hrb;have hmpE:y.1.mp=blk.mp/\(blk.es=[]->y.1.es=[]):=by
   unfold Co at hrb;split at hrb
   .cases hrb;exact⟨rfl,id⟩
   .split at hrb
    .rename_i es hes;cases hrb;exact⟨rfl,fun h0=>by rw[h0] at hes;simp[Cx] at hes;simp[<-hes]⟩
    .cases hrb
  rcases hr.heap.blk b blk hblk with ⟨g1,g2,g3⟩ | ⟨r,cs,T,g1,g2,g3,g4⟩ | ⟨m,r,g1,g2,g3,g4⟩
  .left;exact⟨hmpE.2 g1,by rw[hphi k b hb];exact g2,rfl,by rw[hmpE.1];exact g3.2⟩
  case inr.inr=>exact .inr (.inr ⟨m,r,by rw[hmpE.1];exact g1,by rw[hphi k b hb,hw2.2];exact g2,⟨hmpE.2 g3.1,by rw[hw2.2];exact g3.2⟩,g4⟩)
  .right;left;refine⟨r,cs,T,by rw[hphi k b hb,hw2.2];exact g1,g2,⟨?_,by rw[hmpE.1];exact g3.2⟩,fun i e' he'=>?_⟩
   .rw[hw2.2];unfold Co at hrb;split at hrb
    .cases hrb;exact g3.1
    .split at hrb
     .rename_i es hes;cases hrb;simp only[Vy];rw[(DN hes).1];exact g3.1
     .cases hrb
   .rw[hw2.2];unfold Co at hrb;split at hrb
    .rename_i hflat;cases hrb;obtain⟨k1,k2⟩:=g4 i e' he';refine⟨k1,fun j c hj=>?_⟩;obtain⟨k3,u,k4,k5⟩:=k2 j c hj;have hno:=hr.heap.flat b _ hblk hflat e' (Vz he') c (Vz hj);exact⟨k3,u,k4,mono (k5.noref_rt hno)⟩
    .split at hrb
     .rename_i es hes;cases hrb;simp only[VF,Option.map_eq_some_iff] at he';obtain⟨x,hxe,rfl⟩:=he';obtain⟨e,he,hre⟩:=(DN hes).2 i x hxe;have hx2:=JY hy2 _ (V0.2 ⟨x,Vz hxe,rfl⟩);obtain⟨k1,k2⟩:=g4 i e he;have hones:∀c∈e.cells,c.one=true:=fun c hc=>by obtain⟨j,hj⟩:=List.getElem?_of_mem hc;exact(k2 j c hj).1
      obtain⟨r1,r2⟩:=Rn hre hx2 hones;refine⟨by rw[r1];exact k1,fun j c' hj=>?_⟩;obtain⟨c,y,hc,hcc,rfl,hy⟩:=r2 j c' hj;obtain⟨k3,u,k4,k5⟩:=k2 j c hc;obtain⟨q1,q2⟩:=S3 hK hcc hy k3 k5;exact⟨q1,u,k4,q2⟩
     .cases hrb
 .obtain⟨b,blk,y,hb,hblk,hrb,rfl,hy2⟩:=hlive k blk' hk;unfold Co at hrb;split at hrb
  .rename_i hf;cases hrb;exact hr.heap.flat b _ hblk hf
  .split at hrb
   .cases hrb;exact LL _ hfl
   .cases hrb
 .obtain⟨blk,hb⟩:=Option.isSome_iff_exists.1 hk;obtain⟨blk2,hb2⟩:=Option.isSome_iff_exists.1 hk';obtain⟨b1,q1,_,g1,g2,_⟩:=hlive k blk hb;obtain⟨b2,q2,_,g3,g4,_⟩:=hlive k' blk2 hb2;rw[hphi k b1 g1] at h1;rw[hphi k' b2 g3] at h2;have:=hr.heap.inj b1 b2 r z z' (by simp[g2]) (by simp[g4]) h1 h2;subst this;exact Lo hn k k' b1 g1 g3
 .have hb':σ.length<=b:=by simpa [hlen] using hb
  simp only[A4];rw[VT hb']
 .simp only[A4] at hφ;split at hφ
  .rename_i b hb;exact hr.own b r z (hbig k b hk hb) hφ
  .cases hφ
 .show m<=(hpl.map (·.1)).length;rw[Vy,hlen];exact hml
 .exact hphi b b (hfirst b hb)
theorem T.loop{ι:Type}{m:Nat}{c:Code}{post:Exit->St->Prop}(S:ι->St)(I:ι->Prop)(μ:ι->Nat)(i:ι)(hi:I i)
  (round:∀i,I i->T P m c (S i) (andThen (fun st'=>∃j,Ren m st' (S j)/\I j/\μ j<μ i) post)):T P m (.loop c) (S i) post:=by
 intro A0 n0 φ0 a0 w0 hm0 hr0;intro b k cs
 have key:∀n i φ a w,μ i=n->I i->m<=(S i).hp.length->Rel A0 n0 m φ (S i) a w->
   ∃e a' w',RQ A0 n0 m φ (S i).h w post e a' w'/\Arrives P (lone (b.at a (.code c:: .inLoop c::k)) cs w) b k cs e a' w':=by
  intro n;induction n using Nat.strongRecOn with
  | _ n ih=>
   intro i φ a w hn hI hm hr;obtain⟨e,a1,w1,hq,harr⟩:=round i hI A0 n0 φ a w hm hr b (.inLoop c::k) cs;obtain⟨φ1,st1,h1,h2,h3,h4⟩:=hq;cases e with
   | normal=>obtain⟨j,hren,hj,hlt⟩:=h1;obtain⟨φ2,g1,g2,g3⟩:=hren A0 n0 φ1 a1 w1 h3 h2;obtain⟨e2,a2,w2,hq2,harr2⟩:=ih (μ j) (hn ▸ hlt) j φ2 a1 w1 rfl hj g2 g1;exact⟨e2,a2,w2,hq2.trans (h4.trans g3),.of_steps (Steps.trans harr (.one step_inLoop)) harr2⟩
   | exit id=>exact⟨_,a1,w1,⟨φ1,st1,h1,h2,h3,h4⟩,.pass (x:=.inLoop c) rfl (fun _ _=>.inl (by simp)) harr⟩
   | goto l=>exact⟨_,a1,w1,⟨φ1,st1,h1,h2,h3,h4⟩,.pass (x:=.inLoop c) rfl (fun _ _=>.inl (by simp)) harr⟩
   | ret=>exact⟨_,a1,w1,⟨φ1,st1,h1,h2,h3,h4⟩,.pass (x:=.inLoop c) rfl (fun _ _=>.inl (by simp)) harr⟩
   | panic ch=>exact⟨_,a1,w1,⟨φ1,st1,h1,h2,h3,h4⟩,.pass (x:=.inLoop c) rfl (fun _ _=>.inl (by simp)) harr⟩
   | outgrown=>exact⟨_,a1,w1,⟨φ1,st1,h1,h2,h3,h4⟩,.pass (x:=.inLoop c) rfl (fun _ _=>.inl (by simp)) harr⟩
 obtain⟨e,a',w',hq,harr⟩:=key _ i φ0 a0 w0 rfl hi hm0 hr0;exact⟨e,a',w',hq,.of_steps (.one step_loop) harr⟩
structure CP(φ:Phi)(A:Nat->Prop)(w:World)(hin hout:List (Option Blk))(res:AV)(v:Value)(w':World)(φ':Phi):Prop where
 par:∀b,b<hin.length->φ' b=φ b
 keep:Bt (Mut φ (nth hin)) w w'
 mutd:∀r,Mut φ' (nth hout) r->Mut φ (nth hin) r\/w.heap.size<=r
 heap:HR φ' (Ok A w.heap.size φ' (nth hout) w') w' (nth hout)
 val:VR φ' (Ok A w.heap.size φ' (nth hout) w') w' res v
 out:∀b,hout.length<=b->φ' b=none
 len:hin.length<=hout.length
 own:∀b r z,hin.length<=b->φ' b=some (r,z)->A r\/w.heap.size<=r
def CT(P:Program)(f:FuncId)(hin:List (Option Blk))(args:List AV)(hout:List (Option Blk))(res:AV):Prop:=∀(φ:Phi) (A:Nat->Prop) (w:World) (vs:List Value),(∀r,A r->r<w.heap.size/\¬Mut φ (nth hin) r)->HR φ A w (nth hin)->(∀b,hin.length<=b->φ b=none)-> vs.length=args.length->(∀(i:Nat) c v,args[i]?=some c->vs[i]?=some v->VR φ A w c v)-> Calls P f vs.toArray w fun e w'=>∃v φ',e = .returned v/\CP φ A w hin hout res v w' φ'
def Ct:Nat->List AV->List (Nat×AV) | _,[]=>[] | i,x::r=>(i,x)::Ct (i+1) r
theorem Sa:∀(l:List AV) (i s:Nat),i<=s->Av (Ct i l) s=l.getD (s-i) .unk:=by
 intro l;induction l with
 | nil=>intro i s _;simp[Ct,Av]
 | cons x r ih=>
  intro i s h;simp only[Ct,Av];cases hb:Nat.beq i s with
  | true=>have:=VC hb;subst this;simp
  | false=>
   have hne:i≠s:=fun e=>by subst e;rw[Nat.beq_refl] at hb;cases hb
   simp only;rw[ih (i+1) s (by omega),show s-i=(s-(i+1))+1 by omega];simp
def Iq(P:Program)(st:St):ResultVar->Option AV
 | .tmp t=>some (Av st.fr t)
 | .cell a t=>
  match Av st.fr a,tsz P t with
  | .ptr b i j,some (s,ag)=>
   match st.h b with
   | some blk=>match blk.es[i]? with
    | some e=>match Nat.beq ((e.cells.drop j).take s).length s with
     | true=>mkV ag ((e.cells.drop j).take s)
     | false=>none
    | none=>none
   | none=>none
  | _,_=>none
def Jw(P:Program)(fn:Func)(st:St):Option AV:=
 match Cx (Iq P st) fn.results.toList with
 | some [x]=>some x
 | some l=>some (.tup l)
 | none=>none
def Fin(P:Program)(fn:Func)(m:Nat)(hout:List (Option Blk))(res:AV)(e:Exit)(st:St):Prop:=(e = .normal\/e = .ret)/\∃res0 st1,Jw P fn st=some res0/\Ren m {st with fr:=[(0,res0)]} st1/\st1.hp=hout/\Av st1.fr 0=res/\0<st.n
def Ll(tmps:Array Value):ResultVar->Sem Value
 | .tmp t=>pure (tmps.getD t undef)
 | .cell a t=>do loadVar t (<-asAddr (tmps.getD a undef))
theorem res_one{A0:Nat->Prop}{n0 m:Nat}{φ:Phi}{st:St}{a:Act}{w:World}(hr:Rel A0 n0 m φ st a w){x:ResultVar}{v:AV}(h:Iq P st x=some v):
  ∃u,(Ll a.tmps x).run P w = .ok u w/\VR φ (Ok A0 n0 φ st.h w) w v u:=by
 cases x with
 | tmp t=>simp only[Iq,Vc] at h;subst h;exact⟨_,rfl,hr.slot t⟩
 | cell p t=>
  simp only[Iq] at h;split at h
  case h_2=>cases h
  rename_i b i j s ag hp ht;split at h
  case h_2=>cases h
  rename_i blk hb;split at h
  case h_2=>cases h
  rename_i e he;split at h
  case h_2=>cases h
  rename_i hl;have hs:=hr.slot p;rw[hp] at hs;obtain⟨r,z,hφ,hv⟩:=hs.ptr_inv;obtain⟨rfl,_,hat⟩:=hr.heap.at hb he hφ;have hat':=hat.sub rfl j s;rw[Addr.add_lit] at hat';obtain⟨u,h1,h2⟩:=Qz (P:=P) hat' rfl ht (VC hl) h;refine⟨u,?_,h2⟩;simp only[Ll,Sem.run_bind,hv,asAddr,Sem.run_pure,Result.andThen_ok,h1]
theorem SH{A0:Nat->Prop}{n0 m:Nat}{φ:Phi}{st:St}{a:Act}{w:World}(hr:Rel A0 n0 m φ st a w){fn:Func}{v:AV}(h:Jw P fn st=some v):
  ∃u,(results fn a.tmps).run P w = .ok u w/\VR φ (Ok A0 n0 φ st.h w) w v u:=by
 have key:∀(l:List ResultVar) (vs:List AV),Cx (Iq P st) l=some vs->
   ∃us:List Value,(l.mapM (m:=Sem) (Ll a.tmps)).run P w = .ok us w/\
    us.length=vs.length/\∀(i:Nat) c u,vs[i]?=some c->us[i]?=some u->VR φ (Ok A0 n0 φ st.h w) w c u:=by
  intro l;induction l with
  | nil=>intro vs hv;simp[Cx] at hv;subst hv;exact⟨[],rfl,rfl,fun i c u hc=>by simp at hc⟩
  | cons x r ih=>
   intro vs hv;simp only[Cx] at hv;split at hv
   .rename_i y l' hy hl;cases hv;obtain⟨u,h1,h2⟩:=res_one (P:=P) hr hy;obtain⟨us,h3,h4,h5⟩:=ih l' hl;refine⟨u::us,?_,by simp[h4],fun i c v' hc hv'=>?_⟩
    .rw[List.mapM_cons];simp only[Sem.run_bind,h1,Result.andThen_ok,h3,Sem.run_pure]
    .cases i with
     | zero=>simp at hc hv';subst hc hv';exact h2
     | succ i=>exact h5 i c v' (by simpa using hc) (by simpa using hv')
   .cases hv
 unfold Jw at h;cases hm:Cx (Iq P st) fn.results.toList with
 | none=>rw[hm] at h;cases h
 | some vs=>
  rw[hm] at h;obtain⟨us,h1,h2,h3⟩:=key _ vs hm;have run:(results fn a.tmps).run P w = .ok (if hh:us.toArray.size=1 then us.toArray[0] else .tuple us.toArray) w:=by have e:results fn a.tmps=(do let vs<-fn.results.mapM (Ll a.tmps);pure (if h:vs.size=1 then vs[0] else .tuple vs)):=rfl;rw[e,Array.mapM_eq_mapM_toList];simp only[Sem.run_bind,Sem.run_map,h1,Result.andThen_ok,Sem.run_pure]
  rw[run];split at h
  .rename_i x hx;cases hx;cases h;obtain⟨u,rfl⟩:=List.length_eq_one_iff.1 (show us.length=1 by simpa using h2);exact⟨u,by simp,h3 0 _ u rfl rfl⟩
  .rename_i l hne hx;cases hx;cases h;refine⟨.tuple us.toArray,?_,.tup _ _ h2 h3⟩;have:us.length≠1:=fun h1'=>by rw[h2] at h1';obtain⟨x,rfl⟩:=List.length_eq_one_iff.1 h1';exact hne x rfl
   simp[this]
  .rename_i hx;cases hx
theorem CT.of{f:FuncId}{fn:Func}{c:Code}{hin hout:List (Option Blk)}{args:List AV}{res:AV}(hf:P.funcs[f]?=some fn)(hb:fn.body=some c)(hn:args.length<=fn.ntmps)
  (h:T P hin.length c {n:=fn.ntmps,fr:=Ct 0 args,hp:=hin} (Fin P fn hin.length hout res)):CT P f hin args hout res:=by
 intro φ A w vs hA hh ho hlen hv;refine calls_of_wp hf hb ?_;have hsub:∀r,A r->Ok A w.heap.size φ (nth hin) w r:=fun r hr=>⟨.inl hr,(hA r hr).1,(hA r hr).2⟩
 have mono:∀{c u},VR φ A w c u->VR φ (Ok A w.heap.size φ (nth hin) w) w c u:=fun h=>h.mono (fun _ _ h=>h) hsub (fun _ _=>rfl) (fun _=>VH _)
 have hrel:Rel A w.heap.size hin.length φ {n:=fn.ntmps,fr:=Ct 0 args,hp:=hin} {tmps:=vs.toArray++Array.replicate (fn.ntmps-vs.toArray.size) undef,defers:=[]} w:=by
  refine⟨rfl,by simp;omega,fun s=>?_,⟨fun b blk hb=>?_,hh.flat,hh.inj⟩,ho,VH _,fun b r z hb hφ=>by rw[ho b hb] at hφ;cases hφ⟩
  .show VR _ _ _ (Av (Ct 0 args) s) _;rw[Sa args 0 s (VI _)];simp only[Nat.sub_zero];rcases Wm s args.length with hs | hs
   .have hsv:s<vs.length:=by omega
    have e1:args.getD s .unk=args[s]:=by simp[List.getD,hs]
    have e2:(vs.toArray++Array.replicate (fn.ntmps-vs.toArray.size) undef).getD s undef=vs[s]:=by simp[Array.getElem?_append,hsv]
    rw[e1,e2];exact mono (hv s _ _ (by simp[hs]) (by simp[hsv]))
   .have e1:args.getD s .unk = .unk:=by simp[List.getD,hs]
    rw[e1];exact .imm _ _ (.unk _)
  .rcases hh.blk b blk hb with hl | ⟨r,cs,T,h1,h2,h3,h4⟩ | hl
   .exact .inl hl
   .exact .inr (.inl ⟨r,cs,T,h1,h2,h3,fun i e he=>⟨(h4 i e he).1,fun j c hj=>by
     obtain⟨g1,u,g2,g3⟩:=(h4 i e he).2 j c hj;exact⟨g1,u,g2,mono g3⟩⟩⟩)
   .exact .inr (.inr hl)
 refine wp_mono (h A w.heap.size φ _ w (VH _) hrel) fun e a' w' hq=>?_
 obtain⟨φ1,st,⟨he,res0,st1,hres,hren,hhp,hlk,hpos⟩,hr1,hm1,ht1⟩:=hq;obtain⟨u,hru,hvu⟩:=SH hr1 hres;have hrv:Rel A w.heap.size hin.length φ1 {st with fr:=[(0,res0)]} {tmps:=(Array.replicate st.n undef).setIfInBounds 0 u,defers:=[]} w':=by
  refine⟨rfl,by simp,fun s=>?_,hr1.heap,hr1.out,hr1.base,hr1.own⟩;cases s with
  | zero=>
   have:((Array.replicate st.n undef).setIfInBounds 0 u).getD 0 undef=u:=by simp[hpos]
   rw[this];exact hvu
  | succ s=>exact .imm _ _ (.unk _)
 obtain⟨φ2,k1,k2,k3⟩:=hren A w.heap.size φ1 _ w' hm1 hrv;have htr:=ht1.trans k3;have hval:=k1.slot 0;rw[hlk] at hval;have e0:((Array.replicate st.n undef).setIfInBounds 0 u).getD 0 undef=u:=by simp[hpos]
 rw[e0] at hval
 have hfin:∃v φ',Ending.returned u = .returned v/\CP φ A w hin hout res v w' φ':=
  ⟨u,φ2,rfl,⟨htr.par,htr.keep,by rw[<-hhp];exact htr.mutd,by rw[<-hhp];exact k1.heap,by rw[<-hhp];exact hval,by rw[<-hhp];exact k1.out,by rw[<-hhp];exact k2,k1.own⟩⟩
 rcases he with rfl | rfl
 .exact⟨hr1.defs,u,hru,hfin⟩
 .exact⟨hr1.defs,u,hru,hfin⟩
def AH(A:Nat->Prop)(φ:Phi)(m r:Nat):Prop:=A r\/∃b z,1<=b/\b<m/\φ b=some (r,z)
structure CO(φ:Phi)(A:Nat->Prop)(w:World)(hin hout:List (Option Blk))(res:AV)(v:Value)(w':World)(φ':Phi):Prop where
 par:φ' 0=φ 0
 keep:Bt (Mut φ (nth hin)) w w'
 mutd:∀r,Mut φ' (nth hout) r->Mut φ (nth hin) r\/w.heap.size<=r
 heap:HR φ' (Ok (AH A φ hin.length) w.heap.size φ' (nth hout) w') w' (nth hout)
 val:VR φ' (Ok (AH A φ hin.length) w.heap.size φ' (nth hout) w') w' res v
 out:∀b,hout.length<=b->φ' b=none
def CTO(P:Program)(f:FuncId)(hin:List (Option Blk))(args:List AV)(hout:List (Option Blk))(res:AV):Prop:=∀(φ:Phi) (A:Nat->Prop) (w:World) (vs:List Value),(∀r,A r->r<w.heap.size/\¬Mut φ (nth hin) r)->HR φ A w (nth hin)->(∀b,hin.length<=b->φ b=none)-> vs.length=args.length->(∀(i:Nat) c v,args[i]?=some c->vs[i]?=some v->VR φ A w c v)-> Calls P f vs.toArray w fun e w'=>∃v φ',e = .returned v/\CO φ A w hin hout res v w' φ'
theorem CTO.of{f:FuncId}{fn:Func}{c:Code}{hin hout:List (Option Blk)}{args:List AV}{res:AV}(hf:P.funcs[f]?=some fn)(hb:fn.body=some c)(hn:args.length<=fn.ntmps)(h1:1<=hin.length)
  (h:T P 1 c {n:=fn.ntmps,fr:=Ct 0 args,hp:=hin} (Fin P fn 1 hout res)):CTO P f hin args hout res:=by
 intro φ A w vs hA hh ho hlen hv;refine calls_of_wp hf hb ?_;have hsub:∀r,A r->Ok (AH A φ hin.length) w.heap.size φ (nth hin) w r:=fun r hr=>⟨.inl (.inl hr),(hA r hr).1,(hA r hr).2⟩
 have mono:∀{c u},VR φ A w c u->VR φ (Ok (AH A φ hin.length) w.heap.size φ (nth hin) w) w c u:=fun h=>h.mono (fun _ _ h=>h) hsub (fun _ _=>rfl) (fun _=>VH _)
 have hrel:Rel (AH A φ hin.length) w.heap.size 1 φ {n:=fn.ntmps,fr:=Ct 0 args,hp:=hin} {tmps:=vs.toArray++Array.replicate (fn.ntmps-vs.toArray.size) undef,defers:=[]} w:=by
  refine⟨rfl,by simp;omega,fun s=>?_,⟨fun b blk hb=>?_,hh.flat,hh.inj⟩,ho,VH _,fun b r z h2 hφ=>.inl (.inr ⟨b,z,h2,Nat.lt_of_not_le fun hb=>(by rw[ho b hb] at hφ;cases hφ),hφ⟩)⟩
  .show VR _ _ _ (Av (Ct 0 args) s) _;rw[Sa args 0 s (VI _)];simp only[Nat.sub_zero];rcases Wm s args.length with hs | hs
   .have hsv:s<vs.length:=by omega
    have e1:args.getD s .unk=args[s]:=by simp[List.getD,hs]
    have e2:(vs.toArray++Array.replicate (fn.ntmps-vs.toArray.size) undef).getD s undef=vs[s]:=by simp[Array.getElem?_append,hsv]
    rw[e1,e2];exact mono (hv s _ _ (by simp[hs]) (by simp[hsv]))
   .have e1:args.getD s .unk = .unk:=by simp[List.getD,hs]
    rw[e1];exact .imm _ _ (.unk _)
  .rcases hh.blk b blk hb with hl | ⟨r,cs,T,h1,h2,h3,h4⟩ | hl
   .exact .inl hl
   .exact .inr (.inl ⟨r,cs,T,h1,h2,h3,fun i e he=>⟨(h4 i e he).1,fun j c hj=>by
     obtain⟨g1,u,g2,g3⟩:=(h4 i e he).2 j c hj;exact⟨g1,u,g2,mono g3⟩⟩⟩)
   .exact .inr (.inr hl)
 refine wp_mono (h (AH A φ hin.length) w.heap.size φ _ w h1 hrel) fun e a' w' hq=>?_
 obtain⟨φ1,st,⟨he,res0,st1,hres,hren,hhp,hlk,hpos⟩,hr1,hm1,ht1⟩:=hq;obtain⟨u,hru,hvu⟩:=SH hr1 hres;have hrv:Rel (AH A φ hin.length) w.heap.size 1 φ1 {st with fr:=[(0,res0)]} {tmps:=(Array.replicate st.n undef).setIfInBounds 0 u,defers:=[]} w':=by
  refine⟨rfl,by simp,fun s=>?_,hr1.heap,hr1.out,hr1.base,hr1.own⟩;cases s with
  | zero=>
   have:((Array.replicate st.n undef).setIfInBounds 0 u).getD 0 undef=u:=by simp[hpos]
   rw[this];exact hvu
  | succ s=>exact .imm _ _ (.unk _)
 obtain⟨φ2,k1,k2,k3⟩:=hren (AH A φ hin.length) w.heap.size φ1 _ w' hm1 hrv;have htr:=ht1.trans k3;have hval:=k1.slot 0;rw[hlk] at hval;have e0:((Array.replicate st.n undef).setIfInBounds 0 u).getD 0 undef=u:=by simp[hpos]
 rw[e0] at hval
 have hfin:∃v φ',Ending.returned u = .returned v/\CO φ A w hin hout res v w' φ':=
  ⟨u,φ2,rfl,⟨htr.par 0 (Vj 0),htr.keep,by rw[<-hhp];exact htr.mutd,by rw[<-hhp];exact k1.heap,by rw[<-hhp];exact hval,by rw[<-hhp];exact k1.out⟩⟩
 rcases he with rfl | rfl
 .exact⟨hr1.defs,u,hru,hfin⟩
 .exact⟨hr1.defs,u,hru,hfin⟩
theorem SU{φ:Phi}{A A':Nat->Prop}{w:World}{σ fz:List Nat}{hp:List (Option Blk)}{hpl:List (Option Blk×Prop)}(hK:F2 φ A A' w hp fz)(hh:DT σ fz hp=some hpl)
  (hp2:∀p∈hpl.map (·.2),p) (hn:C0 σ=true):HR (A4 σ φ) A' w (nth (hpl.map (·.1)))/\
   (∀k blk',nth (hpl.map (·.1)) k=some blk'->∃b blk,σ[k]?=some b/\nth hp b=some blk/\blk'.wr=blk.wr):=by
 obtain⟨hlen,hsp⟩:=DN hh;have hlive:∀k blk',nth (hpl.map (·.1)) k=some blk'->∃b blk y,σ[k]?=some b/\nth hp b=some blk/\Co σ fz hp blk=some y/\y.1=blk'/\y.2:=by
  intro k blk' hk;rw[Cr] at hk;cases hq:hpl[k]? with
  | none=>simp[hq] at hk
  | some ob=>
   simp[hq] at hk;obtain⟨b,hb,hf⟩:=hsp k _ hq;split at hf
   .rename_i blk hblk;split at hf
    .rename_i y hy;cases hf;simp at hk;exact⟨b,blk,y,hb,hblk,hy,hk,hp2 _ (V0.2 ⟨_,Vz hq,rfl⟩)⟩
    .cases hf
   .cases hf;simp at hk
 have hwr:∀{blk y},Co σ fz hp blk=some y->y.1.wr=blk.wr/\y.1.z=blk.z:=by
  intro blk y h;unfold Co at h;split at h
  .cases h;exact⟨rfl,rfl⟩
  .split at h
   .cases h;exact⟨rfl,rfl⟩
   .cases h
 have hphi:∀k b,σ[k]?=some b->A4 σ φ k=φ b:=fun k b hk=>by simp[A4,hk]
 have mono:∀{c u},RT A w c u->VR (A4 σ φ) A' w c u:=fun h=>.imm _ _ (h.mono hK.sub (fun _ _=>rfl))
 refine⟨⟨fun k blk' hk=>?_,fun k blk' hk hfl=>?_,fun k k' r z z' hk hk' h1 h2=>?_⟩,fun k blk' hk=>?_⟩
 .obtain⟨b,blk,y,hb,hblk,hrb,rfl,hy2⟩:=hlive k blk' hk;have hw2:=hwr hrb;have hmpE:y.1.mp=blk.mp/\(blk.es=[]->y.1.es=[]):=by
   unfold Co at hrb;split at hrb
   .cases hrb;exact⟨rfl,id⟩
   .split at hrb
    .rename_i es hes;cases hrb;exact⟨rfl,fun h0=>by rw[h0] at hes;simp[Cx] at hes;simp[<-hes]⟩
    .cases hrb
  rcases hK.heap.blk b blk hblk with ⟨g1,g2,g3⟩ | ⟨r,cs,T,g1,g2,g3,g4⟩ | ⟨m,r,g1,g2,g3,g4⟩
  .left;exact⟨hmpE.2 g1,by rw[hphi k b hb];exact g2,rfl,by rw[hmpE.1];exact g3.2⟩
  case inr.inr=>exact .inr (.inr ⟨m,r,by rw[hmpE.1];exact g1,by rw[hphi k b hb,hw2.2];exact g2,⟨hmpE.2 g3.1,by rw[hw2.2];exact g3.2⟩,g4⟩)
  .right;left;refine⟨r,cs,T,by rw[hphi k b hb,hw2.2];exact g1,g2,⟨?_,by rw[hmpE.1];exact g3.2⟩,fun i e' he'=>?_⟩
   .rw[hw2.2];unfold Co at hrb;split at hrb
    .cases hrb;exact g3.1
    .split at hrb
     .rename_i es hes;cases hrb;simp only[Vy];rw[(DN hes).1];exact g3.1
     .cases hrb
   .rw[hw2.2];unfold Co at hrb;split at hrb
    .rename_i hflat;cases hrb;obtain⟨k1,k2⟩:=g4 i e' he';refine⟨k1,fun j c hj=>?_⟩;obtain⟨k3,u,k4,k5⟩:=k2 j c hj;have hno:=hK.heap.flat b _ hblk hflat e' (Vz he') c (Vz hj);exact⟨k3,u,k4,mono (k5.noref_rt hno)⟩
    .split at hrb
     .rename_i es hes;cases hrb;simp only[VF,Option.map_eq_some_iff] at he';obtain⟨x,hxe,rfl⟩:=he';obtain⟨e,he,hre⟩:=(DN hes).2 i x hxe;have hx2:=JY hy2 _ (V0.2 ⟨x,Vz hxe,rfl⟩);obtain⟨k1,k2⟩:=g4 i e he;have hones:∀c∈e.cells,c.one=true:=fun c hc=>by obtain⟨j,hj⟩:=List.getElem?_of_mem hc;exact(k2 j c hj).1
      obtain⟨r1,r2⟩:=Rn hre hx2 hones;refine⟨by rw[r1];exact k1,fun j c' hj=>?_⟩;obtain⟨c,y,hc,hcc,rfl,hy⟩:=r2 j c' hj;obtain⟨k3,u,k4,k5⟩:=k2 j c hc;obtain⟨q1,q2⟩:=S3 hK hcc hy k3 k5;exact⟨q1,u,k4,q2⟩
     .cases hrb
 .obtain⟨b,blk,y,hb,hblk,hrb,rfl,hy2⟩:=hlive k blk' hk;unfold Co at hrb;split at hrb
  .rename_i hf;cases hrb;exact hK.heap.flat b _ hblk hf
  .split at hrb
   .cases hrb;exact LL _ hfl
   .cases hrb
 .obtain⟨blk,hb⟩:=Option.isSome_iff_exists.1 hk;obtain⟨blk2,hb2⟩:=Option.isSome_iff_exists.1 hk';obtain⟨b1,q1,_,g1,g2,_⟩:=hlive k blk hb;obtain⟨b2,q2,_,g3,g4,_⟩:=hlive k' blk2 hb2;rw[hphi k b1 g1] at h1;rw[hphi k' b2 g3] at h2;have:=hK.heap.inj b1 b2 r z z' (by simp[g2]) (by simp[g4]) h1 h2;subst this;exact Lo hn k k' b1 g1 g3
 .obtain⟨b,blk,y,hb,hblk,hrb,rfl,_⟩:=hlive k blk' hk;exact⟨b,blk,hb,hblk,(hwr hrb).1⟩
def tau(σ:List Nat)(nb k:Nat):Nat:=
 match σ[k]? with
 | some b=>b
 | none=>nb+(k-σ.length)
def BT(τ:Nat->Nat):Nat->AV->AV
 | 0,_=>.unk
 | d+1,v=>
  match v with
  | .ptr b i j=>.ptr (τ b) i j
  | .sl b i n=>.sl (τ b) i n
  | .agg cs=>.agg (cs.map (BT τ d))
  | .tup cs=>.tup (cs.map (BT τ d))
  | .fn f cs=>.fn f (cs.map (BT τ d))
  | .map b=>.map (τ b)
  | .ifc t cs=>.ifc t (cs.map (BT τ d))
  | v=>v
def Cw:Nat->AV->Bool
 | 0,_=>false
 | d+1,v=>
  match v with
  | .lst _=>false
  | .lstc _=>false
  | .iptr _=>false
  | .agg cs=>cs.all (Cw d)
  | .tup cs=>cs.all (Cw d)
  | .fn _ cs=>cs.all (Cw d)
  | .ifc _ cs=>cs.all (Cw d)
  | _=>true
theorem VR.bak{φ φ':Phi}{A A':Nat->Prop}{w:World}{τ:Nat->Nat}(hφ:∀k x,φ k=some x->φ' (τ k)=some x):∀(d:Nat) (a:AV) (v:Value),VR φ A w a v->((∀r,A r->A' r)\/Cw d a=true)->VR φ' A' w (BT τ d a) v:=by
 intro d;induction d with
 | zero=>intro a v _ _;exact .imm _ _ (.unk v)
 | succ d ih=>
  intro a v h hA
  have kids:∀(cs:List AV) (vs:List Value),((∀r,A r->A' r)\/cs.all (Cw d)=true)->(∀(i:Nat) c u,cs[i]?=some c->vs[i]?=some u->VR φ A w c u)->
    ∀(i:Nat) c u,(cs.map (BT τ d))[i]?=some c->vs[i]?=some u->VR φ' A' w c u:=by
   intro cs vs hA hh i c u hc hu;simp only[VF,Option.map_eq_some_iff] at hc;obtain⟨c0,hc0,rfl⟩:=hc;exact ih c0 u (hh i c0 u hc0 hu) (hA.imp id fun hall=>VK.1 hall c0 (Vz hc0))
  cases a with
  | ptr b i j=>obtain⟨r,z,hb,rfl⟩:=h.ptr_inv;exact .ptr _ i j r z (hφ _ _ hb)
  | sl b i n=>
   rcases h.sl_inv with ⟨rfl,a,rfl⟩ | ⟨r,z,cap,hb,hn,hr,rfl⟩
   .exact .slnil _ i a
   .exact .sl _ i n r z cap (hφ _ _ hb) hn hr
  | agg cs=>obtain⟨vs,rfl,hl,hh⟩:=h.agg_inv;exact .agg _ _ (by simpa using hl) (kids cs vs hA hh)
  | tup cs=>obtain⟨vs,rfl,hl,hh⟩:=h.tup_inv;exact .tup _ _ (by simpa using hl) (kids cs vs hA hh)
  | fn f cs=>obtain⟨vs,rfl,hl,hh⟩:=h.fn_inv;exact .fn f _ _ (by simpa using hl) (kids cs vs hA hh)
  | map b=>obtain⟨r,z,hb,rfl⟩:=h.map_inv;exact .map _ r z (hφ _ _ hb)
  | ifc t cs=>obtain⟨vs,rfl,hl,hh⟩:=h.ifc_inv;exact .ifc t _ _ (by simpa using hl) (kids cs vs hA hh)
  | lst es=>
   rcases hA with hA | hA
   .cases h with | imm a v h=>exact .imm _ _ (h.mono hA (fun _ _=>rfl))
   .simp[Cw] at hA
  | lstc es=>
   rcases hA with hA | hA
   .cases h with | imm a v h=>exact .imm _ _ (h.mono hA (fun _ _=>rfl))
   .simp[Cw] at hA
  | iptr es=>
   rcases hA with hA | hA
   .cases h with | imm a v h=>exact .imm _ _ (h.mono hA (fun _ _=>rfl))
   .simp[Cw] at hA
  | unk=>exact .imm _ _ (.unk _)
  | bool b=>rw[h.bool_inv];exact .imm _ _ (.bool _)
  | int k n=>rw[h.int_inv];exact .imm _ _ (.int _ _)
  | str s=>rw[h.str_inv];exact .imm _ _ (.str _)
  | nils=>rw[h.nils_inv];exact .imm _ _ .nils
  | con c=>cases h with | imm a v h=>cases h with | con v h=>exact .imm _ _ (.con _ h)
  | any=>cases h with | imm a v h=>cases h with | any v h=>exact .imm _ _ (.any _ h)
def bakE(τ:Nat->Nat)(e:AV):AV:=
 match e with
 | .agg cs=>.agg (cs.map (BT τ 1))
 | v=>BT τ 1 v
def Bu(τ:Nat->Nat)(blk:Blk):Blk:=
 match blk.flat with
 | true=>blk
 | false=>{blk with es:=blk.es.map (bakE τ)}
def AY(blk:Blk):Prop:=∀e∈blk.es,∀c∈e.cells,Cw 1 c=true
theorem bakV_one{τ:Nat->Nat}{c:AV}(h:c.one=true)(hf:∀f cs,c≠.fn f cs):(BT τ 1 c).one=true:=by cases c<;>simp_all [BT,AV.one]
theorem BR.bak{φ φ':Phi}{A A':Nat->Prop}{w:World}{τ:Nat->Nat}(hφ:∀k x,φ k=some x->φ' (τ k)=some x){k:Nat}{blk:Blk}(hN:φ k=none->φ' (τ k)=none)(hfl:blk.flat=true->Bw blk.es)
  (h:BR φ A w k blk) (hA:(∀r,A r->A' r)\/AY blk):BR φ' A' w (τ k) (Bu τ blk):=by
 have hz:(Bu τ blk).z=blk.z/\(Bu τ blk).wr=blk.wr/\(Bu τ blk).es.length=blk.es.length:=by unfold Bu;split<;>simp
 have hmpE:(Bu τ blk).mp=blk.mp:=by unfold Bu;split<;>rfl
 have cellOK:∀e∈blk.es,∀c∈e.cells,∀u,c.one=true->VR φ A w c u->(BT τ 1 c).one=true/\VR φ' A' w (BT τ 1 c) u:=by
  intro e he c hc u h1 hv;have:=VR.bak (A':=A') hφ 1 c u hv (hA.imp id fun hall=>hall e he c hc);refine⟨?_,this⟩;cases c with
  | fn f cs=>simp[BT,AV.one]
  | _=>exact bakV_one h1 (by simp)
 rcases h with ⟨g1,g2,g3⟩ | ⟨r,cs,T,g1,g2,g3,g4⟩ | ⟨m,r,g1,g2,g3,g4⟩
 .left;refine⟨List.eq_nil_of_length_eq_zero (by rw[hz.2.2,g1];rfl),hN g2,rfl,by rw[hmpE];exact g3.2⟩
 case inr.inr=>exact .inr (.inr ⟨m,r,by rw[hmpE];exact g1,by rw[hz.1];exact hφ _ _ g2,⟨List.eq_nil_of_length_eq_zero (by rw[hz.2.2,g3.1];rfl),by rw[hz.1];exact g3.2⟩,g4⟩)
 .right;left;refine⟨r,cs,T,by rw[hz.1];exact hφ _ _ g1,g2,by rw[hz.1,hz.2.2,hmpE];exact g3,fun i e' he'=>?_⟩;rw[hz.1];unfold Bu at he';split at he'
  .rename_i hflat;obtain⟨k1,k2⟩:=g4 i e' he';refine⟨k1,fun j c hj=>?_⟩;obtain⟨k3,u,k4,k5⟩:=k2 j c hj;refine⟨k3,u,k4,?_⟩;have hno:=hfl hflat e' (Vz he') c (Vz hj);have:=(cellOK e' (Vz he') c (Vz hj) u k3 k5).2;have e1:BT τ 1 c=c:=by cases c<;>simp_all [AV.noref,BT]
   rw[e1] at this;exact this
  .simp only[VF,Option.map_eq_some_iff] at he';obtain⟨e,he,rfl⟩:=he';obtain⟨k1,k2⟩:=g4 i e he;have hcells:(bakE τ e).cells=e.cells.map (BT τ 1):=by
    cases e with
    | agg cs=>rfl
    | unk=>have:=(k2 0 .unk rfl).1;simp[AV.one] at this
    | tup cs=>have:=(k2 0 (.tup cs) rfl).1;simp[AV.one] at this
    | _=>simp[bakE,AV.cells,BT]
   refine⟨by rw[hcells];simpa using k1,fun j c' hj=>?_⟩;rw[hcells] at hj;simp only[VF,Option.map_eq_some_iff] at hj;obtain⟨c,hc,rfl⟩:=hj;obtain⟨k3,u,k4,k5⟩:=k2 j c hc;obtain⟨q1,q2⟩:=cellOK e (Vz he) c (Vz hc) u k3 k5;exact⟨q1,u,k4,q2⟩
end Go.AX

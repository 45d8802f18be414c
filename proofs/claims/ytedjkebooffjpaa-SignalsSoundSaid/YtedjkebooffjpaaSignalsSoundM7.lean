/- Parts of the proof:SgA,SgB,Sg2m,SgC,SgD,SgE,SgH,Rp1m,RpA,Rp2m,RpB,Rp3m,RpC,Sg3m,SgF,SgI,SgG,Sg4m,SgJ,SgK,Sg6m,SgL,Sg5m,SgM,SpC,It1m,ItP. -/
import Derived.KernelRfl
import Derived.Test.YtedjkebooffjpaaProg
import Derived.Test.YtedjkebooffjpaaSignalsSoundM6
noncomputable section
set_option linter.unusedVariables false
set_option linter.unusedSimpArgs false
open Go Go.AX Go.Proofs
set_option maxRecDepth 100000
set_option linter.unusedVariables false
set_option linter.unusedSimpArgs false
namespace Go.Proofs.Ytedjkebooffjpaa
def wkA:AV→AV
 | .agg cs=>.agg (cs.map wk1)
 | a=>wk1 a
def wk2:AV→AV
 | .agg cs=>.agg (cs.map wk1)
 | .tup cs=>.tup (cs.map wkA)
 | a=>wk1 a
theorem VR.wkA{φ:Phi}{A:Nat→Prop}{w:World}{a:AV}{v:Value}(h:VR φ A w a v):VR φ A w (wkA a) v:=by
 unfold Proofs.Ytedjkebooffjpaa.wkA
 split
 ·cases h with
  | imm _ _ h=>
   cases h with
   | agg _ vs hl h=>
    refine .agg _ vs (by simpa using hl) fun i c v hc hv=>?_
    rw[List.getElem?_map] at hc
    obtain⟨c',hc',rfl⟩:=Option.map_eq_some_iff.1 hc
    exact(VR.imm _ _ (h i c' v hc' hv)).wk1
  | agg _ vs hl h=>
   refine .agg _ vs (by simpa using hl) fun i c v hc hv=>?_
   rw[List.getElem?_map] at hc
   obtain⟨c',hc',rfl⟩:=Option.map_eq_some_iff.1 hc
   exact(h i c' v hc' hv).wk1
 ·exact h.wk1
theorem VR.wk2{φ:Phi}{A:Nat→Prop}{w:World}{a:AV}{v:Value}(h:VR φ A w a v):VR φ A w (wk2 a) v:=by
 unfold Proofs.Ytedjkebooffjpaa.wk2
 split
 ·exact VR.wkA h
 ·cases h with
  | imm _ _ h=>cases h
  | tup _ vs hl h=>
   refine .tup _ vs (by simpa using hl) fun i c v hc hv=>?_
   rw[List.getElem?_map] at hc
   obtain⟨c',hc',rfl⟩:=Option.map_eq_some_iff.1 hc
   exact VR.wkA (h i c' v hc' hv)
 ·exact h.wk1
theorem CT.w2{f:FuncId}{hin hout:List (Option Blk)}{args:List AV}{res:AV}(h:CT Try.prog f hin args hout res):CT Try.prog f hin args hout (wk2 res):=h.less fun _ _ _ _ h=>VR.wk2 h
def idxZ(l:List Int)(x:Int):Int:=match fnd (fun i=>l.getD i 0==x) 0 l.length with | some i=>(i:Int) | none=> -1
theorem idxZ_has(l:List Int)(x:Int):decide (0≤idxZ l x)=hasZ l x:=by
 unfold idxZ hasZ
 cases fnd (fun i=>l.getD i 0==x) 0 l.length with
 | none=>rfl
 | some i=>simp
theorem idx_c(l:List Int)(x:Int)(hl:l.length≤9000000000000000000):CT Try.prog 96 [] [lI l,.int .i64 x] [] (.int .i64 (idxZ l x)):=by
 refine idx_ct l x ([],_) ?_
 refine(loop_fnd (fun i=>idxPc.l0 (i:Int)) l.length (fun i=>l.getD i 0==x) (rF:=fun i=>([],.int .i64 (i:Int))) (r:=([],.int .i64 (-1))) (fun i hi hp=>?_) (fun i r hi hp hr=>?_) (fun _=>?_)).res (by unfold idxZ;split<;>simp_all)
 ·refine .to (show idxS0 l x i=_ from ?_) (.ret _)
  unfold idxS0
  rw[rngG 0 hi,br_t (by rw[←hp];exact BEq.comm)]
 ·refine .to (show idxS0 l x i=_ from ?_) hr
  unfold idxS0
  rw[rngG 0 hi,br_f (by rw[←hp];exact BEq.comm),zW i (by omega)]
 ·refine .to (show idxS0 l x l.length=_ from ?_) (.ret _)
  unfold idxS0;rw[rngE]
def robB(q:Int):Bool:=decide (0≤q)&&decide (q<8)
theorem isr_c(q:Int):CT Try.prog 98 [] [.int .i64 q] [] (.bool (robB q)):=by
 refine isr_ct q ([],_) (.val ?_)
 unfold isrEn robB
 cases decide (0≤q)<;>rfl
def shtS(s:SigD):List Bool:=s.pe.foldl (fun c b=>c.set b.toNat true) s.cl
theorem sht_len:∀(l:List Int) (c:List Bool),(l.foldl (fun c b=>c.set b.toNat true) c).length=c.length:=by
 intro l
 induction l with
 | nil=>intro c;rfl
 | cons x l ih=>intro c;rw[List.foldl_cons,ih,List.length_set]
theorem shtS_len(s:SigD):(shtS s).length=s.cl.length:=sht_len _ _
theorem boL_one(l:List Bool):∀(e:AV),e∈boL l→e.cells.length=1:=fun e he=>by unfold boL at he;obtain⟨b,_,rfl⟩:=List.mem_map.1 he;rfl
theorem lI_one(l:List Int):∀(e:AV),e∈List.map (AV.int .i64) l→e.cells.length=1:=fun e he=>by obtain⟨b,_,rfl⟩:=List.mem_map.1 he;rfl
theorem cel_c(s:SigD)(hl:s.cl.length≤1000000)(hp:s.pe.length≤1000000)(hb:∀b∈s.pe,0≤b∧b<(s.cl.length:Int)):CT Try.prog 105 [] [sgA s] [] (.lst (boL (shtS s))):=by
 refine cel_ct s ([],_) ?_
 have hL:=boL_len s.cl
 unfold celEn
 rw[gu_t (boL_one _),gu_t (by omega),gu_t (by omega)]
 refine loop_fold (L:=fun i b=>celPc.l0 (i:Int) b) (f:=fun c b=>c.set b.toNat true) (l:=s.pe) s.cl (fun i x hx h=>?_) ?_
 ·have hlen:=sht_len (s.pe.take i) s.cl
  have h2:=hb x (List.mem_of_getElem? hx)
  have hi:=(List.getElem?_eq_some_iff.1 hx).1
  generalize (s.pe.take i).foldl (fun c b=>c.set b.toNat true) s.cl=c at *
  refine .to (show celS0 s i c=_ from ?_) h
  unfold celS0
  rw[rngS hx,gu_t h2.1,gu_t (by simp only[iN];omega),gu_t (show Nat.le _ _ from(by simp only[List.length_map];show 0+x.toNat+1≤_;omega)),zW i (by omega),Nat.zero_add]
 ·refine .to (show celS0 s s.pe.length (shtS s)=_ from ?_) (.ret _)
  unfold celS0
  rw[rngE,gu_t (by rw[hL,List.length_map,shtS_len])];rfl
def bdW(s:SigD)(i:Nat):Bool:=decide (s.bw.getD i 0 < -1)||(decide (8≤s.bw.getD i 0)||(decide (0≤s.bw.getD i 0)&&!(s.cl.getD i true)))
def bdP(nb:Nat)(s:SigD)(i:Nat):Bool:=decide (s.pe.getD i 0<0)||(decide ((nb:Int)≤s.pe.getD i 0)||(s.cl.getD (s.pe.getD i 0).toNat true||hasZ (s.pe.take i) (s.pe.getD i 0)))
def sigF(n:NetD)(s:SigD):Bool:=decide (s.cl.length=celN n)&&(decide (s.bw.length=celN n)&&((fnd (bdW s) 0 s.bw.length).isNone&&(fnd (bdP n.bs.length s) 0 s.pe.length).isNone))
def sigB(n:NetD)(s:SigD):Bool:=valB n&&sigF n s
structure SigOk(n:NetD)(s:SigD):Prop where
 lc:s.cl.length=celN n
 lb:s.bw.length=celN n
 bw:∀i,i<s.bw.length→-1≤s.bw.getD i 0∧s.bw.getD i 0<8∧(0≤s.bw.getD i 0→s.cl.getD i true=true)
 pb:∀b∈s.pe,0≤b∧b<(n.bs.length:Int)∧s.cl.getD b.toNat true=false
 nd:s.pe.Nodup
theorem hasZ_iff{l:List Int}{x:Int}:hasZ l x=true↔x∈l:=by
 constructor
 ·intro h
  unfold hasZ at h
  cases hf:fnd (fun i=>l.getD i 0==x) 0 l.length with
  | none=>rw[hf] at h;cases h
  | some i=>
   obtain⟨h1,_,h2⟩:=fnd_some hf
   have:l.getD i 0=x:=by simpa using h1
   rw[←this,List.getD_eq_getElem?_getD,List.getElem?_eq_getElem (show i<l.length by omega)]
   exact List.getElem_mem _
 ·intro h
  cases hh:hasZ l x with
  | true=>rfl
  | false=>exact absurd h (hasZ_false hh)
theorem mem_take_get{l:List Int}{i j:Nat}(h:j<i)(hj:j<l.length):l.getD j 0∈l.take i:=by
 have hl:j<(l.take i).length:=by rw[List.length_take];omega
 have:(l.take i)[j]=l.getD j 0:=by rw[List.getElem_take,List.getD_eq_getElem?_getD,List.getElem?_eq_getElem hj];rfl
 rw[←this];exact List.getElem_mem _
theorem nd_of{l:List Int}(h:∀i,i<l.length→hasZ (l.take i) (l.getD i 0)=false):l.Nodup:=by
 refine List.pairwise_iff_getElem.2 fun i j hi hj hij e=>?_
 refine hasZ_false (h j hj) ?_
 have h2:l.getD j 0=l.getD i 0:=by rw[List.getD_eq_getElem?_getD,List.getElem?_eq_getElem hj,List.getD_eq_getElem?_getD,List.getElem?_eq_getElem hi];exact e.symm
 rw[h2];exact mem_take_get hij hi
theorem nd_has{l:List Int}(hn:l.Nodup){i:Nat}(hi:i<l.length):hasZ (l.take i) (l.getD i 0)=false:=by
 cases h:hasZ (l.take i) (l.getD i 0) with
 | false=>rfl
 | true=>
  obtain⟨j,hj,e⟩:=List.mem_iff_getElem.1 (hasZ_iff.1 h)
  rw[List.length_take] at hj
  rw[List.getElem_take] at e
  have:=nd_inj hn (i:=j) (j:=i) (by omega) hi (by rw[List.getD_eq_getElem?_getD,List.getElem?_eq_getElem (show j<l.length by omega)];exact e)
  omega
theorem getD_mem{l:List Int}{i:Nat}(h:i<l.length):l.getD i 0∈l:=by
 rw[List.getD_eq_getElem?_getD,List.getElem?_eq_getElem h];exact List.getElem_mem _
theorem sigF_iff{n:NetD}{s:SigD}:sigF n s=true↔SigOk n s:=by
 unfold sigF
 simp only[Bool.and_eq_true,decide_eq_true_eq,Option.isNone_iff_eq_none]
 constructor
 ·rintro⟨h1,h2,h3,h4⟩
  have hp:∀i,i<s.pe.length→bdP n.bs.length s i=false:=fun i hi=>fnd_none h4 i (Nat.zero_le _) (by omega)
  unfold bdP at hp
  simp only[Bool.or_eq_false_iff,decide_eq_false_iff_not] at hp
  refine⟨h1,h2,fun i hi=>?_,fun b hb=>?_,nd_of fun i hi=>(hp i hi).2.2.2⟩
  ·have:=fnd_none h3 i (Nat.zero_le _) (by omega)
   unfold bdW at this
   simp only[Bool.or_eq_false_iff,decide_eq_false_iff_not,Bool.and_eq_false_iff] at this
   refine⟨by omega,by omega,fun h0=>?_⟩
   rcases this.2.2 with h | h
   ·omega
   ·simpa using h
  ·obtain⟨i,hi,rfl⟩:=List.mem_iff_getElem.1 hb
   have:=hp i hi
   rw[List.getD_eq_getElem?_getD,List.getElem?_eq_getElem hi] at this
   simp only[Option.getD_some] at this
   exact⟨by omega,by omega,this.2.2.1⟩
 ·intro h
  refine⟨h.lc,h.lb,fnd_false fun i _ hi=>?_,fnd_false fun i _ hi=>?_⟩
  ·obtain⟨h1,h2,h3⟩:=h.bw i (by omega)
   unfold bdW
   rw[dec_f (show ¬s.bw.getD i 0 < -1 by omega),dec_f (show ¬8≤s.bw.getD i 0 by omega)]
   by_cases h0:0≤s.bw.getD i 0
   ·rw[h3 h0];simp
   ·rw[dec_f h0];rfl
  ·obtain⟨h1,h2,h3⟩:=h.pb _ (getD_mem (show i<s.pe.length by omega))
   unfold bdP
   rw[dec_f (show ¬s.pe.getD i 0<0 by omega),dec_f (show ¬(n.bs.length:Int)≤s.pe.getD i 0 by omega),h3,nd_has h.nd (by omega)];rfl
theorem sigB_iff{n:NetD}{s:SigD}:sigB n s=true↔ValidN n∧SigOk n s:=by
 unfold sigB;rw[Bool.and_eq_true,valB_iff,sigF_iff]
theorem rngI_mem{n:Nat}{x:Int}(h0:0≤x)(h1:x<(n:Int)):x∈(List.range n).map (fun i:Nat=>(i:Int)):=List.mem_map.2 ⟨x.toNat,List.mem_range.2 (by omega),by omega⟩
theorem SigOk.pl{n:NetD}{s:SigD}(h:SigOk n s):s.pe.length≤n.bs.length:=by
 have:=nodup_len h.nd (d:=(List.range n.bs.length).map fun i:Nat=>(i:Int)) fun x hx=>rngI_mem (h.pb x hx).1 (h.pb x hx).2.1
 rwa [List.length_map,List.length_range] at this
theorem sht_get:∀{l:List Int} {c:List Bool},(∀b∈l,0≤b∧b<(c.length:Int))→∀(x:Nat),(l.foldl (fun c b=>c.set b.toNat true) c).getD x true=(c.getD x true||hasZ l (x:Int)):=by
 intro l
 induction l with
 | nil=>intro c _ x;simp[hasZ,fnd]
 | cons y l ih=>
  intro c h x
  have hy:=h y (by simp)
  rw[List.foldl_cons,ih (fun b hb=>by rw[List.length_set];exact h b (List.mem_cons_of_mem _ hb)) x]
  have e:(c.set y.toNat true).getD x true=(c.getD x true||decide (y=(x:Int))):=by
   rw[List.getD_eq_getElem?_getD,List.getElem?_set,List.getD_eq_getElem?_getD]
   by_cases hx:y=(x:Int)
   ·rw[if_pos (by omega),if_pos (by omega),dec_t hx];simp
   ·rw[if_neg (by omega),dec_f hx,Bool.or_false]
  have e2:hasZ (y::l) (x:Int)=(decide (y=(x:Int))||hasZ l (x:Int)):=by
   rw[Bool.eq_iff_iff,Bool.or_eq_true,hasZ_iff,hasZ_iff,List.mem_cons,decide_eq_true_eq]
   exact or_congr eq_comm Iff.rfl
  rw[e,e2,Bool.or_assoc]
theorem shtS_get{n:NetD}{s:SigD}(hv:ValidN n)(h:SigOk n s)(x:Nat):(shtS s).getD x true=(s.cl.getD x true||hasZ s.pe (x:Int)):=
 sht_get (fun b hb=>by have:=h.pb b hb;have:=h.lc;have:=hv.cel;omega) x
end Go.Proofs.Ytedjkebooffjpaa
set_option maxHeartbeats 4000000
namespace Go.Proofs.Ytedjkebooffjpaa
def conSt(l:List Int)(q:Int):Empty→St
 | x=>x.elim
def conHd:Empty→Nat
 | x=>x.elim
def conEn(l:List Int)(q:Int):Option (Empty⊕Ret):=
 gu (l.length≤9000000000000000000) <|
 some (.inr ([],AV.bool (decide (0≤idxZ l q))))
def conStep(l:List Int)(q:Int):Empty→Option (Empty⊕Ret)
 | x=>x.elim
theorem conEn_ok(l:List Int)(q:Int)(o:Empty⊕Ret)(h:conEn l q=some o):Arr Try.prog Try.f47 0 (conSt l q) conHd (zB Try.f47) [] {n:=Try.f47.ntmps,fr:=enumF 0 ([lI l,.int .i64 q]),hp:=([])} o:=
 Scr.ok h mix (
 .rn 0 [] [] [] [] s2 <|
 .gu fun a0=>
 have c0:=idx_c l q a0;
 .rt [] [] [(7,hK c0 [] [])] [] [] [] (aj (al (u2 (u2 (aj (ak (k3 (al (c0)))) (u2 s2))))) t2)) (by kernel_rfl)
theorem con_ct(l:List Int)(q:Int)(r:Ret)(h:MReach (conStep l q) (conEn l q) r):CT Try.prog 47 ([]) ([lI l,.int .i64 q]) r.1 r.2:=
 CT.mach (fn:=Try.f47) (c:=zB Try.f47) (S:=conSt l q) (hd:=conHd) Try.func47 (by kernel_rfl) (Nat.le_of_ble_eq_true rfl)
  (fun s o ho=>match s,ho with
   | x,_=>x.elim)
  (fun o ho=>conEn_ok l q o ho) h
inductive foPc where
 | l0 (v0:Int)
 | l1 (v0:Int)
def foSt(n:NetD)(q:SigD):foPc→St
 | .l0 v0=>St.mk 96 [(2,AV.ptr 0 0 0),(3,AV.ptr 1 0 0),(5,iv v0)] [some (Blk.mk [netA n] 8 true true none),some (Blk.mk [AV.agg [AV.lst (boL q.cl),AV.lst (List.map (iv) q.bw),AV.lst (List.map (iv) q.pe)]] 3 true true none)]
 | .l1 v0=>St.mk 96 [(2,AV.ptr 0 0 0),(3,AV.ptr 1 0 0),(6,iv v0)] [some (Blk.mk [netA n] 8 true true none),some (Blk.mk [AV.agg [AV.lst (boL q.cl),AV.lst (List.map (iv) q.bw),AV.lst (List.map (iv) q.pe)]] 3 true true none)]
def foHd:foPc→Nat
 | .l0 _=>0
 | .l1 _=>1
def foEn(n:NetD)(q:SigD):Option (foPc⊕Ret):=
 gu (ValidN n) <|
 br (iN (boL q.cl).length != iN (celN n))
 (some (.inr ([],AV.bool false)))
 (br (iN (List.map (AV.int IntKind.i64) q.bw).length != iN (boL q.cl).length)
  (some (.inr ([],AV.bool false)))
  (some (.inl (.l0 ((0:Int))))))
def foS0(n:NetD)(q:SigD)(v0:Int):Option (foPc⊕Ret):=
 br (decide (v0<iN (List.map (AV.int IntKind.i64) q.bw).length))
 (gu (0≤v0) <|
  el (q.bw) (v0.toNat) fun(x33:Int)=>
  br (decide (x33 < -1))
  (some (.inr ([],AV.bool false)))
  (el (q.bw) (v0.toNat) fun(x40:Int)=>
   br (decide (8≤x40))
   (some (.inr ([],AV.bool false)))
   (el (q.bw) (v0.toNat) fun(x48:Int)=>
    br (x48 != -1)
    (el (q.cl) (v0.toNat) fun(x55:Bool)=>
     br (!x55)
     (some (.inr ([],AV.bool false)))
     (some (.inl (.l0 (IntKind.i64.wrap (v0+1))))))
    (some (.inl (.l0 (IntKind.i64.wrap (v0+1))))))))
 (some (.inl (.l1 ((0:Int)))))
def foS1(n:NetD)(q:SigD)(v0:Int):Option (foPc⊕Ret):=
 br (decide (v0<iN (List.map (AV.int IntKind.i64) q.pe).length))
 (gu (0≤v0) <|
  el (q.pe) (v0.toNat) fun(x70:Int)=>
  br (decide (x70<0))
  (some (.inr ([],AV.bool false)))
  (br (decide (iN (List.map bA n.bs).length≤x70))
   (some (.inr ([],AV.bool false)))
   (gu (0≤x70) <|
    el (q.cl) (x70.toNat) fun(x85:Bool)=>
    br x85
    (some (.inr ([],AV.bool false)))
    (gu (∀(e:AV),e∈List.map (AV.int IntKind.i64) q.pe→e.cells.length=1) <|
     gu (v0≤iN (List.map (AV.int IntKind.i64) q.pe).length) <|
     gu ((List.take (v0.toNat-Int.toNat 0) (List.drop (Int.toNat 0) q.pe)).length≤9000000000000000000) <|
     br (hasZ (List.take (v0.toNat-Int.toNat 0) (List.drop (Int.toNat 0) q.pe)) x70)
     (some (.inr ([],AV.bool false)))
     (some (.inl (.l1 (IntKind.i64.wrap (v0+1)))))))))
 (some (.inr ([],AV.bool true)))
def foStep(n:NetD)(q:SigD):foPc→Option (foPc⊕Ret)
 | .l0 v0=>foS0 n q v0
 | .l1 v0=>foS1 n q v0
theorem foEn_ok(n:NetD)(q:SigD)(o:foPc⊕Ret)(h:foEn n q=some o):Arr Try.prog Try.f117 0 (foSt n q) foHd (zB Try.f117) [] {n:=Try.f117.ntmps,fr:=enumF 0 ([netA n,sgA q]),hp:=([])} o:=
 Scr.ok h mix (
 .rn 0 [] [] [] [] (al (u2 (u2 t2))) <|
 .gu fun a0=>
 .br (fun a1=>
 have c0:=cells_ct a0;
 .rt [29] [] [(12,hK c0 [] [])] [] [] [] (aj (aj (u2 (u2 (u2 (u2 (aj (ak (aj t9 (al (c0)))) (aj t3 (u2 (aj a1 (aj a1 (aj a1 (aj a1 (aj a1 (aj a1 (aj a1 (al (aj a1 t2)))))))))))))))) (ak s2)) t2))
 (fun a1=>
 have c0:=cells_ct a0;
 .rn 0 [28] [] [(12,hK c0 [] [])] [] (al (u2 (u2 (u2 (u2 (aj (ak (aj t9 (al (c0)))) (aj t3 (u2 (ag a1 (ag a1 (ag a1 (ag a1 (ag a1 (ag a1 (aj (aj a1 t3) (al (aj a1 t2))))))))))))))))) <|
 .br (fun a2=>
  .rt [28,45] [] [] [] [] [] (aj (aj a2 s2) t2))
 (fun a2=>
  .lp [28,44] [] [] [] [] [0,1] [2,3,5] (aj (aj a2 s2) t6)))) (by kernel_rfl)
theorem foS0_ok(n:NetD)(q:SigD)(v0:Int)(o:foPc⊕Ret)(h:foS0 n q v0=some o):Arr Try.prog Try.f117 0 (foSt n q) foHd (headC Try.f117 0) (.rnd (headC Try.f117 0)::headK Try.f117 0) (foSt n q (.l0 v0)) o:=
 Scr.ok h mix (
 .rn 0 [] [] [] [] (al (u2 (u2 (u2 (u2 (al t3)))))) <|
 .br (fun a0=>
 .gu fun a1=>
 .el fun x33 a2=>
 .br (fun a3=>
  .rt [55,73] [(33,iv x33)] [] [] [] [] (aj (aj a0 (aj (u2 (u2 (u2 (aj (k2 (aj a1 (getMap (f:=iv) a2))) (u2 (u2 (u2 (aj a3 (aj a3 (aj a3 (aj a3 (aj a3 (aj a3 (ag a3 (u2 (ak (k3 (k5 (k5 (al t3)))))))))))))))))))) (ak s2))) t2))
 (fun a3=>
  .el fun x40 a4=>
  .br (fun a5=>
  .rt [55,72,89] [(33,iv x33),(40,iv x40)] [] [] [] [] (aj (aj a0 (aj (u2 (u2 (u2 (aj (k2 (aj a1 (getMap (f:=iv) a2))) (u2 (u2 (u2 (ag a3 (ag a3 (ag a3 (aj (aj a3 (k2 (aj a1 (getMap (f:=iv) a4)))) (ag a3 (ag a3 (ag a3 (u2 (aj a5 (aj a5 (aj a5 (aj a5 (aj a5 (aj a5 (aj a5 (ak (k5 (aj a5 (al (aj a5 t2))))))))))))))))))))))))))) (ak s2))) t2))
  (fun a5=>
  .el fun x48 a6=>
  .br (fun a7=>
   .el fun x55 a8=>
   .rn 0 [55,72,88,103] [(33,iv x33),(40,iv x40),(48,iv x48),(55,AV.bool x55)] [] [] (aj a0 (al (u2 (u2 (u2 (aj (k2 (aj a1 (getMap (f:=iv) a2))) (u2 (u2 (u2 (ag a3 (ag a3 (ag a3 (aj (aj a3 (k2 (aj a1 (getMap (f:=iv) a4)))) (ag a3 (ag a3 (ag a3 (u2 (ag a5 (ag a5 (ag a5 (aj (aj a5 (k2 (aj a1 (getMap (f:=iv) a6)))) (ag a5 (ag a5 (ag a5 (ag a7 (ag a7 (ag a7 (aj (aj a7 (k2 (aj a1 (getMap (f:=AV.bool) a8)))) (ag a7 (ag a7 (aj (aj a5 (aj a7 t2)) (al (aj a5 t2))))))))))))))))))))))))))))))))) <|
   .br (fun a9=>
   .rt [72,88,103,119] [] [] [] [] [] (aj (aj a9 s2) t2))
   (fun a9=>
   .lp [72,88,103,118] [] [] [] [] [0,1] [2,3,5] (aj (aj a9 (al (u2 (u2 s2)))) t6)))
  (fun a7=>
   .lp [55,72,88,102] [(33,iv x33),(40,iv x40),(48,iv x48)] [] [] [] [0,1] [2,3,5] (aj (aj a0 (aj (u2 (u2 (u2 (aj (k2 (aj a1 (getMap (f:=iv) a2))) (u2 (u2 (u2 (ag a3 (ag a3 (ag a3 (aj (aj a3 (k2 (aj a1 (getMap (f:=iv) a4)))) (ag a3 (ag a3 (ag a3 (u2 (ag a5 (ag a5 (ag a5 (aj (aj a5 (k2 (aj a1 (getMap (f:=iv) a6)))) (ag a5 (ag a5 (ag a5 (aj a7 (aj a7 (aj a7 (aj a7 (aj a7 (aj a7 (aj (aj a5 (aj a7 t2)) (al (aj a5 t2))))))))))))))))))))))))))))))) (ak (al (u2 (u2 s2)))))) t6)))))
 (fun a0=>
 .lp [54] [] [] [] [] [0,1] [2,3,6] (aj (aj a0 s2) t6))) (by kernel_rfl)
theorem foS1_ok(n:NetD)(q:SigD)(v0:Int)(o:foPc⊕Ret)(h:foS1 n q v0=some o):Arr Try.prog Try.f117 0 (foSt n q) foHd (headC Try.f117 1) (.rnd (headC Try.f117 1)::headK Try.f117 1) (foSt n q (.l1 v0)) o:=
 Scr.ok h mix (
 .rn 0 [] [] [] [] (al (u2 (u2 (u2 (u2 (al t3)))))) <|
 .br (fun a0=>
 .gu fun a1=>
 .el fun x70 a2=>
 .rn 0 [129] [(70,iv x70)] [] [] (aj a0 (al (u2 (u2 (u2 (aj (k2 (aj a1 (getMap (f:=iv) a2))) (u2 s2))))))) <|
 .br (fun a3=>
  .rt [149] [] [] [] [] [] (aj (aj (u2 (u2 (u2 (aj a3 (aj a3 (aj a3 (aj a3 (aj a3 (ag a3 (u2 (k5 (aj t3 (u2 (ak (k5 (al t3)))))))))))))))) (ak s2)) t2))
 (fun a3=>
  .br (fun a4=>
  .rt [148,163] [] [] [] [] [] (aj (aj (u2 (u2 (u2 (ag a3 (ag a3 (ag a3 (ag a3 (aj (aj a3 t3) (ag a3 (u2 (aj a4 (aj a4 (aj a4 (aj a4 (aj a4 (ag a4 (u2 (ak (k5 (al t3)))))))))))))))))))) (ak s2)) t2))
  (fun a4=>
  .gu fun a5=>
  .el fun x85 a6=>
  .br (fun a7=>
   .rt [148,162,177] [(85,AV.bool x85)] [] [] [] [] (aj (aj (u2 (u2 (u2 (ag a3 (ag a3 (ag a3 (ag a3 (aj (aj a3 t3) (ag a3 (u2 (ag a4 (ag a4 (ag a4 (aj (aj a4 (k2 (aj a5 (getMap (f:=AV.bool) a6)))) (ag a4 (ag a4 (u2 (aj a7 (aj a7 (aj a7 (aj a7 (aj a7 (aj a7 (al (aj a7 t2))))))))))))))))))))))))) (ak s2)) t2))
  (fun a7=>
   .gu fun a8=>
   .gu fun a9=>
   .gu fun a10=>
   have c0:=has_ct (List.take (v0.toNat-Int.toNat 0) (List.drop (Int.toNat 0) q.pe)) x70 a10;
   .rn 0 [148,162,176] [(85,AV.bool x85)] [(94,hK c0 [] [])] [] (al (u2 (u2 (u2 (ag a3 (ag a3 (ag a3 (ag a3 (aj (aj a3 t3) (ag a3 (u2 (ag a4 (ag a4 (ag a4 (aj (aj a4 (k2 (aj a5 (getMap (f:=AV.bool) a6)))) (ag a4 (ag a4 (u2 (ag a7 (ag a7 (ag a7 (aj (aj a7 (k2 (aj a8 (aj (show(0:Int)≤(0:Int) from(by first | exact Nat.le_of_ble_eq_true rfl | decide)) (aj a1 (aj a9 (show iN (List.map (iv) q.pe).length≤iN (List.map (iv) q.pe).length by omega))))))) (ag a7 (aj (aj a7 (ak (k3 (al (show CT Try.prog 26 [] [AV.lst (List.take (v0.toNat-Int.toNat 0) (List.drop (Int.toNat 0) (List.map (iv) q.pe))),iv x70] [] (AV.bool (hasZ (List.take (v0.toNat-Int.toNat 0) (List.drop (Int.toNat 0) q.pe)) x70)) from CT.eqs (c0) (by first | (simp only[boL,List.map_append,List.map_set,List.map_take,List.map_drop,List.map_replicate,List.nil_append];done) | (simp only[boL,List.map_append,List.map_set,List.map_take,List.map_drop,List.map_replicate,List.nil_append];rfl) | (simp[gL,boL,lI,sA,bA];done) | (simp[gL,boL,lI,sA,bA];rfl) | (simp only[netA,List.map_append,List.map_set,List.map_cons,List.map_nil];rfl)) (by first | (simp only[boL,List.map_append,List.map_set,List.map_take,List.map_drop,List.map_replicate,List.nil_append];done) | (simp only[boL,List.map_append,List.map_set,List.map_take,List.map_drop,List.map_replicate,List.nil_append];rfl) | (simp[gL,boL,lI,sA,bA];done) | (simp[gL,boL,lI,sA,bA];rfl) | (simp only[netA,List.map_append,List.map_set,List.map_cons,List.map_nil];rfl))))))) (al (aj a7 t2)))))))))))))))))))))))))) <|
   .br (fun a11=>
   .rt [148,162,176,191] [] [] [] [] [] (aj (aj a11 s2) t2))
   (fun a11=>
   .lp [148,162,176,190] [] [] [] [] [0,1] [2,3,6] (aj (aj a11 (al (u2 (u2 s2)))) t6))))))
 (fun a0=>
 .rt [128] [] [] [] [] [] (aj (aj a0 s2) t2))) (by kernel_rfl)
theorem fo_ct(n:NetD)(q:SigD)(r:Ret)(h:MReach (foStep n q) (foEn n q) r):CT Try.prog 117 ([]) ([netA n,sgA q]) r.1 r.2:=
 CT.mach (fn:=Try.f117) (c:=zB Try.f117) (S:=foSt n q) (hd:=foHd) Try.func117 (by kernel_rfl) (Nat.le_of_ble_eq_true rfl)
  (fun s o ho=>match s,ho with
   | .l0 v0,ho=>foS0_ok n q v0 o ho
   | .l1 v0,ho=>foS1_ok n q v0 o ho
  )
  (fun o ho=>foEn_ok n q o ho) h
inductive r20nPc where
 | l0 (v0:Int) (v1:List Int)
def r20nSt(n:NetD):r20nPc→St
 | .l0 v0 v1=>St.mk 29 [(2,AV.ptr 0 0 0),(4,AV.ptr 1 0 0),(5,iv v0)] [some (Blk.mk [AV.agg [AV.nils,AV.nils,AV.nils]] 3 true true none),some (Blk.mk [AV.agg [AV.sl 2 0 (List.replicate (iN (celN n)).toNat false).length,AV.sl 3 0 v1.length,AV.nils]] 3 false true none),some (Blk.mk (List.replicate (iN (celN n)).toNat (AV.bool false)) 1 true true none),some (Blk.mk (List.map (iv) v1) 1 true true none)]
def r20nHd:r20nPc→Nat
 | .l0 _ _=>0
def r20nEn(n:NetD):Option (r20nPc⊕Ret):=
 gu (Rows n.nx) <|
 br (!valB n)
 (some (.inr ([],AV.tup [AV.agg [AV.nils,AV.nils,AV.nils],AV.int IntKind.i64 20])))
 (gu (ValidN n) <|
  gu (1 * iN (celN n)≤281474976710656) <|
  gu (iN (celN n)≤9223372036854775807) <|
  gu (8 * iN (celN n)≤281474976710656) <|
  some (.inl (.l0 ((0:Int)) (List.replicate (iN (celN n)).toNat 0))))
def r20nS0(n:NetD)(v0:Int)(v1:List Int):Option (r20nPc⊕Ret):=
 br (decide (v0<iN v1.length))
 (gu (0≤v0) <|
  gu (v0<iN v1.length) <|
  gu ((0+v0.toNat).succ.le (List.map (AV.int IntKind.i64) v1).length) <|
  some (.inl (.l0 (IntKind.i64.wrap (v0+1)) (v1.set (0+v0.toNat) (-1)))))
 (some (.inr ([],AV.tup [AV.agg [AV.lst (List.replicate (iN (celN n)).toNat (AV.bool false)),AV.lst (List.map (AV.int IntKind.i64) v1),AV.nils],AV.int IntKind.i64 0])))
def r20nStep(n:NetD):r20nPc→Option (r20nPc⊕Ret)
 | .l0 v0 v1=>r20nS0 n v0 v1
theorem r20nEn_ok(n:NetD)(o:r20nPc⊕Ret)(h:r20nEn n=some o):Arr Try.prog Try.f31 0 (r20nSt n) r20nHd (zB Try.f31) [] {n:=Try.f31.ntmps,fr:=enumF 0 ([netA n]),hp:=([])} o:=
 Scr.ok h mix (
 .rn 0 [] [] [] [] (al (u2 t3)) <|
 .gu fun a0=>
 have c0:=rvalid_net_ct a0;
 .rn 0 [] [] [(7,hK c0 [] [])] [] (al (u2 (aj (ak (aj t9 (al (c0)))) s2))) <|
 .br (fun a1=>
 .rt [17] [] [] [] [] [] (aj (aj a1 (al (ak (aj (k2 n11) t2)))) (al (aj t4 t2))))
 (fun a1=>
 .gu fun a2=>
 .gu fun a3=>
 .gu fun a4=>
 .gu fun a5=>
 have c1:=cells_ct a2;
 have c2:=cells_ct a2;
 .lq [16] [] [(11,hK c1 [] []),(14,hK c2 [] [])] [] [] [1,4,2,3] [2,4,5] (up [] [(1,[AV.agg [AV.sl 2 0 (iN (celN n)).toNat,AV.sl 3 0 (iN (celN n)).toNat,AV.nils]]),(3,List.replicate (iN (celN n)).toNat (iv 0))] (r20nSt n (.l0 ((0:Int)) (List.replicate (iN (celN n)).toNat 0)))) (aj (aj a1 (aj (u2 (aj (ak (aj t9 (al (c1)))) (aj (k2 (aj (show 0≤iN (celN n) by simp) (aj (show iN (celN n)≤iN (celN n) by omega) (aj a3 a4)))) (u2 (aj (ak (aj t9 (al (c2)))) (aj (k2 (aj (show 0≤iN (celN n) by simp) (aj (show iN (celN n)≤iN (celN n) by omega) (aj a5 a4)))) (aj t3 (ak (al (k2 n11)))))))))) s2)) (ak (k3 (aj (al t4) t3)))) (by simp[up,upF,upV,upH,upB,r20nSt,gL,boL,lI,sA,bA]))) (by kernel_rfl)
theorem r20nS0_ok(n:NetD)(v0:Int)(v1:List Int)(o:r20nPc⊕Ret)(h:r20nS0 n v0 v1=some o):Arr Try.prog Try.f31 0 (r20nSt n) r20nHd (headC Try.f31 0) (.rnd (headC Try.f31 0)::headK Try.f31 0) (r20nSt n (.l0 v0 v1)) o:=
 Scr.ok h mix (
 .rn 0 [] [] [] [] (al (u2 (u2 (u2 (u2 (al t3)))))) <|
 .br (fun a0=>
 .gu fun a1=>
 .gu fun a2=>
 .gu fun a3=>
 .lq [43] [] [] [] [] [0,1,2,3] [2,4,5] (up [] [(1,[AV.agg [AV.sl 2 0 (List.replicate (iN (celN n)).toNat false).length,AV.sl 3 0 v1.length,AV.nils]]),(3,(List.map (iv) v1).set (0+v0.toNat) (iv (-1)))] (r20nSt n (.l0 (IntKind.i64.wrap (v0+1)) (v1.set (0+v0.toNat) (-1))))) (aj (aj a0 (aj (u2 (u2 (u2 (aj (k2 (aj a1 a2)) (al (ak a3)))))) (al (u2 (u2 s2))))) (ak (k3 (aj (al t4) t3)))) (by simp[up,upF,upV,upH,upB,r20nSt,gL,boL,lI,sA,bA]))
 (fun a0=>
 .rt [42] [] [] [] [] [2,3] (aj (aj a0 (al (u2 (aj (k2 n11) t2)))) (al (aj (aj (show(List.replicate (iN (celN n)).toNat false).length=(List.replicate (iN (celN n)).toNat (AV.bool false)).length by simp) (aj (show v1.length=(List.map (iv) v1).length by simp) t2)) t2))))) (by kernel_rfl)
theorem r20n_ct(n:NetD)(r:Ret)(h:MReach (r20nStep n) (r20nEn n) r):CT Try.prog 31 ([]) ([netA n]) r.1 r.2:=
 CT.mach (fn:=Try.f31) (c:=zB Try.f31) (S:=r20nSt n) (hd:=r20nHd) Try.func31 (by kernel_rfl) (Nat.le_of_ble_eq_true rfl)
  (fun s o ho=>match s,ho with
   | .l0 v0 v1,ho=>r20nS0_ok n v0 v1 o ho
  )
  (fun o ho=>r20nEn_ok n o ho) h
inductive ilvPc where
 | l0 (v0:Int) (v1 v2 v3 v4 v5 v6 v7 v8:Bool)
 | l1 (v0:Int) (v1:List Int) (v2:Nat) (v3:Int) (v4 v5 v6 v7 v8 v9 v10 v11:Bool)
def ilvSt(q:LokD):ilvPc→St
 | .l0 v0 v1 v2 v3 v4 v5 v6 v7 v8=>St.mk 71 [(1,AV.ptr 0 0 0),(3,AV.ptr 1 0 0),(22,AV.lst (gL q.qu)),(23,iv (iN (gL q.qu).length)),(24,iv v0)] [some (Blk.mk [AV.agg [AV.lst (List.map (iv) q.ow),AV.lst (gL q.qu)]] 2 true true none),some (Blk.mk [AV.agg [AV.bool v1,AV.bool v2,AV.bool v3,AV.bool v4,AV.bool v5,AV.bool v6,AV.bool v7,AV.bool v8]] 8 true true none)]
 | .l1 v0 v1 v2 v3 v4 v5 v6 v7 v8 v9 v10 v11=>St.mk 71 [(1,AV.ptr 0 0 0),(3,AV.ptr 1 0 0),(4,iv v0),(22,AV.lst (gL q.qu)),(23,iv (iN (gL q.qu).length)),(24,iv v0),(44,AV.lst (List.map (iv) v1)),(45,iv (iN v2)),(46,iv v3)] [some (Blk.mk [AV.agg [AV.lst (List.map (iv) q.ow),AV.lst (gL q.qu)]] 2 true true none),some (Blk.mk [AV.agg [AV.bool v4,AV.bool v5,AV.bool v6,AV.bool v7,AV.bool v8,AV.bool v9,AV.bool v10,AV.bool v11]] 8 true true none)]
def ilvHd:ilvPc→Nat
 | .l0 _ _ _ _ _ _ _ _ _=>0
 | .l1 _ _ _ _ _ _ _ _ _ _ _ _=>1
def ilvEn(q:LokD):Option (ilvPc⊕Ret):=
 br (decide (48<iN (List.map (AV.int IntKind.i64) q.ow).length))
 (some (.inr ([],AV.bool false)))
 (br (iN (List.map (AV.int IntKind.i64) q.ow).length != iN (gL q.qu).length)
  (some (.inr ([],AV.bool false)))
  (some (.inl (.l0 ((0:Int)) (false) (false) (false) (false) (false) (false) (false) (false)))))
def ilvS0(q:LokD)(v0:Int)(v1 v2 v3 v4 v5 v6 v7 v8:Bool):Option (ilvPc⊕Ret):=
 br (decide (v0<iN (gL q.qu).length))
 (gu (0≤v0) <|
  el (q.qu) (v0.toNat) fun(x27:List Int)=>
  el (q.ow) (v0.toNat) fun(x32:Int)=>
  br (x32 != -1)
  (el (q.ow) (v0.toNat) fun(x39:Int)=>
   br (!robB x39)
   (some (.inr ([],AV.bool false)))
   (some (.inl (.l1 v0 x27 ((List.map (AV.int IntKind.i64) x27).length) ((0:Int)) v1 v2 v3 v4 v5 v6 v7 v8))))
  (some (.inl (.l1 v0 x27 ((List.map (AV.int IntKind.i64) x27).length) ((0:Int)) v1 v2 v3 v4 v5 v6 v7 v8))))
 (some (.inr ([],AV.bool true)))
def ilvS1(q:LokD)(v0:Int)(v1:List Int)(v2:Nat)(v3:Int)(v4 v5 v6 v7 v8 v9 v10 v11:Bool):Option (ilvPc⊕Ret):=
 br (decide (v3<iN v2))
 (gu (0≤v3) <|
  el v1 (v3.toNat) fun(x48:Int)=>
  br (!robB x48)
  (some (.inr ([],AV.bool false)))
  (gu (0≤x48) <|
   gu (x48<8) <|
   el ([v4,v5,v6,v7,v8,v9,v10,v11]) (0+x48.toNat * 1) fun(x56:Bool)=>
   br x56
   (some (.inr ([],AV.bool false)))
   (gu (0≤v0) <|
    el (q.ow) (v0.toNat) fun(x62:Int)=>
    br (x62==x48)
    (some (.inr ([],AV.bool false)))
    (gu ((0+x48.toNat * 1+1).le 8) <|
     some (.inl (.l1 v0 v1 v2 (IntKind.i64.wrap (v3+1)) (bif Nat.beq 0 (0+x48.toNat * 1) then true else v4) (bif Nat.beq 1 (0+x48.toNat * 1) then true else v5) (bif Nat.beq 2 (0+x48.toNat * 1) then true else v6) (bif Nat.beq 3 (0+x48.toNat * 1) then true else v7) (bif Nat.beq 4 (0+x48.toNat * 1) then true else v8) (bif Nat.beq 5 (0+x48.toNat * 1) then true else v9) (bif Nat.beq 6 (0+x48.toNat * 1) then true else v10) (bif Nat.beq 7 (0+x48.toNat * 1) then true else v11)))))))
 (some (.inl (.l0 (IntKind.i64.wrap (v0+1)) v4 v5 v6 v7 v8 v9 v10 v11)))
def ilvStep(q:LokD):ilvPc→Option (ilvPc⊕Ret)
 | .l0 v0 v1 v2 v3 v4 v5 v6 v7 v8=>ilvS0 q v0 v1 v2 v3 v4 v5 v6 v7 v8
 | .l1 v0 v1 v2 v3 v4 v5 v6 v7 v8 v9 v10 v11=>ilvS1 q v0 v1 v2 v3 v4 v5 v6 v7 v8 v9 v10 v11
theorem ilvEn_ok(q:LokD)(o:ilvPc⊕Ret)(h:ilvEn q=some o):Arr Try.prog Try.f51 0 (ilvSt q) ilvHd (zB Try.f51) [] {n:=Try.f51.ntmps,fr:=enumF 0 ([lkA q]),hp:=([])} o:=
 Scr.ok h mix (
 .rn 0 [] [] [] [] (al (u2 t2)) <|
 .br (fun a0=>
 .rt [25] [] [] [] [] [] (aj (aj (u2 (u2 (u2 (u2 (u2 (aj a0 (aj a0 (aj a0 (aj a0 (aj a0 (aj a0 (aj a0 (al (aj a0 t2)))))))))))))) (ak s2)) t2))
 (fun a0=>
 .rn 0 [24] [] [] [] (al (u2 (u2 (u2 (u2 (u2 (ag a0 (ag a0 (ag a0 (ag a0 (ag a0 (ag a0 (aj (aj a0 t3) (al (aj a0 t2))))))))))))))) <|
 .br (fun a1=>
  .rt [24,41] [] [] [] [] [] (aj (aj a1 s2) t2))
 (fun a1=>
  .lp [24,40] [] [] [] [] [0,1] [1,3,22,23,24] (aj (aj a1 (u2 (al (u2 (u2 (u2 t2)))))) t8)))) (by kernel_rfl)
theorem ilvS0_ok(q:LokD)(v0:Int)(v1 v2 v3 v4 v5 v6 v7 v8:Bool)(o:ilvPc⊕Ret)(h:ilvS0 q v0 v1 v2 v3 v4 v5 v6 v7 v8=some o):Arr Try.prog Try.f51 0 (ilvSt q) ilvHd (headC Try.f51 0) (.rnd (headC Try.f51 0)::headK Try.f51 0) (ilvSt q (.l0 v0 v1 v2 v3 v4 v5 v6 v7 v8)) o:=
 Scr.ok h mix (
 .rn 0 [] [] [] [] (al (al t3)) <|
 .br (fun a0=>
 .gu fun a1=>
 .el fun x27 a2=>
 .rn 0 [51] [(27,lI x27)] [] [] (aj a0 (al (u2 (aj (k2 (aj a1 (getMap (f:=lI) a2))) (u2 (u2 s2)))))) <|
 .el fun x32 a3=>
 .br (fun a4=>
  .el fun x39 a5=>
  have c0:=isr_c (x39);
  .rn 0 [71] [(32,iv x32),(39,iv x39)] [(41,hK c0 [] [])] [] (al (u2 (u2 (u2 (aj (k2 (aj a1 (getMap (f:=iv) a3))) (u2 (u2 (u2 (ag a4 (ag a4 (ag a4 (aj (aj a4 (k2 (aj a1 (getMap (f:=iv) a5)))) (ag a4 (aj (aj a4 (k2 (al (c0)))) (ag a4 (al (aj a4 t2))))))))))))))))) <|
  .br (fun a6=>
  .rt [71,87] [] [] [] [] [] (aj (aj a6 s2) t2))
  (fun a6=>
  .lp [71,86] [] [] [] [] [0,1] [1,3,4,22,23,24,44,45,46] (aj (aj a6 (al (u2 (u2 t2)))) (k3 t9))))
 (fun a4=>
  .lp [70] [(32,iv x32)] [] [] [] [0,1] [1,3,4,22,23,24,44,45,46] (aj (aj (u2 (u2 (u2 (aj (k2 (aj a1 (getMap (f:=iv) a3))) (u2 (u2 (u2 (aj a4 (aj a4 (aj a4 (aj a4 (aj a4 (aj a4 (aj a4 (al (aj a4 t2)))))))))))))))) (ak (al (u2 (u2 t2))))) (k3 t9))))
 (fun a0=>
 .rt [50] [] [] [] [] [] (aj (aj a0 s2) t2))) (by kernel_rfl)
theorem ilvS1_ok(q:LokD)(v0:Int)(v1:List Int)(v2:Nat)(v3:Int)(v4 v5 v6 v7 v8 v9 v10 v11:Bool)(o:ilvPc⊕Ret)(h:ilvS1 q v0 v1 v2 v3 v4 v5 v6 v7 v8 v9 v10 v11=some o):Arr Try.prog Try.f51 0 (ilvSt q) ilvHd (headC Try.f51 1) (.rnd (headC Try.f51 1)::headK Try.f51 1) (ilvSt q (.l1 v0 v1 v2 v3 v4 v5 v6 v7 v8 v9 v10 v11)) o:=
 Scr.ok h mix (
 .rn 0 [] [] [] [] (al (al t3)) <|
 .br (fun a0=>
 .gu fun a1=>
 .el fun x48 a2=>
 .rn 0 [95] [(48,iv x48)] [] [] (aj a0 (al (aj (k2 (aj a1 (getMap (f:=iv) a2))) (u2 s2)))) <|
 .br (fun a3=>
  have c0:=isr_c (x48);
  .rt [107] [] [(51,hK c0 [] [])] [] [] [] (aj (aj (u2 (aj (k2 (al (c0))) (u2 (u2 (aj a3 (aj a3 (aj a3 (ag a3 (u2 (k2 (k5 (al t3)))))))))))) (ak s2)) t2))
 (fun a3=>
  .gu fun a4=>
  .gu fun a5=>
  .el fun x56 a6=>
  .br (fun a7=>
  have c0:=isr_c (x48);
  .rt [106,117] [(56,AV.tup [AV.bool x56])] [(51,hK c0 [] [])] [] [] [] (aj (aj (u2 (aj (k2 (al (c0))) (u2 (u2 (ag a3 (aj (aj a3 (k2 (aj a4 a5))) (aj (aj a3 (ak (getMap (f:=AV.bool) a6))) (ag a3 (u2 (aj a7 (aj a7 (aj a7 (aj a7 (aj a7 (aj a7 (aj a7 (al (aj a7 t2)))))))))))))))))) (ak s2)) t2))
  (fun a7=>
  .gu fun a8=>
  .el fun x62 a9=>
  have c0:=isr_c (x48);
  .rn 0 [106,116] [(56,AV.tup [AV.bool x56]),(62,iv x62)] [(51,hK c0 [] [])] [] (al (u2 (aj (k2 (al (c0))) (u2 (u2 (ag a3 (aj (aj a3 (k2 (aj a4 a5))) (aj (aj a3 (ak (getMap (f:=AV.bool) a6))) (ag a3 (u2 (ag a7 (ag a7 (ag a7 (aj (aj a7 (k2 (aj a8 (getMap (f:=iv) a9)))) (ag a7 (ag a7 (aj (aj a7 t3) (al (aj a7 t2))))))))))))))))))) <|
  .br (fun a10=>
   .rt [106,116,133] [] [] [] [] [] (aj (aj a10 s2) t2))
  (fun a10=>
   .gu fun a11=>
   .lp [106,116,132] [(68,AV.tup [AV.unk])] [] [] [] [0,1] [1,3,4,22,23,24,44,45,46] (aj (aj a10 (aj (u2 (aj (k2 (aj a4 a5)) (al (ak a11)))) (al (u2 s2)))) (k3 t9))))))
 (fun a0=>
 .lp [94] [] [] [] [] [0,1] [1,3,22,23,24] (aj (aj a0 (al (u2 s2))) t8))) (by kernel_rfl)
theorem ilv_ct(q:LokD)(r:Ret)(h:MReach (ilvStep q) (ilvEn q) r):CT Try.prog 51 ([]) ([lkA q]) r.1 r.2:=
 CT.mach (fn:=Try.f51) (c:=zB Try.f51) (S:=ilvSt q) (hd:=ilvHd) Try.func51 (by kernel_rfl) (Nat.le_of_ble_eq_true rfl)
  (fun s o ho=>match s,ho with
   | .l0 v0 v1 v2 v3 v4 v5 v6 v7 v8,ho=>ilvS0_ok q v0 v1 v2 v3 v4 v5 v6 v7 v8 o ho
   | .l1 v0 v1 v2 v3 v4 v5 v6 v7 v8 v9 v10 v11,ho=>ilvS1_ok q v0 v1 v2 v3 v4 v5 v6 v7 v8 v9 v10 v11 o ho
  )
  (fun o ho=>ilvEn_ok q o ho) h
inductive rlvPc where
 | l0 (v0:Int) (v1 v2 v3 v4 v5 v6 v7 v8:Bool)
 | l1 (v0 v1 v2:Int) (v3 v4 v5 v6 v7 v8 v9 v10 v11:Bool)
def rlvSt(q:LokD):rlvPc→St
 | .l0 v0 v1 v2 v3 v4 v5 v6 v7 v8=>St.mk 81 [(1,AV.ptr 0 0 0),(3,AV.ptr 1 0 0),(4,iv v0)] [some (Blk.mk [AV.agg [AV.lst (List.map (iv) q.ow),AV.lst (gL q.qu)]] 2 true true none),some (Blk.mk [AV.agg [AV.bool v1,AV.bool v2,AV.bool v3,AV.bool v4,AV.bool v5,AV.bool v6,AV.bool v7,AV.bool v8]] 8 true true none)]
 | .l1 v0 v1 v2 v3 v4 v5 v6 v7 v8 v9 v10 v11=>St.mk 81 [(1,AV.ptr 0 0 0),(3,AV.ptr 1 0 0),(4,iv v0),(5,iv v1),(34,AV.ptr 0 0 0),(35,AV.lst (List.map (iv) q.ow)),(36,iv v0),(37,AV.iptr [iv v2]),(38,iv v2),(39,AV.bool v3)] [some (Blk.mk [AV.agg [AV.lst (List.map (iv) q.ow),AV.lst (gL q.qu)]] 2 true true none),some (Blk.mk [AV.agg [AV.bool v4,AV.bool v5,AV.bool v6,AV.bool v7,AV.bool v8,AV.bool v9,AV.bool v10,AV.bool v11]] 8 true true none)]
def rlvHd:rlvPc→Nat
 | .l0 _ _ _ _ _ _ _ _ _=>0
 | .l1 _ _ _ _ _ _ _ _ _ _ _ _=>1
def rlvEn(q:LokD):Option (rlvPc⊕Ret):=
 br (decide (48<iN (List.map (AV.int IntKind.i64) q.ow).length))
 (some (.inr ([],AV.bool false)))
 (br (iN (List.map (AV.int IntKind.i64) q.ow).length != iN (gL q.qu).length)
  (some (.inr ([],AV.bool false)))
  (some (.inl (.l0 ((0:Int)) (false) (false) (false) (false) (false) (false) (false) (false)))))
def rlvS0(q:LokD)(v0:Int)(v1 v2 v3 v4 v5 v6 v7 v8:Bool):Option (rlvPc⊕Ret):=
 br (decide (v0<iN (List.map (AV.int IntKind.i64) q.ow).length))
 (gu (0≤v0) <|
  el (q.ow) (v0.toNat) fun(x30:Int)=>
  br (decide (x30 < -1))
  (some (.inr ([],AV.bool false)))
  (el (q.ow) (v0.toNat) fun(x37:Int)=>
   br (decide (8≤x37))
   (some (.inr ([],AV.bool false)))
   (some (.inl (.l1 v0 ((0:Int)) x37 (decide (8≤x37)) v1 v2 v3 v4 v5 v6 v7 v8)))))
 (some (.inr ([],AV.bool true)))
def rlvS1(q:LokD)(v0 v1 v2:Int)(v3 v4 v5 v6 v7 v8 v9 v10 v11:Bool):Option (rlvPc⊕Ret):=
 gu (0≤v0) <|
 el (q.qu) (v0.toNat) fun(x45:List Int)=>
 br (decide (v1<iN (List.map (AV.int IntKind.i64) x45).length))
 (el (q.qu) (v0.toNat) fun(x54:List Int)=>
  gu (0≤v1) <|
  el x54 (v1.toNat) fun(x57:Int)=>
  br (decide (x57<0))
  (some (.inr ([],AV.bool false)))
  (br (decide (8≤x57))
   (some (.inr ([],AV.bool false)))
   (gu (0≤x57) <|
    gu (x57<8) <|
    el ([v4,v5,v6,v7,v8,v9,v10,v11]) (0+x57.toNat * 1) fun(x68:Bool)=>
    br x68
    (some (.inr ([],AV.bool false)))
    (el (q.ow) (v0.toNat) fun(x75:Int)=>
     br (x57==x75)
     (some (.inr ([],AV.bool false)))
     (gu ((0+x57.toNat * 1+1).le 8) <|
      some (.inl (.l1 v0 (IntKind.i64.wrap (v1+1)) v2 v3 (bif Nat.beq 0 (0+x57.toNat * 1) then true else v4) (bif Nat.beq 1 (0+x57.toNat * 1) then true else v5) (bif Nat.beq 2 (0+x57.toNat * 1) then true else v6) (bif Nat.beq 3 (0+x57.toNat * 1) then true else v7) (bif Nat.beq 4 (0+x57.toNat * 1) then true else v8) (bif Nat.beq 5 (0+x57.toNat * 1) then true else v9) (bif Nat.beq 6 (0+x57.toNat * 1) then true else v10) (bif Nat.beq 7 (0+x57.toNat * 1) then true else v11))))))))
 (some (.inl (.l0 (IntKind.i64.wrap (v0+1)) v4 v5 v6 v7 v8 v9 v10 v11)))
def rlvStep(q:LokD):rlvPc→Option (rlvPc⊕Ret)
 | .l0 v0 v1 v2 v3 v4 v5 v6 v7 v8=>rlvS0 q v0 v1 v2 v3 v4 v5 v6 v7 v8
 | .l1 v0 v1 v2 v3 v4 v5 v6 v7 v8 v9 v10 v11=>rlvS1 q v0 v1 v2 v3 v4 v5 v6 v7 v8 v9 v10 v11
theorem rlvEn_ok(q:LokD)(o:rlvPc⊕Ret)(h:rlvEn q=some o):Arr Try.prog Try.f91 0 (rlvSt q) rlvHd (zB Try.f91) [] {n:=Try.f91.ntmps,fr:=enumF 0 ([lkA q]),hp:=([])} o:=
 Scr.ok h mix (
 .rn 0 [] [] [] [] (al (u2 t2)) <|
 .br (fun a0=>
 .rt [23] [] [] [] [] [] (aj (aj (u2 (u2 (u2 (u2 (u2 (aj a0 (aj a0 (aj a0 (aj a0 (aj a0 (aj a0 (aj a0 (al (aj a0 t2)))))))))))))) (ak s2)) t2))
 (fun a0=>
 .rn 0 [22] [] [] [] (al (u2 (u2 (u2 (u2 (u2 (ag a0 (ag a0 (ag a0 (ag a0 (ag a0 (ag a0 (aj (aj a0 t3) (al (aj a0 t2))))))))))))))) <|
 .br (fun a1=>
  .rt [22,39] [] [] [] [] [] (aj (aj a1 s2) t2))
 (fun a1=>
  .lp [22,38] [] [] [] [] [0,1] [1,3,4] (aj (aj a1 (u2 s2)) t6)))) (by kernel_rfl)
theorem rlvS0_ok(q:LokD)(v0:Int)(v1 v2 v3 v4 v5 v6 v7 v8:Bool)(o:rlvPc⊕Ret)(h:rlvS0 q v0 v1 v2 v3 v4 v5 v6 v7 v8=some o):Arr Try.prog Try.f91 0 (rlvSt q) rlvHd (headC Try.f91 0) (.rnd (headC Try.f91 0)::headK Try.f91 0) (rlvSt q (.l0 v0 v1 v2 v3 v4 v5 v6 v7 v8)) o:=
 Scr.ok h mix (
 .rn 0 [] [] [] [] (al (u2 (u2 (u2 (u2 (al t3)))))) <|
 .br (fun a0=>
 .gu fun a1=>
 .el fun x30 a2=>
 .br (fun a3=>
  .rt [49,67] [(30,iv x30)] [] [] [] [] (aj (aj a0 (aj (u2 (u2 (u2 (aj (k2 (aj a1 (getMap (f:=iv) a2))) (u2 (u2 (u2 (aj a3 (aj a3 (aj a3 (aj a3 (aj a3 (aj a3 (al (aj a3 t2))))))))))))))) (ak s2))) t2))
 (fun a3=>
  .el fun x37 a4=>
  .rn 0 [49,66] [(30,iv x30),(37,iv x37)] [] [] (aj a0 (al (u2 (u2 (u2 (aj (k2 (aj a1 (getMap (f:=iv) a2))) (u2 (u2 (u2 (ag a3 (ag a3 (ag a3 (aj (aj a3 (k2 (aj a1 (getMap (f:=iv) a4)))) (ag a3 (ag a3 (al (aj a3 t2))))))))))))))))) <|
  .br (fun a5=>
  .rt [66,81] [] [] [] [] [] (aj (aj a5 s2) t2))
  (fun a5=>
  .lp [66,80] [] [] [] [] [0,1] [1,3,4,5,34,35,36,37,38,39] (aj (aj a5 s2) (ak (k3 t9))))))
 (fun a0=>
 .rt [48] [] [] [] [] [] (aj (aj a0 s2) t2))) (by kernel_rfl)
theorem rlvS1_ok(q:LokD)(v0 v1 v2:Int)(v3 v4 v5 v6 v7 v8 v9 v10 v11:Bool)(o:rlvPc⊕Ret)(h:rlvS1 q v0 v1 v2 v3 v4 v5 v6 v7 v8 v9 v10 v11=some o):Arr Try.prog Try.f91 0 (rlvSt q) rlvHd (headC Try.f91 1) (.rnd (headC Try.f91 1)::headK Try.f91 1) (rlvSt q (.l1 v0 v1 v2 v3 v4 v5 v6 v7 v8 v9 v10 v11)) o:=
 Scr.ok h mix (
 .gu fun a0=>
 .el fun x45 a1=>
 .rn 0 [] [(45,lI x45)] [] [] (al (u2 (u2 (u2 (u2 (aj (k2 (aj a0 (getMap (f:=lI) a1))) (u2 (u2 (al t3))))))))) <|
 .br (fun a2=>
 .el fun x54 a3=>
 .gu fun a4=>
 .el fun x57 a5=>
 .rn 0 [97] [(54,lI x54),(57,iv x57)] [] [] (aj a2 (al (u2 (u2 (u2 (aj (k2 (aj a0 (getMap (f:=lI) a3))) (u2 (u2 (aj (k2 (aj a4 (getMap (f:=iv) a5))) (u2 s2)))))))))) <|
 .br (fun a6=>
  .rt [123] [] [] [] [] [] (aj (aj (u2 (u2 (u2 (aj a6 (aj a6 (ag a6 (u2 (k3 (aj t3 (u2 (k2 (k5 (al t3))))))))))))) (ak s2)) t2))
 (fun a6=>
  .br (fun a7=>
  .rt [122,131] [] [] [] [] [] (aj (aj (u2 (u2 (u2 (ag a6 (ag a6 (ag a6 (u2 (aj a7 (aj a7 (aj a7 (ag a7 (u2 (k2 (k5 (al t3))))))))))))))) (ak s2)) t2))
  (fun a7=>
  .gu fun a8=>
  .gu fun a9=>
  .el fun x68 a10=>
  .br (fun a11=>
   .rt [122,130,141] [(68,AV.tup [AV.bool x68])] [] [] [] [] (aj (aj (u2 (u2 (u2 (ag a6 (ag a6 (ag a6 (u2 (ag a7 (aj (aj a7 (k2 (aj a8 a9))) (aj (aj a7 (ak (getMap (f:=AV.bool) a10))) (ag a7 (u2 (aj a11 (aj a11 (aj a11 (aj a11 (aj a11 (aj a11 (aj a11 (al (aj a11 t2))))))))))))))))))))) (ak s2)) t2))
  (fun a11=>
   .el fun x75 a12=>
   .rn 0 [122,130,140] [(68,AV.tup [AV.bool x68]),(75,iv x75)] [] [] (al (u2 (u2 (u2 (ag a6 (ag a6 (ag a6 (u2 (ag a7 (aj (aj a7 (k2 (aj a8 a9))) (aj (aj a7 (ak (getMap (f:=AV.bool) a10))) (ag a7 (u2 (ag a11 (ag a11 (ag a11 (ag a11 (aj (aj a11 (k2 (aj a0 (getMap (f:=iv) a12)))) (ag a11 (aj (aj a11 t3) (al (aj a11 t2)))))))))))))))))))))) <|
   .br (fun a13=>
   .rt [122,130,140,157] [] [] [] [] [] (aj (aj a13 s2) t2))
   (fun a13=>
   .gu fun a14=>
   .lp [122,130,140,156] [(80,AV.tup [AV.unk])] [] [] [] [0,1] [1,3,4,5,34,35,36,37,38,39] (aj (aj a13 (aj (u2 (aj (k2 (aj a8 a9)) (al (ak a14)))) (al (u2 (u2 s2))))) (ak (k3 t9))))))))
 (fun a2=>
 .lp [96] [] [] [] [] [0,1] [1,3,4] (aj (aj a2 (al (u2 (u2 s2)))) t6))) (by kernel_rfl)
theorem rlv_ct(q:LokD)(r:Ret)(h:MReach (rlvStep q) (rlvEn q) r):CT Try.prog 91 ([]) ([lkA q]) r.1 r.2:=
 CT.mach (fn:=Try.f91) (c:=zB Try.f91) (S:=rlvSt q) (hd:=rlvHd) Try.func91 (by kernel_rfl) (Nat.le_of_ble_eq_true rfl)
  (fun s o ho=>match s,ho with
   | .l0 v0 v1 v2 v3 v4 v5 v6 v7 v8,ho=>rlvS0_ok q v0 v1 v2 v3 v4 v5 v6 v7 v8 o ho
   | .l1 v0 v1 v2 v3 v4 v5 v6 v7 v8 v9 v10 v11,ho=>rlvS1_ok q v0 v1 v2 v3 v4 v5 v6 v7 v8 v9 v10 v11 o ho
  )
  (fun o ho=>rlvEn_ok q o ho) h
theorem loop_fst{σ ρ:Type}{step:σ→Option (σ⊕ρ)}(L:Nat→σ)(N:Nat)(p:Nat→Bool){rF:Nat→ρ}{r:ρ}
  (hb:∀i,i<N→(∀j,j<i→p j=false)→p i=true→MReach step (some (.inl (L i))) (rF i))
  (hg:∀i x,i<N→(∀j,j<i→p j=false)→p i=false→MReach step (some (.inl (L (i+1)))) x→MReach step (some (.inl (L i))) x)
  (he:fnd p 0 N=none→MReach step (some (.inl (L N))) r):MReach step (some (.inl (L 0))) (match fnd p 0 N with | some i=>rF i | none=>r):=by
 have key:∀k i,i+k=N→(∀j,j<i→p j=false)→fnd p 0 N=fnd p i (N-i)→MReach step (some (.inl (L i))) (match fnd p i (N-i) with | some i=>rF i | none=>r):=by
  intro k
  induction k with
  | zero=>intro i hi _ h0
          have e:i=N:=by omega
          subst e
          rw[fnd_end (by omega)] at h0 ⊢
          exact he h0
  | succ k ih=>
   intro i hi hj h0
   have hlt:i<N:=by omega
   rw[fnd_step hlt] at h0 ⊢
   cases hp:p i with
   | true=>exact hb i hlt hj hp
   | false=>
    rw[hp] at h0
    refine hg i _ hlt hj hp (ih (i+1) (by omega) (fun j h=>?_) h0)
    rcases Nat.lt_or_ge j i with h1 | h1
    ·exact hj j h1
    ·have:j=i:=by omega
     subst this;exact hp
 exact key N 0 (by omega) (fun j h=>absurd h (Nat.not_lt_zero _)) rfl
theorem con_c(l:List Int)(x:Int)(hl:l.length≤9000000000000000000):CT Try.prog 47 [] [lI l,.int .i64 x] [] (.bool (hasZ l x)):=by
 refine con_ct l x ([],_) ?_
 unfold conEn
 rw[gu_t hl,idxZ_has];exact .ret _
theorem celN_le{n:NetD}(hv:ValidN n):celN n≤48∧n.bs.length≤celN n:=⟨hv.cel.2.2,hv.cel.2.1⟩
theorem take0{α:Type}(l:List α)(i:Nat):List.take ((i:Int).toNat-Int.toNat 0) (List.drop (Int.toNat 0) l)=l.take i:=by
 rw[Int.toNat_natCast];simp
theorem pe_bd{nb:Nat}{s:SigD}{i:Nat}(hi:i≤s.pe.length)(hbd:∀j,j<i→bdP nb s j=false):i≤nb:=by
 unfold bdP at hbd
 simp only[Bool.or_eq_false_iff,decide_eq_false_iff_not] at hbd
 have hn:(s.pe.take i).Nodup:=nd_of fun j h=>by
  rw[List.length_take] at h
  have e:(s.pe.take i).getD j 0=s.pe.getD j 0:=by rw[List.getD_eq_getElem?_getD,List.getElem?_take,if_pos (by omega),←List.getD_eq_getElem?_getD]
  rw[e,List.take_take,Nat.min_eq_left (by omega)]
  exact(hbd j (by omega)).2.2.2
 have:=nodup_len hn (d:=(List.range nb).map fun i:Nat=>(i:Int)) fun x hx=>by
  obtain⟨j,hj,rfl⟩:=List.mem_iff_getElem.1 hx
  rw[List.length_take] at hj
  have:=hbd j (by omega)
  rw[List.getD_eq_getElem?_getD,List.getElem?_eq_getElem (show j<s.pe.length by omega)] at this
  simp only[Option.getD_some] at this
  rw[List.getElem_take]
  exact rngI_mem (by omega) (by omega)
 rw[List.length_map,List.length_range,List.length_take] at this
 omega
theorem fo_c{n:NetD}(s:SigD)(hv:ValidN n):CT Try.prog 117 [] [netA n,sgA s] [] (.bool (sigF n s)):=by
 refine fo_ct n s ([],_) ?_
 obtain⟨h48,hnb⟩:=celN_le hv
 unfold foEn sigF
 rw[gu_t hv,boL_len,List.length_map]
 by_cases h1:s.cl.length=celN n
 case neg=>rw[br_t (bne_iff_ne.2 (by simp only[iN];omega)),dec_f h1];exact .ret _
 rw[br_f (by rw[h1];simp),dec_t h1,Bool.true_and]
 by_cases h2:s.bw.length=celN n
 case neg=>rw[br_t (bne_iff_ne.2 (by simp only[iN];omega)),dec_f h2];exact .ret _
 rw[br_f (by rw[h1,h2];simp),dec_t h2,Bool.true_and]
 refine(loop_fst (fun i=>foPc.l0 (i:Int)) s.bw.length (bdW s) (rF:=fun _=>([],.bool false)) (r:=([],.bool (fnd (bdP n.bs.length s) 0 s.pe.length).isNone)) (fun i hi _ hp=>?_) (fun i x hi _ hp hx=>?_) (fun _=>?_)).res (by cases fnd (bdW s) 0 s.bw.length<;>rfl)
 ·refine .to (show foS0 n s i=_ from ?_) (.ret _)
  unfold foS0
  unfold bdW at hp
  rw[rngG 0 hi]
  cases hd1:decide (s.bw.getD i 0 < -1) with
  | true=>rw[br_t rfl]
  | false=>
   rw[hd1,Bool.false_or] at hp
   rw[br_f rfl,elG 0 hi]
   cases hd2:decide (8≤s.bw.getD i 0) with
   | true=>rw[br_t rfl]
   | false=>
    rw[hd2,Bool.false_or,Bool.and_eq_true] at hp
    rw[br_f rfl,elG 0 hi,br_t (by have:=of_decide_eq_true hp.1;exact bne_iff_ne.2 (by omega)),elG true (show i<s.cl.length by omega),br_t hp.2]
 ·refine .to (show foS0 n s i=_ from ?_) hx
  unfold foS0
  unfold bdW at hp
  simp only[Bool.or_eq_false_iff] at hp
  rw[rngG 0 hi,br_f hp.1,elG 0 hi,br_f hp.2.1,elG 0 hi,zW i (by omega)]
  have h3:=of_decide_eq_false hp.1
  by_cases hm:s.bw.getD i 0 = -1
  ·rw[br_f (by rw[hm];rfl)]
  ·rw[br_t (bne_iff_ne.2 hm),elG true (show i<s.cl.length by omega)]
   have hq:=hp.2.2
   rw[dec_t (show 0≤s.bw.getD i 0 by omega),Bool.true_and] at hq
   rw[br_f hq]
 ·refine .to (show foS0 n s s.bw.length=_ from ?_) ?_ (y:=some (.inl (.l1 ((0:Nat):Int))))
  ·unfold foS0;rw[rngE];rfl
  refine(loop_fst (fun i=>foPc.l1 (i:Int)) s.pe.length (bdP n.bs.length s) (rF:=fun _=>([],.bool false)) (r:=([],.bool true)) (fun i hi hj hp=>?_) (fun i x hi hj hp hx=>?_) (fun _=>?_)).res (by cases fnd (bdP n.bs.length s) 0 s.pe.length<;>rfl)
  ·have hi24:=pe_bd (Nat.le_of_lt hi) hj
   refine .to (show foS1 n s i=_ from ?_) (.ret _)
   unfold foS1
   unfold bdP at hp
   rw[rngG 0 hi]
   by_cases hd1:s.pe.getD i 0<0
   ·rw[br_t (dec_t hd1)]
   rw[dec_f hd1,Bool.false_or] at hp
   rw[br_f (dec_f hd1)]
   by_cases hd2:(n.bs.length:Int)≤s.pe.getD i 0
   ·rw[br_t (dec_t (by rw[List.length_map];exact hd2))]
   rw[dec_f hd2,Bool.false_or] at hp
   rw[br_f (dec_f (by rw[List.length_map];exact hd2)),gu_t (by omega),el_t (getE true (show(s.pe.getD i 0).toNat<s.cl.length by omega))]
   cases hd3:s.cl.getD (s.pe.getD i 0).toNat true with
   | true=>rw[br_t rfl]
   | false=>
    rw[hd3,Bool.false_or] at hp
    rw[br_f rfl,gu_t (lI_one _),gu_t (by simp only[iN,List.length_map];omega),take0,gu_t (by rw[List.length_take];omega),br_t hp]
  ·have hi24:=pe_bd (Nat.le_of_lt hi) hj
   refine .to (show foS1 n s i=_ from ?_) hx
   unfold foS1
   unfold bdP at hp
   simp only[Bool.or_eq_false_iff,decide_eq_false_iff_not] at hp
   rw[rngG 0 hi,br_f (dec_f hp.1),br_f (dec_f (by rw[List.length_map];exact hp.2.1)),gu_t (by omega),el_t (getE true (show(s.pe.getD i 0).toNat<s.cl.length by omega)),br_f hp.2.2.1,gu_t (lI_one _),gu_t (by simp only[iN,List.length_map];omega),take0,gu_t (by rw[List.length_take];omega),br_f hp.2.2.2,zW i (by omega)]
  ·refine .to (show foS1 n s s.pe.length=_ from ?_) (.ret _)
   unfold foS1;rw[rngE]
def prL(l:LokD)(c k:Nat):List Int:=(l.qu.take c).flatten++(l.qu.getD c []).take k
def bdO(l:LokD)(c:Nat):Bool:=decide (l.ow.getD c 0 < -1)||decide (8≤l.ow.getD c 0)
def bdQ(l:LokD)(c k:Nat):Bool:=decide ((l.qu.getD c []).getD k 0<0)||(decide (8≤(l.qu.getD c []).getD k 0)||(hasZ (prL l c k) ((l.qu.getD c []).getD k 0)||(l.qu.getD c []).getD k 0==l.ow.getD c 0))
def bdR(l:LokD)(c:Nat):Bool:=bdO l c||(fnd (bdQ l c) 0 (l.qu.getD c []).length).isSome
def lokB(l:LokD):Bool:=decide (l.ow.length≤48)&&(decide (l.ow.length=l.qu.length)&&(fnd (bdR l) 0 l.qu.length).isNone)
theorem lokB_len{l:LokD}(h:lokB l=true):l.ow.length=l.qu.length∧l.ow.length≤48:=by
 unfold lokB at h
 simp only[Bool.and_eq_true,decide_eq_true_eq] at h
 exact⟨h.2.1,h.1⟩
theorem has_upd{l:List Int}{x:Int}(h0:0≤x)(i:Nat):(bif Nat.beq i (0+x.toNat * 1) then true else hasZ l (i:Int))=hasZ (l++[x]) (i:Int):=by
 rw[beqM,Bool.eq_iff_iff,hasZ_iff,List.mem_append,List.mem_singleton]
 split
 ·exact⟨fun _=>.inr (by omega),fun _=>rfl⟩
 ·rw[hasZ_iff];exact⟨.inl,fun h=>h.elim id fun e=>absurd e (by omega)⟩
theorem prL_succ{l:LokD}{c k:Nat}(h:k<(l.qu.getD c []).length):prL l c (k+1)=prL l c k++[(l.qu.getD c []).getD k 0]:=by
 unfold prL
 rw[List.take_add_one,getE 0 h,List.append_assoc];rfl
theorem prL_next{l:LokD}{c:Nat}:prL l c (l.qu.getD c []).length=prL l (c+1) 0:=by
 unfold prL
 rw[List.take_length,List.take_zero,List.append_nil,List.take_add_one,List.flatten_append,List.getD_eq_getElem?_getD]
 cases l.qu[c]?<;>simp
theorem get8{α:Type}{f:Nat→Bool}{k:Nat}(h:k<8){F:Bool→Option α}:el [f 0,f 1,f 2,f 3,f 4,f 5,f 6,f 7] (0+k * 1) F=F (f k):=by
 have e:[f 0,f 1,f 2,f 3,f 4,f 5,f 6,f 7]=(List.range 8).map f:=rfl
 rw[e,Nat.zero_add,Nat.mul_one]
 exact el_t (by rw[List.getElem?_map,List.getElem?_range h];rfl)
theorem le8{x:Int}(h0:0≤x)(h1:x<8):(0+x.toNat * 1+1).le 8:=show 0+x.toNat * 1+1≤8 by omega
theorem bdQ_no{l:LokD}{c k:Nat}(h:bdQ l c k=false):0≤(l.qu.getD c []).getD k 0∧(l.qu.getD c []).getD k 0<8∧hasZ (prL l c k) ((l.qu.getD c []).getD k 0)=false∧((l.qu.getD c []).getD k 0==l.ow.getD c 0)=false:=by
 unfold bdQ at h
 simp only[Bool.or_eq_false_iff,decide_eq_false_iff_not] at h
 exact⟨by omega,by omega,h.2.2.1,h.2.2.2⟩
theorem row8{l:LokD}{c k:Nat}(hk:k≤(l.qu.getD c []).length)(h:∀j,j<k→bdQ l c j=false):k≤8:=by
 have hn:((l.qu.getD c []).take k).Nodup:=nd_of fun j hj=>by
  rw[List.length_take] at hj
  have e:((l.qu.getD c []).take k).getD j 0=(l.qu.getD c []).getD j 0:=by rw[List.getD_eq_getElem?_getD,List.getElem?_take,if_pos (by omega),←List.getD_eq_getElem?_getD]
  rw[e,List.take_take,Nat.min_eq_left (by omega)]
  have:=(bdQ_no (h j (by omega))).2.2.1
  cases h2:hasZ ((l.qu.getD c []).take j) ((l.qu.getD c []).getD j 0) with
  | false=>rfl
  | true=>exact absurd (List.mem_append.2 (.inr (hasZ_iff.1 h2))) (hasZ_false this)
 have:=nodup_len hn (d:=(List.range 8).map fun i:Nat=>(i:Int)) fun x hx=>by
  obtain⟨j,hj,rfl⟩:=List.mem_iff_getElem.1 hx
  rw[List.length_take] at hj
  have:=bdQ_no (h j (by omega))
  rw[List.getD_eq_getElem?_getD,List.getElem?_eq_getElem (show j<(l.qu.getD c []).length by omega)] at this
  simp only[Option.getD_some] at this
  rw[List.getElem_take]
  exact rngI_mem (by omega) (by omega)
 rw[List.length_map,List.length_range,List.length_take] at this
 omega
def ilv0(l:LokD)(c:Nat):ilvPc:=let f:=fun i:Nat=>hasZ (prL l c 0) (i:Int);.l0 (c:Int) (f 0) (f 1) (f 2) (f 3) (f 4) (f 5) (f 6) (f 7)
def ilv1(l:LokD)(c k:Nat):ilvPc:=let f:=fun i:Nat=>hasZ (prL l c k) (i:Int);.l1 (c:Int) (l.qu.getD c []) (l.qu.getD c []).length (k:Int) (f 0) (f 1) (f 2) (f 3) (f 4) (f 5) (f 6) (f 7)
theorem ilv_row{l:LokD}{c:Nat}(hc:c<l.qu.length)(ho:l.ow.length=l.qu.length)(h48:l.ow.length≤48){x:Ret}(hx:fnd (bdQ l c) 0 (l.qu.getD c []).length=none→MReach (ilvStep l) (some (.inl (ilv0 l (c+1)))) x):
  MReach (ilvStep l) (some (.inl (ilv1 l c 0))) (match fnd (bdQ l c) 0 (l.qu.getD c []).length with | some _=>([],.bool false) | none=>x):=by
 refine(loop_fst (fun k=>ilv1 l c k) (l.qu.getD c []).length (bdQ l c) (rF:=fun _=>(([],.bool false):Ret)) (r:=x) (fun k hk hj hp=>?_) (fun k x hk hj hp hx=>?_) (fun hn=>?_)).res (by cases fnd (bdQ l c) 0 (l.qu.getD c []).length<;>rfl)
 ·have h8:=row8 (Nat.le_of_lt hk) hj
  refine .to (show ilvS1 l c (l.qu.getD c []) (l.qu.getD c []).length k (hasZ (prL l c k) ((0:Nat):Int)) (hasZ (prL l c k) ((1:Nat):Int)) (hasZ (prL l c k) ((2:Nat):Int)) (hasZ (prL l c k) ((3:Nat):Int)) (hasZ (prL l c k) ((4:Nat):Int)) (hasZ (prL l c k) ((5:Nat):Int)) (hasZ (prL l c k) ((6:Nat):Int)) (hasZ (prL l c k) ((7:Nat):Int))=_ from ?_) (.ret _)
  unfold ilvS1
  unfold bdQ at hp
  rw[br_t (dec_t (by simp only[iN];omega)),gu_t (by omega),elG 0 hk]
  unfold robB
  by_cases h0:(l.qu.getD c []).getD k 0<0
  ·rw[dec_f (show ¬0≤(l.qu.getD c []).getD k 0 by omega),br_t (by rfl)]
  by_cases h1:8≤(l.qu.getD c []).getD k 0
  ·rw[dec_f (show ¬(l.qu.getD c []).getD k 0<8 by omega),br_t (by simp)]
  rw[dec_f h0,dec_f h1,Bool.false_or,Bool.false_or] at hp
  rw[dec_t (show 0≤(l.qu.getD c []).getD k 0 by omega),dec_t (show(l.qu.getD c []).getD k 0<8 by omega),br_f (by rfl),gu_t (by omega),gu_t (by omega),get8 (f:=fun i:Nat=>hasZ (prL l c k) (i:Int)) (by omega),Int.toNat_of_nonneg (by omega)]
  cases h2:hasZ (prL l c k) ((l.qu.getD c []).getD k 0) with
  | true=>rw[br_t rfl]
  | false=>
   rw[h2,Bool.false_or] at hp
   rw[br_f rfl,gu_t (by omega),elG 0 (show c<l.ow.length by omega),br_t (by rw[←hp];exact BEq.comm)]
 ·have h8:=row8 (Nat.le_of_lt hk) hj
  obtain⟨a1,a2,a3,a4⟩:=bdQ_no hp
  refine .to (show ilvS1 l c (l.qu.getD c []) (l.qu.getD c []).length k (hasZ (prL l c k) ((0:Nat):Int)) (hasZ (prL l c k) ((1:Nat):Int)) (hasZ (prL l c k) ((2:Nat):Int)) (hasZ (prL l c k) ((3:Nat):Int)) (hasZ (prL l c k) ((4:Nat):Int)) (hasZ (prL l c k) ((5:Nat):Int)) (hasZ (prL l c k) ((6:Nat):Int)) (hasZ (prL l c k) ((7:Nat):Int))=some (.inl (ilv1 l c (k+1))) from ?_) hx
  unfold ilvS1 ilv1
  rw[br_t (dec_t (by simp only[iN];omega)),gu_t (by omega),elG 0 hk]
  unfold robB
  rw[dec_t a1,dec_t a2,br_f (by rfl),gu_t a1,gu_t a2,get8 (f:=fun i:Nat=>hasZ (prL l c k) (i:Int)) (by omega),Int.toNat_of_nonneg a1,a3,br_f rfl,gu_t (by omega),elG 0 (show c<l.ow.length by omega),br_f (by rw[←a4];exact BEq.comm),gu_t (le8 a1 a2),zW k (by omega),has_upd a1,has_upd a1,has_upd a1,has_upd a1,has_upd a1,has_upd a1,has_upd a1,has_upd a1,prL_succ hk]
 ·refine .to (show ilvS1 l c (l.qu.getD c []) (l.qu.getD c []).length (l.qu.getD c []).length _ _ _ _ _ _ _ _=some (.inl (ilv0 l (c+1))) from ?_) (hx hn)
  unfold ilvS1 ilv0
  rw[br_f (dec_f (by simp only[iN];omega)),zW c (by omega),prL_next]
theorem bdO_rob{x:Int}:(x != -1&&!(robB x))=(decide (x < -1)||decide (8≤x)):=by
 unfold robB
 rw[Bool.eq_iff_iff]
 simp only[Bool.and_eq_true,bne_iff_ne,Bool.not_eq_true',Bool.and_eq_false_iff,decide_eq_false_iff_not,Bool.or_eq_true,decide_eq_true_eq]
 omega
theorem ilv_c(l:LokD):CT Try.prog 51 [] [lkA l] [] (.bool (lokB l)):=by
 refine ilv_ct l ([],_) ?_
 unfold ilvEn lokB
 rw[List.length_map,gL_len]
 by_cases h1:l.ow.length≤48
 case neg=>rw[br_t (dec_t (by simp only[iN];omega)),dec_f h1];exact .ret _
 rw[br_f (dec_f (by simp only[iN];omega)),dec_t h1,Bool.true_and]
 by_cases h2:l.ow.length=l.qu.length
 case neg=>rw[br_t (bne_iff_ne.2 (by simp only[iN];omega)),dec_f h2];exact .ret _
 rw[br_f (by rw[h2];simp),dec_t h2,Bool.true_and]
 refine MReach.res (r:=match fnd (bdR l) 0 l.qu.length with | some _=>(([],.bool false):Ret) | none=>(([],.bool true):Ret)) ?_ (by cases fnd (bdR l) 0 l.qu.length<;>rfl)
 have st:∀c,c<l.qu.length→ilvStep l (ilv0 l c)=br (bdO l c) (some (.inr ([],.bool false))) (some (.inl (ilv1 l c 0))):=fun c hc=>by
  show ilvS0 l c _ _ _ _ _ _ _ _=_
  unfold ilvS0
  rw[show (gL l.qu).length=(List.map lI l.qu).length from rfl,rngG [] hc,elG 0 (show c<l.ow.length by omega)]
  unfold bdO
  rw[←bdO_rob]
  cases l.ow.getD c 0 != -1 with
  | false=>rw[br_f rfl,br_f (by rfl),List.length_map];rfl
  | true=>
   rw[br_t rfl,elG 0 (show c<l.ow.length by omega),Bool.true_and]
   cases robB (l.ow.getD c 0) with
   | false=>rw[br_t (by rfl),br_t (by rfl)]
   | true=>rw[br_f (by rfl),br_f (by rfl),List.length_map];rfl
 refine(loop_fst (fun c=>ilv0 l c) l.qu.length (bdR l) (rF:=fun _=>(([],.bool false):Ret)) (r:=(([],.bool true):Ret)) (fun c hc _ hp=>?_) (fun c x hc _ hp hx=>?_) (fun _=>?_)).res (by cases fnd (bdR l) 0 l.qu.length<;>rfl)
 ·refine .to (st c hc) ?_
  unfold bdR at hp
  cases ho:bdO l c with
  | true=>exact .ret _
  | false=>
   rw[ho,Bool.false_or] at hp
   rw[br_f rfl]
   refine(ilv_row hc h2 h1 (x:=(([],.bool false):Ret)) fun e=>by rw[e] at hp;cases hp).res ?_
   cases fnd (bdQ l c) 0 (l.qu.getD c []).length<;>rfl
 ·refine .to (st c hc) ?_
  unfold bdR at hp
  rw[Bool.or_eq_false_iff] at hp
  rw[br_f hp.1]
  have:=ilv_row hc h2 h1 (x:=x) fun _=>hx
  cases hf:fnd (bdQ l c) 0 (l.qu.getD c []).length with
  | none=>rw[hf] at this;exact this
  | some i=>rw[hf] at hp;cases hp.2
 ·refine .to (show ilvS0 l (l.qu.length:Nat) _ _ _ _ _ _ _ _=_ from ?_) (.ret _)
  unfold ilvS0
  rw[show (gL l.qu).length=(List.map lI l.qu).length from rfl,rngE]
def rlv0(l:LokD)(c:Nat):rlvPc:=let f:=fun i:Nat=>hasZ (prL l c 0) (i:Int);.l0 (c:Int) (f 0) (f 1) (f 2) (f 3) (f 4) (f 5) (f 6) (f 7)
def rlv1(l:LokD)(c k:Nat):rlvPc:=let f:=fun i:Nat=>hasZ (prL l c k) (i:Int);.l1 (c:Int) (k:Int) (l.ow.getD c 0) (decide (8≤l.ow.getD c 0)) (f 0) (f 1) (f 2) (f 3) (f 4) (f 5) (f 6) (f 7)
theorem rlv_row{l:LokD}{c:Nat}(hc:c<l.qu.length)(ho:l.ow.length=l.qu.length)(h48:l.ow.length≤48){x:Ret}(hx:fnd (bdQ l c) 0 (l.qu.getD c []).length=none→MReach (rlvStep l) (some (.inl (rlv0 l (c+1)))) x):
  MReach (rlvStep l) (some (.inl (rlv1 l c 0))) (match fnd (bdQ l c) 0 (l.qu.getD c []).length with | some _=>([],.bool false) | none=>x):=by
 refine(loop_fst (fun k=>rlv1 l c k) (l.qu.getD c []).length (bdQ l c) (rF:=fun _=>(([],.bool false):Ret)) (r:=x) (fun k hk hj hp=>?_) (fun k x hk hj hp hx=>?_) (fun hn=>?_)).res (by cases fnd (bdQ l c) 0 (l.qu.getD c []).length<;>rfl)
 ·have h8:=row8 (Nat.le_of_lt hk) hj
  refine .to (show rlvS1 l c k (l.ow.getD c 0) (decide (8≤l.ow.getD c 0)) (hasZ (prL l c k) ((0:Nat):Int)) (hasZ (prL l c k) ((1:Nat):Int)) (hasZ (prL l c k) ((2:Nat):Int)) (hasZ (prL l c k) ((3:Nat):Int)) (hasZ (prL l c k) ((4:Nat):Int)) (hasZ (prL l c k) ((5:Nat):Int)) (hasZ (prL l c k) ((6:Nat):Int)) (hasZ (prL l c k) ((7:Nat):Int))=_ from ?_) (.ret _)
  unfold rlvS1
  unfold bdQ at hp
  rw[gu_t (by omega),elG [] hc,br_t (dec_t (by simp only[iN,List.length_map];omega)),elG [] hc,gu_t (by omega),elG 0 hk]
  by_cases h0:(l.qu.getD c []).getD k 0<0
  ·rw[br_t (dec_t h0)]
  by_cases h1:8≤(l.qu.getD c []).getD k 0
  ·rw[br_f (dec_f h0),br_t (dec_t h1)]
  rw[dec_f h0,dec_f h1,Bool.false_or,Bool.false_or] at hp
  rw[br_f (dec_f h0),br_f (dec_f h1),gu_t (by omega),gu_t (by omega),get8 (f:=fun i:Nat=>hasZ (prL l c k) (i:Int)) (by omega),Int.toNat_of_nonneg (by omega)]
  cases h2:hasZ (prL l c k) ((l.qu.getD c []).getD k 0) with
  | true=>rw[br_t rfl]
  | false=>
   rw[h2,Bool.false_or] at hp
   rw[br_f rfl,elG 0 (show c<l.ow.length by omega),br_t hp]
 ·have h8:=row8 (Nat.le_of_lt hk) hj
  obtain⟨a1,a2,a3,a4⟩:=bdQ_no hp
  refine .to (show rlvS1 l c k (l.ow.getD c 0) (decide (8≤l.ow.getD c 0)) (hasZ (prL l c k) ((0:Nat):Int)) (hasZ (prL l c k) ((1:Nat):Int)) (hasZ (prL l c k) ((2:Nat):Int)) (hasZ (prL l c k) ((3:Nat):Int)) (hasZ (prL l c k) ((4:Nat):Int)) (hasZ (prL l c k) ((5:Nat):Int)) (hasZ (prL l c k) ((6:Nat):Int)) (hasZ (prL l c k) ((7:Nat):Int))=some (.inl (rlv1 l c (k+1))) from ?_) hx
  unfold rlvS1 rlv1
  rw[gu_t (by omega),elG [] hc,br_t (dec_t (by simp only[iN,List.length_map];omega)),elG [] hc,gu_t (by omega),elG 0 hk,br_f (dec_f (by omega)),br_f (dec_f (by omega)),gu_t a1,gu_t a2,get8 (f:=fun i:Nat=>hasZ (prL l c k) (i:Int)) (by omega),Int.toNat_of_nonneg a1,a3,br_f rfl,elG 0 (show c<l.ow.length by omega),br_f a4,gu_t (le8 a1 a2),zW k (by omega),has_upd a1,has_upd a1,has_upd a1,has_upd a1,has_upd a1,has_upd a1,has_upd a1,has_upd a1,prL_succ hk]
 ·refine .to (show rlvS1 l c ((l.qu.getD c []).length:Nat) _ _ _ _ _ _ _ _ _ _=some (.inl (rlv0 l (c+1))) from ?_) (hx hn)
  unfold rlvS1 rlv0
  rw[gu_t (by omega),elG [] hc,List.length_map,br_f (dec_f (by simp only[iN];omega)),zW c (by omega),prL_next]
theorem rlv_c(l:LokD):CT Try.prog 91 [] [lkA l] [] (.bool (lokB l)):=by
 refine rlv_ct l ([],_) ?_
 unfold rlvEn lokB
 rw[List.length_map,gL_len]
 by_cases h1:l.ow.length≤48
 case neg=>rw[br_t (dec_t (by simp only[iN];omega)),dec_f h1];exact .ret _
 rw[br_f (dec_f (by simp only[iN];omega)),dec_t h1,Bool.true_and]
 by_cases h2:l.ow.length=l.qu.length
 case neg=>rw[br_t (bne_iff_ne.2 (by simp only[iN];omega)),dec_f h2];exact .ret _
 rw[br_f (by rw[h2];simp),dec_t h2,Bool.true_and]
 refine MReach.res (r:=match fnd (bdR l) 0 l.qu.length with | some _=>(([],.bool false):Ret) | none=>(([],.bool true):Ret)) ?_ (by cases fnd (bdR l) 0 l.qu.length<;>rfl)
 have st:∀c,c<l.qu.length→rlvStep l (rlv0 l c)=br (bdO l c) (some (.inr ([],.bool false))) (some (.inl (rlv1 l c 0))):=fun c hc=>by
  show rlvS0 l c _ _ _ _ _ _ _ _=_
  unfold rlvS0
  rw[rngG 0 (show c<l.ow.length by omega)]
  unfold bdO
  cases decide (l.ow.getD c 0 < -1) with
  | true=>rfl
  | false=>
   rw[br_f rfl,elG 0 (show c<l.ow.length by omega),Bool.false_or]
   rfl
 refine(loop_fst (fun c=>rlv0 l c) l.qu.length (bdR l) (rF:=fun _=>(([],.bool false):Ret)) (r:=(([],.bool true):Ret)) (fun c hc _ hp=>?_) (fun c x hc _ hp hx=>?_) (fun _=>?_)).res (by cases fnd (bdR l) 0 l.qu.length<;>rfl)
 ·refine .to (st c hc) ?_
  unfold bdR at hp
  cases ho:bdO l c with
  | true=>exact .ret _
  | false=>
   rw[ho,Bool.false_or] at hp
   rw[br_f rfl]
   refine(rlv_row hc h2 h1 (x:=(([],.bool false):Ret)) fun e=>by rw[e] at hp;cases hp).res ?_
   cases fnd (bdQ l c) 0 (l.qu.getD c []).length<;>rfl
 ·refine .to (st c hc) ?_
  unfold bdR at hp
  rw[Bool.or_eq_false_iff] at hp
  rw[br_f hp.1]
  have:=rlv_row hc h2 h1 (x:=x) fun _=>hx
  cases hf:fnd (bdQ l c) 0 (l.qu.getD c []).length with
  | none=>rw[hf] at this;exact this
  | some i=>rw[hf] at hp;cases hp.2
 ·refine .to (show rlvS0 l (l.qu.length:Nat) _ _ _ _ _ _ _ _=_ from ?_) (.ret _)
  unfold rlvS0
  rw[br_f (dec_f (by simp only[iN,List.length_map];omega))]
theorem ok_eqNilS{P:Program}{o:Oper}{ev:Operand→AV}{h:Hp}{nb:Nat}{t t' e:TypeId}{x y:Operand}(ho:o.op = .binOp .eql t x y t')(hu:P.underlying t=some (.slice e))(hx:ev x = .lst [])(hy:ev y = .nils):
  OpOKs P o ev h nb (fun R=>∃b,R={v:=.bool b}):=by
 intro φ A w a K Q hA hv hh hn k
 have h1:=hv x;rw[hx] at h1
 have h2:=hv y;rw[hy] at h2;have h2:=h2.nils_inv
 have hs:∃ad c,a.eval x = .slice ad 0 c:=by
  rcases h1.lst_inv with ⟨_,ad,he⟩ | ⟨r,o',cap,z,g,he,_⟩
  ·exact⟨ad,0,he⟩
  ·exact⟨_,cap,he⟩
 obtain⟨ad,c,he⟩:=hs
 have key:∃b,(execOp a.eval o).run P w = .ok (.value (.bool b)) w:=by
  have hg:(eqGuard .eql t x y (.slice ad 0 c) (.slice none 0 0)).run P w = .ok () w:=by unfold eqGuard;split<;>simp_all
  have hr:∃b,(Op.equal t (.slice ad 0 c) (.slice none 0 0)).run P w = .ok b w:=by
   have key:∀d,∃b,(Op.equalIn (d+1) t (.slice ad 0 c) (.slice none 0 0)).run P w = .ok b w:=by
    intro d
    cases ad with
    | none=>exact⟨true,by simp[Op.equalIn,run_underlying hu]⟩
    | some ad=>exact⟨false,by simp[Op.equalIn,run_underlying hu]⟩
   exact key 9999
  obtain⟨b,hr⟩:=hr
  refine⟨b,?_⟩
  simp only[execOp,ho,he,h2,Sem.run_bind,hg,Result.andThen_ok,binOp,hr];rfl
 obtain⟨b,hb⟩:=key
 have hv1:OpOK P o ev h nb {v:=.bool b}→True:=fun _=>trivial
 unfold Oper.wp
 rw[hb]
 refine k {v:=.bool b} _ w φ ⟨b,rfl⟩ ⟨Keep.refl _ w,fun _ _=>rfl,fun b hb=>hn b (by simpa using hb),fun b r z hb h=>?_,fun b b' r z z' hb _ h _=>?_,.imm _ _ (.bool _),fun b blk hm=>by simp at hm,fun blk hm=>by simp at hm,?_,?_⟩
 ·rw[hn b hb] at h;cases h
 ·rw[hn b hb] at h;cases h
 ·intro b blk hm;simp at hm
 ·intro b blk hm;simp at hm
theorem cl97_e:CT Try.prog 97 [] [.lst []] [some (Blk.mk [] 1 true true none)] (.sl 0 0 0):=by
 refine CT.of Try.func97 (show Try.f97.body=some (zB Try.f97) from by kernel_rfl) (Nat.le_of_ble_eq_true rfl) ?_
 refine T.seq ?_
 refine T.ops (st':=?st1) ?steps1 ?post1
 case steps1=>
  refine .av (.nils) rfl rfl rfl (by kernel_rfl) ?_
  exact .nil _
 show T Try.prog 0 _ _ _
 refine T.seq (T.seq ?_)
 refine T.opsN (.val (v:=.lst []) (noG rfl) rfl (Nat.le_of_ble_eq_true rfl) (aop_sound (hint:=.no) (R:={v:=.lst []}) (p:=True) (by kernel_rfl) trivial).1 (.one (S:=fun R=>∃b,R={v:=.bool b}) (noG rfl) (ok_eqNilS (e:=3) rfl (by kernel_rfl) rfl rfl) (fun R hR=>?_) (fun R hR=>?_)))
 ·obtain⟨b,rfl⟩:=hR
  exact⟨OpR.fits_value _ _,fun b hb=>by simp at hb,fun d hd=>by cases hd;exact Nat.le_of_ble_eq_true rfl⟩
 obtain⟨b,rfl⟩:=hR
 refine .nil ?_
 cases b with
 | true=>
  refine T.cond_true rfl (T.seq ?_)
  refine T.ops (st':=?st2) ?steps2 ?post2
  case steps2=>
   refine .av (.nils) rfl rfl rfl (by kernel_rfl) ?_
   exact .nil _
  refine T.ret ?_
  refine⟨.inr rfl,.nils,⟨Try.f97.ntmps,[(0,.sl 0 0 0)],[some (Blk.mk [] 1 true true none)]⟩,rfl,Ren.less rfl (Nat.zero_le _) (fun s=>?_) (fun b blk hb=>?_),rfl,rfl,(Nat.le_of_ble_eq_true rfl)⟩
  ·cases s with
   | zero=>exact .nilS _ _
   | succ s=>exact .refl _
  ·cases b with
   | zero=>simp[nth] at hb;subst hb;exact .inr ⟨Nat.le_refl _,rfl,rfl,rfl,rfl⟩
   | succ b=>simp[nth] at hb
 | false=>
  refine T.cond_false rfl (T.skip ?_)
  refine T.seq ?_
  refine T.ops (st':=?st3) ?steps3 ?post3
  case steps3=>
   refine .new (v:=.sl 0 0 0) (blk:=Blk.mk [] 1 true true none) rfl rfl (Nat.le_of_ble_eq_true rfl) (aop_sound (hint:=.no) (R:={v:=.sl 0 0 0,new:=[Blk.mk [] 1 true true none]}) (p:=True) (by kernel_rfl) trivial).1 ?_
   refine .av (.lst []) rfl rfl rfl (by kernel_rfl) ?_
   refine .move (v:=.sl 1 0 0) (b:=0) (blk:=Blk.mk [] 1 true true none) rfl rfl (Nat.le_of_ble_eq_true rfl) rfl rfl (Nat.zero_le _) (aop_sound (hint:=.no) (R:={v:=.sl 1 0 0,dead:=[0],new:=[Blk.mk [] 1 true true none]}) (p:=0=0∧SrcFit (nth [some (Blk.mk [] 1 true true none)]) 1 (.lst [])∧0+0≤9223372036854775807∧(0+0) * 8≤140737488355328) (by kernel_rfl) ⟨rfl,(fun e he=>by cases he),(by omega),(by omega)⟩).1 ?_
   refine .av (.sl 1 0 0) rfl rfl rfl (by kernel_rfl) ?_
   exact .nil _
  refine T.ret ?_
  exact⟨.inr rfl,.sl 1 0 0,⟨Try.f97.ntmps,[(0,.sl 0 0 0)],[some (Blk.mk [] 1 true true none)]⟩,rfl,Ren.of (p:=True∧True∧True) [1] [] [0] (by kernel_rfl) ⟨trivial,trivial,trivial⟩ rfl rfl rfl,rfl,rfl,(Nat.le_of_ble_eq_true rfl)⟩
theorem cl55_e:CT Try.prog 55 [] [.lst []] [some (Blk.mk [] 1 true true none)] (.sl 0 0 0):=by
 refine CT.of Try.func55 (show Try.f55.body=some (zB Try.f55) from by kernel_rfl) (Nat.le_of_ble_eq_true rfl) ?_
 refine T.seq ?_
 refine T.ops (st':=?st1) ?steps1 ?post1
 case steps1=>
  refine .av (.nils) rfl rfl rfl (by kernel_rfl) ?_
  exact .nil _
 show T Try.prog 0 _ _ _
 refine T.seq (T.seq ?_)
 refine T.opsN (.val (v:=.lst []) (noG rfl) rfl (Nat.le_of_ble_eq_true rfl) (aop_sound (hint:=.no) (R:={v:=.lst []}) (p:=True) (by kernel_rfl) trivial).1 (.one (S:=fun R=>∃b,R={v:=.bool b}) (noG rfl) (ok_eqNilS (e:=4) rfl (by kernel_rfl) rfl rfl) (fun R hR=>?_) (fun R hR=>?_)))
 ·obtain⟨b,rfl⟩:=hR
  exact⟨OpR.fits_value _ _,fun b hb=>by simp at hb,fun d hd=>by cases hd;exact Nat.le_of_ble_eq_true rfl⟩
 obtain⟨b,rfl⟩:=hR
 refine .nil ?_
 cases b with
 | true=>
  refine T.cond_true rfl (T.seq ?_)
  refine T.ops (st':=?st2) ?steps2 ?post2
  case steps2=>
   refine .av (.nils) rfl rfl rfl (by kernel_rfl) ?_
   exact .nil _
  refine T.ret ?_
  refine⟨.inr rfl,.nils,⟨Try.f55.ntmps,[(0,.sl 0 0 0)],[some (Blk.mk [] 1 true true none)]⟩,rfl,Ren.less rfl (Nat.zero_le _) (fun s=>?_) (fun b blk hb=>?_),rfl,rfl,(Nat.le_of_ble_eq_true rfl)⟩
  ·cases s with
   | zero=>exact .nilS _ _
   | succ s=>exact .refl _
  ·cases b with
   | zero=>simp[nth] at hb;subst hb;exact .inr ⟨Nat.le_refl _,rfl,rfl,rfl,rfl⟩
   | succ b=>simp[nth] at hb
 | false=>
  refine T.cond_false rfl (T.skip ?_)
  refine T.seq ?_
  refine T.ops (st':=?st3) ?steps3 ?post3
  case steps3=>
   refine .new (v:=.sl 0 0 0) (blk:=Blk.mk [] 1 true true none) rfl rfl (Nat.le_of_ble_eq_true rfl) (aop_sound (hint:=.no) (R:={v:=.sl 0 0 0,new:=[Blk.mk [] 1 true true none]}) (p:=True) (by kernel_rfl) trivial).1 ?_
   refine .av (.lst []) rfl rfl rfl (by kernel_rfl) ?_
   refine .move (v:=.sl 1 0 0) (b:=0) (blk:=Blk.mk [] 1 true true none) rfl rfl (Nat.le_of_ble_eq_true rfl) rfl rfl (Nat.zero_le _) (aop_sound (hint:=.no) (R:={v:=.sl 1 0 0,dead:=[0],new:=[Blk.mk [] 1 true true none]}) (p:=0=0∧SrcFit (nth [some (Blk.mk [] 1 true true none)]) 1 (.lst [])∧0+0≤9223372036854775807∧(0+0) * 1≤140737488355328) (by kernel_rfl) ⟨rfl,(fun e he=>by cases he),(by omega),(by omega)⟩).1 ?_
   refine .av (.sl 1 0 0) rfl rfl rfl (by kernel_rfl) ?_
   exact .nil _
  refine T.ret ?_
  exact⟨.inr rfl,.sl 1 0 0,⟨Try.f55.ntmps,[(0,.sl 0 0 0)],[some (Blk.mk [] 1 true true none)]⟩,rfl,Ren.of (p:=True∧True∧True) [1] [] [0] (by kernel_rfl) ⟨trivial,trivial,trivial⟩ rfl rfl rfl,rfl,rfl,(Nat.le_of_ble_eq_true rfl)⟩
def mulSSt(c:Int):Empty→St
 | x=>x.elim
def mulSHd:Empty→Nat
 | x=>x.elim
def mulSEn(c:Int):Option (Empty⊕Ret):=
 some (.inr ([],AV.tup [AV.int IntKind.u64 (IntKind.u64.wrap (IntKind.u64.wrap (IntKind.u64.wrap (0 * c.fdiv 4294967296)+(IntKind.u64.wrap (IntKind.u64.wrap (0 * IntKind.u64.wrap (iN (BitVec.ofInt 64 c &&& BitVec.ofInt 64 4294967295).toNat))+(IntKind.u64.wrap (1 * IntKind.u64.wrap (iN (BitVec.ofInt 64 c &&& BitVec.ofInt 64 4294967295).toNat))).fdiv 4294967296)).fdiv 4294967296)+(IntKind.u64.wrap (IntKind.u64.wrap (iN (BitVec.ofInt 64 (IntKind.u64.wrap (IntKind.u64.wrap (0 * IntKind.u64.wrap (iN (BitVec.ofInt 64 c &&& BitVec.ofInt 64 4294967295).toNat))+(IntKind.u64.wrap (1 * IntKind.u64.wrap (iN (BitVec.ofInt 64 c &&& BitVec.ofInt 64 4294967295).toNat))).fdiv 4294967296)) &&& BitVec.ofInt 64 4294967295).toNat)+IntKind.u64.wrap (1 * c.fdiv 4294967296))).fdiv 4294967296)),AV.int IntKind.u64 (IntKind.u64.wrap (1 * c))]))
def mulSStep(c:Int):Empty→Option (Empty⊕Ret)
 | x=>x.elim
theorem mulSEn_ok(c:Int)(o:Empty⊕Ret)(h:mulSEn c=some o):Arr Try.prog Try.f132 0 (mulSSt c) mulSHd (zB Try.f132) [] {n:=Try.f132.ntmps,fr:=enumF 0 ([.int .u64 1,.int .u64 c]),hp:=([])} o:=
 Scr.ok h mix (
 .rt [] [] [] [] [] [] (aj (aj t3 (aj (u2 (u2 s2)) (aj (u2 (aj (ak (show Int.NonNeg (32:Int) from(by first | decide | exact Int.NonNeg.mk _))) s2)) (aj (u2 (u2 s2)) (aj (u2 (aj (ak (show Int.NonNeg (32:Int) from(by first | decide | exact Int.NonNeg.mk _))) s2)) (aj (u2 (u2 (aj t3 s2))) (aj (u2 (u2 (aj t3 (u2 (aj (ak (show Int.NonNeg (32:Int) from(by first | decide | exact Int.NonNeg.mk _))) (aj t3 s2)))))) (aj (u2 (u2 s2)) (aj (u2 (aj (ak (show Int.NonNeg (32:Int) from(by first | decide | exact Int.NonNeg.mk _))) s2)) (aj (u2 (u2 (u2 (aj t3 (aj t3 s2))))) (aj (u2 (u2 (aj t3 (u2 (aj t3 (u2 (aj (ak (show Int.NonNeg (32:Int) from(by first | decide | exact Int.NonNeg.mk _))) (aj t3 s2)))))))) (al (u2 (u2 (aj t3 s2))))))))))))))) (al t3))) (by kernel_rfl)
theorem mulS_ct(c:Int)(r:Ret)(h:MReach (mulSStep c) (mulSEn c) r):CT Try.prog 132 ([]) ([.int .u64 1,.int .u64 c]) r.1 r.2:=
 CT.mach (fn:=Try.f132) (c:=zB Try.f132) (S:=mulSSt c) (hd:=mulSHd) Try.func132 (by kernel_rfl) (Nat.le_of_ble_eq_true rfl)
  (fun s o ho=>match s,ho with
   | x,_=>x.elim)
  (fun o ho=>mulSEn_ok c o ho) h
theorem mulS_fin:∀n:Fin 49,mulSEn ((n.val:Nat):Int)=some (.inr ([],AV.tup [AV.int .u64 0,AV.int .u64 ((n.val:Nat):Int)])):=fun n=>by
 have h:∀n:Fin 49,(match mulSEn ((n.val:Nat):Int) with | some (.inr ([],.tup [.int _ a,.int _ b]))=>decide (a=0)&&decide (b=((n.val:Nat):Int)) | _=>false)=true:=by decide +kernel
 have h:=h n
 unfold mulSEn at h ⊢
 simp only[Bool.and_eq_true,decide_eq_true_eq] at h
 rw[h.1,h.2]
theorem mul64_c(c:Int)(h:0≤c∧c≤48):CT Try.prog 132 [] [.int .u64 1,.int .u64 c] [] (.tup [.int .u64 0,.int .u64 c]):=by
 refine mulS_ct c ([],_) (.val ?_)
 have:=mulS_fin ⟨c.toNat,by omega⟩
 have e:((c.toNat:Nat):Int)=c:=by omega
 simp only[e] at this
 exact this
def mulTSt(c:Int):Empty→St
 | x=>x.elim
def mulTHd:Empty→Nat
 | x=>x.elim
def mulTEn(c:Int):Option (Empty⊕Ret):=
 gu (0≤c∧c≤48) <|
 some (.inr ([],AV.tup [AV.int IntKind.u64 0,AV.int IntKind.u64 c]))
def mulTStep(c:Int):Empty→Option (Empty⊕Ret)
 | x=>x.elim
theorem mulTEn_ok(c:Int)(o:Empty⊕Ret)(h:mulTEn c=some o):Arr Try.prog Try.f95 0 (mulTSt c) mulTHd (zB Try.f95) [] {n:=Try.f95.ntmps,fr:=enumF 0 ([.int .u64 1,.int .u64 c]),hp:=([])} o:=
 Scr.ok h mix (
 .rn 0 [] [] [] [] (al t3) <|
 .gu fun a0=>
 have c0:=mul64_c c a0;
 .rt [] [] [(25,hK c0 [] [])] [] [] [] (aj (ak (aj (u2 (u2 (aj (ak (k3 (al (c0)))) (u2 (u2 (u2 (u2 s2))))))) (al (u2 (u2 (u2 s2)))))) (al t3))) (by kernel_rfl)
theorem mulT_ct(c:Int)(r:Ret)(h:MReach (mulTStep c) (mulTEn c) r):CT Try.prog 95 ([]) ([.int .u64 1,.int .u64 c]) r.1 r.2:=
 CT.mach (fn:=Try.f95) (c:=zB Try.f95) (S:=mulTSt c) (hd:=mulTHd) Try.func95 (by kernel_rfl) (Nat.le_of_ble_eq_true rfl)
  (fun s o ho=>match s,ho with
   | x,_=>x.elim)
  (fun o ho=>mulTEn_ok c o ho) h
theorem mul_c(c:Int)(h:0≤c∧c≤48):CT Try.prog 95 [] [.int .u64 1,.int .u64 c] [] (.tup [.int .u64 0,.int .u64 c]):=by
 refine mulT_ct c ([],_) (.val ?_)
 unfold mulTEn
 rw[gu_t h]
inductive repPc where
 | l0 (v0:Int) (v1:List Int)
def repSt(c:Int):repPc→St
 | .l0 v0 v1=>St.mk 48 [(7,AV.sl 0 0 (IntKind.i64.wrap (IntKind.u64.wrap c)).toNat),(8,iv v0)] [some (Blk.mk (List.map (iv) v1) 1 true true none)]
def repHd:repPc→Nat
 | .l0 _ _=>0
def repEn(c:Int):Option (repPc⊕Ret):=
 br (decide (c<0))
 (none)
 (gu (0≤IntKind.u64.wrap c∧IntKind.u64.wrap c≤48) <|
  br (decide (9223372036854775807<IntKind.u64.wrap c))
  (none)
  (gu (0≤IntKind.i64.wrap (IntKind.u64.wrap c)) <|
   gu (8 * IntKind.i64.wrap (IntKind.u64.wrap c)≤281474976710656) <|
   gu (IntKind.i64.wrap (IntKind.u64.wrap c)≤9223372036854775807) <|
   some (.inl (.l0 (iN (min 1 (IntKind.i64.wrap (IntKind.u64.wrap c)).toNat)) (List.take (min 1 (IntKind.i64.wrap (IntKind.u64.wrap c)).toNat) [-1]++List.drop (0+min 1 (IntKind.i64.wrap (IntKind.u64.wrap c)).toNat) (List.replicate (IntKind.i64.wrap (IntKind.u64.wrap c)).toNat 0))))))
def repS0(c v0:Int)(v1:List Int):Option (repPc⊕Ret):=
 br (decide (v0<iN (IntKind.i64.wrap (IntKind.u64.wrap c)).toNat))
 (gu (0≤v0) <|
  gu (v0≤iN (IntKind.i64.wrap (IntKind.u64.wrap c)).toNat) <|
  gu (0+v0.toNat+((IntKind.i64.wrap (IntKind.u64.wrap c)).toNat-v0.toNat)≤(List.map (AV.int IntKind.i64) v1).length) <|
  gu (0+(v0.toNat-Int.toNat 0)≤(List.map (AV.int IntKind.i64) v1).length) <|
  some (.inl (.l0 (IntKind.i64.wrap (v0+iN (min (List.take (v0.toNat-Int.toNat 0) (List.drop 0 (List.map (AV.int IntKind.i64) v1))).length ((IntKind.i64.wrap (IntKind.u64.wrap c)).toNat-v0.toNat)))) (List.take (0+v0.toNat) v1++List.take (min (List.take (v0.toNat-Int.toNat 0) (List.drop 0 (List.map (AV.int IntKind.i64) v1))).length ((IntKind.i64.wrap (IntKind.u64.wrap c)).toNat-v0.toNat)) (List.take (v0.toNat-Int.toNat 0) (List.drop 0 v1))++List.drop (0+v0.toNat+min (List.take (v0.toNat-Int.toNat 0) (List.drop 0 (List.map (AV.int IntKind.i64) v1))).length ((IntKind.i64.wrap (IntKind.u64.wrap c)).toNat-v0.toNat)) v1))))
 (some (.inr ([some (Blk.mk (List.map (AV.int IntKind.i64) v1) 1 true true none)],AV.sl 0 0 (IntKind.i64.wrap (IntKind.u64.wrap c)).toNat)))
def repStep(c:Int):repPc→Option (repPc⊕Ret)
 | .l0 v0 v1=>repS0 c v0 v1
theorem repEn_ok(c:Int)(o:repPc⊕Ret)(h:repEn c=some o):Arr Try.prog Try.f44 0 (repSt c) repHd (zB Try.f44) [] {n:=Try.f44.ntmps,fr:=enumF 0 ([lI [-1],.int .i64 c]),hp:=([])} o:=
 Scr.ok h mix (
 .rn 1 [] [] [] [] (u2 (al (u2 s2))) <|
 .br (fun a0=>
 .no)
 (fun a0=>
 .gu fun a1=>
 have c0:=mul_c (IntKind.u64.wrap c) a1;
 .rn 1 [20] [] [(18,hK c0 [] [])] [] (aj a0 (aj (u2 (u2 (u2 (u2 (u2 (aj (ak (k3 (al (c0)))) (u2 (u2 (u2 (u2 s2)))))))))) (al (u2 (u2 (u2 (aj t3 (aj t3 (al t3))))))))) <|
 .br (fun a2=>
  .no)
 (fun a2=>
  .gu fun a3=>
  .gu fun a4=>
  .gu fun a5=>
  .lq [52] [] [] [] [] [0] [7,8] (up [] [(0,[]++List.take (min 1 (IntKind.i64.wrap (IntKind.u64.wrap c)).toNat) [iv (-1)]++List.drop (0+min 1 (IntKind.i64.wrap (IntKind.u64.wrap c)).toNat) (List.replicate (IntKind.i64.wrap (IntKind.u64.wrap c)).toNat (iv 0)))] (repSt c (.l0 (iN (min 1 (IntKind.i64.wrap (IntKind.u64.wrap c)).toNat)) (List.take (min 1 (IntKind.i64.wrap (IntKind.u64.wrap c)).toNat) [-1]++List.drop (0+min 1 (IntKind.i64.wrap (IntKind.u64.wrap c)).toNat) (List.replicate (IntKind.i64.wrap (IntKind.u64.wrap c)).toNat 0))))) (aj (aj a2 (aj (u2 (u2 (aj (k2 (aj a3 (aj (show IntKind.i64.wrap (IntKind.u64.wrap c)≤IntKind.i64.wrap (IntKind.u64.wrap c) by omega) (aj a4 a5)))) s2))) (al (u2 (u2 (aj (k2 (aj (show 0+(IntKind.i64.wrap (IntKind.u64.wrap c)).toNat≤(List.replicate (IntKind.i64.wrap (IntKind.u64.wrap c)).toNat (iv 0)).length by simp) (show ∀(e:AV),e∈[iv (-1:Int)]→e.cells.length=nat_lit 1 from(by first | decide | exact Int.NonNeg.mk _)))) s2)))))) t4) (by simp[up,upF,upV,upH,upB,repSt,gL,boL,lI])))) (by kernel_rfl)
theorem repS0_ok(c v0:Int)(v1:List Int)(o:repPc⊕Ret)(h:repS0 c v0 v1=some o):Arr Try.prog Try.f44 0 (repSt c) repHd (headC Try.f44 0) (.rnd (headC Try.f44 0)::headK Try.f44 0) (repSt c (.l0 v0 v1)) o:=
 Scr.ok h mix (
 .rn 0 [] [] [] [] (al (u2 (u2 (u2 (al t3))))) <|
 .br (fun a0=>
 .gu fun a1=>
 .gu fun a2=>
 .gu fun a3=>
 .gu fun a4=>
 .lq [75] [] [] [] [] [0] [7,8] (up [] [(0,List.take (0+v0.toNat) (List.map (iv) v1)++List.take (min (List.take (v0.toNat-Int.toNat 0) (List.drop 0 (List.map (iv) v1))).length ((IntKind.i64.wrap (IntKind.u64.wrap c)).toNat-v0.toNat)) (List.take (v0.toNat-Int.toNat 0) (List.drop 0 (List.map (iv) v1)))++List.drop (0+v0.toNat+min (List.take (v0.toNat-Int.toNat 0) (List.drop 0 (List.map (iv) v1))).length ((IntKind.i64.wrap (IntKind.u64.wrap c)).toNat-v0.toNat)) (List.map (iv) v1))] (repSt c (.l0 (IntKind.i64.wrap (v0+iN (min (List.take (v0.toNat-Int.toNat 0) (List.drop 0 (List.map (iv) v1))).length ((IntKind.i64.wrap (IntKind.u64.wrap c)).toNat-v0.toNat)))) (List.take (0+v0.toNat) v1++List.take (min (List.take (v0.toNat-Int.toNat 0) (List.drop 0 (List.map (iv) v1))).length ((IntKind.i64.wrap (IntKind.u64.wrap c)).toNat-v0.toNat)) (List.take (v0.toNat-Int.toNat 0) (List.drop 0 v1))++List.drop (0+v0.toNat+min (List.take (v0.toNat-Int.toNat 0) (List.drop 0 (List.map (iv) v1))).length ((IntKind.i64.wrap (IntKind.u64.wrap c)).toNat-v0.toNat)) v1)))) (aj (aj a0 (al (u2 (u2 (u2 (aj (k2 (aj a1 (aj a2 (aj (show iN (IntKind.i64.wrap (IntKind.u64.wrap c)).toNat≤iN (IntKind.i64.wrap (IntKind.u64.wrap c)).toNat by omega) (show iN (IntKind.i64.wrap (IntKind.u64.wrap c)).toNat≤iN (IntKind.i64.wrap (IntKind.u64.wrap c)).toNat by omega))))) (u2 (u2 (aj (k2 (aj (show(0:Int)≤(0:Int) from(by first | exact Nat.le_of_ble_eq_true rfl | decide)) (aj a1 (aj a2 (show iN (IntKind.i64.wrap (IntKind.u64.wrap c)).toNat≤iN (IntKind.i64.wrap (IntKind.u64.wrap c)).toNat by omega))))) (aj (k2 (aj a3 (aj (show nat_lit 1=nat_lit 1 from rfl) a4))) (aj t3 s2))))))))))) t4) (by simp[up,upF,upV,upH,upB,repSt,gL,boL,lI]))
 (fun a0=>
 .rt [74] [] [] [] [0] [] (aj (aj a0 (al (u2 s2))) t3))) (by kernel_rfl)
theorem rep_ct(c:Int)(r:Ret)(h:MReach (repStep c) (repEn c) r):CT Try.prog 44 ([]) ([lI [-1],.int .i64 c]) r.1 r.2:=
 CT.mach (fn:=Try.f44) (c:=zB Try.f44) (S:=repSt c) (hd:=repHd) Try.func44 (by kernel_rfl) (Nat.le_of_ble_eq_true rfl)
  (fun s o ho=>match s,ho with
   | .l0 v0 v1,ho=>repS0_ok c v0 v1 o ho
  )
  (fun o ho=>repEn_ok c o ho) h
def rpV(c m:Nat):List Int:=List.replicate m (-1)++List.replicate (c-m) 0
theorem rpV_step{c m k:Nat}(hk:k≤m)(hc:m+k≤c):List.take (0+m) (rpV c m)++List.take k (List.take (m-0) (List.drop 0 (rpV c m)))++List.drop (0+m+k) (rpV c m)=rpV c (m+k):=by
 have e1:List.take m (rpV c m)=List.replicate m (-1):=by unfold rpV;rw[List.take_append_of_le_length (by simp)];simp
 have e2:List.drop (m+k) (rpV c m)=List.replicate (c-(m+k)) 0:=by
  unfold rpV
  rw[List.drop_append,List.drop_of_length_le (by simp),List.length_replicate,List.nil_append,List.drop_replicate];congr 1;omega
 rw[Nat.zero_add,Nat.sub_zero,List.drop_zero,e1,e2,List.take_replicate,Nat.min_eq_left hk,List.replicate_append_replicate];rfl
theorem rpV_len{c m:Nat}(h:m≤c):(rpV c m).length=c:=by unfold rpV;simp;omega
theorem wrapU{x:Int}(h1:0≤x)(h2:x≤9223372036854775807):IntKind.u64.wrap x=x:=by simp only[IntKind.wrap,IntKind.bits,IntKind.signed];simp;omega
theorem wrapI{x:Int}(h1:0≤x)(h2:x≤9223372036854775807):IntKind.i64.wrap x=x:=by simp only[IntKind.wrap,IntKind.bits,IntKind.signed];simp;omega
theorem rep_c(x:Int)(h:0≤x∧x≤48):CT Try.prog 44 [] [lI [-1],.int .i64 x] [some (Blk.mk ((List.replicate x.toNat (-1)).map (AV.int .i64)) 1 true true none)] (.sl 0 0 x.toNat):=by
 obtain⟨c,rfl⟩:∃c:Nat,x=c:=⟨x.toNat,by omega⟩
 have h48:c≤48:=by omega
 refine rep_ct (c:Int) ([_],_) ?_
 have wu:=wrapU (x:=(c:Int)) (by omega) (by omega)
 have wi:=wrapI (x:=(c:Int)) (by omega) (by omega)
 have hS:∀a b,repStep (c:Int) (.l0 a b)=repS0 c a b:=fun _ _=>rfl
 unfold repS0 at hS
 unfold repEn
 simp only[wu,wi,Int.toNat_natCast] at hS ⊢
 rw[br_f (decide_eq_false (by omega)),gu_t (by omega),br_f (decide_eq_false (by omega)),gu_t (by omega),gu_t (by omega),gu_t (by omega)]
 have key:∀(d m:Nat),c-m≤d→m≤c→(1≤m∨c=0)→MReach (repStep (c:Int)) (some (.inl (.l0 (m:Int) (rpV c m)))) (([some (Blk.mk ((List.replicate c (-1)).map (AV.int .i64)) 1 true true none)],.sl 0 0 c):Ret):=by
  intro d
  induction d with
  | zero=>
   intro m hd hm _
   obtain rfl:m=c:=by omega
   refine .to (hS _ _) ?_
   rw[br_f (decide_eq_false (by simp only[iN];omega))]
   have:rpV m m=List.replicate m (-1):=by unfold rpV;simp
   rw[this];exact .ret _
  | succ d ih=>
   intro m hd hm h1
   by_cases he:m=c
   ·exact ih m (by omega) hm h1
   have hl:=rpV_len hm
   refine .to (hS _ _) ?_
   have hk:min (List.take (m-Int.toNat 0) (List.drop 0 (List.map (AV.int IntKind.i64) (rpV c m)))).length (c-m)=min m (c-m):=by
    rw[List.drop_zero,List.length_take,List.length_map,hl];simp only[Int.toNat_zero];omega
   rw[br_t (decide_eq_true (by simp only[iN];omega)),gu_t (by omega),gu_t (by simp only[iN];omega),Int.toNat_natCast,gu_t (by rw[List.length_map,hl];omega),gu_t (by rw[List.length_map,hl];simp only[Int.toNat_zero];omega),hk,wrapI (by simp only[iN];omega) (by simp only[iN];omega)]
   have e:=rpV_step (c:=c) (m:=m) (k:=min m (c-m)) (by omega) (by omega)
   have e2:(m:Int)+iN (min m (c-m))=((m+min m (c-m):Nat):Int):=by simp only[iN];omega
   rw[e2]
   have:=ih (m+min m (c-m)) (by omega) (by omega) (by omega)
   rw[←e] at this
   exact this
 have e0:(some (.inl (.l0 (iN (min 1 c)) (List.take (min 1 c) [-1]++List.drop (0+min 1 c) (List.replicate c 0)))):Option (repPc⊕Ret))=some (.inl (.l0 ((min 1 c:Nat):Int) (rpV c (min 1 c)))):=by
  have:List.take (min 1 c) [-1]++List.drop (0+min 1 c) (List.replicate c (0:Int))=rpV c (min 1 c):=by
   unfold rpV
   cases c with
   | zero=>rfl
   | succ c=>rw[show min 1 (c+1)=1 by omega,Nat.zero_add,List.drop_replicate];rfl
  rw[this]
 rw[e0]
 exact key c (min 1 c) (by omega) (by omega) (by omega)
inductive svaPc where
 | l0 (v0:Int)
 | l1 (v0:Int)
def svaSt(n:NetD)(q:SigD):svaPc→St
 | .l0 v0=>St.mk 101 [(2,AV.ptr 0 0 0),(3,AV.ptr 1 0 0),(42,AV.lst (List.map (iv) q.bw)),(43,iv (iN (List.map (iv) q.bw).length)),(44,iv v0)] [some (Blk.mk [netA n] 8 true true none),some (Blk.mk [AV.agg [AV.lst (boL q.cl),AV.lst (List.map (iv) q.bw),AV.lst (List.map (iv) q.pe)]] 3 true true none)]
 | .l1 v0=>St.mk 101 [(2,AV.ptr 0 0 0),(3,AV.ptr 1 0 0),(69,AV.lst (List.map (iv) q.pe)),(70,iv (iN (List.map (iv) q.pe).length)),(71,iv v0)] [some (Blk.mk [netA n] 8 true true none),some (Blk.mk [AV.agg [AV.lst (boL q.cl),AV.lst (List.map (iv) q.bw),AV.lst (List.map (iv) q.pe)]] 3 true true none)]
def svaHd:svaPc→Nat
 | .l0 _=>0
 | .l1 _=>1
def svaEn(n:NetD)(q:SigD):Option (svaPc⊕Ret):=
 gu (Rows n.nx) <|
 br (cntE n != 0)
 (some (.inr ([],AV.bool false)))
 (br (iN (boL q.cl).length != cntZ n)
  (some (.inr ([],AV.bool false)))
  (br (iN (List.map (AV.int IntKind.i64) q.bw).length != cntZ n)
   (some (.inr ([],AV.bool false)))
   (br (decide (iN (List.map bA n.bs).length<iN (List.map (AV.int IntKind.i64) q.pe).length))
    (some (.inr ([],AV.bool false)))
    (some (.inl (.l0 ((0:Int))))))))
def svaS0(n:NetD)(q:SigD)(v0:Int):Option (svaPc⊕Ret):=
 br (decide (v0<iN (List.map (AV.int IntKind.i64) q.bw).length))
 (gu (0≤v0) <|
  el (q.bw) (v0.toNat) fun(x47:Int)=>
  br (decide (x47 < -1))
  (some (.inr ([],AV.bool false)))
  (br (decide (8≤x47))
   (some (.inr ([],AV.bool false)))
   (br (decide (0≤x47))
    (el (q.cl) (v0.toNat) fun(x62:Bool)=>
     br (!x62)
     (some (.inr ([],AV.bool false)))
     (some (.inl (.l0 (IntKind.i64.wrap (v0+1))))))
    (some (.inl (.l0 (IntKind.i64.wrap (v0+1))))))))
 (some (.inl (.l1 ((0:Int)))))
def svaS1(n:NetD)(q:SigD)(v0:Int):Option (svaPc⊕Ret):=
 br (decide (v0<iN (List.map (AV.int IntKind.i64) q.pe).length))
 (gu (0≤v0) <|
  el (q.pe) (v0.toNat) fun(x74:Int)=>
  br (decide (x74<0))
  (some (.inr ([],AV.bool false)))
  (br (decide (iN (List.map bA n.bs).length≤x74))
   (some (.inr ([],AV.bool false)))
   (gu (0≤x74) <|
    el (q.cl) (x74.toNat) fun(x89:Bool)=>
    br x89
    (some (.inr ([],AV.bool false)))
    (gu (∀(e:AV),e∈List.map (AV.int IntKind.i64) q.pe→e.cells.length=1) <|
     gu (v0≤iN (List.map (AV.int IntKind.i64) q.pe).length) <|
     gu ((List.take (v0.toNat-Int.toNat 0) (List.drop (Int.toNat 0) q.pe)).length≤9000000000000000000) <|
     br (hasZ (List.take (v0.toNat-Int.toNat 0) (List.drop (Int.toNat 0) q.pe)) x74)
     (some (.inr ([],AV.bool false)))
     (some (.inl (.l1 (IntKind.i64.wrap (v0+1)))))))))
 (some (.inr ([],AV.bool true)))
def svaStep(n:NetD)(q:SigD):svaPc→Option (svaPc⊕Ret)
 | .l0 v0=>svaS0 n q v0
 | .l1 v0=>svaS1 n q v0
theorem svaEn_ok(n:NetD)(q:SigD)(o:svaPc⊕Ret)(h:svaEn n q=some o):Arr Try.prog Try.f25 0 (svaSt n q) svaHd (zB Try.f25) [] {n:=Try.f25.ntmps,fr:=enumF 0 ([netA n,sgA q]),hp:=([])} o:=
 Scr.ok h mix (
 .rn 0 [] [] [] [] (al (u2 (u2 t2))) <|
 .gu fun a0=>
 have c0:=cnt_c a0;
 .rn 0 [] [] [(13,hK c0 [] [])] [] (al (u2 (aj (ak (aj t9 (al (c0)))) (u2 (u2 (u2 (u2 s2))))))) <|
 .br (fun a1=>
 .rt [37] [] [] [] [] [] (aj (aj (u2 (u2 (u2 (aj a1 (aj a1 (aj a1 (aj a1 (aj a1 (ag a1 (u2 (k5 (aj t3 (u2 (k2 (k5 (al t3)))))))))))))))) (ak s2)) t2))
 (fun a1=>
 .br (fun a2=>
  .rt [36,51] [] [] [] [] [] (aj (aj (u2 (u2 (u2 (ag a1 (ag a1 (ag a1 (ag a1 (aj (aj a1 t3) (ag a1 (u2 (aj a2 (aj a2 (aj a2 (aj a2 (aj a2 (ag a2 (u2 (k2 (k5 (al t3)))))))))))))))))))) (ak s2)) t2))
 (fun a2=>
  .br (fun a3=>
  .rt [36,50,65] [] [] [] [] [] (aj (aj (u2 (u2 (u2 (ag a1 (ag a1 (ag a1 (ag a1 (aj (aj a1 t3) (ag a1 (u2 (ag a2 (ag a2 (ag a2 (ag a2 (aj (aj a2 t3) (ag a2 (u2 (aj a3 (aj a3 (aj a3 (aj a3 (aj a3 (aj a3 (aj a3 (al (aj a3 t2)))))))))))))))))))))))))) (ak s2)) t2))
  (fun a3=>
  .rn 0 [36,50,64] [] [] [] (al (u2 (u2 (u2 (ag a1 (ag a1 (ag a1 (ag a1 (aj (aj a1 t3) (ag a1 (u2 (ag a2 (ag a2 (ag a2 (ag a2 (aj (aj a2 t3) (ag a2 (u2 (ag a3 (ag a3 (ag a3 (ag a3 (ag a3 (ag a3 (aj (aj a3 t3) (al (aj a3 t2))))))))))))))))))))))))))) <|
  .br (fun a4=>
   .rt [36,50,64,81] [] [] [] [] [] (aj (aj a4 s2) t2))
  (fun a4=>
   .lp [36,50,64,80] [] [] [] [] [0,1] [2,3,42,43,44] (aj (aj a4 (al (u2 (u2 (u2 t2))))) t8)))))) (by kernel_rfl)
theorem svaS0_ok(n:NetD)(q:SigD)(v0:Int)(o:svaPc⊕Ret)(h:svaS0 n q v0=some o):Arr Try.prog Try.f25 0 (svaSt n q) svaHd (headC Try.f25 0) (.rnd (headC Try.f25 0)::headK Try.f25 0) (svaSt n q (.l0 v0)) o:=
 Scr.ok h mix (
 .rn 0 [] [] [] [] (al (al t3)) <|
 .br (fun a0=>
 .gu fun a1=>
 .el fun x47 a2=>
 .rn 0 [91] [(47,iv x47)] [] [] (aj a0 (al (u2 (aj (k2 (aj a1 (getMap (f:=iv) a2))) (u2 (u2 s2)))))) <|
 .br (fun a3=>
  .rt [103] [] [] [] [] [] (aj (aj (u2 (u2 (u2 (aj a3 (aj a3 (ag a3 (u2 (k5 (k5 (al t3)))))))))) (ak s2)) t2))
 (fun a3=>
  .br (fun a4=>
  .rt [102,111] [] [] [] [] [] (aj (aj (u2 (u2 (u2 (ag a3 (ag a3 (ag a3 (u2 (aj a4 (aj a4 (aj a4 (ak (k5 (aj a4 (al (aj a4 t2))))))))))))))) (ak s2)) t2))
  (fun a4=>
  .br (fun a5=>
   .el fun x62 a6=>
   .rn 0 [102,110,117] [(62,AV.bool x62)] [] [] (al (u2 (u2 (u2 (ag a3 (ag a3 (ag a3 (u2 (ag a4 (ag a4 (ag a4 (ag a5 (ag a5 (ag a5 (aj (aj a5 (k2 (aj a1 (getMap (f:=AV.bool) a6)))) (ag a5 (ag a5 (aj (aj a4 (aj a5 t2)) (al (aj a4 t2)))))))))))))))))))) <|
   .br (fun a7=>
   .rt [102,110,117,133] [] [] [] [] [] (aj (aj a7 s2) t2))
   (fun a7=>
   .lp [102,110,117,132] [] [] [] [] [0,1] [2,3,42,43,44] (aj (aj a7 (al (u2 s2))) t8)))
  (fun a5=>
   .lp [102,110,116] [] [] [] [] [0,1] [2,3,42,43,44] (aj (aj (u2 (u2 (u2 (ag a3 (ag a3 (ag a3 (u2 (ag a4 (ag a4 (ag a4 (aj a5 (aj a5 (aj a5 (aj a5 (aj a5 (aj a5 (aj (aj a4 (aj a5 t2)) (al (aj a4 t2))))))))))))))))))) (ak (al (u2 s2)))) t8)))))
 (fun a0=>
 .lp [90] [] [] [] [] [0,1] [2,3,69,70,71] (aj (aj a0 (al (u2 (u2 (u2 t2))))) t8))) (by kernel_rfl)
theorem svaS1_ok(n:NetD)(q:SigD)(v0:Int)(o:svaPc⊕Ret)(h:svaS1 n q v0=some o):Arr Try.prog Try.f25 0 (svaSt n q) svaHd (headC Try.f25 1) (.rnd (headC Try.f25 1)::headK Try.f25 1) (svaSt n q (.l1 v0)) o:=
 Scr.ok h mix (
 .rn 0 [] [] [] [] (al (al t3)) <|
 .br (fun a0=>
 .gu fun a1=>
 .el fun x74 a2=>
 .rn 0 [145] [(74,iv x74)] [] [] (aj a0 (al (u2 (aj (k2 (aj a1 (getMap (f:=iv) a2))) (u2 (u2 s2)))))) <|
 .br (fun a3=>
  .rt [157] [] [] [] [] [] (aj (aj (u2 (u2 (u2 (aj a3 (aj a3 (aj a3 (aj a3 (aj a3 (ag a3 (u2 (k5 (aj t3 (u2 (ak (k5 (al t3)))))))))))))))) (ak s2)) t2))
 (fun a3=>
  .br (fun a4=>
  .rt [156,171] [] [] [] [] [] (aj (aj (u2 (u2 (u2 (ag a3 (ag a3 (ag a3 (ag a3 (aj (aj a3 t3) (ag a3 (u2 (aj a4 (aj a4 (aj a4 (aj a4 (aj a4 (ag a4 (u2 (ak (k5 (al t3)))))))))))))))))))) (ak s2)) t2))
  (fun a4=>
  .gu fun a5=>
  .el fun x89 a6=>
  .br (fun a7=>
   .rt [156,170,185] [(89,AV.bool x89)] [] [] [] [] (aj (aj (u2 (u2 (u2 (ag a3 (ag a3 (ag a3 (ag a3 (aj (aj a3 t3) (ag a3 (u2 (ag a4 (ag a4 (ag a4 (aj (aj a4 (k2 (aj a5 (getMap (f:=AV.bool) a6)))) (ag a4 (ag a4 (u2 (aj a7 (aj a7 (aj a7 (aj a7 (aj a7 (aj a7 (al (aj a7 t2))))))))))))))))))))))))) (ak s2)) t2))
  (fun a7=>
   .gu fun a8=>
   .gu fun a9=>
   .gu fun a10=>
   have c0:=con_c (List.take (v0.toNat-Int.toNat 0) (List.drop (Int.toNat 0) q.pe)) x74 a10;
   .rn 0 [156,170,184] [(89,AV.bool x89)] [(98,hK c0 [] [])] [] (al (u2 (u2 (u2 (ag a3 (ag a3 (ag a3 (ag a3 (aj (aj a3 t3) (ag a3 (u2 (ag a4 (ag a4 (ag a4 (aj (aj a4 (k2 (aj a5 (getMap (f:=AV.bool) a6)))) (ag a4 (ag a4 (u2 (ag a7 (ag a7 (ag a7 (aj (aj a7 (k2 (aj a8 (aj (show(0:Int)≤(0:Int) from(by first | exact Nat.le_of_ble_eq_true rfl | decide)) (aj a1 (aj a9 (show iN (List.map (iv) q.pe).length≤iN (List.map (iv) q.pe).length by omega))))))) (ag a7 (aj (aj a7 (ak (k3 (al (show CT Try.prog 47 [] [AV.lst (List.take (v0.toNat-Int.toNat 0) (List.drop (Int.toNat 0) (List.map (iv) q.pe))),iv x74] [] (AV.bool (hasZ (List.take (v0.toNat-Int.toNat 0) (List.drop (Int.toNat 0) q.pe)) x74)) from CT.eqs (c0) (by first | (simp only[boL,List.map_append,List.map_set,List.map_take,List.map_drop,List.map_replicate,List.nil_append];done) | (simp only[boL,List.map_append,List.map_set,List.map_take,List.map_drop,List.map_replicate,List.nil_append];rfl) | (simp[gL,boL,lI,sA,bA];done) | (simp[gL,boL,lI,sA,bA];rfl) | (simp only[netA,List.map_append,List.map_set,List.map_cons,List.map_nil];rfl)) (by first | (simp only[boL,List.map_append,List.map_set,List.map_take,List.map_drop,List.map_replicate,List.nil_append];done) | (simp only[boL,List.map_append,List.map_set,List.map_take,List.map_drop,List.map_replicate,List.nil_append];rfl) | (simp[gL,boL,lI,sA,bA];done) | (simp[gL,boL,lI,sA,bA];rfl) | (simp only[netA,List.map_append,List.map_set,List.map_cons,List.map_nil];rfl))))))) (al (aj a7 t2)))))))))))))))))))))))))) <|
   .br (fun a11=>
   .rt [156,170,184,199] [] [] [] [] [] (aj (aj a11 s2) t2))
   (fun a11=>
   .lp [156,170,184,198] [] [] [] [] [0,1] [2,3,69,70,71] (aj (aj a11 (al (u2 s2))) t8))))))
 (fun a0=>
 .rt [144] [] [] [] [] [] (aj (aj a0 s2) t2))) (by kernel_rfl)
theorem sva_ct(n:NetD)(q:SigD)(r:Ret)(h:MReach (svaStep n q) (svaEn n q) r):CT Try.prog 25 ([]) ([netA n,sgA q]) r.1 r.2:=
 CT.mach (fn:=Try.f25) (c:=zB Try.f25) (S:=svaSt n q) (hd:=svaHd) Try.func25 (by kernel_rfl) (Nat.le_of_ble_eq_true rfl)
  (fun s o ho=>match s,ho with
   | .l0 v0,ho=>svaS0_ok n q v0 o ho
   | .l1 v0,ho=>svaS1_ok n q v0 o ho
  )
  (fun o ho=>svaEn_ok n q o ho) h
def r20vSt(n:NetD)(q:SigD):Empty→St
 | x=>x.elim
def r20vHd:Empty→Nat
 | x=>x.elim
def r20vEn(n:NetD)(q:SigD):Option (Empty⊕Ret):=
 gu (Rows n.nx) <|
 br (valB n)
 (gu (ValidN n) <|
  some (.inr ([],AV.bool (sigF n q))))
 (some (.inr ([],AV.bool false)))
def r20vStep(n:NetD)(q:SigD):Empty→Option (Empty⊕Ret)
 | x=>x.elim
theorem r20vEn_ok(n:NetD)(q:SigD)(o:Empty⊕Ret)(h:r20vEn n q=some o):Arr Try.prog Try.f75 0 (r20vSt n q) r20vHd (zB Try.f75) [] {n:=Try.f75.ntmps,fr:=enumF 0 ([netA n,sgA q]),hp:=([])} o:=
 Scr.ok h mix (
 .rn 0 [] [] [] [] (al (u2 (u2 t2))) <|
 .gu fun a0=>
 .br (fun a1=>
 .gu fun a2=>
 have c0:=rvalid_net_ct a0;
 have c1:=fo_c q a2;
 .rt [15] [] [(6,hK c0 [] []),(10,hK c1 [] [])] [] [] [] (aj (al (u2 (aj (ak (aj t9 (al (c0)))) (u2 (ag a1 (ag a1 (aj (aj a1 (k2 (aj t9 (aj t4 (al (c1)))))) (ag a1 s2)))))))) t2))
 (fun a1=>
 have c0:=rvalid_net_ct a0;
 .rt [14] [] [(6,hK c0 [] [])] [] [] [] (aj (al (u2 (aj (ak (aj t9 (al (c0)))) (u2 (aj a1 (aj a1 (aj a1 (ag a1 s2)))))))) t2))) (by kernel_rfl)
theorem r20v_ct(n:NetD)(q:SigD)(r:Ret)(h:MReach (r20vStep n q) (r20vEn n q) r):CT Try.prog 75 ([]) ([netA n,sgA q]) r.1 r.2:=
 CT.mach (fn:=Try.f75) (c:=zB Try.f75) (S:=r20vSt n q) (hd:=r20vHd) Try.func75 (by kernel_rfl) (Nat.le_of_ble_eq_true rfl)
  (fun s o ho=>match s,ho with
   | x,_=>x.elim)
  (fun o ho=>r20vEn_ok n q o ho) h
def clbSt(l:List Bool):Empty→St
 | x=>x.elim
def clbHd:Empty→Nat
 | x=>x.elim
def clbEn(l:List Bool):Option (Empty⊕Ret):=
 gu (boL l=[]→False) <|
 gu (∀(e:AV),e∈boL l→e.cells.length=1) <|
 gu (0+(boL l).length≤9223372036854775807) <|
 gu ((0+(boL l).length) * 1≤140737488355328) <|
 some (.inr ([some (Blk.mk ([]++boL l) 1 true true none)],AV.sl 0 0 (0+(boL l).length)))
def clbStep(l:List Bool):Empty→Option (Empty⊕Ret)
 | x=>x.elim
theorem clbEn_ok(l:List Bool)(o:Empty⊕Ret)(h:clbEn l=some o):Arr Try.prog Try.f55 0 (clbSt l) clbHd (zB Try.f55) [] {n:=Try.f55.ntmps,fr:=enumF 0 ([.lst (boL l)]),hp:=([])} o:=
 Scr.ok h mix (
 .rn 0 [] [] [] [] s2 <|
 .gu fun a0=>
 .rn 0 [] [] [] [] (al (u2 (al (ak a0)))) <|
 .gu fun a1=>
 .gu fun a2=>
 .gu fun a3=>
 .rt [] [] [] [] [1] [] (aj (ak (al (ak (u2 (aj (k2 (aj (show nat_lit 0=nat_lit 0 from rfl) (aj a1 (aj a2 a3)))) s2))))) t3)) (by kernel_rfl)
theorem clb_ct(l:List Bool)(r:Ret)(h:MReach (clbStep l) (clbEn l) r):CT Try.prog 55 ([]) ([.lst (boL l)]) r.1 r.2:=
 CT.mach (fn:=Try.f55) (c:=zB Try.f55) (S:=clbSt l) (hd:=clbHd) Try.func55 (by kernel_rfl) (Nat.le_of_ble_eq_true rfl)
  (fun s o ho=>match s,ho with
   | x,_=>x.elim)
  (fun o ho=>clbEn_ok l o ho) h
def cliSt(l:List Int):Empty→St
 | x=>x.elim
def cliHd:Empty→Nat
 | x=>x.elim
def cliEn(l:List Int):Option (Empty⊕Ret):=
 gu (List.map (AV.int IntKind.i64) l=[]→False) <|
 gu (∀(e:AV),e∈List.map (AV.int IntKind.i64) l→e.cells.length=1) <|
 gu (0+(List.map (AV.int IntKind.i64) l).length≤9223372036854775807) <|
 gu ((0+(List.map (AV.int IntKind.i64) l).length) * 8≤140737488355328) <|
 some (.inr ([some (Blk.mk ([]++List.map (AV.int IntKind.i64) l) 1 true true none)],AV.sl 0 0 (0+(List.map (AV.int IntKind.i64) l).length)))
def cliStep(l:List Int):Empty→Option (Empty⊕Ret)
 | x=>x.elim
theorem cliEn_ok(l:List Int)(o:Empty⊕Ret)(h:cliEn l=some o):Arr Try.prog Try.f97 0 (cliSt l) cliHd (zB Try.f97) [] {n:=Try.f97.ntmps,fr:=enumF 0 ([lI l]),hp:=([])} o:=
 Scr.ok h mix (
 .rn 0 [] [] [] [] s2 <|
 .gu fun a0=>
 .rn 0 [] [] [] [] (al (u2 (al (ak a0)))) <|
 .gu fun a1=>
 .gu fun a2=>
 .gu fun a3=>
 .rt [] [] [] [] [1] [] (aj (ak (al (ak (u2 (aj (k2 (aj (show nat_lit 0=nat_lit 0 from rfl) (aj a1 (aj a2 a3)))) s2))))) t3)) (by kernel_rfl)
theorem cli_ct(l:List Int)(r:Ret)(h:MReach (cliStep l) (cliEn l) r):CT Try.prog 97 ([]) ([lI l]) r.1 r.2:=
 CT.mach (fn:=Try.f97) (c:=zB Try.f97) (S:=cliSt l) (hd:=cliHd) Try.func97 (by kernel_rfl) (Nat.le_of_ble_eq_true rfl)
  (fun s o ho=>match s,ho with
   | x,_=>x.elim)
  (fun o ho=>cliEn_ok l o ho) h
inductive rcpPc where
 | l0 (v0:Int) (v1:List Int)
def rcpSt(q:SigD)(w:Int):rcpPc→St
 | .l0 v0 v1=>St.mk 39 [(1,iv w),(2,AV.ptr 0 0 0),(4,AV.ptr 1 0 0),(5,AV.ptr 2 0 0),(6,iv v0)] [some (Blk.mk [AV.agg [AV.lst (boL q.cl),AV.lst (List.map (iv) q.bw),AV.lst (List.map (iv) q.pe)]] 3 true true none),some (Blk.mk [AV.agg [AV.nils,AV.nils,AV.nils]] 3 true true none),some (Blk.mk [AV.agg [AV.sl 3 0 (boL q.cl).length,AV.sl 4 0 q.bw.length,AV.sl 5 0 v1.length]] 3 false true none),some (Blk.mk (boL q.cl) 1 true true none),some (Blk.mk (List.map (iv) q.bw) 1 true true none),some (Blk.mk (List.map (iv) v1) 1 true true none)]
def rcpHd:rcpPc→Nat
 | .l0 _ _=>0
def rcpEn(q:SigD)(w:Int):Option (rcpPc⊕Ret):=
 gu (∀(e:AV),e∈boL q.cl→e.cells.length=1) <|
 gu ((boL q.cl).length≤9223372036854775807) <|
 gu ((boL q.cl).length * 1≤140737488355328) <|
 gu (∀(e:AV),e∈List.map (AV.int IntKind.i64) q.bw→e.cells.length=1) <|
 gu ((List.map (AV.int IntKind.i64) q.bw).length≤9223372036854775807) <|
 gu ((List.map (AV.int IntKind.i64) q.bw).length * 8≤140737488355328) <|
 some (.inl (.l0 ((0:Int)) ([])))
def rcpS0(q:SigD)(w v0:Int)(v1:List Int):Option (rcpPc⊕Ret):=
 br (decide (v0<iN (List.map (AV.int IntKind.i64) q.pe).length))
 (gu (0≤v0) <|
  el (q.pe) (v0.toNat) fun(x24:Int)=>
  br (x24 != w)
  (el (q.pe) (v0.toNat) fun(x33:Int)=>
   gu ((List.map (AV.int IntKind.i64) v1).length+[AV.int IntKind.i64 x33].length≤9223372036854775807) <|
   gu (((List.map (AV.int IntKind.i64) v1).length+[AV.int IntKind.i64 x33].length) * 8≤140737488355328) <|
   some (.inl (.l0 (IntKind.i64.wrap (v0+1)) (v1++[x33]))))
  (some (.inl (.l0 (IntKind.i64.wrap (v0+1)) v1))))
 (some (.inr ([some (Blk.mk (boL q.cl) 1 true true none),some (Blk.mk (List.map (AV.int IntKind.i64) q.bw) 1 true true none),some (Blk.mk (List.map (AV.int IntKind.i64) v1) 1 true true none)],AV.agg [AV.sl 0 0 (boL q.cl).length,AV.sl 1 0 q.bw.length,AV.sl 2 0 v1.length])))
def rcpStep(q:SigD)(w:Int):rcpPc→Option (rcpPc⊕Ret)
 | .l0 v0 v1=>rcpS0 q w v0 v1
theorem rcpEn_ok(q:SigD)(w:Int)(o:rcpPc⊕Ret)(h:rcpEn q w=some o):Arr Try.prog Try.f106 0 (rcpSt q w) rcpHd (zB Try.f106) [] {n:=Try.f106.ntmps,fr:=enumF 0 ([sgA q,.int .i64 w]),hp:=([])} o:=
 Scr.ok h mix (
 .rn 0 [] [] [] [] (al (u2 t2)) <|
 .gu fun a0=>
 .gu fun a1=>
 .gu fun a2=>
 .gu fun a3=>
 .gu fun a4=>
 .gu fun a5=>
 .lq [] [] [] [] [(3005,1)] [0,1,4,2,3,5] [1,2,4,5,6] (up [] [(2,[AV.agg [AV.sl 3 0 (boL q.cl).length,AV.sl 4 0 (List.map (iv) q.bw).length,AV.sl 5 0 0]])] (rcpSt q w (.l0 ((0:Int)) ([])))) (aj (aj (u2 (u2 (aj (ak (aj a0 (aj a1 a2))) (u2 (u2 (aj (ak (aj a3 (aj a4 a5))) (aj t3 (ak (al (k2 n11)))))))))) s2) (k2 (k5 (aj (al t4) t4)))) (by simp[up,upF,upV,upH,upB,rcpSt,gL,boL,lI])) (by kernel_rfl)
theorem rcpS0_ok(q:SigD)(w v0:Int)(v1:List Int)(o:rcpPc⊕Ret)(h:rcpS0 q w v0 v1=some o):Arr Try.prog Try.f106 0 (rcpSt q w) rcpHd (headC Try.f106 0) (.rnd (headC Try.f106 0)::headK Try.f106 0) (rcpSt q w (.l0 v0 v1)) o:=
 Scr.ok h mix (
 .rn 0 [] [] [] [] (al (u2 (u2 (u2 (u2 (al t3)))))) <|
 .br (fun a0=>
 .gu fun a1=>
 .el fun x24 a2=>
 .rn 0 [37] [(24,iv x24)] [] [] (aj a0 (al (u2 (u2 (u2 (aj (k2 (aj a1 (getMap (f:=iv) a2))) (u2 (u2 (al t3))))))))) <|
 .br (fun a3=>
  .el fun x33 a4=>
  .gu fun a5=>
  .gu fun a6=>
  .lq [55] [(33,iv x33)] [] [] [] [0,1,2,3,4,7] [1,2,4,5,6] (up [] [(2,[AV.agg [AV.sl 3 0 (boL q.cl).length,AV.sl 4 0 q.bw.length,AV.sl 5 0 ((List.map (iv) v1).length+[iv x33].length)]]),(5,List.map (iv) v1++[iv x33])] (rcpSt q w (.l0 (IntKind.i64.wrap (v0+1)) (v1++[x33])))) (aj (aj a3 (aj (u2 (u2 (u2 (u2 (u2 (aj (k2 (aj a1 (getMap (f:=iv) a4))) (u2 (u2 (aj (k2 (aj (show(List.map (iv) v1).length=v1.length by simp) (aj (aj (show nat_lit 1=nat_lit 1 from rfl) (show 1≤[iv x33].length by simp)) (aj a5 a6)))) (u2 (al t3))))))))))) (al (u2 (u2 s2))))) (k2 (k5 (aj (al t4) t4)))) (by simp[up,upF,upV,upH,upB,rcpSt,gL,boL,lI]))
 (fun a3=>
  .lp [54] [] [] [] [] [0,1,2,3,4,5] [1,2,4,5,6] (aj (aj a3 (al (u2 (u2 s2)))) (k2 (k5 (aj (al t4) t4))))))
 (fun a0=>
 .rt [36] [] [] [] [3,4,5] [] (aj (aj a0 (al (u2 (al (k2 n11))))) (aj t4 t4)))) (by kernel_rfl)
theorem rcp_ct(q:SigD)(w:Int)(r:Ret)(h:MReach (rcpStep q w) (rcpEn q w) r):CT Try.prog 106 ([]) ([sgA q,.int .i64 w]) r.1 r.2:=
 CT.mach (fn:=Try.f106) (c:=zB Try.f106) (S:=rcpSt q w) (hd:=rcpHd) Try.func106 (by kernel_rfl) (Nat.le_of_ble_eq_true rfl)
  (fun s o ho=>match s,ho with
   | .l0 v0 v1,ho=>rcpS0_ok q w v0 v1 o ho
  )
  (fun o ho=>rcpEn_ok q w o ho) h
def n14St(n:NetD):Empty→St
 | x=>x.elim
def n14Hd:Empty→Nat
 | x=>x.elim
def n14En(n:NetD):Option (Empty⊕Ret):=
 gu (Rows n.nx) <|
 br (cntE n != 0)
 (some (.inr ([],AV.tup [AV.agg [AV.nils,AV.nils,AV.nils],AV.int IntKind.i64 (cntE n)])))
 (gu (0≤cntZ n) <|
  gu (1 * cntZ n≤281474976710656) <|
  gu (cntZ n≤9223372036854775807) <|
  gu (0≤cntZ n∧cntZ n≤48) <|
  gu (∀(blk:Blk),blk∈[Blk.mk (List.map (AV.int IntKind.i64) (List.replicate (cntZ n).toNat (-1))) 1 true true none]→ImmB blk) <|
  some (.inr ([],AV.tup [AV.agg [AV.lst (List.replicate (cntZ n).toNat (AV.bool false)),AV.lst (List.map (AV.int IntKind.i64) (List.replicate (cntZ n).toNat (-1))),AV.nils],AV.int IntKind.i64 0])))
def n14Step(n:NetD):Empty→Option (Empty⊕Ret)
 | x=>x.elim
theorem n14En_ok(n:NetD)(o:Empty⊕Ret)(h:n14En n=some o):Arr Try.prog Try.f14 0 (n14St n) n14Hd (zB Try.f14) [] {n:=Try.f14.ntmps,fr:=enumF 0 ([netA n]),hp:=([])} o:=
 Scr.ok h mix (
 .rn 0 [] [] [] [] (al (u2 t3)) <|
 .gu fun a0=>
 have c0:=cnt_c a0;
 .rn 1 [] [] [(8,hK c0 [] [])] [] (aj (u2 (aj (ak (aj t9 (al (c0)))) (u2 (u2 (u2 (u2 s2)))))) (al (u2 s2))) <|
 .br (fun a1=>
 .rt [25] [] [] [] [] [] (aj (aj a1 (al (ak (u2 (aj (k2 n11) s2))))) (al (aj t4 t2))))
 (fun a1=>
 .gu fun a2=>
 .gu fun a3=>
 .gu fun a4=>
 .gu fun a5=>
 .gu fun a6=>
 have c1:=rep_c (cntZ n) a5;
 .rt [24] [] [(19,hK c1 [] [3])] [] [] [2,4] (aj (aj a1 (al (u2 (aj (k2 (aj a2 (aj (show cntZ n≤cntZ n by omega) (aj a3 a4)))) (ak (u2 (aj (k2 (aj (show nat_lit 1=nat_lit 1 from rfl) (ak (aj (c1) a6)))) (aj t3 (aj (k2 n11) t2))))))))) (al (aj (aj (show(cntZ n).toNat=(List.replicate (cntZ n).toNat (AV.bool false)).length by simp) (aj (show(cntZ n).toNat=(List.map (iv) (List.replicate (cntZ n).toNat (-1))).length by simp) t2)) t2))))) (by kernel_rfl)
theorem n14_ct(n:NetD)(r:Ret)(h:MReach (n14Step n) (n14En n) r):CT Try.prog 14 ([]) ([netA n]) r.1 r.2:=
 CT.mach (fn:=Try.f14) (c:=zB Try.f14) (S:=n14St n) (hd:=n14Hd) Try.func14 (by kernel_rfl) (Nat.le_of_ble_eq_true rfl)
  (fun s o ho=>match s,ho with
   | x,_=>x.elim)
  (fun o ho=>n14En_ok n o ho) h
inductive n19Pc where
 | l0 (v0:Int) (v1:List Int)
def n19St(q:Int):n19Pc→St
 | .l0 v0 v1=>St.mk 28 [(0,iv q),(2,AV.ptr 0 0 0),(4,AV.ptr 1 0 0),(5,iv v0)] [some (Blk.mk [AV.agg [AV.nils,AV.nils]] 2 true true none),some (Blk.mk [AV.agg [AV.sl 2 0 v1.length,AV.sl 3 0 q.toNat]] 2 false true none),some (Blk.mk (List.map (iv) v1) 1 true true none),some (Blk.mk (List.replicate q.toNat AV.nils) 1 true true none)]
def n19Hd:n19Pc→Nat
 | .l0 _ _=>0
def n19En(q:Int):Option (n19Pc⊕Ret):=
 br (decide (q<0))
 (some (.inr ([],AV.tup [AV.agg [AV.nils,AV.nils],AV.int IntKind.i64 19])))
 (br (decide (48<q))
  (some (.inr ([],AV.tup [AV.agg [AV.nils,AV.nils],AV.int IntKind.i64 19])))
  (gu (0≤q) <|
   gu (8 * q≤281474976710656) <|
   gu (q≤9223372036854775807) <|
   gu (24 * q≤281474976710656) <|
   some (.inl (.l0 ((0:Int)) (List.replicate q.toNat 0)))))
def n19S0(q v0:Int)(v1:List Int):Option (n19Pc⊕Ret):=
 br (decide (v0<q))
 (gu (0≤v0) <|
  gu (v0<iN v1.length) <|
  gu ((0+v0.toNat).succ.le (List.map (AV.int IntKind.i64) v1).length) <|
  some (.inl (.l0 (IntKind.i64.wrap (v0+1)) (v1.set (0+v0.toNat) (-1)))))
 (some (.inr ([],AV.tup [AV.agg [AV.lst (List.map (AV.int IntKind.i64) v1),AV.lst (List.replicate q.toNat AV.nils)],AV.int IntKind.i64 0])))
def n19Step(q:Int):n19Pc→Option (n19Pc⊕Ret)
 | .l0 v0 v1=>n19S0 q v0 v1
theorem n19En_ok(q:Int)(o:n19Pc⊕Ret)(h:n19En q=some o):Arr Try.prog Try.f17 0 (n19St q) n19Hd (zB Try.f17) [] {n:=Try.f17.ntmps,fr:=enumF 0 ([.int .i64 q]),hp:=([])} o:=
 Scr.ok h mix (
 .rn 0 [] [] [] [] (al t3) <|
 .br (fun a0=>
 .rt [17] [] [] [] [] [] (aj (aj (u2 (u2 (u2 (aj a0 (aj a0 (al (aj a0 t2))))))) (ak (al (ak (aj (k2 n11) t2))))) (al (aj t3 t2))))
 (fun a0=>
 .rn 0 [16] [] [] [] (al (u2 (u2 (u2 (ag a0 (ag a0 (al (aj a0 t2)))))))) <|
 .br (fun a1=>
  .rt [16,23] [] [] [] [] [] (aj (aj a1 (al (ak (aj (k2 n11) t2)))) (al (aj t3 t2))))
 (fun a1=>
  .gu fun a2=>
  .gu fun a3=>
  .gu fun a4=>
  .gu fun a5=>
  .lq [16,22] [(16,AV.tup [])] [] [] [] [0,3,1,2] [0,2,4,5] (up [] [(1,[AV.agg [AV.sl 2 0 q.toNat,AV.sl 3 0 q.toNat]]),(2,List.replicate q.toNat (iv 0))] (n19St q (.l0 ((0:Int)) (List.replicate q.toNat 0)))) (aj (aj a1 (aj (u2 (aj (k2 (aj a2 (aj (show q≤q by omega) (aj a3 a4)))) (u2 (aj (k2 (aj a2 (aj (show q≤q by omega) (aj a5 a4)))) (aj t3 (ak (al (k2 n11)))))))) s2)) (k5 (aj (al t3) t3))) (by simp[up,upF,upV,upH,upB,n19St,gL,boL,lI])))) (by kernel_rfl)
theorem n19S0_ok(q v0:Int)(v1:List Int)(o:n19Pc⊕Ret)(h:n19S0 q v0 v1=some o):Arr Try.prog Try.f17 0 (n19St q) n19Hd (headC Try.f17 0) (.rnd (headC Try.f17 0)::headK Try.f17 0) (n19St q (.l0 v0 v1)) o:=
 Scr.ok h mix (
 .rn 0 [] [] [] [] (al (u2 (u2 (al t3)))) <|
 .br (fun a0=>
 .gu fun a1=>
 .gu fun a2=>
 .gu fun a3=>
 .lq [41] [] [] [] [] [0,1,2,3] [0,2,4,5] (up [] [(1,[AV.agg [AV.sl 2 0 v1.length,AV.sl 3 0 q.toNat]]),(2,(List.map (iv) v1).set (0+v0.toNat) (iv (-1)))] (n19St q (.l0 (IntKind.i64.wrap (v0+1)) (v1.set (0+v0.toNat) (-1))))) (aj (aj a0 (aj (u2 (u2 (u2 (aj (k2 (aj a1 a2)) (al (ak a3)))))) (al (u2 (u2 s2))))) (k5 (aj (al t3) t3))) (by simp[up,upF,upV,upH,upB,n19St,gL,boL,lI]))
 (fun a0=>
 .rt [40] [] [] [] [] [2,3] (aj (aj a0 (al (u2 (aj (k2 n11) t2)))) (al (aj (aj (show v1.length=(List.map (iv) v1).length by simp) (al (show q.toNat=(List.replicate q.toNat AV.nils).length by simp))) t2))))) (by kernel_rfl)
theorem n19_ct(q:Int)(r:Ret)(h:MReach (n19Step q) (n19En q) r):CT Try.prog 17 ([]) ([.int .i64 q]) r.1 r.2:=
 CT.mach (fn:=Try.f17) (c:=zB Try.f17) (S:=n19St q) (hd:=n19Hd) Try.func17 (by kernel_rfl) (Nat.le_of_ble_eq_true rfl)
  (fun s o ho=>match s,ho with
   | .l0 v0 v1,ho=>n19S0_ok q v0 v1 o ho
  )
  (fun o ho=>n19En_ok q o ho) h
inductive c19Pc where
 | l0 (v0:Int) (v1:List (List Int))
def c19St(q:LokD):c19Pc→St
 | .l0 v0 v1=>St.mk 28 [(1,AV.ptr 0 0 0),(2,AV.ptr 1 0 0),(3,AV.ptr 2 0 0),(4,iv v0)] [some (Blk.mk [AV.agg [AV.lst (List.map (iv) q.ow),AV.lst (gL q.qu)]] 2 true true none),some (Blk.mk [AV.agg [AV.nils,AV.nils]] 2 true true none),some (Blk.mk [AV.agg [AV.sl 3 0 q.ow.length,AV.sl 4 0 v1.length]] 2 false true none),some (Blk.mk (List.map (iv) q.ow) 1 true true none),some (Blk.mk (List.map lI v1) 1 true true none)]
def c19Hd:c19Pc→Nat
 | .l0 _ _=>0
def c19En(q:LokD):Option (c19Pc⊕Ret):=
 gu (∀(e:AV),e∈List.map (AV.int IntKind.i64) q.ow→e.cells.length=1) <|
 gu ((List.map (AV.int IntKind.i64) q.ow).length≤9223372036854775807) <|
 gu ((List.map (AV.int IntKind.i64) q.ow).length * 8≤140737488355328) <|
 some (.inl (.l0 ((0:Int)) ([])))
def c19S0(q:LokD)(v0:Int)(v1:List (List Int)):Option (c19Pc⊕Ret):=
 br (decide (v0<iN (gL q.qu).length))
 (gu (0≤v0) <|
  el (q.qu) (v0.toNat) fun(x21:List Int)=>
  gu (∀(e:AV),e∈List.map (AV.int IntKind.i64) x21→e.cells.length=1) <|
  gu ((List.map (AV.int IntKind.i64) x21).length≤9223372036854775807) <|
  gu ((List.map (AV.int IntKind.i64) x21).length * 8≤140737488355328) <|
  gu ((List.map lI v1).length+[AV.lst (List.map (AV.int IntKind.i64) x21)].length≤9223372036854775807) <|
  gu (((List.map lI v1).length+[AV.lst (List.map (AV.int IntKind.i64) x21)].length) * 24≤140737488355328) <|
  some (.inl (.l0 (IntKind.i64.wrap (v0+1)) (v1++[x21]))))
 (some (.inr ([some (Blk.mk (List.map (AV.int IntKind.i64) q.ow) 1 true true none),some (Blk.mk (List.map lI v1) 1 true true none)],AV.agg [AV.sl 0 0 q.ow.length,AV.sl 1 0 v1.length])))
def c19Step(q:LokD):c19Pc→Option (c19Pc⊕Ret)
 | .l0 v0 v1=>c19S0 q v0 v1
theorem c19En_ok(q:LokD)(o:c19Pc⊕Ret)(h:c19En q=some o):Arr Try.prog Try.f50 0 (c19St q) c19Hd (zB Try.f50) [] {n:=Try.f50.ntmps,fr:=enumF 0 ([lkA q]),hp:=([])} o:=
 Scr.ok h mix (
 .rn 0 [] [] [] [] (al (u2 t2)) <|
 .gu fun a0=>
 .gu fun a1=>
 .gu fun a2=>
 .lq [] [] [] [] [(2003,1)] [0,1,3,2,4] [1,2,3,4] (up [] [(2,[AV.agg [AV.sl 3 0 (List.map (iv) q.ow).length,AV.sl 4 0 0]])] (c19St q (.l0 ((0:Int)) ([])))) (aj (aj (u2 (u2 (aj (ak (aj a0 (aj a1 a2))) (u2 (ak (al (k2 n11))))))) s2) (ak (k5 (aj (al t3) t3)))) (by simp[up,upF,upV,upH,upB,c19St,gL,boL,lI])) (by kernel_rfl)
theorem c19S0_ok(q:LokD)(v0:Int)(v1:List (List Int))(o:c19Pc⊕Ret)(h:c19S0 q v0 v1=some o):Arr Try.prog Try.f50 0 (c19St q) c19Hd (headC Try.f50 0) (.rnd (headC Try.f50 0)::headK Try.f50 0) (c19St q (.l0 v0 v1)) o:=
 Scr.ok h mix (
 .rn 0 [] [] [] [] (al (u2 (u2 (u2 (u2 (al t3)))))) <|
 .br (fun a0=>
 .gu fun a1=>
 .el fun x21 a2=>
 .gu fun a3=>
 .gu fun a4=>
 .gu fun a5=>
 .gu fun a6=>
 .gu fun a7=>
 .lq [27] [(21,lI x21),(23,AV.lst [])] [] [] [] [0,1,2,3,6] [1,2,3,4] (up [] [(2,[AV.agg [AV.sl 3 0 q.ow.length,AV.sl 4 0 ((List.map lI v1).length+[AV.lst (List.map (iv) x21)].length)]]),(4,List.map lI v1++[AV.lst (List.map (iv) x21)])] (c19St q (.l0 (IntKind.i64.wrap (v0+1)) (v1++[x21])))) (aj (aj a0 (aj (u2 (u2 (u2 (u2 (u2 (aj (k2 (aj a1 (getMap (f:=lI) a2))) (u2 (aj (ak (aj (aj a3 (aj a4 a5)) (show(List.map (iv) x21).length=(List.map (iv) x21).length from rfl))) (u2 (aj (k2 (aj (show(List.map lI v1).length=v1.length by simp) (aj (aj (show nat_lit 1=nat_lit 1 from rfl) (show 1≤[AV.lst (List.map (iv) x21)].length by simp)) (aj a6 a7)))) (u2 (al t3)))))))))))) (al (u2 (u2 s2))))) (ak (k5 (aj (al t3) t3)))) (by simp[up,upF,upV,upH,upB,c19St,gL,boL,lI]))
 (fun a0=>
 .rt [26] [] [] [] [3,4] [] (aj (aj a0 (al (u2 (al (k2 n11))))) (aj t3 t3)))) (by kernel_rfl)
theorem c19_ct(q:LokD)(r:Ret)(h:MReach (c19Step q) (c19En q) r):CT Try.prog 50 ([]) ([lkA q]) r.1 r.2:=
 CT.mach (fn:=Try.f50) (c:=zB Try.f50) (S:=c19St q) (hd:=c19Hd) Try.func50 (by kernel_rfl) (Nat.le_of_ble_eq_true rfl)
  (fun s o ho=>match s,ho with
   | .l0 v0 v1,ho=>c19S0_ok q v0 v1 o ho
  )
  (fun o ho=>c19En_ok q o ho) h
def wo(l:List Int)(x:Int):List Int:=l.filter (fun y=>y != x)
theorem wo_succ{l:List Int}{x:Int}{i:Nat}(h:i<l.length):wo (l.take (i+1)) x=wo (l.take i) x++(if (l.getD i 0 != x)=true then [l.getD i 0] else []):=by
 unfold wo
 rw[List.take_add_one,getE 0 h,List.filter_append]
 congr 1
 show List.filter _ [l.getD i 0]=_
 rw[List.filter_cons];rfl
theorem wo_len(l:List Int)(x:Int):(wo l x).length≤l.length:=List.length_filter_le _ _
theorem rcp_c(cl:List Bool)(bw pe:List Int)(w:Int)(h1:cl.length≤1000000)(h2:bw.length≤1000000)(h3:pe.length≤1000000):
  CT Try.prog 106 [] [sgA ⟨cl,bw,pe⟩,.int .i64 w] [some (Blk.mk (boL cl) 1 true true none),some (Blk.mk (bw.map (AV.int .i64)) 1 true true none),some (Blk.mk ((wo pe w).map (AV.int .i64)) 1 true true none)] (.agg [.sl 0 0 (boL cl).length,.sl 1 0 bw.length,.sl 2 0 (wo pe w).length]):=by
 refine rcp_ct ⟨cl,bw,pe⟩ w ([_,_,_],_) ?_
 have hL:=boL_len cl
 unfold rcpEn
 rw[gu_t (boL_one _),gu_t (by rw[hL];show cl.length≤_;omega),gu_t (by rw[hL];show cl.length * 1≤_;omega),gu_t (lI_one _),gu_t (by rw[List.length_map];show bw.length≤_;omega),gu_t (by rw[List.length_map];show bw.length * 8≤_;omega)]
 refine loop_up (fun i=>rcpPc.l0 (i:Int) (wo (pe.take i) w)) pe.length (fun i hi h=>?_) ?_
 ·refine .to (show rcpS0 ⟨cl,bw,pe⟩ w i _=_ from ?_) h
  have hw:=wo_len (pe.take i) w
  rw[List.length_take] at hw
  unfold rcpS0
  simp only
  rw[rngG 0 hi,wo_succ hi]
  cases hx:pe.getD i 0 != w with
  | false=>rw[br_f rfl,if_neg (by simp),List.append_nil,zW i (by omega)]
  | true=>rw[br_t rfl,elG 0 hi,gu_t (by simp only[List.length_map,List.length_cons,List.length_nil];omega),gu_t (by simp only[List.length_map,List.length_cons,List.length_nil];omega),if_pos rfl,zW i (by omega)]
 ·refine .to (show rcpS0 ⟨cl,bw,pe⟩ w pe.length _=_ from ?_) (.ret _)
  unfold rcpS0
  simp only
  rw[rngE,List.take_length]
theorem clb_c(l:List Bool)(hl:l.length≤1000000):CT Try.prog 55 [] [.lst (boL l)] [some (Blk.mk (boL l) 1 true true none)] (.sl 0 0 (boL l).length):=by
 have hL:=boL_len l
 by_cases h:l=[]
 ·subst h;exact cl55_e
 refine clb_ct l ([_],_) (.val ?_)
 unfold clbEn
 rw[gu_t (fun e=>h (by unfold boL at e;exact List.map_eq_nil_iff.1 e)),gu_t (boL_one _),gu_t (by omega),gu_t (by omega),List.nil_append,Nat.zero_add]
theorem cli_c(l:List Int)(hl:l.length≤1000000):CT Try.prog 97 [] [lI l] [some (Blk.mk (l.map (AV.int .i64)) 1 true true none)] (.sl 0 0 l.length):=by
 by_cases h:l=[]
 ·subst h;exact cl97_e
 refine cli_ct l ([_],_) (.val ?_)
 unfold cliEn
 rw[gu_t (fun e=>h (List.map_eq_nil_iff.1 e)),gu_t (lI_one _),gu_t (by rw[List.length_map];omega),gu_t (by rw[List.length_map];omega),List.nil_append,Nat.zero_add,List.length_map]
theorem sva_c{n:NetD}(cl:List Bool)(bw pe:List Int)(hrw:Rows n.nx):CT Try.prog 25 [] [netA n,sgA ⟨cl,bw,pe⟩] [] (.bool (sigB n ⟨cl,bw,pe⟩)):=by
 generalize hs:(⟨cl,bw,pe⟩:SigD)=s
 refine sva_ct n s ([],_) ?_
 unfold svaEn sigB cntE cntZ
 rw[gu_t hrw]
 cases hv:valB n with
 | false=>exact .ret _
 | true=>
 have hv:=valB_iff.1 hv
 obtain⟨h48,hnb⟩:=celN_le hv
 unfold sigF
 rw[if_pos rfl,if_pos rfl,br_f (by rfl),boL_len,List.length_map,List.length_map,List.length_map,Bool.true_and]
 by_cases h1:s.cl.length=celN n
 case neg=>rw[br_t (bne_iff_ne.2 (by simp only[iN];omega)),dec_f h1];exact .ret _
 rw[br_f (by rw[h1];simp),dec_t h1,Bool.true_and]
 by_cases h2:s.bw.length=celN n
 case neg=>rw[br_t (bne_iff_ne.2 (by simp only[iN];omega)),dec_f h2];exact .ret _
 rw[br_f (by rw[h2];simp),dec_t h2,Bool.true_and]
 by_cases h3:n.bs.length<s.pe.length
 ·rw[br_t (dec_t (by simp only[iN];omega))]
  have:(fnd (bdP n.bs.length s) 0 s.pe.length).isNone=false:=by
   cases hf:fnd (bdP n.bs.length s) 0 s.pe.length with
   | some i=>rfl
   | none=>
    have:=pe_bd (nb:=n.bs.length) (s:=s) (Nat.le_refl _) fun j hj=>fnd_none hf j (Nat.zero_le _) (by omega)
    omega
  rw[this,Bool.and_false];exact .ret _
 rw[br_f (dec_f (by simp only[iN];omega))]
 refine(loop_fst (fun i=>svaPc.l0 (i:Int)) s.bw.length (bdW s) (rF:=fun _=>(([],.bool false):Ret)) (r:=([],.bool (fnd (bdP n.bs.length s) 0 s.pe.length).isNone)) (fun i hi _ hp=>?_) (fun i x hi _ hp hx=>?_) (fun _=>?_)).res (by cases fnd (bdW s) 0 s.bw.length<;>rfl)
 ·refine .to (show svaS0 n s i=_ from ?_) (.ret _)
  unfold svaS0
  unfold bdW at hp
  rw[rngG 0 hi]
  cases hd1:decide (s.bw.getD i 0 < -1) with
  | true=>rw[br_t rfl]
  | false=>
   rw[hd1,Bool.false_or] at hp
   rw[br_f rfl]
   cases hd2:decide (8≤s.bw.getD i 0) with
   | true=>rw[br_t rfl]
   | false=>
    rw[hd2,Bool.false_or,Bool.and_eq_true] at hp
    rw[br_f rfl,br_t hp.1,elG true (show i<s.cl.length by omega),br_t hp.2]
 ·refine .to (show svaS0 n s i=_ from ?_) hx
  unfold svaS0
  unfold bdW at hp
  simp only[Bool.or_eq_false_iff] at hp
  rw[rngG 0 hi,br_f hp.1,br_f hp.2.1,zW i (by omega)]
  cases h0:decide (0≤s.bw.getD i 0) with
  | false=>rw[br_f rfl]
  | true=>
   have hq:=hp.2.2
   rw[h0,Bool.true_and] at hq
   rw[br_t rfl,elG true (show i<s.cl.length by omega),br_f hq]
 ·refine .to (show svaS0 n s s.bw.length=_ from ?_) ?_ (y:=some (.inl (.l1 ((0:Nat):Int))))
  ·unfold svaS0;rw[rngE];rfl
  refine(loop_fst (fun i=>svaPc.l1 (i:Int)) s.pe.length (bdP n.bs.length s) (rF:=fun _=>(([],.bool false):Ret)) (r:=([],.bool true)) (fun i hi hj hp=>?_) (fun i x hi hj hp hx=>?_) (fun _=>?_)).res (by cases fnd (bdP n.bs.length s) 0 s.pe.length<;>rfl)
  ·refine .to (show svaS1 n s i=_ from ?_) (.ret _)
   unfold svaS1
   unfold bdP at hp
   rw[rngG 0 hi]
   by_cases hd1:s.pe.getD i 0<0
   ·rw[br_t (dec_t hd1)]
   rw[dec_f hd1,Bool.false_or] at hp
   rw[br_f (dec_f hd1)]
   by_cases hd2:(n.bs.length:Int)≤s.pe.getD i 0
   ·rw[br_t (dec_t (by rw[List.length_map];exact hd2))]
   rw[dec_f hd2,Bool.false_or] at hp
   rw[br_f (dec_f (by rw[List.length_map];exact hd2)),gu_t (by omega),el_t (getE true (show(s.pe.getD i 0).toNat<s.cl.length by omega))]
   cases hd3:s.cl.getD (s.pe.getD i 0).toNat true with
   | true=>rw[br_t rfl]
   | false=>
    rw[hd3,Bool.false_or] at hp
    rw[br_f rfl,gu_t (lI_one _),gu_t (by simp only[iN,List.length_map];omega),take0,gu_t (by rw[List.length_take];omega),br_t hp]
  ·refine .to (show svaS1 n s i=_ from ?_) hx
   unfold svaS1
   unfold bdP at hp
   simp only[Bool.or_eq_false_iff,decide_eq_false_iff_not] at hp
   rw[rngG 0 hi,br_f (dec_f hp.1),br_f (dec_f (by rw[List.length_map];exact hp.2.1)),gu_t (by omega),el_t (getE true (show(s.pe.getD i 0).toNat<s.cl.length by omega)),br_f hp.2.2.1,gu_t (lI_one _),gu_t (by simp only[iN,List.length_map];omega),take0,gu_t (by rw[List.length_take];omega),br_f hp.2.2.2,zW i (by omega)]
  ·refine .to (show svaS1 n s s.pe.length=_ from ?_) (.ret _)
   unfold svaS1;rw[rngE]
theorem r20v_c{n:NetD}(cl:List Bool)(bw pe:List Int)(hrw:Rows n.nx):CT Try.prog 75 [] [netA n,sgA ⟨cl,bw,pe⟩] [] (.bool (sigB n ⟨cl,bw,pe⟩)):=by
 refine r20v_ct n ⟨cl,bw,pe⟩ ([],_) (.val ?_)
 unfold r20vEn sigB
 rw[gu_t hrw]
 cases hv:valB n with
 | false=>rfl
 | true=>rw[br_t rfl,gu_t (valB_iff.1 hv)];rfl
def nsO(n:NetD):SigD:=⟨List.replicate (celN n) false,List.replicate (celN n) (-1),[]⟩
def nsE(n:NetD):Int:=if valB n=true then 0 else 20
def nsS(n:NetD):SigD:=if valB n=true then nsO n else ⟨[],[],[]⟩
theorem rep_bo(k:Nat):List.replicate k (AV.bool false)=boL (List.replicate k false):=by unfold boL;rw[List.map_replicate]
theorem n14_c{n:NetD}(hrw:Rows n.nx):CT Try.prog 14 [] [netA n] [] (.tup [sgA (nsS n),.int .i64 (nsE n)]):=by
 have h:=n14_ct n
 unfold n14En cntE cntZ at h
 unfold nsS nsE
 cases hv:valB n with
 | false=>rw[hv] at h;exact CT.w2 (h ([],_) (.val (by rw[gu_t hrw];rfl)))
 | true=>
  have h48:=celN_le (valB_iff.1 hv)
  rw[hv] at h
  have k:=CT.w2 (h ([],.tup [.agg [.lst (List.replicate (celN n) (AV.bool false)),.lst (List.map (AV.int .i64) (List.replicate (celN n) (-1))),.nils],.int .i64 0]) (.val (by
   rw[gu_t hrw,if_pos rfl,if_pos rfl,br_f (by rfl),gu_t (by omega),gu_t (by omega),gu_t (by omega),gu_t (by omega)]
   rw[gu_t (fun blk hb=>by
    rw[List.mem_singleton.1 hb]
    intro e he c hc
    obtain⟨x,_,rfl⟩:=List.mem_map.1 he
    rw[List.mem_singleton.1 hc];rfl)]
   rfl)))
  rw[rep_bo] at k
  exact k
theorem rpV_set{c i:Nat}(h:i<c):(rpV c i).set (0+i) (-1)=rpV c (i+1):=by
 obtain⟨d,hd⟩:∃d,c-i=d+1:=⟨c-i-1,by omega⟩
 have hd2:c-(i+1)=d:=by omega
 unfold rpV
 rw[hd,hd2,Nat.zero_add,List.replicate_succ,List.set_append_right _ _ (by simp)]
 simp only[List.length_replicate,Nat.sub_self,List.set_cons_zero]
 rw[List.replicate_succ',List.append_assoc];rfl
theorem rpV_0(c:Nat):rpV c 0=List.replicate c 0:=by unfold rpV;simp
theorem rpV_c(c:Nat):rpV c c=List.replicate c (-1):=by unfold rpV;simp
theorem r20n_c{n:NetD}(hrw:Rows n.nx):CT Try.prog 31 [] [netA n] [] (.tup [sgA (nsS n),.int .i64 (nsE n)]):=by
 have h:=r20n_ct n
 unfold r20nEn at h
 unfold nsS nsE
 cases hv:valB n with
 | false=>rw[hv] at h;exact CT.w2 (h ([],_) (.val (by rw[gu_t hrw];rfl)))
 | true=>
  have hvn:=valB_iff.1 hv
  have h48:=celN_le hvn
  rw[hv] at h
  have k:=CT.w2 (h ([],.tup [.agg [.lst (List.replicate (celN n) (AV.bool false)),.lst (List.map (AV.int .i64) (List.replicate (celN n) (-1))),.nils],.int .i64 0]) (by
   rw[gu_t hrw,br_f (by rfl),gu_t hvn,gu_t (by simp only[iN];omega),gu_t (by simp only[iN];omega),gu_t (by simp only[iN];omega)]
   rw[show (List.replicate (iN (celN n)).toNat (0:Int))=rpV (celN n) 0 from(rpV_0 _).symm]
   refine loop_up (fun i=>r20nPc.l0 (i:Int) (rpV (celN n) i)) (celN n) (fun i hi hx=>?_) ?_
   ·refine .to (show r20nS0 n i (rpV (celN n) i)=_ from ?_) hx
    unfold r20nS0
    rw[br_t (dec_t (by simp only[iN,rpV_len (Nat.le_of_lt hi)];omega)),gu_t (by omega),gu_t (by simp only[iN,rpV_len (Nat.le_of_lt hi)];omega),gu_t (show Nat.le _ _ from(by rw[List.length_map,rpV_len (Nat.le_of_lt hi)];show 0+(i:Int).toNat+1≤_;omega)),Int.toNat_natCast,rpV_set hi,zW i (by omega)]
   ·refine .to (show r20nS0 n (celN n:Nat) (rpV (celN n) (celN n))=_ from ?_) (.ret _)
    unfold r20nS0
    rw[br_f (dec_f (by simp only[iN,rpV_len (Nat.le_refl _)];omega)),rpV_c];rfl))
  rw[rep_bo] at k
  exact k
theorem RT.lwk{A:Nat→Prop}{w:World}{es:List AV}{v:Value}(h:RT A w (.lst es) v):RT A w (.lst (es.map wkq)) v:=by
 cases h with
 | lnil a=>exact .lnil a
 | lst _ r o cap z g hcap hA hz h1 hc hh=>
  have hl:(es.map wkq).length=es.length:=List.length_map ..
  have hcl:∀e:AV,(wkq e).cells.length=e.cells.length:=fun e=>by cases e<;>rfl
  have key:∀{e c:AV},c∈(wkq e).cells→∃c',c'∈e.cells∧(c=c'∨(c' = .nils∧c = .lst [])):=fun {e c} hc=>by
   cases e with
   | nils=>exact⟨.nils,List.mem_singleton.2 rfl,.inr ⟨rfl,List.mem_singleton.1 hc⟩⟩
   | _=>exact⟨c,hc,.inl rfl⟩
  rw[←hl]
  refine .lst _ r o cap z g (by rw[hl];exact hcap) (fun hn=>hA fun e=>hn (by rw[e];rfl)) (fun e he=>?_) (fun e he c hcm=>?_) (fun i j hi hj=>hc i j (by rw[←hl];exact hi) hj) fun i j e c he hj=>?_
  ·obtain⟨e0,he0,rfl⟩:=List.mem_map.1 he
   rw[hcl];exact hz e0 he0
  ·obtain⟨e0,he0,rfl⟩:=List.mem_map.1 he
   obtain⟨c',hc',h | ⟨_,h⟩⟩:=key hcm
   ·rw[h];exact h1 e0 he0 c' hc'
   ·rw[h];rfl
  ·rw[List.getElem?_map] at he
   obtain⟨e0,he0,rfl⟩:=Option.map_eq_some_iff.1 he
   by_cases hn:e0 = .nils
   ·subst hn
    match j,hj with
    | 0,hj=>
     cases hj
     have:=hh i 0 .nils .nils he0 rfl
     have e:g i 0 = .slice none 0 0:=by {generalize g i 0=x at this;cases this;rfl}
     rw[e];exact .lnil none
   ·have e:wkq e0=e0:=by cases e0<;>first | rfl | exact absurd rfl hn
    rw[e] at hj
    exact hh i j e0 c he0 hj
theorem VR.lwk{φ:Phi}{A:Nat→Prop}{w:World}{a b:AV}{es:List AV}{v:Value}(h:VR φ A w (.tup [.agg [a,.lst es],b]) v):VR φ A w (.tup [.agg [a,.lst (es.map wkq)],b]) v:=by
 obtain⟨us,rfl,hl,hh⟩:=h.tup_inv
 refine .tup _ us (by simpa using hl) fun i c u hc hu=>?_
 match i,hc with
 | 0,hc=>
  cases hc
  obtain⟨vs,rfl,hl2,h2⟩:=(hh 0 _ u rfl hu).agg_inv
  refine .agg _ vs (by simpa using hl2) fun j d x hd hx=>?_
  match j,hd with
  | 0,hd=>cases hd;exact h2 0 _ x rfl hx
  | 1,hd=>
   cases hd
   have:=h2 1 _ x rfl hx
   cases this with
   | imm _ _ h=>exact .imm _ _ (RT.lwk h)
  | j+2,hd=>simp at hd
 | 1,hc=>cases hc;exact hh 1 _ u rfl hu
 | i+2,hc=>simp at hc
def nlS(q:Int):LokD:=if 0≤q∧q≤48 then ⟨List.replicate q.toNat (-1),List.replicate q.toNat []⟩ else ⟨[],[]⟩
def nlE(q:Int):Int:=if 0≤q∧q≤48 then 0 else 19
theorem n19_c(q:Int):CT Try.prog 17 [] [.int .i64 q] [] (.tup [lkA (nlS q),.int .i64 (nlE q)]):=by
 have h:=n19_ct q
 unfold n19En at h
 unfold nlS nlE
 by_cases h0:q<0
 ·rw[if_neg (by omega),if_neg (by omega)]
  exact CT.w2 (h ([],_) (.val (by rw[br_t (dec_t h0)])))
 by_cases h1:48<q
 ·rw[if_neg (by omega),if_neg (by omega)]
  exact CT.w2 (h ([],_) (.val (by rw[br_f (dec_f h0),br_t (dec_t h1)])))
 rw[if_pos (by omega),if_pos (by omega)]
 obtain⟨c,rfl⟩:∃c:Nat,q=(c:Int):=⟨q.toNat,by omega⟩
 have k:=(h ([],.tup [.agg [.lst (List.map (AV.int .i64) (List.replicate c (-1))),.lst (List.replicate c .nils)],.int .i64 0]) (by
  rw[br_f (dec_f h0),br_f (dec_f h1),gu_t (by omega),gu_t (by omega),gu_t (by omega),gu_t (by omega),Int.toNat_natCast,←rpV_0]
  refine loop_up (fun i=>n19Pc.l0 (i:Int) (rpV c i)) c (fun i hi hx=>?_) ?_
  ·refine .to (show n19S0 (c:Int) i (rpV c i)=_ from ?_) hx
   unfold n19S0
   rw[br_t (dec_t (by omega)),gu_t (by omega),gu_t (by simp only[iN,rpV_len (Nat.le_of_lt hi)];omega),gu_t (show Nat.le _ _ from(by rw[List.length_map,rpV_len (Nat.le_of_lt hi)];show 0+(i:Int).toNat+1≤_;omega)),Int.toNat_natCast,rpV_set hi,zW i (by omega)]
  ·refine .to (show n19S0 (c:Int) (c:Nat) (rpV c c)=_ from ?_) (.ret _)
   unfold n19S0
   rw[br_f (dec_f (by omega)),rpV_c,Int.toNat_natCast])).less fun _ _ _ _ h=>VR.lwk h
 have e:List.map wkq (List.replicate c AV.nils)=gL (List.replicate c []):=by unfold gL;rw[List.map_replicate,List.map_replicate];rfl
 rw[e] at k
 exact k
theorem gL_take{g:List (List Int)}{i:Nat}(h:i<g.length):g.take (i+1)=g.take i++[g.getD i []]:=by
 rw[List.take_add_one,getE [] h];rfl
theorem c19_c(ow:List Int)(qu:List (List Int))(h1:ow.length≤1000)(h2:qu.length≤1000)(h3:∀r∈qu,r.length≤1000):
  CT Try.prog 50 [] [lkA ⟨ow,qu⟩] [some (Blk.mk (ow.map (AV.int .i64)) 1 true true none),some (Blk.mk (gL qu) 1 true true none)] (.agg [.sl 0 0 ow.length,.sl 1 0 qu.length]):=by
 refine c19_ct ⟨ow,qu⟩ ([_,_],_) ?_
 unfold c19En
 rw[gu_t (lI_one _),gu_t (by rw[List.length_map];show ow.length≤_;omega),gu_t (by rw[List.length_map];show ow.length * 8≤_;omega)]
 refine loop_up (fun i=>c19Pc.l0 (i:Int) (qu.take i)) qu.length (fun i hi hx=>?_) ?_
 ·refine .to (show c19S0 ⟨ow,qu⟩ i (qu.take i)=_ from ?_) hx
  have hr:=h3 (qu.getD i []) (by rw[List.getD_eq_getElem?_getD,List.getElem?_eq_getElem hi];exact List.getElem_mem _)
  unfold c19S0
  simp only
  rw[show (gL qu).length=(List.map lI qu).length from rfl,rngG [] hi,gu_t (lI_one _),gu_t (by rw[List.length_map];omega),gu_t (by rw[List.length_map];omega),gu_t (by simp only[List.length_map,List.length_take,List.length_cons,List.length_nil];omega),gu_t (by simp only[List.length_map,List.length_take,List.length_cons,List.length_nil];omega),gL_take hi,zW i (by omega)]
 ·refine .to (show c19S0 ⟨ow,qu⟩ qu.length (qu.take qu.length)=_ from ?_) (.ret _)
  unfold c19S0
  simp only
  rw[show (gL qu).length=(List.map lI qu).length from rfl,rngE,List.take_length];rfl
structure Dl(l:List Int)(w:Int)(v:List Int)(i j:Nat):Prop where
 len:v.length=l.length
 ij:i≤j
 jl:j≤l.length
 kep:v.take i=wo (l.take j) w
 rst:v.drop j=l.drop j
theorem wo_none{l:List Int}{w:Int}(h:w∉l):wo l w=l:=by
 unfold wo
 exact List.filter_eq_self.2 fun x hx=>bne_iff_ne.2 fun e=>h (e ▸ hx)
theorem drop_get{v l:List Int}{j:Nat}(h:v.drop j=l.drop j):v.getD j 0=l.getD j 0∧v.drop (j+1)=l.drop (j+1):=by
 constructor
 ·have:=congrArg (fun x=>x.getD 0 0) h
  simpa [List.getD_eq_getElem?_getD,List.getElem?_drop] using this
 ·have:=congrArg (List.drop 1) h
  rwa [List.drop_drop,List.drop_drop] at this
theorem Dl.skip{l:List Int}{w:Int}{v:List Int}{i j:Nat}(h:Dl l w v i j)(hj:j<l.length)(he:l.getD j 0=w):Dl l w v i (j+1):=by
 refine⟨h.len,Nat.le_succ_of_le h.ij,hj,?_,(drop_get h.rst).2⟩
 rw[wo_succ hj,if_neg (by rw[he];simp),List.append_nil];exact h.kep
theorem Dl.keep{l:List Int}{w:Int}{v:List Int}{i j:Nat}(h:Dl l w v i j)(hj:j<l.length)(he:l.getD j 0≠w):Dl l w (v.set (0+i) (l.getD j 0)) (i+1) (j+1):=by
 have hij:=h.ij
 have hl:=h.len
 refine⟨by rw[List.length_set];exact hl,by omega,hj,?_,?_⟩
 ·rw[wo_succ hj,if_pos (bne_iff_ne.2 he),←h.kep,Nat.zero_add,List.take_add_one,List.take_set_of_le (Nat.le_refl _),List.getElem?_set,if_pos rfl,if_pos (by omega)];rfl
 ·rw[Nat.zero_add,List.drop_set,if_pos (by omega)];exact(drop_get h.rst).2
theorem getS{α:Type}{l:List α}{i j:Nat}{v d:α}:(l.set i v).getD j d=if i=j∧j<l.length then v else l.getD j d:=by
 rw[List.getD_eq_getElem?_getD,List.getElem?_set,List.getD_eq_getElem?_getD]
 by_cases h:i=j
 ·subst h
  by_cases hl:i<l.length
  ·rw[if_pos rfl,if_pos hl,if_pos ⟨rfl,hl⟩];rfl
  ·rw[if_pos rfl,if_neg hl,if_neg (fun e=>hl e.2),List.getElem?_eq_none (by omega)]
 ·rw[if_neg h,if_neg (fun e=>h e.1)]
theorem getS_eq{α:Type}{l:List α}{i:Nat}{v d:α}(h:i<l.length):(l.set i v).getD i d=v:=by rw[getS,if_pos ⟨rfl,h⟩]
theorem getR{α:Type}{n i:Nat}{v d:α}(h:i<n):(List.replicate n v).getD i d=v:=by
 rw[List.getD_eq_getElem?_getD,List.getElem?_replicate,if_pos h];rfl
def newS(n:NetD):SigD:=⟨List.replicate (celN n) false,List.replicate (celN n) (-1),[]⟩
def anS(s:SigD)(x:Int):SigD:=⟨s.cl,s.bw,s.pe++[x]⟩
def clS(s:SigD)(c r:Int):SigD:=⟨s.cl.set c.toNat true,if s.cl.getD c.toNat true=true then s.bw else s.bw.set c.toNat r,wo s.pe c⟩
def opS(s:SigD)(c:Int):SigD:=⟨s.cl.set c.toNat false,s.bw.set c.toNat (-1),wo s.pe c⟩
theorem wo_mem{l:List Int}{x y:Int}:y∈wo l x↔y∈l∧y≠x:=by unfold wo;rw[List.mem_filter,bne_iff_ne]
theorem newS_ok(n:NetD):SigOk n (newS n):=by
 refine⟨List.length_replicate ..,List.length_replicate ..,fun i hi=>?_,fun b hb=>(by cases hb),List.Pairwise.nil⟩
 have hi:i<celN n:=by have:(newS n).bw.length=celN n:=List.length_replicate ..;omega
 show -1≤(List.replicate (celN n) (-1:Int)).getD i 0∧_
 rw[show (newS n).bw=List.replicate (celN n) (-1:Int) from rfl,getR hi];omega
theorem anS_ok{n:NetD}{s:SigD}{x:Int}(h:SigOk n s)(hx:0≤x∧x<(n.bs.length:Int))(hc:s.cl.getD x.toNat true=false)(hp:x∉s.pe):SigOk n (anS s x):=by
 refine⟨h.lc,h.lb,h.bw,fun b hb=>?_,nodup_snoc h.nd hp⟩
 rcases List.mem_append.1 hb with hb | hb
 ·exact h.pb b hb
 ·rw[List.mem_singleton.1 hb];exact⟨hx.1,hx.2,hc⟩
theorem wo_nd{l:List Int}(x:Int)(h:l.Nodup):(wo l x).Nodup:=h.sublist List.filter_sublist
theorem clS_ok{n:NetD}{s:SigD}{c r:Int}(h:SigOk n s)(hc:0≤c∧c<(celN n:Int))(hr : -1≤r∧r<8):SigOk n (clS s c r):=by
 have lc:=h.lc
 have lb:=h.lb
 refine⟨by show(s.cl.set _ _).length=_;rw[List.length_set,lc],by show(if _ then s.bw else s.bw.set _ _).length=_;split<;>simp[lb],fun i hi=>?_,fun b hb=>?_,wo_nd c h.nd⟩
 ·show -1≤(if _ then s.bw else s.bw.set _ _).getD i 0∧(if _ then s.bw else s.bw.set _ _).getD i 0<8∧(0≤(if _ then s.bw else s.bw.set _ _).getD i 0→(s.cl.set c.toNat true).getD i true=true)
  have hi:i<s.bw.length:=by have:(clS s c r).bw.length=s.bw.length:=(by show(if _ then s.bw else s.bw.set _ _).length=_;split<;>simp);omega
  have hb:=h.bw i hi
  have e:(s.cl.set c.toNat true).getD i true=if c.toNat=i∧i<s.cl.length then true else s.cl.getD i true:=getS
  rw[e]
  split
  ·refine⟨hb.1,hb.2.1,fun h0=>?_⟩
   split
   ·rfl
   ·exact hb.2.2 h0
  ·rw[getS]
   split
   ·rename_i h1
    exact⟨hr.1,hr.2,fun _=>by rw[if_pos ⟨h1.1,by omega⟩]⟩
   ·refine⟨hb.1,hb.2.1,fun h0=>?_⟩
    split
    ·rfl
    ·exact hb.2.2 h0
 ·obtain⟨h1,h2⟩:=wo_mem.1 hb
  have:=h.pb b h1
  refine⟨this.1,this.2.1,?_⟩
  show(s.cl.set c.toNat true).getD b.toNat true=false
  rw[getS,if_neg (by omega)];exact this.2.2
theorem opS_ok{n:NetD}{s:SigD}{c:Int}(h:SigOk n s)(hc:0≤c∧c<(celN n:Int)):SigOk n (opS s c):=by
 have lc:=h.lc
 have lb:=h.lb
 refine⟨by show(s.cl.set _ _).length=_;rw[List.length_set,lc],by show(s.bw.set _ _).length=_;rw[List.length_set,lb],fun i hi=>?_,fun b hb=>?_,wo_nd c h.nd⟩
 ·show -1≤(s.bw.set _ _).getD i 0∧(s.bw.set _ _).getD i 0<8∧(0≤(s.bw.set _ _).getD i 0→(s.cl.set c.toNat false).getD i true=true)
  have hi:i<s.bw.length:=by have:(opS s c).bw.length=s.bw.length:=List.length_set ..;omega
  have hb:=h.bw i hi
  rw[getS,getS]
  split
  ·exact⟨by omega,by omega,fun h=>by omega⟩
  ·rename_i h1
   refine⟨hb.1,hb.2.1,fun h0=>?_⟩
   rw[if_neg (by omega)];exact hb.2.2 h0
 ·obtain⟨h1,h2⟩:=wo_mem.1 hb
  have:=h.pb b h1
  refine⟨this.1,this.2.1,?_⟩
  show(s.cl.set c.toNat false).getD b.toNat true=false
  rw[getS,if_neg (by omega)];exact this.2.2
def clnSt(l:List Bool)(q w:List Int):Empty→St
 | x=>x.elim
def clnHd:Empty→Nat
 | x=>x.elim
def clnEn(l:List Bool)(q w:List Int):Option (Empty⊕Ret):=
 gu (l.length≤1000000) <|
 gu (q.length≤1000000) <|
 gu (w.length≤1000000) <|
 some (.inr ([some (Blk.mk (boL l) 1 true true none),some (Blk.mk (List.map (AV.int IntKind.i64) q) 1 true true none),some (Blk.mk (List.map (AV.int IntKind.i64) w) 1 true true none)],AV.agg [AV.sl 0 0 (boL l).length,AV.sl 1 0 q.length,AV.sl 2 0 w.length]))
def clnStep(l:List Bool)(q w:List Int):Empty→Option (Empty⊕Ret)
 | x=>x.elim
theorem clnEn_ok(l:List Bool)(q w:List Int)(o:Empty⊕Ret)(h:clnEn l q w=some o):Arr Try.prog Try.f48 0 (clnSt l q w) clnHd (zB Try.f48) [] {n:=Try.f48.ntmps,fr:=enumF 0 ([sgA ⟨l,q,w⟩]),hp:=([])} o:=
 Scr.ok h mix (
 .rn 0 [] [] [] [] (al (u2 t2)) <|
 .gu fun a0=>
 .gu fun a1=>
 .gu fun a2=>
 have c0:=clb_c l a0;
 have c1:=cli_c q a1;
 have c2:=cli_c w a2;
 .rt [] [] [(5,hK c0 [] []),(8,hK c1 [] []),(11,hK c2 [] [])] [] [2,3,4] [] (aj (al (u2 (u2 (aj (k2 (al (c0))) (u2 (u2 (aj (k2 (al (c1))) (u2 (u2 (aj (k2 (al (c2))) (aj t4 (al (k2 n11))))))))))))) (aj t4 t4))) (by kernel_rfl)
theorem cln_ct(l:List Bool)(q w:List Int)(r:Ret)(h:MReach (clnStep l q w) (clnEn l q w) r):CT Try.prog 48 ([]) ([sgA ⟨l,q,w⟩]) r.1 r.2:=
 CT.mach (fn:=Try.f48) (c:=zB Try.f48) (S:=clnSt l q w) (hd:=clnHd) Try.func48 (by kernel_rfl) (Nat.le_of_ble_eq_true rfl)
  (fun s o ho=>match s,ho with
   | x,_=>x.elim)
  (fun o ho=>clnEn_ok l q w o ho) h
def schSt(n:NetD)(q:SigD)(c:Int):Empty→St
 | x=>x.elim
def schHd:Empty→Nat
 | x=>x.elim
def schEn(n:NetD)(q:SigD)(c:Int):Option (Empty⊕Ret):=
 gu (Rows n.nx) <|
 br (!sigB n q)
 (some (.inr ([],AV.int IntKind.i64 20)))
 (br (decide (c<0))
  (some (.inr ([],AV.int IntKind.i64 19)))
  (br (decide (iN (boL q.cl).length≤c))
   (some (.inr ([],AV.int IntKind.i64 19)))
   (some (.inr ([],AV.int IntKind.i64 0)))))
def schStep(n:NetD)(q:SigD)(c:Int):Empty→Option (Empty⊕Ret)
 | x=>x.elim
theorem schEn_ok(n:NetD)(q:SigD)(c:Int)(o:Empty⊕Ret)(h:schEn n q c=some o):Arr Try.prog Try.f46 0 (schSt n q c) schHd (zB Try.f46) [] {n:=Try.f46.ntmps,fr:=enumF 0 ([netA n,sgA q,.int .i64 c]),hp:=([])} o:=
 Scr.ok h mix (
 .rn 0 [] [] [] [] (al (u2 (u2 t2))) <|
 .gu fun a0=>
 have c0:=sva_c (q.cl) (q.bw) (q.pe) a0;
 .rn 0 [] [] [(10,hK c0 [] [])] [] (al (u2 (u2 (aj (k2 (aj t9 (aj t4 (al (c0))))) (u2 s2))))) <|
 .br (fun a1=>
 .rt [15] [] [] [] [] [] (aj (aj a1 s2) t2))
 (fun a1=>
 .br (fun a2=>
  .rt [14,31] [] [] [] [] [] (aj (aj a1 (aj (u2 (u2 (u2 (aj a2 (aj a2 (aj a2 (aj a2 (aj a2 (ag a2 s2))))))))) (ak s2))) t2))
 (fun a2=>
  .rn 0 [14,30] [] [] [] (aj a1 (al (u2 (u2 (u2 (ag a2 (ag a2 (ag a2 (ag a2 (aj (aj a2 t3) (ag a2 s2))))))))))) <|
  .br (fun a3=>
  .rt [30,25] [] [] [] [] [] (aj (aj a3 s2) t2))
  (fun a3=>
  .rt [30,24] [] [] [] [] [] (aj (aj a3 s2) t2))))) (by kernel_rfl)
theorem sch_ct(n:NetD)(q:SigD)(c:Int)(r:Ret)(h:MReach (schStep n q c) (schEn n q c) r):CT Try.prog 46 ([]) ([netA n,sgA q,.int .i64 c]) r.1 r.2:=
 CT.mach (fn:=Try.f46) (c:=zB Try.f46) (S:=schSt n q c) (hd:=schHd) Try.func46 (by kernel_rfl) (Nat.le_of_ble_eq_true rfl)
  (fun s o ho=>match s,ho with
   | x,_=>x.elim)
  (fun o ho=>schEn_ok n q c o ho) h
inductive sshPc where
 | l0 (v0:Int) (v1:List Bool)
def sshSt(n:NetD)(q:SigD):sshPc→St
 | .l0 v0 v1=>St.mk 28 [(6,AV.sl 0 0 (boL q.cl).length),(17,AV.lst (List.map (iv) q.pe)),(18,iv (iN (List.map (iv) q.pe).length)),(19,iv v0)] [some (Blk.mk (List.map AV.bool v1) 1 true true none)]
def sshHd:sshPc→Nat
 | .l0 _ _=>0
def sshEn(n:NetD)(q:SigD):Option (sshPc⊕Ret):=
 gu (Rows n.nx) <|
 br (!sigB n q)
 (some (.inr ([],AV.tup [AV.nils,AV.int IntKind.i64 20])))
 (gu (q.cl.length≤1000000) <|
  some (.inl (.l0 ((0:Int)) (q.cl))))
def sshS0(n:NetD)(q:SigD)(v0:Int)(v1:List Bool):Option (sshPc⊕Ret):=
 br (decide (v0<iN (List.map (AV.int IntKind.i64) q.pe).length))
 (gu (0≤v0) <|
  el (q.pe) (v0.toNat) fun(x21:Int)=>
  gu (0≤x21) <|
  gu (x21<iN (boL q.cl).length) <|
  gu ((0+x21.toNat).succ.le (List.map AV.bool v1).length) <|
  some (.inl (.l0 (IntKind.i64.wrap (v0+1)) (v1.set (0+x21.toNat) true))))
 (gu ((boL q.cl).length=(List.map AV.bool v1).length) <|
  some (.inr ([],AV.tup [AV.lst (List.map AV.bool v1),AV.int IntKind.i64 0])))
def sshStep(n:NetD)(q:SigD):sshPc→Option (sshPc⊕Ret)
 | .l0 v0 v1=>sshS0 n q v0 v1
theorem sshEn_ok(n:NetD)(q:SigD)(o:sshPc⊕Ret)(h:sshEn n q=some o):Arr Try.prog Try.f24 0 (sshSt n q) sshHd (zB Try.f24) [] {n:=Try.f24.ntmps,fr:=enumF 0 ([netA n,sgA q]),hp:=([])} o:=
 Scr.ok h mix (
 .rn 0 [] [] [] [] (al (u2 (u2 t3))) <|
 .gu fun a0=>
 have c0:=sva_c (q.cl) (q.bw) (q.pe) a0;
 .rn 0 [] [] [(11,hK c0 [] [])] [] (al (u2 (u2 (aj (k2 (aj t9 (aj t4 (al (c0))))) s2)))) <|
 .br (fun a1=>
 .rt [25] [] [] [] [] [] (aj (aj a1 (al t3)) (al t3)))
 (fun a1=>
 .gu fun a2=>
 have c1:=clb_c (q.cl) a2;
 .lp [24] [] [(15,hK c1 [] [])] [] [] [2] [6,17,18,19] (aj (aj a1 (aj (u2 (u2 (aj (k2 (al (c1))) s2))) (al (u2 (u2 (u2 t2)))))) t6))) (by kernel_rfl)
theorem sshS0_ok(n:NetD)(q:SigD)(v0:Int)(v1:List Bool)(o:sshPc⊕Ret)(h:sshS0 n q v0 v1=some o):Arr Try.prog Try.f24 0 (sshSt n q) sshHd (headC Try.f24 0) (.rnd (headC Try.f24 0)::headK Try.f24 0) (sshSt n q (.l0 v0 v1)) o:=
 Scr.ok h mix (
 .rn 0 [] [] [] [] (al (al t3)) <|
 .br (fun a0=>
 .gu fun a1=>
 .el fun x21 a2=>
 .rn 0 [41] [(21,iv x21)] [] [] (aj a0 (al (aj (k2 (aj a1 (getMap (f:=iv) a2))) (u2 s2)))) <|
 .gu fun a3=>
 .gu fun a4=>
 .gu fun a5=>
 .lq [] [] [] [] [] [0] [6,17,18,19] (up [] [(0,(List.map AV.bool v1).set (0+x21.toNat) (AV.bool true))] (sshSt n q (.l0 (IntKind.i64.wrap (v0+1)) (v1.set (0+x21.toNat) true)))) (aj (aj (u2 (u2 (aj (k2 (aj a3 a4)) (al (ak a5))))) (al (u2 s2))) t6) (by simp[up,upF,upV,upH,upB,sshSt,gL,boL,lI,sA,bA]))
 (fun a0=>
 .rn 0 [40] [] [] [] (aj a0 (al (u2 (u2 t2)))) <|
 .gu fun a1=>
 .rt [] [] [] [] [] [0] (ak (al (aj a1 t2))))) (by kernel_rfl)
theorem ssh_ct(n:NetD)(q:SigD)(r:Ret)(h:MReach (sshStep n q) (sshEn n q) r):CT Try.prog 24 ([]) ([netA n,sgA q]) r.1 r.2:=
 CT.mach (fn:=Try.f24) (c:=zB Try.f24) (S:=sshSt n q) (hd:=sshHd) Try.func24 (by kernel_rfl) (Nat.le_of_ble_eq_true rfl)
  (fun s o ho=>match s,ho with
   | .l0 v0 v1,ho=>sshS0_ok n q v0 v1 o ho
  )
  (fun o ho=>sshEn_ok n q o ho) h
def rannSt(n:NetD)(q:SigD)(c:Int):Empty→St
 | x=>x.elim
def rannHd:Empty→Nat
 | x=>x.elim
def rannEn(n:NetD)(q:SigD)(c:Int):Option (Empty⊕Ret):=
 gu (Rows n.nx) <|
 br (!sigB n q)
 (some (.inr ([],AV.tup [AV.agg [AV.nils,AV.nils,AV.nils],AV.int IntKind.i64 20])))
 (br (decide (c<0))
  (some (.inr ([],AV.tup [AV.agg [AV.nils,AV.nils,AV.nils],AV.int IntKind.i64 19])))
  (br (decide (iN (List.map bA n.bs).length≤c))
   (some (.inr ([],AV.tup [AV.agg [AV.nils,AV.nils,AV.nils],AV.int IntKind.i64 19])))
   (gu (q.cl.length≤1000000) <|
    gu (q.pe.length≤1000000) <|
    gu (∀(b:Int),b∈q.pe→0≤b∧b<iN q.cl.length) <|
    gu (0≤c) <|
    el (shtS q) (c.toNat) fun(x26:Bool)=>
    br x26
    (some (.inr ([],AV.tup [AV.agg [AV.nils,AV.nils,AV.nils],AV.int IntKind.i64 24])))
    (gu (q.bw.length≤1000000) <|
     gu ((List.map (AV.int IntKind.i64) (wo q.pe (-1))).length+[AV.int IntKind.i64 c].length≤9223372036854775807) <|
     gu (((List.map (AV.int IntKind.i64) (wo q.pe (-1))).length+[AV.int IntKind.i64 c].length) * 8≤140737488355328) <|
     some (.inr ([],AV.tup [AV.agg [AV.lst (boL q.cl),AV.lst (List.map (AV.int IntKind.i64) q.bw),AV.lst (List.map (AV.int IntKind.i64) (wo q.pe (-1))++[AV.int IntKind.i64 c])],AV.int IntKind.i64 0]))))))
def rannStep(n:NetD)(q:SigD)(c:Int):Empty→Option (Empty⊕Ret)
 | x=>x.elim
theorem rannEn_ok(n:NetD)(q:SigD)(c:Int)(o:Empty⊕Ret)(h:rannEn n q c=some o):Arr Try.prog Try.f59 0 (rannSt n q c) rannHd (zB Try.f59) [] {n:=Try.f59.ntmps,fr:=enumF 0 ([netA n,sgA q,.int .i64 c]),hp:=([])} o:=
 Scr.ok h mix (
 .rn 0 [] [] [] [] (al (u2 (u2 t3))) <|
 .gu fun a0=>
 have c0:=r20v_c (q.cl) (q.bw) (q.pe) a0;
 .rn 0 [] [] [(10,hK c0 [] [])] [] (al (u2 (u2 (aj (k2 (aj t9 (aj t4 (al (c0))))) s2)))) <|
 .br (fun a1=>
 .rt [23] [] [] [] [] [] (aj (aj a1 (al (ak (aj (k2 n11) t2)))) (al (aj t4 t2))))
 (fun a1=>
 .br (fun a2=>
  .rt [22,31] [] [] [] [] [] (aj (aj a1 (aj (u2 (u2 (u2 (aj a2 (aj a2 (aj a2 (aj a2 (aj a2 (al (aj a2 t2)))))))))) (ak (al (ak (aj (k2 n11) t2)))))) (al (aj t4 t2))))
 (fun a2=>
  .rn 0 [22,30] [] [] [] (aj a1 (al (u2 (u2 (u2 (ag a2 (ag a2 (ag a2 (ag a2 (aj (aj a2 t3) (al (aj a2 t2)))))))))))) <|
  .br (fun a3=>
  .rt [30,43] [] [] [] [] [] (aj (aj a3 (al (ak (aj (k2 n11) t2)))) (al (aj t4 t2))))
  (fun a3=>
  .gu fun a4=>
  .gu fun a5=>
  .gu fun a6=>
  .gu fun a7=>
  .el fun x26 a8=>
  have c1:=cel_c q a4 a5 a6;
  .rn 0 [30,42] [(26,AV.bool x26)] [(24,hK c1 [] [])] [] (aj a3 (al (u2 (aj (ak (aj t4 (al (c1)))) (u2 (aj (k2 (aj a7 (getMap (f:=AV.bool) a8))) s2)))))) <|
  .br (fun a9=>
   .rt [30,55] [] [] [] [] [] (aj (aj a9 (al (ak (aj (k2 n11) t2)))) (al (aj t4 t2))))
  (fun a9=>
   .gu fun a10=>
   have c2:=rcp_c (q.cl) (q.bw) (q.pe) (-1) a4 a10 a5;
   .rn 0 [30,54] [] [(30,hK c2 [] [])] [] (aj a9 (al (u2 (aj (ak (aj t4 (ak (al (c2))))) (al (k2 (show Nat.le 1 [AV.agg [AV.lst (boL q.cl),AV.lst (List.map (iv) q.bw),AV.lst (List.map (iv) q.pe)]].length from(Nat.le_of_ble_eq_true rfl)))))))) <|
   .gu fun a11=>
   .gu fun a12=>
   .rt [30] [] [] [] [] [3,4,7] (aj (aj (u2 (u2 (u2 (u2 (aj (k2 (aj (show(List.map (iv) (wo q.pe (-1))).length=(wo q.pe (-1)).length by simp) (aj (aj (show nat_lit 1=nat_lit 1 from rfl) (show 1≤[iv c].length by simp)) (aj a11 a12)))) (u2 (al t3))))))) (al (u2 (aj (k2 n11) t2)))) (al (aj (aj (show(boL q.cl).length=(boL q.cl).length from rfl) (aj (show q.bw.length=(List.map (iv) q.bw).length by simp) (al (show(List.map (iv) (wo q.pe (-1))).length+[iv c].length=(List.map (iv) (wo q.pe (-1))++[iv c]).length by simp)))) t2)))))))) (by kernel_rfl)
theorem rann_ct(n:NetD)(q:SigD)(c:Int)(r:Ret)(h:MReach (rannStep n q c) (rannEn n q c) r):CT Try.prog 59 ([]) ([netA n,sgA q,.int .i64 c]) r.1 r.2:=
 CT.mach (fn:=Try.f59) (c:=zB Try.f59) (S:=rannSt n q c) (hd:=rannHd) Try.func59 (by kernel_rfl) (Nat.le_of_ble_eq_true rfl)
  (fun s o ho=>match s,ho with
   | x,_=>x.elim)
  (fun o ho=>rannEn_ok n q c o ho) h
def rshsSt(q:SigD)(c d:Int):Empty→St
 | x=>x.elim
def rshsHd:Empty→Nat
 | x=>x.elim
def rshsEn(q:SigD)(c d:Int):Option (Empty⊕Ret):=
 gu (q.cl.length≤1000000) <|
 gu (q.bw.length≤1000000) <|
 gu (q.pe.length≤1000000) <|
 gu (0≤c) <|
 gu (c<iN (boL q.cl).length) <|
 el (q.cl) (0+c.toNat) fun(x14:Bool)=>
 br (!x14)
 (gu ((0+c.toNat).succ.le (boL q.cl).length) <|
  gu (c<iN q.bw.length) <|
  gu ((0+c.toNat).succ.le (List.map (AV.int IntKind.i64) q.bw).length) <|
  some (.inr ([],AV.agg [AV.lst ((boL q.cl).set (0+c.toNat) (AV.bool true)),AV.lst ((List.map (AV.int IntKind.i64) q.bw).set (0+c.toNat) (AV.int IntKind.i64 d)),AV.lst (List.map (AV.int IntKind.i64) (wo q.pe c))])))
 (some (.inr ([],AV.agg [AV.lst (boL q.cl),AV.lst (List.map (AV.int IntKind.i64) q.bw),AV.lst (List.map (AV.int IntKind.i64) (wo q.pe c))])))
def rshsStep(q:SigD)(c d:Int):Empty→Option (Empty⊕Ret)
 | x=>x.elim
theorem rshsEn_ok(q:SigD)(c d:Int)(o:Empty⊕Ret)(h:rshsEn q c d=some o):Arr Try.prog Try.f60 0 (rshsSt q c d) rshsHd (zB Try.f60) [] {n:=Try.f60.ntmps,fr:=enumF 0 ([sgA q,.int .i64 c,.int .i64 d]),hp:=([])} o:=
 Scr.ok h mix (
 .rn 0 [] [] [] [] (al (u2 t2)) <|
 .gu fun a0=>
 .gu fun a1=>
 .gu fun a2=>
 have c0:=rcp_c (q.cl) (q.bw) (q.pe) c a0 a1 a2;
 .rn 0 [] [] [(9,hK c0 [] [])] [] (al (u2 (u2 (aj (k2 (aj t4 (ak (al (c0))))) (al (k2 (show Nat.le 1 [AV.agg [AV.lst (boL q.cl),AV.lst (List.map (iv) q.bw),AV.lst (List.map (iv) q.pe)]].length from(Nat.le_of_ble_eq_true rfl)))))))) <|
 .gu fun a3=>
 .gu fun a4=>
 .el fun x14 a5=>
 .rn 0 [] [(14,AV.bool x14)] [] [] (al (u2 (u2 (u2 (aj (k2 (aj a3 a4)) (aj (ak (getMap (f:=AV.bool) a5)) s2)))))) <|
 .br (fun a6=>
 .gu fun a7=>
 .gu fun a8=>
 .gu fun a9=>
 .rt [31] [] [] [] [] [2,3,4] (aj (aj a6 (aj (u2 (u2 (u2 (u2 (u2 (u2 (u2 (aj (k2 (aj a3 a4)) (aj (ak a7) (aj (k2 (aj a3 a8)) (al (k2 a9)))))))))))) (al (u2 (al (k2 n11)))))) (al (aj (show(boL q.cl).length=((boL q.cl).set (0+c.toNat) (AV.bool true)).length by simp) (aj (show q.bw.length=((List.map (iv) q.bw).set (0+c.toNat) (iv d)).length by simp) (al (show(wo q.pe c).length=(List.map (iv) (wo q.pe c)).length by simp)))))))
 (fun a6=>
 .rt [30] [] [] [] [] [2,3,4] (aj (aj a6 (al (u2 (al (k2 n11))))) (al (aj (show(boL q.cl).length=(boL q.cl).length from rfl) (aj (show q.bw.length=(List.map (iv) q.bw).length by simp) (al (show(wo q.pe c).length=(List.map (iv) (wo q.pe c)).length by simp)))))))) (by kernel_rfl)
theorem rshs_ct(q:SigD)(c d:Int)(r:Ret)(h:MReach (rshsStep q c d) (rshsEn q c d) r):CT Try.prog 60 ([]) ([sgA q,.int .i64 c,.int .i64 d]) r.1 r.2:=
 CT.mach (fn:=Try.f60) (c:=zB Try.f60) (S:=rshsSt q c d) (hd:=rshsHd) Try.func60 (by kernel_rfl) (Nat.le_of_ble_eq_true rfl)
  (fun s o ho=>match s,ho with
   | x,_=>x.elim)
  (fun o ho=>rshsEn_ok q c d o ho) h
def ropsSt(q:SigD)(c:Int):Empty→St
 | x=>x.elim
def ropsHd:Empty→Nat
 | x=>x.elim
def ropsEn(q:SigD)(c:Int):Option (Empty⊕Ret):=
 gu (q.cl.length≤1000000) <|
 gu (q.bw.length≤1000000) <|
 gu (q.pe.length≤1000000) <|
 gu (0≤c) <|
 gu (c<iN (boL q.cl).length) <|
 gu ((0+c.toNat).succ.le (boL q.cl).length) <|
 gu (c<iN q.bw.length) <|
 gu ((0+c.toNat).succ.le (List.map (AV.int IntKind.i64) q.bw).length) <|
 some (.inr ([],AV.agg [AV.lst ((boL q.cl).set (0+c.toNat) (AV.bool false)),AV.lst ((List.map (AV.int IntKind.i64) q.bw).set (0+c.toNat) (AV.int IntKind.i64 (-1))),AV.lst (List.map (AV.int IntKind.i64) (wo q.pe c))]))
def ropsStep(q:SigD)(c:Int):Empty→Option (Empty⊕Ret)
 | x=>x.elim
theorem ropsEn_ok(q:SigD)(c:Int)(o:Empty⊕Ret)(h:ropsEn q c=some o):Arr Try.prog Try.f80 0 (ropsSt q c) ropsHd (zB Try.f80) [] {n:=Try.f80.ntmps,fr:=enumF 0 ([sgA q,.int .i64 c]),hp:=([])} o:=
 Scr.ok h mix (
 .rn 0 [] [] [] [] (al (u2 t2)) <|
 .gu fun a0=>
 .gu fun a1=>
 .gu fun a2=>
 have c0:=rcp_c (q.cl) (q.bw) (q.pe) c a0 a1 a2;
 .rn 0 [] [] [(7,hK c0 [] [])] [] (al (u2 (u2 (aj (k2 (aj t4 (ak (al (c0))))) (al (k2 (show Nat.le 1 [AV.agg [AV.lst (boL q.cl),AV.lst (List.map (iv) q.bw),AV.lst (List.map (iv) q.pe)]].length from(Nat.le_of_ble_eq_true rfl)))))))) <|
 .gu fun a3=>
 .gu fun a4=>
 .gu fun a5=>
 .gu fun a6=>
 .gu fun a7=>
 .rt [] [] [] [] [] [2,3,4] (aj (aj (u2 (u2 (u2 (u2 (u2 (u2 (aj (k2 (aj a3 a4)) (aj (ak a5) (aj (k2 (aj a3 a6)) (al (ak a7))))))))))) (al (u2 (al (k2 n11))))) (al (aj (show(boL q.cl).length=((boL q.cl).set (0+c.toNat) (AV.bool false)).length by simp) (aj (show q.bw.length=((List.map (iv) q.bw).set (0+c.toNat) (iv (-1))).length by simp) (al (show(wo q.pe c).length=(List.map (iv) (wo q.pe c)).length by simp))))))) (by kernel_rfl)
theorem rops_ct(q:SigD)(c:Int)(r:Ret)(h:MReach (ropsStep q c) (ropsEn q c) r):CT Try.prog 80 ([]) ([sgA q,.int .i64 c]) r.1 r.2:=
 CT.mach (fn:=Try.f80) (c:=zB Try.f80) (S:=ropsSt q c) (hd:=ropsHd) Try.func80 (by kernel_rfl) (Nat.le_of_ble_eq_true rfl)
  (fun s o ho=>match s,ho with
   | x,_=>x.elim)
  (fun o ho=>ropsEn_ok q c o ho) h
def k19St(q:LokD)(c d:Int):Empty→St
 | x=>x.elim
def k19Hd:Empty→Nat
 | x=>x.elim
def k19En(q:LokD)(c d:Int):Option (Empty⊕Ret):=
 br (!lokB q)
 (some (.inr ([],AV.int IntKind.i64 20)))
 (br (decide (c<0))
  (some (.inr ([],AV.int IntKind.i64 19)))
  (br (decide (8≤c))
   (some (.inr ([],AV.int IntKind.i64 19)))
   (br (decide (d<0))
    (some (.inr ([],AV.int IntKind.i64 19)))
    (br (decide (iN (List.map (AV.int IntKind.i64) q.ow).length≤d))
     (some (.inr ([],AV.int IntKind.i64 19)))
     (some (.inr ([],AV.int IntKind.i64 0)))))))
def k19Step(q:LokD)(c d:Int):Empty→Option (Empty⊕Ret)
 | x=>x.elim
theorem k19En_ok(q:LokD)(c d:Int)(o:Empty⊕Ret)(h:k19En q c d=some o):Arr Try.prog Try.f49 0 (k19St q c d) k19Hd (zB Try.f49) [] {n:=Try.f49.ntmps,fr:=enumF 0 ([lkA q,.int .i64 c,.int .i64 d]),hp:=([])} o:=
 Scr.ok h mix (
 have c0:=rlv_c (q);
 .rn 1 [] [] [(8,hK c0 [] [])] [] (ag t2 (al (u2 (aj (ak (aj t3 (al (c0)))) s2)))) <|
 .br (fun a0=>
 .rt [19] [] [] [] [] [] (aj (aj a0 s2) t2))
 (fun a0=>
 .br (fun a1=>
  .rt [18,25] [] [] [] [] [] (aj (aj a0 (aj (u2 (u2 (u2 (aj a1 (aj a1 (ag a1 (u2 (k2 (aj t3 (u2 (k5 (al t3)))))))))))) (ak s2))) t2))
 (fun a1=>
  .br (fun a2=>
  .rt [18,24,33] [] [] [] [] [] (aj (aj a0 (aj (u2 (u2 (u2 (ag a1 (ag a1 (ag a1 (u2 (aj a2 (aj a2 (ag a2 (u2 (k5 (al t3))))))))))))) (ak s2))) t2))
  (fun a2=>
  .br (fun a3=>
   .rt [18,24,32,41] [] [] [] [] [] (aj (aj a0 (aj (u2 (u2 (u2 (ag a1 (ag a1 (ag a1 (u2 (ag a2 (ag a2 (ag a2 (u2 (aj a3 (aj a3 (aj a3 (aj a3 (aj a3 (al (aj a3 t2)))))))))))))))))) (ak s2))) t2))
  (fun a3=>
   .rn 0 [18,24,32,40] [] [] [] (aj a0 (al (u2 (u2 (u2 (ag a1 (ag a1 (ag a1 (u2 (ag a2 (ag a2 (ag a2 (u2 (ag a3 (ag a3 (ag a3 (ag a3 (aj (aj a3 t3) (al (aj a3 t2)))))))))))))))))))) <|
   .br (fun a4=>
   .rt [24,32,40,53] [] [] [] [] [] (aj (aj a4 s2) t2))
   (fun a4=>
   .rt [24,32,40,52] [] [] [] [] [] (aj (aj a4 s2) t2))))))) (by kernel_rfl)
theorem k19_ct(q:LokD)(c d:Int)(r:Ret)(h:MReach (k19Step q c d) (k19En q c d) r):CT Try.prog 49 ([]) ([lkA q,.int .i64 c,.int .i64 d]) r.1 r.2:=
 CT.mach (fn:=Try.f49) (c:=zB Try.f49) (S:=k19St q c d) (hd:=k19Hd) Try.func49 (by kernel_rfl) (Nat.le_of_ble_eq_true rfl)
  (fun s o ho=>match s,ho with
   | x,_=>x.elim)
  (fun o ho=>k19En_ok q c d o ho) h
def lk1St(n:NetD)(c d:Int):Empty→St
 | x=>x.elim
def lk1Hd:Empty→Nat
 | x=>x.elim
def lk1En(n:NetD)(c d:Int):Option (Empty⊕Ret):=
 gu (0≤c) <|
 el (n.nx) (c.toNat) fun(x9:List Int)=>
 gu (x9.length≤9000000000000000000) <|
 some (.inr ([some (Blk.mk [AV.agg [AV.lst (List.map bA n.bs),AV.lst (gL n.nx),AV.lst (List.map sA n.ss),AV.lst (List.map (AV.int IntKind.i64) n.rs),AV.int IntKind.i64 n.q,AV.int IntKind.i64 n.a,AV.int IntKind.i64 n.d,AV.int IntKind.i64 n.p]] 8 true true none)],AV.bool (hasZ x9 d)))
def lk1Step(n:NetD)(c d:Int):Empty→Option (Empty⊕Ret)
 | x=>x.elim
theorem lk1En_ok(n:NetD)(c d:Int)(o:Empty⊕Ret)(h:lk1En n c d=some o):Arr Try.prog Try.f82 1 (lk1St n c d) lk1Hd (zB Try.f82) [] {n:=Try.f82.ntmps,fr:=enumF 0 ([.int .i64 c,.int .i64 d,.ptr 0 0 0]),hp:=([some (Blk.mk [netA n] 8 true true none)])} o:=
 Scr.ok h mix (
 .rn 0 [] [] [] [] s2 <|
 .gu fun a0=>
 .el fun x9 a1=>
 .gu fun a2=>
 have c0:=con_c x9 d a2;
 .rt [] [(9,lI x9)] [(12,hK c0 [] [])] [] [0] [] (aj (al (u2 (u2 (u2 (aj (k2 (aj a0 (getMap (f:=lI) a1))) (u2 (u2 (aj (ak (k3 (al (c0)))) s2)))))))) t3)) (by kernel_rfl)
theorem lk1_ct(n:NetD)(c d:Int)(r:Ret)(h:MReach (lk1Step n c d) (lk1En n c d) r):CT Try.prog 82 ([some (Blk.mk [netA n] 8 true true none)]) ([.int .i64 c,.int .i64 d,.ptr 0 0 0]) r.1 r.2:=
 CT.mach (fn:=Try.f82) (c:=zB Try.f82) (S:=lk1St n c d) (hd:=lk1Hd) Try.func82 (by kernel_rfl) (Nat.le_of_ble_eq_true rfl)
  (fun s o ho=>match s,ho with
   | x,_=>x.elim)
  (fun o ho=>lk1En_ok n c d o ho) h
def lk2St(n:NetD)(c d:Int):Empty→St
 | x=>x.elim
def lk2Hd:Empty→Nat
 | x=>x.elim
def lk2En(n:NetD)(c d:Int):Option (Empty⊕Ret):=
 gu (0≤d) <|
 el (n.nx) (d.toNat) fun(x9:List Int)=>
 gu (x9.length≤9000000000000000000) <|
 some (.inr ([some (Blk.mk [AV.agg [AV.lst (List.map bA n.bs),AV.lst (gL n.nx),AV.lst (List.map sA n.ss),AV.lst (List.map (AV.int IntKind.i64) n.rs),AV.int IntKind.i64 n.q,AV.int IntKind.i64 n.a,AV.int IntKind.i64 n.d,AV.int IntKind.i64 n.p]] 8 true true none)],AV.bool (hasZ x9 c)))
def lk2Step(n:NetD)(c d:Int):Empty→Option (Empty⊕Ret)
 | x=>x.elim
theorem lk2En_ok(n:NetD)(c d:Int)(o:Empty⊕Ret)(h:lk2En n c d=some o):Arr Try.prog Try.f83 1 (lk2St n c d) lk2Hd (zB Try.f83) [] {n:=Try.f83.ntmps,fr:=enumF 0 ([.int .i64 c,.int .i64 d,.ptr 0 0 0]),hp:=([some (Blk.mk [netA n] 8 true true none)])} o:=
 Scr.ok h mix (
 .rn 0 [] [] [] [] s2 <|
 .gu fun a0=>
 .el fun x9 a1=>
 .gu fun a2=>
 have c0:=con_c x9 c a2;
 .rt [] [(9,lI x9)] [(12,hK c0 [] [])] [] [0] [] (aj (al (u2 (u2 (u2 (aj (k2 (aj a0 (getMap (f:=lI) a1))) (u2 (u2 (aj (ak (k3 (al (c0)))) s2)))))))) t3)) (by kernel_rfl)
theorem lk2_ct(n:NetD)(c d:Int)(r:Ret)(h:MReach (lk2Step n c d) (lk2En n c d) r):CT Try.prog 83 ([some (Blk.mk [netA n] 8 true true none)]) ([.int .i64 c,.int .i64 d,.ptr 0 0 0]) r.1 r.2:=
 CT.mach (fn:=Try.f83) (c:=zB Try.f83) (S:=lk2St n c d) (hd:=lk2Hd) Try.func83 (by kernel_rfl) (Nat.le_of_ble_eq_true rfl)
  (fun s o ho=>match s,ho with
   | x,_=>x.elim)
  (fun o ho=>lk2En_ok n c d o ho) h
def shE(n:NetD)(s:SigD):Int:=if sigB n s=true then 0 else 20
def shO(n:NetD)(s:SigD):List Bool:=if sigB n s=true then shtS s else []
theorem sig_len{n:NetD}{s:SigD}(h:sigB n s=true):ValidN n∧SigOk n s∧s.cl.length≤48∧s.bw.length≤48∧s.pe.length≤48∧n.bs.length≤s.cl.length∧∀b∈s.pe,0≤b∧b<(s.cl.length:Int):=by
 obtain⟨hv,h⟩:=sigB_iff.1 h
 have hc:=celN_le hv
 have lc:=h.lc
 have lb:=h.lb
 have pl:=h.pl
 exact⟨hv,h,by omega,by omega,by omega,by omega,fun b hb=>by have:=h.pb b hb;omega⟩
theorem cln_c(cl:List Bool)(bw pe:List Int)(h1:cl.length≤1000000)(h2:bw.length≤1000000)(h3:pe.length≤1000000):
  CT Try.prog 48 [] [sgA ⟨cl,bw,pe⟩] [some (Blk.mk (boL cl) 1 true true none),some (Blk.mk (bw.map (AV.int .i64)) 1 true true none),some (Blk.mk (pe.map (AV.int .i64)) 1 true true none)] (.agg [.sl 0 0 (boL cl).length,.sl 1 0 bw.length,.sl 2 0 pe.length]):=by
 refine cln_ct cl bw pe ([_,_,_],_) (.val ?_)
 unfold clnEn
 rw[gu_t h1,gu_t h2,gu_t h3]
def scE(n:NetD)(s:SigD)(c:Int):Int:=if sigB n s=true then (if c<0∨(s.cl.length:Int)≤c then 19 else 0) else 20
theorem sch_c{n:NetD}(cl:List Bool)(bw pe:List Int)(c:Int)(hrw:Rows n.nx):CT Try.prog 46 [] [netA n,sgA ⟨cl,bw,pe⟩,.int .i64 c] [] (.int .i64 (scE n ⟨cl,bw,pe⟩ c)):=by
 refine sch_ct n ⟨cl,bw,pe⟩ c ([],_) (.val ?_)
 unfold schEn scE
 simp only
 rw[gu_t hrw]
 cases h:sigB n ⟨cl,bw,pe⟩ with
 | false=>rfl
 | true=>
  rw[br_f (by rfl),if_pos rfl]
  by_cases h0:c<0
  ·rw[br_t (dec_t h0),if_pos (.inl h0)]
  by_cases h1:(cl.length:Int)≤c
  ·rw[br_f (dec_f h0),br_t (dec_t (by rw[boL_len];exact h1)),if_pos (.inr h1)]
  ·rw[br_f (dec_f h0),br_f (dec_f (by rw[boL_len];exact h1)),if_neg (by omega)]
theorem ssh_c{n:NetD}(cl:List Bool)(bw pe:List Int)(hrw:Rows n.nx):CT Try.prog 24 [] [netA n,sgA ⟨cl,bw,pe⟩] [] (.tup [.lst (boL (shO n ⟨cl,bw,pe⟩)),.int .i64 (shE n ⟨cl,bw,pe⟩)]):=by
 generalize hs:(⟨cl,bw,pe⟩:SigD)=s
 have k:=ssh_ct n s
 unfold sshEn at k
 unfold shO shE
 cases h:sigB n s with
 | false=>rw[h] at k;exact CT.w2 (k ([],_) (.val (by rw[gu_t hrw];rfl)))
 | true=>
  obtain⟨hv,hS,l1,l2,l3,l4,l5⟩:=sig_len h
  rw[h] at k
  refine k ([],_) ?_
  rw[gu_t hrw,br_f (by rfl),gu_t (by omega)]
  refine loop_fold (L:=fun i b=>sshPc.l0 (i:Int) b) (f:=fun c b=>c.set b.toNat true) (l:=s.pe) s.cl (fun i x hx h=>?_) ?_
  ·have hlen:=sht_len (s.pe.take i) s.cl
   have h2:=l5 x (List.mem_of_getElem? hx)
   have hi:=(List.getElem?_eq_some_iff.1 hx).1
   have hL:=boL_len s.cl
   generalize (s.pe.take i).foldl (fun c b=>c.set b.toNat true) s.cl=c at *
   refine .to (show sshS0 n s i c=_ from ?_) h
   unfold sshS0
   rw[rngS hx,gu_t h2.1,gu_t (by simp only[iN];omega),gu_t (show Nat.le _ _ from(by simp only[List.length_map];show 0+x.toNat+1≤_;omega)),zW i (by omega),Nat.zero_add]
  ·refine .to (show sshS0 n s s.pe.length (shtS s)=_ from ?_) (.ret _)
   unfold sshS0
   rw[rngE,gu_t (by rw[boL_len,List.length_map,shtS_len])];rfl
def anE(n:NetD)(s:SigD)(x:Int):Int:=if sigB n s=true then (if 0≤x∧x<(n.bs.length:Int) then (if (shtS s).getD x.toNat true=true then 24 else 0) else 19) else 20
def anO(n:NetD)(s:SigD)(x:Int):SigD:=if anE n s x=0 then anS s x else ⟨[],[],[]⟩
theorem anE_ok{n:NetD}{s:SigD}{x:Int}(h:anE n s x=0):sigB n s=true∧(0≤x∧x<(n.bs.length:Int))∧(shtS s).getD x.toNat true=false:=by
 unfold anE at h
 split at h
 ·rename_i h1
  split at h
  ·rename_i h2
   split at h
   ·cases h
   ·rename_i h3;exact⟨h1,h2,by simpa using h3⟩
  ·cases h
 ·cases h
theorem wo_neg{n:NetD}{s:SigD}(h:SigOk n s):wo s.pe (-1)=s.pe:=wo_none fun hm=>by have:=h.pb _ hm;omega
theorem rann_c{n:NetD}(cl:List Bool)(bw pe:List Int)(x:Int)(hrw:Rows n.nx):CT Try.prog 59 [] [netA n,sgA ⟨cl,bw,pe⟩,.int .i64 x] [] (.tup [sgA (anO n ⟨cl,bw,pe⟩ x),.int .i64 (anE n ⟨cl,bw,pe⟩ x)]):=by
 generalize hs:(⟨cl,bw,pe⟩:SigD)=s
 have k:=rann_ct n s x
 unfold rannEn at k
 unfold anO
 have hbad:anE n s x≠0→(.tup [sgA (if anE n s x=0 then anS s x else ⟨[],[],[]⟩),.int .i64 (anE n s x)]:AV)=wk2 (.tup [.agg [.nils,.nils,.nils],.int .i64 (anE n s x)]):=fun h=>by rw[if_neg h];rfl
 unfold anE at hbad ⊢
 cases h:sigB n s with
 | false=>
  rw[h] at k hbad
  rw[hbad (by simp)]
  exact CT.w2 (k ([],_) (.val (by rw[gu_t hrw];rfl)))
 | true=>
 obtain⟨hv,hS,l1,l2,l3,l4,l5⟩:=sig_len h
 rw[h] at k hbad
 simp only[if_pos] at hbad ⊢
 by_cases h0:0≤x∧x<(n.bs.length:Int)
 case neg=>
  rw[if_neg h0] at hbad ⊢
  rw[hbad (by decide)]
  refine CT.w2 (k ([],_) (.val ?_))
  rw[gu_t hrw,br_f (by rfl)]
  by_cases h1:x<0
  ·rw[br_t (dec_t h1)]
  ·rw[br_f (dec_f h1),br_t (dec_t (by rw[List.length_map];simp only[iN];omega))]
 rw[if_pos h0] at hbad ⊢
 have hsl:=shtS_len s
 have hgx:=getE true (show x.toNat<(shtS s).length by omega)
 cases hx:(shtS s).getD x.toNat true with
 | true=>
  rw[hx,if_pos rfl] at hbad
  simp only[if_pos]
  rw[hbad (by decide)]
  refine CT.w2 (k ([],_) (.val ?_))
  rw[gu_t hrw,br_f (by rfl),br_f (dec_f (by omega)),br_f (dec_f (by rw[List.length_map];simp only[iN];omega)),gu_t (by omega),gu_t (by omega),gu_t l5,gu_t h0.1,el_t hgx,hx,br_t rfl]
 | false=>
  have e:(.tup [sgA (anS s x),.int .i64 0]:AV) = .tup [.agg [.lst (boL s.cl),.lst (List.map (AV.int .i64) s.bw),.lst (List.map (AV.int .i64) (wo s.pe (-1))++[.int .i64 x])],.int .i64 0]:=by
   rw[wo_neg hS]
   unfold anS sgA lI
   rw[List.map_append];rfl
  have e2:(if (if false=true then (24:Int) else 0)=0 then anS s x else ⟨[],[],[]⟩)=anS s x:=rfl
  have e3:(if false=true then (24:Int) else 0)=0:=rfl
  rw[e2,e3,e]
  refine k ([],_) (.val ?_)
  have hw:=wo_len s.pe (-1)
  rw[gu_t hrw,br_f (by rfl),br_f (dec_f (by omega)),br_f (dec_f (by rw[List.length_map];simp only[iN];omega)),gu_t (by omega),gu_t (by omega),gu_t l5,gu_t h0.1,el_t hgx,hx,br_f rfl,gu_t (by omega),gu_t (by simp only[List.length_map,List.length_cons,List.length_nil];omega),gu_t (by simp only[List.length_map,List.length_cons,List.length_nil];omega)]
theorem set_same{l:List Bool}{i:Nat}{v:Bool}(h:l.getD i true=v)(hi:i<l.length):l.set i v=l:=by
 apply List.ext_getElem?
 intro j
 rw[List.getElem?_set]
 split
 ·rename_i e;subst e
  rw[List.getElem?_eq_getElem hi]
  rw[List.getD_eq_getElem?_getD,List.getElem?_eq_getElem hi] at h
  exact congrArg some h.symm
 ·rfl
theorem rshs_c(cl:List Bool)(bw pe:List Int)(c d:Int)(h1:cl.length≤1000000)(h2:bw.length≤1000000)(h3:pe.length≤1000000)(hc:0≤c)(hc1:c<(cl.length:Int))(hc2:c<(bw.length:Int)):
  CT Try.prog 60 [] [sgA ⟨cl,bw,pe⟩,.int .i64 c,.int .i64 d] [] (sgA (clS ⟨cl,bw,pe⟩ c d)):=by
 refine rshs_ct ⟨cl,bw,pe⟩ c d ([],_) (.val ?_)
 have hL:=boL_len cl
 unfold rshsEn
 simp only
 rw[gu_t h1,gu_t h2,gu_t h3,gu_t hc,gu_t (by simp only[iN];omega),Nat.zero_add,el_t (getE true (show c.toNat<cl.length by omega))]
 unfold clS
 simp only
 cases h:cl.getD c.toNat true with
 | false=>
  rw[br_t (by rfl),gu_t (show Nat.le _ _ from(show c.toNat+1≤_ by omega)),gu_t hc2,gu_t (show Nat.le _ _ from(by rw[List.length_map];show c.toNat+1≤_;omega)),if_neg (by simp)]
  unfold lI boL
  rw[List.map_set,List.map_set]
 | true=>
  rw[br_f (by rfl),if_pos rfl,set_same h (by omega)];rfl
theorem rops_c(cl:List Bool)(bw pe:List Int)(c:Int)(h1:cl.length≤1000000)(h2:bw.length≤1000000)(h3:pe.length≤1000000)(hc:0≤c)(hc1:c<(cl.length:Int))(hc2:c<(bw.length:Int)):
  CT Try.prog 80 [] [sgA ⟨cl,bw,pe⟩,.int .i64 c] [] (sgA (opS ⟨cl,bw,pe⟩ c)):=by
 refine rops_ct ⟨cl,bw,pe⟩ c ([],_) (.val ?_)
 have hL:=boL_len cl
 unfold ropsEn
 simp only
 rw[gu_t h1,gu_t h2,gu_t h3,gu_t hc,gu_t (by simp only[iN];omega),Nat.zero_add,gu_t (show Nat.le _ _ from(show c.toNat+1≤_ by omega)),gu_t hc2,gu_t (show Nat.le _ _ from(by rw[List.length_map];show c.toNat+1≤_;omega))]
 unfold opS lI boL
 simp only
 rw[List.map_set,List.map_set]
theorem has_con(l:List Int)(x:Int):hasZ l x=l.contains x:=by
 rw[Bool.eq_iff_iff,hasZ_iff,List.contains_iff_mem]
theorem lk1_c(n:NetD)(c d:Int)(hv:ValidN n)(hrw:Rows n.nx)(hc:0≤c∧c<(n.bs.length:Int)):CT Try.prog 82 [some (Blk.mk [netA n] 8 true true none)] [.int .i64 c,.int .i64 d,.ptr 0 0 0] [some (Blk.mk [netA n] 8 true true none)] (.bool (hasZ (n.nx.getD c.toNat []) d)):=by
 refine lk1_ct n c d ([_],_) (.val ?_)
 have hl:=hv.nx
 have hr:=(hv.lanes hrw (show c.toNat<n.bs.length by omega)).2
 unfold lk1En
 rw[gu_t hc.1,el_t (getE [] (show c.toNat<n.nx.length by omega)),gu_t (by omega)];rfl
theorem lk2_c(n:NetD)(c d:Int)(hv:ValidN n)(hrw:Rows n.nx)(hc:0≤d∧d<(n.bs.length:Int)):CT Try.prog 83 [some (Blk.mk [netA n] 8 true true none)] [.int .i64 c,.int .i64 d,.ptr 0 0 0] [some (Blk.mk [netA n] 8 true true none)] (.bool (hasZ (n.nx.getD d.toNat []) c)):=by
 refine lk2_ct n c d ([_],_) (.val ?_)
 have hl:=hv.nx
 have hr:=(hv.lanes hrw (show d.toNat<n.bs.length by omega)).2
 unfold lk2En
 rw[gu_t hc.1,el_t (getE [] (show d.toNat<n.nx.length by omega)),gu_t (by omega)];rfl
def k9E(l:LokD)(c d:Int):Int:=if lokB l=true then (if 0≤c∧c<8∧0≤d∧d<(l.ow.length:Int) then 0 else 19) else 20
theorem k19_c(ow:List Int)(qu:List (List Int))(c d:Int):CT Try.prog 49 [] [lkA ⟨ow,qu⟩,.int .i64 c,.int .i64 d] [] (.int .i64 (k9E ⟨ow,qu⟩ c d)):=by
 refine k19_ct ⟨ow,qu⟩ c d ([],_) (.val ?_)
 unfold k19En k9E
 simp only
 cases h:lokB ⟨ow,qu⟩ with
 | false=>rfl
 | true=>
  rw[br_f (by rfl),if_pos rfl,List.length_map]
  by_cases h0:c<0
  ·rw[br_t (dec_t h0),if_neg (by omega)]
  by_cases h1:8≤c
  ·rw[br_f (dec_f h0),br_t (dec_t h1),if_neg (by omega)]
  by_cases h2:d<0
  ·rw[br_f (dec_f h0),br_f (dec_f h1),br_t (dec_t h2),if_neg (by omega)]
  by_cases h3:(ow.length:Int)≤d
  ·rw[br_f (dec_f h0),br_f (dec_f h1),br_f (dec_f h2),br_t (dec_t h3),if_neg (by omega)]
  ·rw[br_f (dec_f h0),br_f (dec_f h1),br_f (dec_f h2),br_f (dec_f h3),if_pos (by omega)]
def annSt(n:NetD)(q:SigD)(c:Int):Empty→St
 | x=>x.elim
def annHd:Empty→Nat
 | x=>x.elim
def annEn(n:NetD)(q:SigD)(c:Int):Option (Empty⊕Ret):=
 gu (Rows n.nx) <|
 br (scE n q c != 0)
 (some (.inr ([],AV.tup [AV.agg [AV.nils,AV.nils,AV.nils],AV.int IntKind.i64 (scE n q c)])))
 (br (decide (iN (List.map bA n.bs).length≤c))
  (some (.inr ([],AV.tup [AV.agg [AV.nils,AV.nils,AV.nils],AV.int IntKind.i64 19])))
  (gu (0≤c) <|
   el (q.cl) (c.toNat) fun(x29:Bool)=>
   br x29
   (some (.inr ([],AV.tup [AV.agg [AV.nils,AV.nils,AV.nils],AV.int IntKind.i64 24])))
   (gu (q.pe.length≤9000000000000000000) <|
    br (hasZ q.pe c)
    (some (.inr ([],AV.tup [AV.agg [AV.nils,AV.nils,AV.nils],AV.int IntKind.i64 24])))
    (gu (q.cl.length≤1000000) <|
     gu (q.bw.length≤1000000) <|
     gu (q.pe.length≤1000000) <|
     gu ((List.map (AV.int IntKind.i64) q.pe).length+[AV.int IntKind.i64 c].length≤9223372036854775807) <|
     gu (((List.map (AV.int IntKind.i64) q.pe).length+[AV.int IntKind.i64 c].length) * 8≤140737488355328) <|
     some (.inr ([],AV.tup [AV.agg [AV.lst (boL q.cl),AV.lst (List.map (AV.int IntKind.i64) q.bw),AV.lst (List.map (AV.int IntKind.i64) q.pe++[AV.int IntKind.i64 c])],AV.int IntKind.i64 0]))))))
def annStep(n:NetD)(q:SigD)(c:Int):Empty→Option (Empty⊕Ret)
 | x=>x.elim
theorem annEn_ok(n:NetD)(q:SigD)(c:Int)(o:Empty⊕Ret)(h:annEn n q c=some o):Arr Try.prog Try.f16 0 (annSt n q c) annHd (zB Try.f16) [] {n:=Try.f16.ntmps,fr:=enumF 0 ([netA n,sgA q,.int .i64 c]),hp:=([])} o:=
 Scr.ok h mix (
 .rn 0 [] [] [] [] (al (u2 (u2 t3))) <|
 .gu fun a0=>
 have c0:=sch_c (q.cl) (q.bw) (q.pe) c a0;
 .rn 1 [] [] [(12,hK c0 [] [])] [] (aj (u2 (u2 (u2 (aj (k3 (aj t9 (aj t4 (ak (al (c0)))))) s2)))) (al (u2 (u2 s2)))) <|
 .br (fun a1=>
 .rt [27] [] [] [] [] [] (aj (aj a1 (al (ak (u2 (aj (k2 n11) s2))))) (al (aj t4 t2))))
 (fun a1=>
 .rn 0 [26] [] [] [] (aj a1 (al (u2 (u2 (u2 (u2 (aj t3 s2))))))) <|
 .br (fun a2=>
  .rt [37] [] [] [] [] [] (aj (aj a2 (al (ak (aj (k2 n11) t2)))) (al (aj t4 t2))))
 (fun a2=>
  .gu fun a3=>
  .el fun x29 a4=>
  .br (fun a5=>
  .rt [36,63] [(29,AV.bool x29)] [] [] [] [] (aj (aj a2 (aj (u2 (u2 (u2 (aj (k2 (aj a3 (getMap (f:=AV.bool) a4))) (u2 (u2 (aj a5 (aj a5 (aj a5 (aj a5 (ag a5 s2))))))))))) (ak (al (ak (aj (k2 n11) t2)))))) (al (aj t4 t2))))
  (fun a5=>
  .gu fun a6=>
  have c1:=con_c (q.pe) c a6;
  .rn 0 [36,62] [(29,AV.bool x29)] [(35,hK c1 [] [])] [] (aj a2 (al (u2 (u2 (u2 (aj (k2 (aj a3 (getMap (f:=AV.bool) a4))) (u2 (u2 (ag a5 (ag a5 (ag a5 (aj (aj a5 (ak (k3 (al (c1))))) (ag a5 s2))))))))))))) <|
  .br (fun a7=>
   .rt [62,51] [] [] [] [] [] (aj (aj a7 (al (ak (aj (k2 n11) t2)))) (al (aj t4 t2))))
  (fun a7=>
   .gu fun a8=>
   .gu fun a9=>
   .gu fun a10=>
   have c2:=cln_c (q.cl) (q.bw) (q.pe) a8 a9 a10;
   .rn 0 [62,50] [] [(39,hK c2 [] [])] [] (aj a7 (al (u2 (aj (ak (aj t4 (al (c2)))) (al (k2 (show Nat.le 1 [AV.agg [AV.lst (boL q.cl),AV.lst (List.map (iv) q.bw),AV.lst (List.map (iv) q.pe)]].length from(Nat.le_of_ble_eq_true rfl)))))))) <|
   .gu fun a11=>
   .gu fun a12=>
   .rt [62] [] [] [] [] [3,4,7] (aj (aj (u2 (u2 (u2 (u2 (aj (k2 (aj (show(List.map (iv) q.pe).length=q.pe.length by simp) (aj (aj (show nat_lit 1=nat_lit 1 from rfl) (show 1≤[iv c].length by simp)) (aj a11 a12)))) (u2 (al t3))))))) (al (u2 (aj (k2 n11) t2)))) (al (aj (aj (show(boL q.cl).length=(boL q.cl).length from rfl) (aj (show q.bw.length=(List.map (iv) q.bw).length by simp) (al (show(List.map (iv) q.pe).length+[iv c].length=(List.map (iv) q.pe++[iv c]).length by simp)))) t2)))))))) (by kernel_rfl)
theorem ann_ct(n:NetD)(q:SigD)(c:Int)(r:Ret)(h:MReach (annStep n q c) (annEn n q c) r):CT Try.prog 16 ([]) ([netA n,sgA q,.int .i64 c]) r.1 r.2:=
 CT.mach (fn:=Try.f16) (c:=zB Try.f16) (S:=annSt n q c) (hd:=annHd) Try.func16 (by kernel_rfl) (Nat.le_of_ble_eq_true rfl)
  (fun s o ho=>match s,ho with
   | x,_=>x.elim)
  (fun o ho=>annEn_ok n q c o ho) h
inductive spFPc where
 | l0 (v0:List Bool) (v1:Int)
 | l1 (v0:List Bool) (v1:Nat) (v2:Int)
 | l2 (v0:List Bool) (v1:Nat) (v2:Int) (v3:Nat) (v4:Int)
 | l3 (v0:List Bool) (v1:Int) (v2:Nat) (v3:Int) (v4 v5:Nat) (v6:Int)
def spFSt(n:NetD)(q:SigD)(l:List Bool):spFPc→St
 | .l0 v0 v1=>St.mk 70 [(2,AV.lst (boL l)),(3,AV.fn 82 [AV.ptr 0 0 0]),(5,AV.ptr 1 0 0),(9,AV.sl 2 0 v0.length),(18,iv (iN (List.map bA n.bs).length)),(19,iv v1)] [some (Blk.mk [netA n] 8 true true none),some (Blk.mk [AV.agg [AV.lst (boL q.cl),AV.lst (List.map (iv) q.bw),AV.lst (List.map (iv) q.pe)]] 3 true true none),some (Blk.mk (List.map AV.bool v0) 1 true true none)]
 | .l1 v0 v1 v2=>St.mk 70 [(3,AV.fn 82 [AV.ptr 0 0 0]),(5,AV.ptr 1 0 0),(9,AV.sl 2 0 v0.length),(32,iv (iN v1)),(33,iv v2)] [some (Blk.mk [netA n] 8 true true none),some (Blk.mk [AV.agg [AV.lst (boL q.cl),AV.lst (List.map (iv) q.bw),AV.lst (List.map (iv) q.pe)]] 3 true true none),some (Blk.mk (List.map AV.bool v0) 1 true true none)]
 | .l2 v0 v1 v2 v3 v4=>St.mk 70 [(3,AV.fn 82 [AV.ptr 0 0 0]),(5,AV.ptr 1 0 0),(9,AV.sl 2 0 v0.length),(32,iv (iN v1)),(33,iv v2),(36,iv (iN v3)),(37,iv v4)] [some (Blk.mk [netA n] 8 true true none),some (Blk.mk [AV.agg [AV.lst (boL q.cl),AV.lst (List.map (iv) q.bw),AV.lst (List.map (iv) q.pe)]] 3 true true none),some (Blk.mk (List.map AV.bool v0) 1 true true none)]
 | .l3 v0 v1 v2 v3 v4 v5 v6=>St.mk 70 [(3,AV.fn 82 [AV.ptr 0 0 0]),(5,AV.ptr 1 0 0),(9,AV.sl 2 0 v0.length),(11,iv v1),(32,iv (iN v2)),(33,iv v3),(36,iv (iN v4)),(37,iv v1),(41,iv (iN v5)),(42,iv v6)] [some (Blk.mk [netA n] 8 true true none),some (Blk.mk [AV.agg [AV.lst (boL q.cl),AV.lst (List.map (iv) q.bw),AV.lst (List.map (iv) q.pe)]] 3 true true none),some (Blk.mk (List.map AV.bool v0) 1 true true none)]
def spFHd:spFPc→Nat
 | .l0 _ _=>0
 | .l1 _ _ _=>1
 | .l2 _ _ _ _ _=>2
 | .l3 _ _ _ _ _ _ _=>3
def spFEn(n:NetD)(q:SigD)(l:List Bool):Option (spFPc⊕Ret):=
 gu (1 * iN (List.map bA n.bs).length≤281474976710656) <|
 gu (iN (List.map bA n.bs).length≤9223372036854775807) <|
 some (.inl (.l0 (List.replicate (List.map bA n.bs).length false) ((0:Int))))
def spFS0(n:NetD)(q:SigD)(l v0:List Bool)(v1:Int):Option (spFPc⊕Ret):=
 br (decide (v1<iN (List.map bA n.bs).length))
 (gu (0≤v1) <|
  el l (v1.toNat) fun(x26:Bool)=>
  gu (v1<iN v0.length) <|
  gu ((0+v1.toNat).succ.le (List.map AV.bool v0).length) <|
  some (.inl (.l0 (v0.set (0+v1.toNat) !x26) (IntKind.i64.wrap (v1+1)))))
 (some (.inl (.l1 v0 (v0.length) ((0:Int)))))
def spFS1(n:NetD)(q:SigD)(l v0:List Bool)(v1:Nat)(v2:Int):Option (spFPc⊕Ret):=
 br (decide (v2<iN v1))
 (some (.inl (.l2 v0 v1 v2 (v0.length) ((0:Int)))))
 (some (.inr ([some (Blk.mk [AV.agg [AV.lst (List.map bA n.bs),AV.lst (gL n.nx),AV.lst (List.map sA n.ss),AV.lst (List.map (AV.int IntKind.i64) n.rs),AV.int IntKind.i64 n.q,AV.int IntKind.i64 n.a,AV.int IntKind.i64 n.d,AV.int IntKind.i64 n.p]] 8 true true none),some (Blk.mk (List.map AV.bool v0) 1 true true none)],AV.sl 1 0 v0.length)))
def spFS2(n:NetD)(q:SigD)(l v0:List Bool)(v1:Nat)(v2:Int)(v3:Nat)(v4:Int):Option (spFPc⊕Ret):=
 br (decide (v4<iN v3))
 (some (.inl (.l3 v0 v4 v1 v2 v3 (v0.length) ((0:Int)))))
 (some (.inl (.l1 v0 v1 (IntKind.i64.wrap (v2+1)))))
def spFS3(n:NetD)(q:SigD)(l v0:List Bool)(v1:Int)(v2:Nat)(v3:Int)(v4 v5:Nat)(v6:Int):Option (spFPc⊕Ret):=
 br (decide (v6<iN v5))
 (gu (0≤v6) <|
  gu (v6<iN v0.length) <|
  el v0 (0+v6.toNat) fun(x48:Bool)=>
  br x48
  (gu (0≤v1) <|
   el (q.cl) (v1.toNat) fun(x53:Bool)=>
   br (!x53)
   (gu (ValidN n) <|
    gu (Rows n.nx) <|
    gu (0≤v1∧v1<iN n.bs.length) <|
    br (hasZ (n.nx.getD v1.toNat []) v6)
    (gu (v1<iN v0.length) <|
     gu ((0+v1.toNat).succ.le (List.map AV.bool v0).length) <|
     some (.inl (.l3 (v0.set (0+v1.toNat) true) v1 v2 v3 v4 v5 (IntKind.i64.wrap (v6+1)))))
    (some (.inl (.l3 v0 v1 v2 v3 v4 v5 (IntKind.i64.wrap (v6+1))))))
   (some (.inl (.l3 v0 v1 v2 v3 v4 v5 (IntKind.i64.wrap (v6+1))))))
  (some (.inl (.l3 v0 v1 v2 v3 v4 v5 (IntKind.i64.wrap (v6+1))))))
 (some (.inl (.l2 v0 v2 v3 v4 (IntKind.i64.wrap (v1+1)))))
def spFStep(n:NetD)(q:SigD)(l:List Bool):spFPc→Option (spFPc⊕Ret)
 | .l0 v0 v1=>spFS0 n q l v0 v1
 | .l1 v0 v1 v2=>spFS1 n q l v0 v1 v2
 | .l2 v0 v1 v2 v3 v4=>spFS2 n q l v0 v1 v2 v3 v4
 | .l3 v0 v1 v2 v3 v4 v5 v6=>spFS3 n q l v0 v1 v2 v3 v4 v5 v6
theorem spFEn_ok(n:NetD)(q:SigD)(l:List Bool)(o:spFPc⊕Ret)(h:spFEn n q l=some o):Arr Try.prog Try.f81 1 (spFSt n q l) spFHd (zB Try.f81) [] {n:=Try.f81.ntmps,fr:=enumF 0 ([netA n,sgA q,.lst (boL l),.fn 82 [.ptr 0 0 0]]),hp:=([some (Blk.mk [netA n] 8 true true none)])} o:=
 Scr.ok h mix (
 .rn 0 [] [] [] [] (al (u2 (u2 t2))) <|
 .gu fun a0=>
 .gu fun a1=>
 .lq [] [] [] [] [] [0,2,3] [2,3,5,9,18,19] (up [(9,AV.sl 2 0 (List.map bA n.bs).length)] [(2,List.replicate (List.map bA n.bs).length (AV.bool false))] (spFSt n q l (.l0 (List.replicate (List.map bA n.bs).length false) ((0:Int))))) (aj (aj (u2 (u2 (u2 (aj (k2 (aj (show 0≤iN (List.map bA n.bs).length from(Int.natCast_nonneg _)) (aj (show iN (List.map bA n.bs).length≤iN (List.map bA n.bs).length by omega) (aj a0 a1)))) s2)))) (al (u2 (u2 t2)))) (ak (u2 t8))) (by simp[up,upF,upV,upH,upB,spFSt,gL,boL,lI,sA,bA])) (by kernel_rfl)
theorem spFS0_ok(n:NetD)(q:SigD)(l v0:List Bool)(v1:Int)(o:spFPc⊕Ret)(h:spFS0 n q l v0 v1=some o):Arr Try.prog Try.f81 1 (spFSt n q l) spFHd (headC Try.f81 0) (.rnd (headC Try.f81 0)::headK Try.f81 0) (spFSt n q l (.l0 v0 v1)) o:=
 Scr.ok h mix (
 .rn 0 [] [] [] [] (al (al t3)) <|
 .br (fun a0=>
 .rn 0 [41] [] [] [] (aj a0 (al (u2 s2))) <|
 .gu fun a1=>
 .el fun x26 a2=>
 .gu fun a3=>
 .gu fun a4=>
 .lq [] [(26,AV.bool x26)] [] [] [] [0,1,2] [2,3,5,9,18,19] (up [(9,AV.sl 2 0 v0.length)] [(2,(List.map AV.bool v0).set (0+v1.toNat) (AV.bool !x26))] (spFSt n q l (.l0 (v0.set (0+v1.toNat) !x26) (IntKind.i64.wrap (v1+1))))) (aj (aj (u2 (u2 (u2 (u2 (aj (k2 (aj a1 (getMap (f:=AV.bool) a2))) (u2 (u2 (aj (k2 (aj a1 a3)) (al (k2 a4)))))))))) (al (u2 s2))) (ak (u2 t8))) (by simp[up,upF,upV,upH,upB,spFSt,gL,boL,lI,sA,bA]))
 (fun a0=>
 .lp [40] [] [] [] [] [0,1,2] [3,5,9,32,33] (aj (aj a0 (al (u2 (u2 t2)))) (u2 t8)))) (by kernel_rfl)
theorem spFS1_ok(n:NetD)(q:SigD)(l v0:List Bool)(v1:Nat)(v2:Int)(o:spFPc⊕Ret)(h:spFS1 n q l v0 v1 v2=some o):Arr Try.prog Try.f81 1 (spFSt n q l) spFHd (headC Try.f81 1) (.rnd (headC Try.f81 1)::headK Try.f81 1) (spFSt n q l (.l1 v0 v1 v2)) o:=
 Scr.ok h mix (
 .rn 0 [] [] [] [] (al (al t3)) <|
 .br (fun a0=>
 .lp [69] [] [] [] [] [0,1,2] [3,5,9,32,33,36,37] (aj (aj a0 (al (u2 (u2 t2)))) (u2 (ak t9))))
 (fun a0=>
 .rt [68] [] [] [] [0,2] [] (aj (aj a0 (al (u2 s2))) t4))) (by kernel_rfl)
theorem spFS2_ok(n:NetD)(q:SigD)(l v0:List Bool)(v1:Nat)(v2:Int)(v3:Nat)(v4:Int)(o:spFPc⊕Ret)(h:spFS2 n q l v0 v1 v2 v3 v4=some o):Arr Try.prog Try.f81 1 (spFSt n q l) spFHd (headC Try.f81 2) (.rnd (headC Try.f81 2)::headK Try.f81 2) (spFSt n q l (.l2 v0 v1 v2 v3 v4)) o:=
 Scr.ok h mix (
 .rn 0 [] [] [] [] (al (al t3)) <|
 .br (fun a0=>
 .lp [77] [] [] [] [] [0,1,2] [3,5,9,11,32,33,36,37,41,42] (aj (aj a0 (aj (u2 s2) (al (u2 (u2 t2))))) (u2 (ak (k3 t9)))))
 (fun a0=>
 .lp [76] [] [] [] [] [0,1,2] [3,5,9,32,33] (aj (aj a0 (al (u2 s2))) (u2 t8)))) (by kernel_rfl)
theorem spFS3_ok(n:NetD)(q:SigD)(l v0:List Bool)(v1:Int)(v2:Nat)(v3:Int)(v4 v5:Nat)(v6:Int)(o:spFPc⊕Ret)(h:spFS3 n q l v0 v1 v2 v3 v4 v5 v6=some o):Arr Try.prog Try.f81 1 (spFSt n q l) spFHd (headC Try.f81 3) (.rnd (headC Try.f81 3)::headK Try.f81 3) (spFSt n q l (.l3 v0 v1 v2 v3 v4 v5 v6)) o:=
 Scr.ok h mix (
 .rn 0 [] [] [] [] (al (al t3)) <|
 .br (fun a0=>
 .rn 0 [87] [] [] [] (aj a0 (al (u2 s2))) <|
 .gu fun a1=>
 .gu fun a2=>
 .el fun x48 a3=>
 .br (fun a4=>
  .gu fun a5=>
  .el fun x53 a6=>
  .br (fun a7=>
  .gu fun a8=>
  .gu fun a9=>
  .gu fun a10=>
  have c0:=lk1_c n v1 v6 a8 a9 a10;
  .rn 0 [99,115] [(48,AV.bool x48),(53,AV.bool x53)] [(61,hK c0 [0] [])] [] (al (u2 (u2 (aj (k2 (aj a1 a2)) (aj (ak (getMap (f:=AV.bool) a3)) (u2 (ag a4 (ag a4 (ag a4 (aj (aj a4 (k2 (aj a5 (getMap (f:=AV.bool) a6)))) (ag a4 (ag a4 (ag a4 (u2 (ag a7 (ag a7 (ag a7 (aj (aj a7 (k2 (k5 (al (c0))))) (al (aj a7 t2)))))))))))))))))))) <|
  .br (fun a11=>
   .gu fun a12=>
   .gu fun a13=>
   .lq [99,115,125] [] [] [] [] [0,1,2] [3,5,9,11,32,33,36,37,41,42] (up [(9,AV.sl 2 0 v0.length)] [(2,(List.map AV.bool v0).set (0+v1.toNat) (AV.bool true))] (spFSt n q l (.l3 (v0.set (0+v1.toNat) true) v1 v2 v3 v4 v5 (IntKind.i64.wrap (v6+1))))) (aj (aj a11 (aj (u2 (u2 (aj (k2 (aj a5 a12)) (al (ak a13))))) (al (u2 s2)))) (u2 (ak (k3 t9)))) (by simp[up,upF,upV,upH,upB,spFSt,gL,boL,lI,sA,bA]))
  (fun a11=>
   .lp [99,115,124] [] [] [] [] [0,1,2] [3,5,9,11,32,33,36,37,41,42] (aj (aj a11 (al (u2 s2))) (u2 (ak (k3 t9))))))
  (fun a7=>
  .lp [99,114] [(48,AV.bool x48),(53,AV.bool x53)] [] [] [] [0,1,2] [3,5,9,11,32,33,36,37,41,42] (aj (aj (u2 (u2 (aj (k2 (aj a1 a2)) (aj (ak (getMap (f:=AV.bool) a3)) (u2 (ag a4 (ag a4 (ag a4 (aj (aj a4 (k2 (aj a5 (getMap (f:=AV.bool) a6)))) (ag a4 (ag a4 (ag a4 (u2 (aj a7 (aj a7 (aj a7 (aj a7 (al (aj a7 t2))))))))))))))))))) (ak (al (u2 s2)))) (u2 (ak (k3 t9))))))
 (fun a4=>
  .lp [98] [(48,AV.bool x48)] [] [] [] [0,1,2] [3,5,9,11,32,33,36,37,41,42] (aj (aj (u2 (u2 (aj (k2 (aj a1 a2)) (aj (ak (getMap (f:=AV.bool) a3)) (u2 (aj a4 (aj a4 (aj a4 (aj a4 (aj a4 (aj a4 (ag a4 (u2 (ak (k3 (al t3)))))))))))))))) (ak (al (u2 s2)))) (u2 (ak (k3 t9))))))
 (fun a0=>
 .lp [86] [] [] [] [] [0,1,2] [3,5,9,32,33,36,37] (aj (aj a0 (al (u2 s2))) (u2 (ak t9))))) (by kernel_rfl)
theorem spF_ct(n:NetD)(q:SigD)(l:List Bool)(r:Ret)(h:MReach (spFStep n q l) (spFEn n q l) r):CT Try.prog 81 ([some (Blk.mk [netA n] 8 true true none)]) ([netA n,sgA q,.lst (boL l),.fn 82 [.ptr 0 0 0]]) r.1 r.2:=
 CT.mach (fn:=Try.f81) (c:=zB Try.f81) (S:=spFSt n q l) (hd:=spFHd) Try.func81 (by kernel_rfl) (Nat.le_of_ble_eq_true rfl)
  (fun s o ho=>match s,ho with
   | .l0 v0 v1,ho=>spFS0_ok n q l v0 v1 o ho
   | .l1 v0 v1 v2,ho=>spFS1_ok n q l v0 v1 v2 o ho
   | .l2 v0 v1 v2 v3 v4,ho=>spFS2_ok n q l v0 v1 v2 v3 v4 o ho
   | .l3 v0 v1 v2 v3 v4 v5 v6,ho=>spFS3_ok n q l v0 v1 v2 v3 v4 v5 v6 o ho
  )
  (fun o ho=>spFEn_ok n q l o ho) h
inductive spBPc where
 | l0 (v0:List Bool) (v1:Int)
 | l1 (v0:List Bool) (v1:Nat) (v2:Int)
 | l2 (v0:List Bool) (v1:Nat) (v2:Int) (v3:Nat) (v4:Int)
 | l3 (v0:List Bool) (v1:Int) (v2:Nat) (v3:Int) (v4 v5:Nat) (v6:Int)
def spBSt(n:NetD)(q:SigD)(l:List Bool):spBPc→St
 | .l0 v0 v1=>St.mk 70 [(2,AV.lst (boL l)),(3,AV.fn 83 [AV.ptr 0 0 0]),(5,AV.ptr 1 0 0),(9,AV.sl 2 0 v0.length),(18,iv (iN (List.map bA n.bs).length)),(19,iv v1)] [some (Blk.mk [netA n] 8 true true none),some (Blk.mk [AV.agg [AV.lst (boL q.cl),AV.lst (List.map (iv) q.bw),AV.lst (List.map (iv) q.pe)]] 3 true true none),some (Blk.mk (List.map AV.bool v0) 1 true true none)]
 | .l1 v0 v1 v2=>St.mk 70 [(3,AV.fn 83 [AV.ptr 0 0 0]),(5,AV.ptr 1 0 0),(9,AV.sl 2 0 v0.length),(32,iv (iN v1)),(33,iv v2)] [some (Blk.mk [netA n] 8 true true none),some (Blk.mk [AV.agg [AV.lst (boL q.cl),AV.lst (List.map (iv) q.bw),AV.lst (List.map (iv) q.pe)]] 3 true true none),some (Blk.mk (List.map AV.bool v0) 1 true true none)]
 | .l2 v0 v1 v2 v3 v4=>St.mk 70 [(3,AV.fn 83 [AV.ptr 0 0 0]),(5,AV.ptr 1 0 0),(9,AV.sl 2 0 v0.length),(32,iv (iN v1)),(33,iv v2),(36,iv (iN v3)),(37,iv v4)] [some (Blk.mk [netA n] 8 true true none),some (Blk.mk [AV.agg [AV.lst (boL q.cl),AV.lst (List.map (iv) q.bw),AV.lst (List.map (iv) q.pe)]] 3 true true none),some (Blk.mk (List.map AV.bool v0) 1 true true none)]
 | .l3 v0 v1 v2 v3 v4 v5 v6=>St.mk 70 [(3,AV.fn 83 [AV.ptr 0 0 0]),(5,AV.ptr 1 0 0),(9,AV.sl 2 0 v0.length),(11,iv v1),(32,iv (iN v2)),(33,iv v3),(36,iv (iN v4)),(37,iv v1),(41,iv (iN v5)),(42,iv v6)] [some (Blk.mk [netA n] 8 true true none),some (Blk.mk [AV.agg [AV.lst (boL q.cl),AV.lst (List.map (iv) q.bw),AV.lst (List.map (iv) q.pe)]] 3 true true none),some (Blk.mk (List.map AV.bool v0) 1 true true none)]
def spBHd:spBPc→Nat
 | .l0 _ _=>0
 | .l1 _ _ _=>1
 | .l2 _ _ _ _ _=>2
 | .l3 _ _ _ _ _ _ _=>3
def spBEn(n:NetD)(q:SigD)(l:List Bool):Option (spBPc⊕Ret):=
 gu (1 * iN (List.map bA n.bs).length≤281474976710656) <|
 gu (iN (List.map bA n.bs).length≤9223372036854775807) <|
 some (.inl (.l0 (List.replicate (List.map bA n.bs).length false) ((0:Int))))
def spBS0(n:NetD)(q:SigD)(l v0:List Bool)(v1:Int):Option (spBPc⊕Ret):=
 br (decide (v1<iN (List.map bA n.bs).length))
 (gu (0≤v1) <|
  el l (v1.toNat) fun(x26:Bool)=>
  gu (v1<iN v0.length) <|
  gu ((0+v1.toNat).succ.le (List.map AV.bool v0).length) <|
  some (.inl (.l0 (v0.set (0+v1.toNat) !x26) (IntKind.i64.wrap (v1+1)))))
 (some (.inl (.l1 v0 (v0.length) ((0:Int)))))
def spBS1(n:NetD)(q:SigD)(l v0:List Bool)(v1:Nat)(v2:Int):Option (spBPc⊕Ret):=
 br (decide (v2<iN v1))
 (some (.inl (.l2 v0 v1 v2 (v0.length) ((0:Int)))))
 (some (.inr ([some (Blk.mk [AV.agg [AV.lst (List.map bA n.bs),AV.lst (gL n.nx),AV.lst (List.map sA n.ss),AV.lst (List.map (AV.int IntKind.i64) n.rs),AV.int IntKind.i64 n.q,AV.int IntKind.i64 n.a,AV.int IntKind.i64 n.d,AV.int IntKind.i64 n.p]] 8 true true none),some (Blk.mk (List.map AV.bool v0) 1 true true none)],AV.sl 1 0 v0.length)))
def spBS2(n:NetD)(q:SigD)(l v0:List Bool)(v1:Nat)(v2:Int)(v3:Nat)(v4:Int):Option (spBPc⊕Ret):=
 br (decide (v4<iN v3))
 (some (.inl (.l3 v0 v4 v1 v2 v3 (v0.length) ((0:Int)))))
 (some (.inl (.l1 v0 v1 (IntKind.i64.wrap (v2+1)))))
def spBS3(n:NetD)(q:SigD)(l v0:List Bool)(v1:Int)(v2:Nat)(v3:Int)(v4 v5:Nat)(v6:Int):Option (spBPc⊕Ret):=
 br (decide (v6<iN v5))
 (gu (0≤v6) <|
  gu (v6<iN v0.length) <|
  el v0 (0+v6.toNat) fun(x48:Bool)=>
  br x48
  (gu (0≤v1) <|
   el (q.cl) (v1.toNat) fun(x53:Bool)=>
   br (!x53)
   (gu (ValidN n) <|
    gu (Rows n.nx) <|
    gu (0≤v6∧v6<iN n.bs.length) <|
    br (hasZ (n.nx.getD v6.toNat []) v1)
    (gu (v1<iN v0.length) <|
     gu ((0+v1.toNat).succ.le (List.map AV.bool v0).length) <|
     some (.inl (.l3 (v0.set (0+v1.toNat) true) v1 v2 v3 v4 v5 (IntKind.i64.wrap (v6+1)))))
    (some (.inl (.l3 v0 v1 v2 v3 v4 v5 (IntKind.i64.wrap (v6+1))))))
   (some (.inl (.l3 v0 v1 v2 v3 v4 v5 (IntKind.i64.wrap (v6+1))))))
  (some (.inl (.l3 v0 v1 v2 v3 v4 v5 (IntKind.i64.wrap (v6+1))))))
 (some (.inl (.l2 v0 v2 v3 v4 (IntKind.i64.wrap (v1+1)))))
def spBStep(n:NetD)(q:SigD)(l:List Bool):spBPc→Option (spBPc⊕Ret)
 | .l0 v0 v1=>spBS0 n q l v0 v1
 | .l1 v0 v1 v2=>spBS1 n q l v0 v1 v2
 | .l2 v0 v1 v2 v3 v4=>spBS2 n q l v0 v1 v2 v3 v4
 | .l3 v0 v1 v2 v3 v4 v5 v6=>spBS3 n q l v0 v1 v2 v3 v4 v5 v6
theorem spBEn_ok(n:NetD)(q:SigD)(l:List Bool)(o:spBPc⊕Ret)(h:spBEn n q l=some o):Arr Try.prog Try.f81 1 (spBSt n q l) spBHd (zB Try.f81) [] {n:=Try.f81.ntmps,fr:=enumF 0 ([netA n,sgA q,.lst (boL l),.fn 83 [.ptr 0 0 0]]),hp:=([some (Blk.mk [netA n] 8 true true none)])} o:=
 Scr.ok h mix (
 .rn 0 [] [] [] [] (al (u2 (u2 t2))) <|
 .gu fun a0=>
 .gu fun a1=>
 .lq [] [] [] [] [] [0,2,3] [2,3,5,9,18,19] (up [(9,AV.sl 2 0 (List.map bA n.bs).length)] [(2,List.replicate (List.map bA n.bs).length (AV.bool false))] (spBSt n q l (.l0 (List.replicate (List.map bA n.bs).length false) ((0:Int))))) (aj (aj (u2 (u2 (u2 (aj (k2 (aj (show 0≤iN (List.map bA n.bs).length from(Int.natCast_nonneg _)) (aj (show iN (List.map bA n.bs).length≤iN (List.map bA n.bs).length by omega) (aj a0 a1)))) s2)))) (al (u2 (u2 t2)))) (ak (u2 t8))) (by simp[up,upF,upV,upH,upB,spBSt,gL,boL,lI,sA,bA])) (by kernel_rfl)
theorem spBS0_ok(n:NetD)(q:SigD)(l v0:List Bool)(v1:Int)(o:spBPc⊕Ret)(h:spBS0 n q l v0 v1=some o):Arr Try.prog Try.f81 1 (spBSt n q l) spBHd (headC Try.f81 0) (.rnd (headC Try.f81 0)::headK Try.f81 0) (spBSt n q l (.l0 v0 v1)) o:=
 Scr.ok h mix (
 .rn 0 [] [] [] [] (al (al t3)) <|
 .br (fun a0=>
 .rn 0 [41] [] [] [] (aj a0 (al (u2 s2))) <|
 .gu fun a1=>
 .el fun x26 a2=>
 .gu fun a3=>
 .gu fun a4=>
 .lq [] [(26,AV.bool x26)] [] [] [] [0,1,2] [2,3,5,9,18,19] (up [(9,AV.sl 2 0 v0.length)] [(2,(List.map AV.bool v0).set (0+v1.toNat) (AV.bool !x26))] (spBSt n q l (.l0 (v0.set (0+v1.toNat) !x26) (IntKind.i64.wrap (v1+1))))) (aj (aj (u2 (u2 (u2 (u2 (aj (k2 (aj a1 (getMap (f:=AV.bool) a2))) (u2 (u2 (aj (k2 (aj a1 a3)) (al (k2 a4)))))))))) (al (u2 s2))) (ak (u2 t8))) (by simp[up,upF,upV,upH,upB,spBSt,gL,boL,lI,sA,bA]))
 (fun a0=>
 .lp [40] [] [] [] [] [0,1,2] [3,5,9,32,33] (aj (aj a0 (al (u2 (u2 t2)))) (u2 t8)))) (by kernel_rfl)
theorem spBS1_ok(n:NetD)(q:SigD)(l v0:List Bool)(v1:Nat)(v2:Int)(o:spBPc⊕Ret)(h:spBS1 n q l v0 v1 v2=some o):Arr Try.prog Try.f81 1 (spBSt n q l) spBHd (headC Try.f81 1) (.rnd (headC Try.f81 1)::headK Try.f81 1) (spBSt n q l (.l1 v0 v1 v2)) o:=
 Scr.ok h mix (
 .rn 0 [] [] [] [] (al (al t3)) <|
 .br (fun a0=>
 .lp [69] [] [] [] [] [0,1,2] [3,5,9,32,33,36,37] (aj (aj a0 (al (u2 (u2 t2)))) (u2 (ak t9))))
 (fun a0=>
 .rt [68] [] [] [] [0,2] [] (aj (aj a0 (al (u2 s2))) t4))) (by kernel_rfl)
theorem spBS2_ok(n:NetD)(q:SigD)(l v0:List Bool)(v1:Nat)(v2:Int)(v3:Nat)(v4:Int)(o:spBPc⊕Ret)(h:spBS2 n q l v0 v1 v2 v3 v4=some o):Arr Try.prog Try.f81 1 (spBSt n q l) spBHd (headC Try.f81 2) (.rnd (headC Try.f81 2)::headK Try.f81 2) (spBSt n q l (.l2 v0 v1 v2 v3 v4)) o:=
 Scr.ok h mix (
 .rn 0 [] [] [] [] (al (al t3)) <|
 .br (fun a0=>
 .lp [77] [] [] [] [] [0,1,2] [3,5,9,11,32,33,36,37,41,42] (aj (aj a0 (aj (u2 s2) (al (u2 (u2 t2))))) (u2 (ak (k3 t9)))))
 (fun a0=>
 .lp [76] [] [] [] [] [0,1,2] [3,5,9,32,33] (aj (aj a0 (al (u2 s2))) (u2 t8)))) (by kernel_rfl)
theorem spBS3_ok(n:NetD)(q:SigD)(l v0:List Bool)(v1:Int)(v2:Nat)(v3:Int)(v4 v5:Nat)(v6:Int)(o:spBPc⊕Ret)(h:spBS3 n q l v0 v1 v2 v3 v4 v5 v6=some o):Arr Try.prog Try.f81 1 (spBSt n q l) spBHd (headC Try.f81 3) (.rnd (headC Try.f81 3)::headK Try.f81 3) (spBSt n q l (.l3 v0 v1 v2 v3 v4 v5 v6)) o:=
 Scr.ok h mix (
 .rn 0 [] [] [] [] (al (al t3)) <|
 .br (fun a0=>
 .rn 0 [87] [] [] [] (aj a0 (al (u2 s2))) <|
 .gu fun a1=>
 .gu fun a2=>
 .el fun x48 a3=>
 .br (fun a4=>
  .gu fun a5=>
  .el fun x53 a6=>
  .br (fun a7=>
  .gu fun a8=>
  .gu fun a9=>
  .gu fun a10=>
  have c0:=lk2_c n v1 v6 a8 a9 a10;
  .rn 0 [99,115] [(48,AV.bool x48),(53,AV.bool x53)] [(61,hK c0 [0] [])] [] (al (u2 (u2 (aj (k2 (aj a1 a2)) (aj (ak (getMap (f:=AV.bool) a3)) (u2 (ag a4 (ag a4 (ag a4 (aj (aj a4 (k2 (aj a5 (getMap (f:=AV.bool) a6)))) (ag a4 (ag a4 (ag a4 (u2 (ag a7 (ag a7 (ag a7 (aj (aj a7 (k2 (k5 (al (c0))))) (al (aj a7 t2)))))))))))))))))))) <|
  .br (fun a11=>
   .gu fun a12=>
   .gu fun a13=>
   .lq [99,115,125] [] [] [] [] [0,1,2] [3,5,9,11,32,33,36,37,41,42] (up [(9,AV.sl 2 0 v0.length)] [(2,(List.map AV.bool v0).set (0+v1.toNat) (AV.bool true))] (spBSt n q l (.l3 (v0.set (0+v1.toNat) true) v1 v2 v3 v4 v5 (IntKind.i64.wrap (v6+1))))) (aj (aj a11 (aj (u2 (u2 (aj (k2 (aj a5 a12)) (al (ak a13))))) (al (u2 s2)))) (u2 (ak (k3 t9)))) (by simp[up,upF,upV,upH,upB,spBSt,gL,boL,lI,sA,bA]))
  (fun a11=>
   .lp [99,115,124] [] [] [] [] [0,1,2] [3,5,9,11,32,33,36,37,41,42] (aj (aj a11 (al (u2 s2))) (u2 (ak (k3 t9))))))
  (fun a7=>
  .lp [99,114] [(48,AV.bool x48),(53,AV.bool x53)] [] [] [] [0,1,2] [3,5,9,11,32,33,36,37,41,42] (aj (aj (u2 (u2 (aj (k2 (aj a1 a2)) (aj (ak (getMap (f:=AV.bool) a3)) (u2 (ag a4 (ag a4 (ag a4 (aj (aj a4 (k2 (aj a5 (getMap (f:=AV.bool) a6)))) (ag a4 (ag a4 (ag a4 (u2 (aj a7 (aj a7 (aj a7 (aj a7 (al (aj a7 t2))))))))))))))))))) (ak (al (u2 s2)))) (u2 (ak (k3 t9))))))
 (fun a4=>
  .lp [98] [(48,AV.bool x48)] [] [] [] [0,1,2] [3,5,9,11,32,33,36,37,41,42] (aj (aj (u2 (u2 (aj (k2 (aj a1 a2)) (aj (ak (getMap (f:=AV.bool) a3)) (u2 (aj a4 (aj a4 (aj a4 (aj a4 (aj a4 (aj a4 (ag a4 (u2 (ak (k3 (al t3)))))))))))))))) (ak (al (u2 s2)))) (u2 (ak (k3 t9))))))
 (fun a0=>
 .lp [86] [] [] [] [] [0,1,2] [3,5,9,32,33,36,37] (aj (aj a0 (al (u2 s2))) (u2 (ak t9))))) (by kernel_rfl)
theorem spB_ct(n:NetD)(q:SigD)(l:List Bool)(r:Ret)(h:MReach (spBStep n q l) (spBEn n q l) r):CT Try.prog 81 ([some (Blk.mk [netA n] 8 true true none)]) ([netA n,sgA q,.lst (boL l),.fn 83 [.ptr 0 0 0]]) r.1 r.2:=
 CT.mach (fn:=Try.f81) (c:=zB Try.f81) (S:=spBSt n q l) (hd:=spBHd) Try.func81 (by kernel_rfl) (Nat.le_of_ble_eq_true rfl)
  (fun s o ho=>match s,ho with
   | .l0 v0 v1,ho=>spBS0_ok n q l v0 v1 o ho
   | .l1 v0 v1 v2,ho=>spBS1_ok n q l v0 v1 v2 o ho
   | .l2 v0 v1 v2 v3 v4,ho=>spBS2_ok n q l v0 v1 v2 v3 v4 o ho
   | .l3 v0 v1 v2 v3 v4 v5 v6,ho=>spBS3_ok n q l v0 v1 v2 v3 v4 v5 v6 o ho
  )
  (fun o ho=>spBEn_ok n q l o ho) h
def rd1St(l:List Int)(c:Int):Empty→St
 | x=>x.elim
def rd1Hd:Empty→Nat
 | x=>x.elim
def rd1En(l:List Int)(c:Int):Option (Empty⊕Ret):=
 gu (l.length≤9000000000000000000) <|
 some (.inr ([some (Blk.mk [AV.int IntKind.i64 c] 1 true true none)],AV.bool (hasZ l c)))
def rd1Step(l:List Int)(c:Int):Empty→Option (Empty⊕Ret)
 | x=>x.elim
theorem rd1En_ok(l:List Int)(c:Int)(o:Empty⊕Ret)(h:rd1En l c=some o):Arr Try.prog Try.f53 1 (rd1St l c) rd1Hd (zB Try.f53) [] {n:=Try.f53.ntmps,fr:=enumF 0 ([lI l,.ptr 0 0 0]),hp:=([some (Blk.mk [.int .i64 c] 1 true true none)])} o:=
 Scr.ok h mix (
 .rn 0 [] [] [] [] s2 <|
 .gu fun a0=>
 have c0:=con_c l c a0;
 .rt [] [] [(6,hK c0 [] [])] [] [0] [] (aj (al (u2 (u2 (aj (ak (k3 (al (c0)))) s2)))) t3)) (by kernel_rfl)
theorem rd1_ct(l:List Int)(c:Int)(r:Ret)(h:MReach (rd1Step l c) (rd1En l c) r):CT Try.prog 53 ([some (Blk.mk [.int .i64 c] 1 true true none)]) ([lI l,.ptr 0 0 0]) r.1 r.2:=
 CT.mach (fn:=Try.f53) (c:=zB Try.f53) (S:=rd1St l c) (hd:=rd1Hd) Try.func53 (by kernel_rfl) (Nat.le_of_ble_eq_true rfl)
  (fun s o ho=>match s,ho with
   | x,_=>x.elim)
  (fun o ho=>rd1En_ok l c o ho) h
def ownSt(q:LokD)(c d:Int):Empty→St
 | x=>x.elim
def ownHd:Empty→Nat
 | x=>x.elim
def ownEn(q:LokD)(c d:Int):Option (Empty⊕Ret):=
 br (k9E q c d != 0)
 (some (.inr ([],AV.tup [AV.agg [AV.nils,AV.nils],AV.int IntKind.i64 (k9E q c d)])))
 (gu (0≤d) <|
  el (q.ow) (d.toNat) fun(x20:Int)=>
  br (x20 != -1)
  (some (.inr ([],AV.tup [AV.agg [AV.nils,AV.nils],AV.int IntKind.i64 24])))
  (el (q.qu) (d.toNat) fun(x27:List Int)=>
   gu (x27.length≤9000000000000000000) <|
   br (hasZ x27 c)
   (some (.inr ([],AV.tup [AV.agg [AV.nils,AV.nils],AV.int IntKind.i64 24])))
   (gu (q.ow.length≤1000) <|
    gu (q.qu.length≤1000) <|
    gu (∀(r:List Int),r∈q.qu→r.length≤1000) <|
    gu (d<iN q.ow.length) <|
    gu ((0+d.toNat).succ.le (List.map (AV.int IntKind.i64) q.ow).length) <|
    gu (q.qu.length=(gL q.qu).length) <|
    some (.inr ([],AV.tup [AV.agg [AV.lst ((List.map (AV.int IntKind.i64) q.ow).set (0+d.toNat) (AV.int IntKind.i64 c)),AV.lst (gL q.qu)],AV.int IntKind.i64 0])))))
def ownStep(q:LokD)(c d:Int):Empty→Option (Empty⊕Ret)
 | x=>x.elim
theorem ownEn_ok(q:LokD)(c d:Int)(o:Empty⊕Ret)(h:ownEn q c d=some o):Arr Try.prog Try.f19 0 (ownSt q c d) ownHd (zB Try.f19) [] {n:=Try.f19.ntmps,fr:=enumF 0 ([lkA q,.int .i64 c,.int .i64 d]),hp:=([])} o:=
 Scr.ok h mix (
 have c0:=k19_c (q.ow) (q.qu) c (d);
 .rn 2 [] [] [(12,hK c0 [] [])] [] (aj (u2 t3) (aj (u2 (u2 (u2 (aj (k3 (aj t3 (k2 (al (c0))))) s2)))) (al (u2 s2)))) <|
 .br (fun a0=>
 .rt [29] [] [] [] [] [] (aj (aj a0 (al (ak (u2 (aj (k2 n11) s2))))) (al (aj t3 t2))))
 (fun a0=>
 .gu fun a1=>
 .el fun x20 a2=>
 .br (fun a3=>
  .rt [28,47] [(20,iv x20)] [] [] [] [] (aj (aj a0 (aj (u2 (u2 (u2 (aj (k2 (aj a1 (getMap (f:=iv) a2))) (u2 (u2 (u2 (aj a3 (aj a3 (aj a3 (aj a3 (aj a3 (aj a3 (aj a3 (al (aj a3 t2)))))))))))))))) (ak (al (ak (aj (k2 n11) t2)))))) (al (aj t3 t2))))
 (fun a3=>
  .el fun x27 a4=>
  .gu fun a5=>
  have c1:=has_ct x27 c a5;
  .rn 0 [28,46] [(20,iv x20),(27,lI x27)] [(30,hK c1 [] [])] [] (aj a0 (al (u2 (u2 (u2 (aj (k2 (aj a1 (getMap (f:=iv) a2))) (u2 (u2 (u2 (ag a3 (ag a3 (ag a3 (aj (aj a3 (k2 (aj a1 (getMap (f:=lI) a4)))) (ag a3 (ag a3 (aj (aj a3 (ak (k3 (al (c1))))) (al (aj a3 t2)))))))))))))))))) <|
  .br (fun a6=>
  .rt [46,63] [] [] [] [] [] (aj (aj a6 (al (ak (aj (k2 n11) t2)))) (al (aj t3 t2))))
  (fun a6=>
  .gu fun a7=>
  .gu fun a8=>
  .gu fun a9=>
  have c2:=c19_c (q.ow) (q.qu) a7 a8 a9;
  .rn 0 [46,62] [] [(34,hK c2 [] [])] [] (aj a6 (al (u2 (aj (ak (aj t3 (al (c2)))) (al (k2 (show Nat.le 1 [AV.agg [AV.lst (List.map (iv) q.ow),AV.lst (gL q.qu)]].length from(Nat.le_of_ble_eq_true rfl)))))))) <|
  .gu fun a10=>
  .gu fun a11=>
  .rn 1 [46] [] [] [] (aj (u2 (u2 (u2 (u2 (aj (k2 (aj a1 a10)) (al (k2 a11))))))) (al (u2 (aj (k2 n11) t2)))) <|
  .gu fun a12=>
  .rt [46] [] [] [] [] [2,3] (ak (al (aj (aj (show q.ow.length=((List.map (iv) q.ow).set (0+d.toNat) (iv c)).length by simp) (al a12)) t2))))))) (by kernel_rfl)
theorem own_ct(q:LokD)(c d:Int)(r:Ret)(h:MReach (ownStep q c d) (ownEn q c d) r):CT Try.prog 19 ([]) ([lkA q,.int .i64 c,.int .i64 d]) r.1 r.2:=
 CT.mach (fn:=Try.f19) (c:=zB Try.f19) (S:=ownSt q c d) (hd:=ownHd) Try.func19 (by kernel_rfl) (Nat.le_of_ble_eq_true rfl)
  (fun s o ho=>match s,ho with
   | x,_=>x.elim)
  (fun o ho=>ownEn_ok q c d o ho) h
def relSt(q:LokD)(c:Int):Empty→St
 | x=>x.elim
def relHd:Empty→Nat
 | x=>x.elim
def relEn(q:LokD)(c:Int):Option (Empty⊕Ret):=
 br (k9E q 0 c != 0)
 (some (.inr ([],AV.tup [AV.agg [AV.nils,AV.nils],AV.int IntKind.i64 (k9E q 0 c)])))
 (gu (0≤c) <|
  el (q.ow) (c.toNat) fun(x17:Int)=>
  br (x17 == -1)
  (some (.inr ([],AV.tup [AV.agg [AV.nils,AV.nils],AV.int IntKind.i64 24])))
  (gu (q.ow.length≤1000) <|
   gu (q.qu.length≤1000) <|
   gu (∀(r:List Int),r∈q.qu→r.length≤1000) <|
   gu (c<iN q.ow.length) <|
   gu ((0+c.toNat).succ.le (List.map (AV.int IntKind.i64) q.ow).length) <|
   gu (q.qu.length=(gL q.qu).length) <|
   some (.inr ([],AV.tup [AV.agg [AV.lst ((List.map (AV.int IntKind.i64) q.ow).set (0+c.toNat) (AV.int IntKind.i64 (-1))),AV.lst (gL q.qu)],AV.int IntKind.i64 0]))))
def relStep(q:LokD)(c:Int):Empty→Option (Empty⊕Ret)
 | x=>x.elim
theorem relEn_ok(q:LokD)(c:Int)(o:Empty⊕Ret)(h:relEn q c=some o):Arr Try.prog Try.f42 0 (relSt q c) relHd (zB Try.f42) [] {n:=Try.f42.ntmps,fr:=enumF 0 ([lkA q,.int .i64 c]),hp:=([])} o:=
 Scr.ok h mix (
 have c0:=k19_c (q.ow) (q.qu) (0) (c);
 .rn 2 [] [] [(9,hK c0 [] [])] [] (aj (u2 t3) (aj (u2 (u2 (aj (k2 (aj t3 (k2 (al (c0))))) s2))) (al (u2 s2)))) <|
 .br (fun a0=>
 .rt [23] [] [] [] [] [] (aj (aj a0 (al (ak (u2 (aj (k2 n11) s2))))) (al (aj t3 t2))))
 (fun a0=>
 .gu fun a1=>
 .el fun x17 a2=>
 .rn 0 [22] [(17,iv x17)] [] [] (aj a0 (al (u2 (u2 (u2 (aj (k2 (aj a1 (getMap (f:=iv) a2))) (u2 s2))))))) <|
 .br (fun a3=>
  .rt [39] [] [] [] [] [] (aj (aj a3 (al (ak (aj (k2 n11) t2)))) (al (aj t3 t2))))
 (fun a3=>
  .gu fun a4=>
  .gu fun a5=>
  .gu fun a6=>
  have c1:=c19_c (q.ow) (q.qu) a4 a5 a6;
  .rn 0 [38] [] [(22,hK c1 [] [])] [] (aj a3 (al (u2 (aj (ak (aj t3 (al (c1)))) (al (k2 (show Nat.le 1 [AV.agg [AV.lst (List.map (iv) q.ow),AV.lst (gL q.qu)]].length from(Nat.le_of_ble_eq_true rfl)))))))) <|
  .gu fun a7=>
  .gu fun a8=>
  .rn 1 [] [] [] [] (aj (u2 (u2 (u2 (aj (k2 (aj a1 a7)) (al (ak a8)))))) (al (u2 (aj (k2 n11) t2)))) <|
  .gu fun a9=>
  .rt [] [] [] [] [] [2,3] (ak (al (aj (aj (show q.ow.length=((List.map (iv) q.ow).set (0+c.toNat) (iv (-1))).length by simp) (al a9)) t2)))))) (by kernel_rfl)
theorem rel_ct(q:LokD)(c:Int)(r:Ret)(h:MReach (relStep q c) (relEn q c) r):CT Try.prog 42 ([]) ([lkA q,.int .i64 c]) r.1 r.2:=
 CT.mach (fn:=Try.f42) (c:=zB Try.f42) (S:=relSt q c) (hd:=relHd) Try.func42 (by kernel_rfl) (Nat.le_of_ble_eq_true rfl)
  (fun s o ho=>match s,ho with
   | x,_=>x.elim)
  (fun o ho=>relEn_ok q c o ho) h
theorem scE_eq{n:NetD}{s:SigD}{c:Int}:scE n s c=0↔sigB n s=true∧0≤c∧c<(s.cl.length:Int):=by
 unfold scE
 cases sigB n s with
 | false=>simp
 | true=>
  rw[if_pos rfl]
  split
  ·simp;omega
  ·simp;omega
theorem ann_c{n:NetD}(cl:List Bool)(bw pe:List Int)(x:Int)(hrw:Rows n.nx):CT Try.prog 16 [] [netA n,sgA ⟨cl,bw,pe⟩,.int .i64 x] [] (.tup [sgA (anO n ⟨cl,bw,pe⟩ x),.int .i64 (anE n ⟨cl,bw,pe⟩ x)]):=by
 generalize hs:(⟨cl,bw,pe⟩:SigD)=s
 have k:=ann_ct n s x
 unfold annEn at k
 rw[gu_t hrw] at k
 unfold anO
 have hbad:anE n s x≠0→(.tup [sgA (if anE n s x=0 then anS s x else ⟨[],[],[]⟩),.int .i64 (anE n s x)]:AV)=wk2 (.tup [.agg [.nils,.nils,.nils],.int .i64 (anE n s x)]):=fun h=>by rw[if_neg h];rfl
 by_cases h1:scE n s x=0
 case neg=>
  have e:anE n s x=scE n s x:=by
   unfold anE
   unfold scE at h1 ⊢
   cases h:sigB n s with
   | false=>rfl
   | true=>
    obtain⟨_,_,_,_,_,l4,_⟩:=sig_len h
    rw[h,if_pos rfl] at h1
    rw[if_pos rfl,if_pos rfl]
    split at h1
    ·rename_i h2;rw[if_neg (by omega),if_pos h2]
    ·exact absurd rfl h1
  rw[hbad (by rw[e];exact h1),e]
  exact CT.w2 (k ([],_) (.val (by rw[br_t (bne_iff_ne.2 h1)])))
 obtain⟨h,h0,hl⟩:=scE_eq.1 h1
 obtain⟨hv,hS,l1,l2,l3,l4,l5⟩:=sig_len h
 rw[h1,br_f (by rfl)] at k
 have hsl:=shtS_get hv hS x.toNat
 rw[Int.toNat_of_nonneg h0] at hsl
 by_cases h2:(n.bs.length:Int)≤x
 ·have e:anE n s x=19:=by unfold anE;rw[if_pos h,if_neg (by omega)]
  rw[hbad (by rw[e];decide),e]
  exact CT.w2 (k ([],_) (.val (by rw[br_t (dec_t (by rw[List.length_map];exact h2))])))
 rw[br_f (dec_f (by rw[List.length_map];exact h2)),gu_t h0,el_t (getE true (show x.toNat<s.cl.length by omega))] at k
 have eE:anE n s x=if (s.cl.getD x.toNat true||hasZ s.pe x)=true then 24 else 0:=by unfold anE;rw[if_pos h,if_pos ⟨h0,by omega⟩,hsl]
 cases hc:s.cl.getD x.toNat true with
 | true=>
  rw[hc] at k eE
  have e:anE n s x=24:=by rw[eE];rfl
  rw[hbad (by rw[e];decide),e]
  exact CT.w2 (k ([],_) (.val (by rw[br_t rfl])))
 | false=>
  rw[hc,br_f rfl,gu_t (by omega)] at k
  rw[hc,Bool.false_or] at eE
  cases hp:hasZ s.pe x with
  | true=>
   rw[hp] at k eE
   have e:anE n s x=24:=by rw[eE];rfl
   rw[hbad (by rw[e];decide),e]
   exact CT.w2 (k ([],_) (.val (by rw[br_t rfl])))
  | false=>
   rw[hp,br_f rfl,gu_t (by omega),gu_t (by omega),gu_t (by omega),gu_t (by simp only[List.length_map,List.length_cons,List.length_nil];omega),gu_t (by simp only[List.length_map,List.length_cons,List.length_nil];omega)] at k
   rw[hp] at eE
   have e:anE n s x=0:=by rw[eE];rfl
   rw[e,if_pos rfl]
   have e2:(.tup [sgA (anS s x),.int .i64 0]:AV) = .tup [.agg [.lst (boL s.cl),.lst (List.map (AV.int .i64) s.bw),.lst (List.map (AV.int .i64) s.pe++[.int .i64 x])],.int .i64 0]:=by
    unfold anS sgA lI
    rw[List.map_append];rfl
   rw[e2]
   exact k ([],_) (.ret _)
theorem lok_rows{l:LokD}(h:lokB l=true):∀r∈l.qu,r.length≤8:=fun r hr=>by
 unfold lokB at h
 simp only[Bool.and_eq_true,Option.isNone_iff_eq_none] at h
 obtain⟨c,hc,rfl⟩:=List.mem_iff_getElem.1 hr
 have hb:=fnd_none h.2.2 c (Nat.zero_le _) (by omega)
 unfold bdR at hb
 rw[Bool.or_eq_false_iff] at hb
 have e:l.qu.getD c []=l.qu[c]:=by rw[List.getD_eq_getElem?_getD,List.getElem?_eq_getElem hc];rfl
 rw[←e]
 refine row8 (Nat.le_refl _) fun j hj=>?_
 cases hf:fnd (bdQ l c) 0 (l.qu.getD c []).length with
 | none=>exact fnd_none hf j (Nat.zero_le _) (by omega)
 | some i=>rw[hf] at hb;cases hb.2
theorem k9E_ok{l:LokD}{c d:Int}(h:k9E l c d=0):lokB l=true∧(0≤c∧c<8)∧0≤d∧d<(l.ow.length:Int):=by
 unfold k9E at h
 split at h
 ·rename_i h1
  split at h
  ·rename_i h2;exact⟨h1,⟨h2.1,h2.2.1⟩,h2.2.2⟩
  ·cases h
 ·cases h
def owS(l:LokD)(r c:Int):LokD:=⟨l.ow.set c.toNat r,l.qu⟩
def owE(l:LokD)(r c:Int):Int:=if k9E l r c=0 then (if l.ow.getD c.toNat 0≠-1∨hasZ (l.qu.getD c.toNat []) r=true then 24 else 0) else k9E l r c
def owO(l:LokD)(r c:Int):LokD:=if owE l r c=0 then owS l r c else ⟨[],[]⟩
def reE(l:LokD)(c:Int):Int:=if k9E l 0 c=0 then (if l.ow.getD c.toNat 0 = -1 then 24 else 0) else k9E l 0 c
def reO(l:LokD)(c:Int):LokD:=if reE l c=0 then owS l (-1) c else ⟨[],[]⟩
theorem owS_av(l:LokD)(r c:Int):(.tup [lkA (owS l r c),.int .i64 0]:AV) = .tup [.agg [.lst ((List.map (AV.int .i64) l.ow).set (0+c.toNat) (.int .i64 r)),.lst (gL l.qu)],.int .i64 0]:=by
 unfold owS lkA lI
 simp only[Nat.zero_add]
 rw[List.map_set]
theorem own_c(ow:List Int)(qu:List (List Int))(r c:Int):CT Try.prog 19 [] [lkA ⟨ow,qu⟩,.int .i64 r,.int .i64 c] [] (.tup [lkA (owO ⟨ow,qu⟩ r c),.int .i64 (owE ⟨ow,qu⟩ r c)]):=by
 generalize hs:(⟨ow,qu⟩:LokD)=l
 have k:=own_ct l r c
 unfold ownEn at k
 unfold owO
 have hbad:owE l r c≠0→(.tup [lkA (if owE l r c=0 then owS l r c else ⟨[],[]⟩),.int .i64 (owE l r c)]:AV)=wk2 (.tup [.agg [.nils,.nils],.int .i64 (owE l r c)]):=fun h=>by rw[if_neg h];rfl
 by_cases h1:k9E l r c=0
 case neg=>
  have e:owE l r c=k9E l r c:=by unfold owE;rw[if_neg h1]
  rw[hbad (by rw[e];exact h1),e]
  exact CT.w2 (k ([],_) (.val (by rw[br_t (bne_iff_ne.2 h1)])))
 obtain⟨hb,hr,hc0,hc1⟩:=k9E_ok h1
 obtain⟨hlen,h48⟩:=lokB_len hb
 have hrows:=lok_rows hb
 have eE:owE l r c=if l.ow.getD c.toNat 0≠-1∨hasZ (l.qu.getD c.toNat []) r=true then 24 else 0:=by unfold owE;rw[if_pos h1]
 have hq:=getE ([]:List Int) (show c.toNat<l.qu.length by omega)
 have hql:=hrows _ (List.mem_of_getElem? hq)
 rw[h1,br_f (by rfl),gu_t hc0,el_t (getE 0 (show c.toNat<l.ow.length by omega))] at k
 by_cases h2:l.ow.getD c.toNat 0 = -1
 case neg=>
  have e:owE l r c=24:=by rw[eE,if_pos (.inl h2)]
  rw[hbad (by rw[e];decide),e]
  exact CT.w2 (k ([],_) (.val (by rw[br_t (bne_iff_ne.2 h2)])))
 rw[h2,br_f (by rfl),el_t hq,gu_t (by omega)] at k
 cases h3:hasZ (l.qu.getD c.toNat []) r with
 | true=>
  rw[h3] at k
  have e:owE l r c=24:=by rw[eE,if_pos (.inr h3)]
  rw[hbad (by rw[e];decide),e]
  exact CT.w2 (k ([],_) (.val (by rw[br_t rfl])))
 | false=>
  rw[h3,br_f rfl,gu_t (by omega),gu_t (by omega),gu_t (fun x hx=>by have:=hrows x hx;omega),gu_t hc1,gu_t (show Nat.le _ _ from(by rw[List.length_map];show 0+c.toNat+1≤_;omega)),gu_t (gL_len _).symm] at k
  have e:owE l r c=0:=by rw[eE,if_neg (by rw[h2,h3];simp)]
  rw[e,if_pos rfl,owS_av]
  exact k ([],_) (.ret _)
theorem rel_c(ow:List Int)(qu:List (List Int))(c:Int):CT Try.prog 42 [] [lkA ⟨ow,qu⟩,.int .i64 c] [] (.tup [lkA (reO ⟨ow,qu⟩ c),.int .i64 (reE ⟨ow,qu⟩ c)]):=by
 generalize hs:(⟨ow,qu⟩:LokD)=l
 have k:=rel_ct l c
 unfold relEn at k
 unfold reO
 have hbad:reE l c≠0→(.tup [lkA (if reE l c=0 then owS l (-1) c else ⟨[],[]⟩),.int .i64 (reE l c)]:AV)=wk2 (.tup [.agg [.nils,.nils],.int .i64 (reE l c)]):=fun h=>by rw[if_neg h];rfl
 by_cases h1:k9E l 0 c=0
 case neg=>
  have e:reE l c=k9E l 0 c:=by unfold reE;rw[if_neg h1]
  rw[hbad (by rw[e];exact h1),e]
  exact CT.w2 (k ([],_) (.val (by rw[br_t (bne_iff_ne.2 h1)])))
 obtain⟨hb,hr,hc0,hc1⟩:=k9E_ok h1
 obtain⟨hlen,h48⟩:=lokB_len hb
 have hrows:=lok_rows hb
 have eE:reE l c=if l.ow.getD c.toNat 0 = -1 then 24 else 0:=by unfold reE;rw[if_pos h1]
 rw[h1,br_f (by rfl),gu_t hc0,el_t (getE 0 (show c.toNat<l.ow.length by omega))] at k
 by_cases h2:l.ow.getD c.toNat 0 = -1
 ·have e:reE l c=24:=by rw[eE,if_pos h2]
  rw[hbad (by rw[e];decide),e]
  exact CT.w2 (k ([],_) (.val (by rw[br_t (beq_iff_eq.2 h2)])))
 ·rw[br_f (beq_eq_false_iff_ne.2 h2),gu_t (by omega),gu_t (by omega),gu_t (fun x hx=>by have:=hrows x hx;omega),gu_t hc1,gu_t (show Nat.le _ _ from(by rw[List.length_map];show 0+c.toNat+1≤_;omega)),gu_t (gL_len _).symm] at k
  have e:reE l c=0:=by rw[eE,if_neg h2]
  rw[e,if_pos rfl,owS_av]
  exact k ([],_) (.ret _)
theorem rd1_c(l:List Int)(c:Int)(hl:l.length≤9000000000000000000):CT Try.prog 53 [some (Blk.mk [.int .i64 c] 1 true true none)] [lI l,.ptr 0 0 0] [some (Blk.mk [.int .i64 c] 1 true true none)] (.bool (hasZ l c)):=by
 refine rd1_ct l c ([_],_) (.val ?_)
 unfold rd1En
 rw[gu_t hl]
def Opn(n:NetD)(s:SigD)(x:Nat):Prop:=x<n.bs.length∧(shtS s).getD x true=false
def clN(n:NetD)(s:SigD):List Bool:=s.cl.take n.bs.length
open Classical in
def soT(n:NetD)(s:SigD)(b:Nat):Bool:=decide (∃x,Opn n s x∧Rcv n.nx (clN n s) b x)
open Classical in
def soF(n:NetD)(s:SigD)(b:Nat):Bool:=decide (∃x,Opn n s x∧Rcv n.nx (clN n s) x b)
def soB(n:NetD)(s:SigD)(b:Nat):Bool:=soT n s b&&soF n s b
def soL(n:NetD)(s:SigD):List Bool:=(List.range n.bs.length).map (soB n s)
theorem soT_iff{n:NetD}{s:SigD}{b:Nat}:soT n s b=true↔∃x,Opn n s x∧Rcv n.nx (clN n s) b x:=by unfold soT;exact @decide_eq_true_iff _ (Classical.propDecidable _)
theorem soF_iff{n:NetD}{s:SigD}{b:Nat}:soF n s b=true↔∃x,Opn n s x∧Rcv n.nx (clN n s) x b:=by unfold soF;exact @decide_eq_true_iff _ (Classical.propDecidable _)
theorem soL_len(n:NetD)(s:SigD):(soL n s).length=n.bs.length:=by unfold soL;simp
theorem soL_get{n:NetD}{s:SigD}{b:Nat}{d:Bool}(h:b<n.bs.length):(soL n s).getD b d=soB n s b:=by
 unfold soL
 rw[List.getD_eq_getElem?_getD,List.getElem?_map,List.getElem?_range h];rfl
theorem sub_cl{n:NetD}{s:SigD}(hv:ValidN n)(h:SigOk n s)(x:Nat)(hx:(shtS s).getD x true=false):s.cl.getD x true=false:=by
 rw[shtS_get hv h,Bool.or_eq_false_iff] at hx;exact hx.1
def soTL(n:NetD)(s:SigD):List Bool:=prI n.bs.length (okC s.cl) (lnkF n.nx) (mk0 n.bs.length (shtS s)) n.bs.length
def soFL(n:NetD)(s:SigD):List Bool:=prI n.bs.length (okC s.cl) (lnkB n.nx) (mk0 n.bs.length (shtS s)) n.bs.length
theorem soTL_len(n:NetD)(s:SigD):(soTL n s).length=n.bs.length:=(prI_spr _ _).len.trans (mk0_len _ _)
theorem soFL_len(n:NetD)(s:SigD):(soFL n s).length=n.bs.length:=(prI_spr _ _).len.trans (mk0_len _ _)
theorem soTL_get{n:NetD}{s:SigD}(hv:ValidN n)(h:SigOk n s)(b:Nat):(soTL n s).getD b false=soT n s b:=by
 rw[Bool.eq_iff_iff,soT_iff]
 refine(there_iff (g:=n.nx) (cl:=s.cl) (sh:=shtS s) (n:=n.bs.length) fun x _ hx=>sub_cl hv h x hx).trans ⟨fun⟨x,a,b,c⟩=>⟨x,⟨a,b⟩,c⟩,fun⟨x,⟨a,b⟩,c⟩=>⟨x,a,b,c⟩⟩
theorem soFL_get{n:NetD}{s:SigD}(hv:ValidN n)(h:SigOk n s)(b:Nat):(soFL n s).getD b false=soF n s b:=by
 rw[Bool.eq_iff_iff,soF_iff]
 refine(back_iff (g:=n.nx) (cl:=s.cl) (sh:=shtS s) (n:=n.bs.length) fun x _ hx=>sub_cl hv h x hx).trans ⟨fun⟨x,a,b,c⟩=>⟨x,⟨a,b⟩,c⟩,fun⟨x,⟨a,b⟩,c⟩=>⟨x,a,b,c⟩⟩
theorem so_open{n:NetD}{s:SigD}{b:Nat}(h:soB n s b=true):s.cl.getD b true=false:=by
 unfold soB at h
 rw[Bool.and_eq_true] at h
 obtain⟨x,_,hr⟩:=soT_iff.1 h.1
 exact(opn_of hr.open1).2
theorem so_of{n:NetD}{s:SigD}(hv:ValidN n)(hs:SigOk n s){b:Nat}(h:Opn n s b):soB n s b=true:=by
 have:Rcv n.nx (clN n s) b b:=.refl (opn_in h.1 (sub_cl hv hs b h.2))
 unfold soB
 rw[Bool.and_eq_true]
 exact⟨soT_iff.2 ⟨b,h,this⟩,soF_iff.2 ⟨b,h,this⟩⟩
def noL(n:NetD)(s:SigD):List Bool:=(soL n s).map (!·)
theorem noL_get{n:NetD}{s:SigD}{b:Nat}(h:b<n.bs.length):(noL n s).getD b true=!(soB n s b):=by
 unfold noL
 rw[List.getD_eq_getElem?_getD,List.getElem?_map,getE true (by rw[soL_len];exact h),soL_get h];rfl
theorem so_way{n:NetD}{s:SigD}{v u:Nat}(h:Rcv n.nx (clN n s) v u)(hv:soB n s v=true)(hu:soT n s u=true):Rcv n.nx (noL n s) v u:=by
 have hF:∀{w},Rcv n.nx (clN n s) v w→soF n s w=true:=fun hw=>by
  unfold soB at hv
  rw[Bool.and_eq_true] at hv
  obtain⟨z,hz,hr⟩:=soF_iff.1 hv.2
  exact soF_iff.2 ⟨z,hz,hr.trans hw⟩
 have hop:∀w,Rcv n.nx (clN n s) v w→soT n s w=true→(noL n s).getD w true=false:=fun w hw ht=>by
  have hl:∀{w},(clN n s).getD w true=false→w<n.bs.length:=fun h=>(opn_of h).1
  have hw2:w<n.bs.length:=hl (by cases hw with | refl h=>exact h | step _ _ h=>exact h)
  rw[noL_get hw2]
  unfold soB
  rw[ht,hF hw];rfl
 induction h with
 | refl h=>exact .refl (hop _ (.refl h) hu)
 | @step a w hr hw ho ih=>
  obtain⟨x,hx,hxr⟩:=soT_iff.1 hu
  have ha:(clN n s).getD a true=false:=by cases hr with | refl h=>exact h | step _ _ h=>exact h
  have hta:soT n s a=true:=soT_iff.2 ⟨x,hx,(Rcv.step (.refl ha) hw ho).trans hxr⟩
  exact .step (ih hta) hw (hop _ (.step hr hw ho) hu)
theorem so_mut{n:NetD}{s:SigD}(hv:ValidN n)(hs:SigOk n s)(hc:chk4 n.nx (noL n s)=0)(h:muB n.nx ((shtS s).take n.bs.length)=true):muB n.nx (noL n s)=true:=by
 have h:Mut2 n.nx ((shtS s).take n.bs.length):=by
  cases Classical.em (Mut2 n.nx ((shtS s).take n.bs.length)) with
  | inl h=>exact h
  | inr h2=>rw[muB_f h2] at h;cases h
 obtain⟨_,⟨v0,hv0⟩,hm⟩:=h
 have opn:∀{x},((shtS s).take n.bs.length).getD x true=false↔Opn n s x:=fun {x}=>⟨fun h=>opn_of h,fun h=>opn_in h.1 h.2⟩
 have lift:∀{x y},Rcv n.nx ((shtS s).take n.bs.length) x y→Rcv n.nx (clN n s) x y:=fun h=>by
  induction h with
  | refl h=>have:=opn.1 h;exact .refl (opn_in this.1 (sub_cl hv hs _ this.2))
  | step _ hw ho ih=>have:=opn.1 ho;exact .step ih hw (opn_in this.1 (sub_cl hv hs _ this.2))
 refine muB_t ⟨hc,⟨v0,?_⟩,fun v w hv1 hw1=>?_⟩
 ·rw[noL_get (opn.1 hv0).1,so_of hv hs (opn.1 hv0)];rfl
 ·have hb:∀{x},(noL n s).getD x true=false→x<n.bs.length∧soB n s x=true:=fun {x} h=>by
   have hl:x<n.bs.length:=by
    have:=opn_lt h
    unfold noL at this
    rw[List.length_map,soL_len] at this;exact this
   rw[noL_get hl] at h
   exact⟨hl,by simpa using h⟩
  obtain⟨hvl,hvs⟩:=hb hv1
  obtain⟨hwl,hws⟩:=hb hw1
  have hvs':=hvs
  have hws':=hws
  unfold soB at hvs' hws'
  rw[Bool.and_eq_true] at hvs' hws'
  obtain⟨x,hx,hvx⟩:=soT_iff.1 hvs'.1
  obtain⟨y,hy,hyw⟩:=soF_iff.1 hws'.2
  have sx:=so_of hv hs hx
  have sy:=so_of hv hs hy
  have tx:soT n s x=true:=by unfold soB at sx;rw[Bool.and_eq_true] at sx;exact sx.1
  have ty:soT n s y=true:=by unfold soB at sy;rw[Bool.and_eq_true] at sy;exact sy.1
  exact((so_way hvx hvs tx).trans (so_way (lift (hm x y (opn.2 hx) (opn.2 hy))) sx ty)).trans (so_way hyw sy hws'.1)
end Go.Proofs.Ytedjkebooffjpaa

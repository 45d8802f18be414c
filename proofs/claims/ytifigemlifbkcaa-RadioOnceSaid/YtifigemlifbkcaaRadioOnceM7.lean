/- Parts of the proof:Ra6m,RaF,Ra7m,RaG,Ra8m,RaH,Ra9m,RaI,Ra10m,RaJ,Ra11m,RaK,Ra12m,RaL,Ra13m,RaM,Ra14m,RaN,RaO,RaP,RaQ,RaR,Ra15m,RaS. -/
import Derived.Test.YtifigemlifbkcaaProg
import Derived.KernelRfl
import Derived.Test.YtifigemlifbkcaaRadioOnceM6
noncomputable section
set_option linter.unusedVariables false
set_option linter.unusedSimpArgs false
open Go Go.AX Go.Proofs
set_option maxRecDepth 100000
set_option maxHeartbeats 4000000
set_option linter.unusedVariables false
set_option linter.unusedSimpArgs false
open Go.IntKind (i64 u64)
namespace Go.Proofs.Ytifigemlifbkcaa
def ksnSt(l:List FrD)(x:FrD):Empty→St
 | x=>x.elim
def ksnHd:Empty→Nat
 | x=>x.elim
def ksnEn(l:List FrD)(x:FrD):Option (Empty⊕Ret):=
 br (decide (6<iN (List.map frA l).length))
 (some (.inr ([],AV.nils)))
 (gu (iN (List.map frA l).length≤7) <|
  gu (∀(e:AV),e∈List.map frA l→e.cells.length=5) <|
  br (decide (iN (List.map frA l).length<6))
  (gu (([]++List.take (min (List.map frA l).length (List.map frA l).length) (List.map frA l)++List.drop (0+min (List.map frA l).length (List.map frA l).length) (List.replicate (List.map frA l).length (AV.agg [iV 0,iV 0,uV 0,iV 0,iV 0]))).length+[AV.agg [iV x.k,iV x.r,uV x.q,iV x.c,iV x.f]].length≤9223372036854775807) <|
   gu ((([]++List.take (min (List.map frA l).length (List.map frA l).length) (List.map frA l)++List.drop (0+min (List.map frA l).length (List.map frA l).length) (List.replicate (List.map frA l).length (AV.agg [iV 0,iV 0,uV 0,iV 0,iV 0]))).length+[AV.agg [iV x.k,iV x.r,uV x.q,iV x.c,iV x.f]].length) * 40≤140737488355328) <|
   some (.inr ([some (bK ([]++List.take (min (List.map frA l).length (List.map frA l).length) (List.map frA l)++List.drop (0+min (List.map frA l).length (List.map frA l).length) (List.replicate (List.map frA l).length (AV.agg [iV 0,iV 0,uV 0,iV 0,iV 0]))++[AV.agg [iV x.k,iV x.r,uV x.q,iV x.c,iV x.f]]) 5)],AV.sl 0 0 (([]++List.take (min (List.map frA l).length (List.map frA l).length) (List.map frA l)++List.drop (0+min (List.map frA l).length (List.map frA l).length) (List.replicate (List.map frA l).length (AV.agg [iV 0,iV 0,uV 0,iV 0,iV 0]))).length+[AV.agg [iV x.k,iV x.r,uV x.q,iV x.c,iV x.f]].length))))
  (some (.inr ([some (bK ([]++List.take (min (List.map frA l).length (List.map frA l).length) (List.map frA l)++List.drop (0+min (List.map frA l).length (List.map frA l).length) (List.replicate (List.map frA l).length (AV.agg [iV 0,iV 0,uV 0,iV 0,iV 0]))) 5)],AV.sl 0 0 (List.map frA l).length))))
def ksnStep(l:List FrD)(x:FrD):Empty→Option (Empty⊕Ret)
 | x=>x.elim
theorem ksnEn_ok(l:List FrD)(x:FrD)(o:Empty⊕Ret)(h:ksnEn l x=some o):Arr Try.prog Try.f54 0 (ksnSt l x) ksnHd (zB Try.f54) [] {n:=Try.f54.ntmps,fr:=enumF 0 ([.lst (l.map frA),frA x]),hp:=([])} o:=
 Scr.ok h mix (
 .rn 1 [] [] [] [] (ag t2 (al (u2 (u2 s2)))) <|
 .br (fun a0=>
 .rt [17] [] [] [] [] [] (aj (aj a0 s2) t2))
 (fun a0=>
 .gu fun a1=>
 .rn 0 [16] [] [] [] (aj a0 (al (u2 (u2 (aj (ak (aj (show 0≤iN (List.map frA l).length from(Int.natCast_nonneg _)) (aj a1 (aj (show(280:Int)≤(281474976710656:Int) from(by first | exact nL rfl | decide)) (show(7:Int)≤(9223372036854775807:Int) from(by first | exact nL rfl | decide)))))) s2))))) <|
 .gu fun a2=>
 .rn 1 [] [] [] [] (aj (u2 (u2 (al (k2 (aj (show 0+(List.map frA l).length≤(List.replicate (List.map frA l).length (AV.agg [iv 0,iv 0,uV 0,iv 0,iv 0])).length by simp) a2))))) (al (u2 (u2 s2)))) <|
 .br (fun a3=>
  .gu fun a4=>
  .gu fun a5=>
  .rt [35] [] [] [] [3] [] (aj (aj a3 (aj (u2 (u2 (u2 (aj (k2 (aj (show([]++List.take (min (List.map frA l).length (List.map frA l).length) (List.map frA l)++List.drop (0+min (List.map frA l).length (List.map frA l).length) (List.replicate (List.map frA l).length (AV.agg [iv 0,iv 0,uV 0,iv 0,iv 0]))).length=(List.map frA l).length by simp) (aj (aj (show nat_lit 5=nat_lit 5 from rfl) (show 1≤[AV.agg [iv x.k,iv x.r,uV x.q,iv x.c,iv x.f]].length by simp)) (aj a4 a5)))) s2)))) (al (u2 s2)))) t3))
 (fun a3=>
  .rt [34] [] [] [] [1] [] (aj (aj a3 (al (u2 s2))) t3)))) (by kernel_rfl)
theorem ksn_ct(l:List FrD)(x:FrD)(r:Ret)(h:MReach (ksnStep l x) (ksnEn l x) r):CT Try.prog 54 ([]) ([.lst (l.map frA),frA x]) r.1 r.2:=
 CT.mach (fn:=Try.f54) (c:=zB Try.f54) (S:=ksnSt l x) (hd:=ksnHd) Try.func54 (by kernel_rfl) (nL rfl)
  (fun s o ho=>match s,ho with
   | x,_=>x.elim)
  (fun o ho=>ksnEn_ok l x o ho) h
def kdeSt(l:List FrD)(q:Int):Empty→St
 | x=>x.elim
def kdeHd:Empty→Nat
 | x=>x.elim
def kdeEn(l:List FrD)(q:Int):Option (Empty⊕Ret):=
 br (!hasF l q)
 (some (.inr ([],AV.tup [AV.agg [iV 0,iV 0,uV 0,iV 0,iV 0],AV.nils,bV false])))
 (gu (0≤q) <|
  gu (q≤iN (List.map frA l).length) <|
  gu (40 * iN (List.map frA l).length≤281474976710656) <|
  gu (iN (List.map frA l).length≤9223372036854775807) <|
  gu (∀(e:AV),e∈List.map frA l→e.cells.length=5) <|
  el l (q.toNat) fun(x22:FrD)=>
  gu (0≤i64.wrap (q+1)) <|
  gu (i64.wrap (q+1)≤iN (List.map frA l).length) <|
  gu (([]++List.take (min (List.map frA l).length q.toNat) (List.map frA l)++List.drop (0+min (List.map frA l).length q.toNat) (List.replicate q.toNat (AV.agg [iV 0,iV 0,uV 0,iV 0,iV 0]))).length=q.toNat) <|
  gu (∀(e:AV),e∈List.take ((List.map frA l).length-(i64.wrap (q+1)).toNat) (List.drop (i64.wrap (q+1)).toNat (List.map frA l))→e.cells.length=5) <|
  gu (([]++List.take (min (List.map frA l).length q.toNat) (List.map frA l)++List.drop (0+min (List.map frA l).length q.toNat) (List.replicate q.toNat (AV.agg [iV 0,iV 0,uV 0,iV 0,iV 0]))).length+(List.take ((List.map frA l).length-(i64.wrap (q+1)).toNat) (List.drop (i64.wrap (q+1)).toNat (List.map frA l))).length≤9223372036854775807) <|
  gu ((([]++List.take (min (List.map frA l).length q.toNat) (List.map frA l)++List.drop (0+min (List.map frA l).length q.toNat) (List.replicate q.toNat (AV.agg [iV 0,iV 0,uV 0,iV 0,iV 0]))).length+(List.take ((List.map frA l).length-(i64.wrap (q+1)).toNat) (List.drop (i64.wrap (q+1)).toNat (List.map frA l))).length) * 40≤140737488355328) <|
  some (.inr ([some (bK ([]++List.take (min (List.map frA l).length q.toNat) (List.map frA l)++List.drop (0+min (List.map frA l).length q.toNat) (List.replicate q.toNat (AV.agg [iV 0,iV 0,uV 0,iV 0,iV 0]))++List.take ((List.map frA l).length-(i64.wrap (q+1)).toNat) (List.drop (i64.wrap (q+1)).toNat (List.map frA l))) 5)],AV.tup [AV.agg [iV x22.k,iV x22.r,uV x22.q,iV x22.c,iV x22.f],AV.sl 0 0 (([]++List.take (min (List.map frA l).length q.toNat) (List.map frA l)++List.drop (0+min (List.map frA l).length q.toNat) (List.replicate q.toNat (AV.agg [iV 0,iV 0,uV 0,iV 0,iV 0]))).length+(List.take ((List.map frA l).length-(i64.wrap (q+1)).toNat) (List.drop (i64.wrap (q+1)).toNat (List.map frA l))).length),bV true])))
def kdeStep(l:List FrD)(q:Int):Empty→Option (Empty⊕Ret)
 | x=>x.elim
theorem kdeEn_ok(l:List FrD)(q:Int)(o:Empty⊕Ret)(h:kdeEn l q=some o):Arr Try.prog Try.f89 0 (kdeSt l q) kdeHd (zB Try.f89) [] {n:=Try.f89.ntmps,fr:=enumF 0 ([.lst (l.map frA),.int .i64 q]),hp:=([])} o:=
 Scr.ok h mix (
 have c0:=chs_c l (q);
 .rn 1 [] [] [(10,hK c0 [] [])] [] (aj t4 (al (u2 (u2 (aj (ak (k3 (al (c0)))) s2))))) <|
 .br (fun a0=>
 .rt [23] [] [] [] [] [] (aj (aj a0 (al (ak (aj (k2 n11) t3)))) (al (aj t6 t3))))
 (fun a0=>
 .gu fun a1=>
 .gu fun a2=>
 .gu fun a3=>
 .gu fun a4=>
 .rn 0 [22] [] [] [] (aj a0 (al (u2 (u2 (u2 (aj (k2 (aj a1 (aj a2 (aj a3 a4)))) s2)))))) <|
 .gu fun a5=>
 .rn 0 [] [] [] [] (al (u2 (u2 (al (k2 (aj (show 0+q.toNat≤(List.replicate q.toNat (AV.agg [iv 0,iv 0,uV 0,iv 0,iv 0])).length by simp) a5)))))) <|
 .el fun x22 a6=>
 .gu fun a7=>
 .gu fun a8=>
 .gu fun a9=>
 .gu fun a10=>
 .gu fun a11=>
 .gu fun a12=>
 .rt [] [(22,frA x22)] [] [] [2] [] (aj (al (u2 (u2 (aj (k2 (aj a1 (getMap (f:=frA) a6))) (u2 (u2 (u2 (u2 (u2 (aj (k2 (aj a5 (aj a7 (aj a8 (aj (show iN (List.map frA l).length≤iN (List.map frA l).length by omega) (show iN (List.map frA l).length≤iN (List.map frA l).length by omega)))))) (aj (k2 (aj a9 (aj a10 (aj a11 a12)))) (aj (k2 n11) (u2 t2))))))))))))) (aj (aj t6 t3) t2)))) (by kernel_rfl)
theorem kde_ct(l:List FrD)(q:Int)(r:Ret)(h:MReach (kdeStep l q) (kdeEn l q) r):CT Try.prog 89 ([]) ([.lst (l.map frA),.int .i64 q]) r.1 r.2:=
 CT.mach (fn:=Try.f89) (c:=zB Try.f89) (S:=kdeSt l q) (hd:=kdeHd) Try.func89 (by kernel_rfl) (nL rfl)
  (fun s o ho=>match s,ho with
   | x,_=>x.elim)
  (fun o ho=>kdeEn_ok l q o ho) h
def kcfSt(l:List FrD):Empty→St
 | x=>x.elim
def kcfHd:Empty→Nat
 | x=>x.elim
def kcfEn(l:List FrD):Option (Empty⊕Ret):=
 gu (List.map frA l=[]→False) <|
 gu (∀(e:AV),e∈List.map frA l→e.cells.length=5) <|
 gu (0+(List.map frA l).length≤9223372036854775807) <|
 gu ((0+(List.map frA l).length) * 40≤140737488355328) <|
 some (.inr ([some (bK ([]++List.map frA l) 5)],AV.sl 0 0 (0+(List.map frA l).length)))
def kcfStep(l:List FrD):Empty→Option (Empty⊕Ret)
 | x=>x.elim
theorem kcfEn_ok(l:List FrD)(o:Empty⊕Ret)(h:kcfEn l=some o):Arr Try.prog Try.f69 0 (kcfSt l) kcfHd (zB Try.f69) [] {n:=Try.f69.ntmps,fr:=enumF 0 ([.lst (l.map frA)]),hp:=([])} o:=
 Scr.ok h mix (
 .rn 0 [] [] [] [] s2 <|
 .gu fun a0=>
 .rn 0 [] [] [] [] (al (u2 (al (ak a0)))) <|
 .gu fun a1=>
 .gu fun a2=>
 .gu fun a3=>
 .rt [] [] [] [] [1] [] (aj (ak (al (ak (u2 (aj (k2 (aj (show nat_lit 0=nat_lit 0 from rfl) (aj a1 (aj a2 a3)))) s2))))) t3)) (by kernel_rfl)
theorem kcf_ct(l:List FrD)(r:Ret)(h:MReach (kcfStep l) (kcfEn l) r):CT Try.prog 69 ([]) ([.lst (l.map frA)]) r.1 r.2:=
 CT.mach (fn:=Try.f69) (c:=zB Try.f69) (S:=kcfSt l) (hd:=kcfHd) Try.func69 (by kernel_rfl) (nL rfl)
  (fun s o ho=>match s,ho with
   | x,_=>x.elim)
  (fun o ho=>kcfEn_ok l o ho) h
end Go.Proofs.Ytifigemlifbkcaa
namespace Go.Proofs.Ytifigemlifbkcaa
theorem CT.virt{P:Program}{f:FuncId}{args:List AV}{res res':AV}{z:Nat}{fl:Bool}(h:CT P f [] args [] res)(hv:∀φ A w v,VR φ A w res v→VR φ A w res' v):
  CT P f [] args [some {es:=[],z:=z,flat:=fl}] res':=by
 intro φ A w vs h1 h2 h3 h4 h5
 refine(h φ A w vs h1 h2 h3 h4 h5).mono fun e w' ⟨v,φ',he,C⟩=>⟨v,φ',he,?_⟩
 have hn:∀b,φ' b=none:=fun b=>C.out b (Nat.zero_le _)
 have hb:∀{b:Nat} {blk:Blk},nth [some ({es:=[],z:=z,flat:=fl}:Blk)] b=some blk→blk={es:=[],z:=z,flat:=fl}:=fun {b blk} hg=>by
  cases b with
  | zero=>exact(Option.some.inj hg).symm
  | succ b=>cases hg
 have hm:∀r,¬Mut φ' (nth [some ({es:=[],z:=z,flat:=fl}:Blk)]) r:=fun r ⟨b,blk,z',_,_,g⟩=>by rw[hn b] at g;cases g
 refine⟨fun b hb=>(by cases hb),C.keep,fun r hr=>absurd hr (hm r),⟨fun b blk hg=>?_,fun b blk hg _=>?_,fun b b' r z z' _ _ hg=>?_⟩,hv _ _ _ _ (C.val.mono (fun _ _ h=>h) (fun r hr=>⟨hr.1,hr.2.1,hm r⟩) (fun _ _=>rfl) (fun _=>Nat.le_refl _)),fun b _=>hn b,Nat.zero_le _,fun b r z _ hg=>?_⟩
 ·rw[hb hg];exact .inl ⟨rfl,hn b,rfl,rfl⟩
 ·rw[hb hg];exact fun e he=>nomatch he
 ·rw[hn b] at hg;cases hg
 ·rw[hn b] at hg;cases hg
theorem nils_sl{φ:Phi}{A:Nat→Prop}{w:World}{v:Value}(h:VR φ A w .nils v):VR φ A w (.sl 0 0 0) v:=by rw[h.nils_inv];exact .slnil 0 0 none
theorem tup3_nil{φ:Phi}{A:Nat→Prop}{w:World}{v:Value}{x y:AV}(h:VR φ A w (.tup [x,.nils,y]) v):VR φ A w (.tup [x,.sl 0 0 0,y]) v:=by
 obtain⟨vs,rfl,h1,h2⟩:=h.tup_inv
 refine .tup _ vs h1 fun i c u hc hu=>?_
 match i,hc with
 | 0,hc=>exact h2 0 c u hc hu
 | 1,hc=>cases hc;exact nils_sl (h2 1 _ u rfl hu)
 | 2,hc=>exact h2 2 c u hc hu
theorem tup2_nil{φ:Phi}{A:Nat→Prop}{w:World}{v:Value}{y:AV}(h:VR φ A w (.tup [.nils,y]) v):VR φ A w (.tup [.sl 0 0 0,y]) v:=by
 obtain⟨vs,rfl,h1,h2⟩:=h.tup_inv
 refine .tup _ vs h1 fun i c u hc hu=>?_
 match i,hc with
 | 0,hc=>cases hc;exact nils_sl (h2 0 _ u rfl hu)
 | 1,hc=>exact h2 1 c u hc hu
def fB(l:List FrD):Blk:={es:=l.map frA,z:=5}
theorem ksn_c(l:List FrD)(x:FrD):CT Try.prog 54 [] [.lst (l.map frA),frA x] [some (fB (sendF l x))] (.sl 0 0 (sendF l x).length):=by
 unfold sendF
 by_cases h:6<l.length
 ·rw[if_pos h]
  exact CT.virt (ksn_ct l x ([],_) (.val (show ksnEn l x=_ by unfold ksnEn;rw[iN_len,br_t (dec_t (by omega))]))) fun _ _ _ _ h=>nils_sl h
 ·rw[if_neg h]
  have e0:∀a:AV,([]++List.take (min (List.map frA l).length (List.map frA l).length) (List.map frA l)++List.drop (0+min (List.map frA l).length (List.map frA l).length) (List.replicate (List.map frA l).length a))=List.map frA l:=by
   intro a;simp;exact List.take_of_length_le (by simp)
  refine ksn_ct l x ([_],_) (.val ?_)
  unfold ksnEn
  rw[iN_len,e0,br_f (dec_f (by omega)),gu_t (by omega),gu_t (frA_one _)]
  by_cases h2:l.length<6
  ·rw[br_t (dec_t (by omega)),gu_t (by simp only[List.length_map,List.length_singleton];omega),gu_t (by simp only[List.length_map,List.length_singleton];omega),if_pos h2,fB,List.map_append,List.length_map,List.length_append];rfl
  ·rw[br_f (dec_f (by omega)),if_neg h2,List.length_map];rfl
def deK(y:DeD):AV:=.tup [frA y.x,.sl 0 0 y.l.length,.bool y.o]
def loK(y:LoD):AV:=.tup [.sl 0 0 y.l.length,.bool y.o]
theorem kde_c(l:List FrD)(q:Int):CT Try.prog 89 [] [.lst (l.map frA),.int .i64 q] [some (fB (delO l q).l)] (deK (delO l q)):=by
 unfold delO
 cases hh:hasF l q with
 | false=>
  exact CT.virt (res:=.tup [frA fr0,.nils,.bool false]) (kde_ct l q ([],_) (.val (by unfold kdeEn;rw[hh];rfl))) fun _ _ _ _ h=>tup3_nil h
 | true=>
  obtain⟨h2,h0,h1⟩:=hasF_iff.1 hh
  have e0:∀a:AV,([]++List.take (min (List.map frA l).length q.toNat) (List.map frA l)++List.drop (0+min (List.map frA l).length q.toNat) (List.replicate q.toNat a))=List.take q.toNat (List.map frA l):=by
   intro a
   rw[List.length_map,Nat.min_eq_right (by omega),Nat.zero_add,List.drop_of_length_le (by simp)];simp
  have e1:=del_cut (L:=List.map frA l) h0 (by rw[List.length_map];exact h1) (by rw[List.length_map];exact h2)
  have hw:i64.wrap (q+1)=q+1:=wrap_in (by omega) (by omega)
  refine kde_ct l q ([_],_) (.val ?_)
  unfold kdeEn
  rw[hh,e0,e1,hw,iN_len,br_f (by rfl),gu_t h0,gu_t (by omega),gu_t (by omega),gu_t (by omega),gu_t (frA_one l),el_t (getE fr0 (show q.toNat<l.length by omega)),gu_t (by omega),gu_t (by omega),
   gu_t (by rw[List.length_take,List.length_map];omega),gu_t (mem_cut fun e he=>List.mem_of_mem_drop he),
   gu_t (by rw[List.length_take,List.length_drop,List.length_map];omega),gu_t (by rw[List.length_take,List.length_drop,List.length_map];omega),
   ←List.map_take,←List.map_drop,←List.map_append,List.length_map,List.length_map,←List.length_append]
  rfl
theorem kcf_c(l:List FrD)(hl:l.length≤1000000):CT Try.prog 69 [] [.lst (l.map frA)] [some (fB l)] (.sl 0 0 l.length):=by
 by_cases h:l=[]
 ·subst h;exact cl69_e
 refine kcf_ct l ([_],_) (.val ?_)
 unfold kcfEn
 rw[gu_t (fun e=>h (List.map_eq_nil_iff.1 e)),gu_t (frA_one _),gu_t (by rw[List.length_map];omega),gu_t (by rw[List.length_map];omega),List.nil_append,Nat.zero_add,List.length_map];rfl
def kdoSt(l:List FrD)(q:Int):Empty→St
 | x=>x.elim
def kdoHd:Empty→Nat
 | x=>x.elim
def kdoEn(l:List FrD)(q:Int):Option (Empty⊕Ret):=
 br (!hasF l q)
 (some (.inr ([],AV.tup [AV.nils,bV false])))
 (gu (0≤q) <|
  el l (q.toNat) fun(x13:FrD)=>
  some (.inr ([some (bK (List.map frA (sendF l x13)) 5)],AV.tup [AV.sl 0 0 (sendF l x13).length,bV true])))
def kdoStep(l:List FrD)(q:Int):Empty→Option (Empty⊕Ret)
 | x=>x.elim
theorem kdoEn_ok(l:List FrD)(q:Int)(o:Empty⊕Ret)(h:kdoEn l q=some o):Arr Try.prog Try.f88 0 (kdoSt l q) kdoHd (zB Try.f88) [] {n:=Try.f88.ntmps,fr:=enumF 0 ([.lst (l.map frA),.int .i64 q]),hp:=([])} o:=
 Scr.ok h mix (
 have c0:=chs_c l (q);
 .rn 1 [] [] [(8,hK c0 [] [])] [] (aj t3 (al (u2 (u2 (aj (ak (k3 (al (c0)))) s2))))) <|
 .br (fun a0=>
 .rt [19] [] [] [] [] [] (aj (aj a0 (al t3)) (al t3)))
 (fun a0=>
 .gu fun a1=>
 .el fun x13 a2=>
 have c1:=ksn_c l (x13);
 .rt [18] [(13,frA x13)] [(15,hK c1 [] [])] [] [0] [] (aj (aj a0 (al (u2 (u2 (u2 (aj (k2 (aj a1 (getMap (f:=frA) a2))) (u2 (aj (k3 (aj t6 (al (c1)))) (u2 t2))))))))) (aj t3 t2)))) (by kernel_rfl)
theorem kdo_ct(l:List FrD)(q:Int)(r:Ret)(h:MReach (kdoStep l q) (kdoEn l q) r):CT Try.prog 88 ([]) ([.lst (l.map frA),.int .i64 q]) r.1 r.2:=
 CT.mach (fn:=Try.f88) (c:=zB Try.f88) (S:=kdoSt l q) (hd:=kdoHd) Try.func88 (by kernel_rfl) (nL rfl)
  (fun s o ho=>match s,ho with
   | x,_=>x.elim)
  (fun o ho=>kdoEn_ok l q o ho) h
def kloSt(l:List FrD)(q:Int):Empty→St
 | x=>x.elim
def kloHd:Empty→Nat
 | x=>x.elim
def kloEn(l:List FrD)(q:Int):Option (Empty⊕Ret):=
 some (.inr ([some (bK (List.map frA (delO l q).l) 5)],AV.tup [AV.sl 0 0 (delO l q).l.length,bV (delO l q).o]))
def kloStep(l:List FrD)(q:Int):Empty→Option (Empty⊕Ret)
 | x=>x.elim
theorem kloEn_ok(l:List FrD)(q:Int)(o:Empty⊕Ret)(h:kloEn l q=some o):Arr Try.prog Try.f87 0 (kloSt l q) kloHd (zB Try.f87) [] {n:=Try.f87.ntmps,fr:=enumF 0 ([.lst (l.map frA),.int .i64 q]),hp:=([])} o:=
 Scr.ok h mix (
 have c0:=kde_c l (q);
 .rt [] [] [(12,hK c0 [] [])] [] [0] [] (aj (aj t3 (aj (u2 (u2 (aj (ak (k3 (al (c0)))) (u2 (u2 (u2 (u2 (ak (aj (k2 n11) (u2 s2)))))))))) (al (u2 (u2 (u2 s2)))))) (aj t3 t2))) (by kernel_rfl)
theorem klo_ct(l:List FrD)(q:Int)(r:Ret)(h:MReach (kloStep l q) (kloEn l q) r):CT Try.prog 87 ([]) ([.lst (l.map frA),.int .i64 q]) r.1 r.2:=
 CT.mach (fn:=Try.f87) (c:=zB Try.f87) (S:=kloSt l q) (hd:=kloHd) Try.func87 (by kernel_rfl) (nL rfl)
  (fun s o ho=>match s,ho with
   | x,_=>x.elim)
  (fun o ho=>kloEn_ok l q o ho) h
def kc5St(x:RaD):Empty→St
 | x=>x.elim
def kc5Hd:Empty→Nat
 | x=>x.elim
def kc5En(x:RaD):Option (Empty⊕Ret):=
 gu (x.dn.length≤1000000) <|
 gu (x.up.length≤1000000) <|
 gu (x.of.length≤1000000) <|
 gu (x.en.length≤1000000) <|
 some (.inr ([some (bK (List.map frA x.dn) 5),some (bK (List.map frA x.up) 5),some (bK (List.map iV x.of) 1),some (bK (List.map iV x.en) 1)],rV x.s x.a x.b [AV.sl 0 0 x.dn.length,AV.sl 1 0 x.up.length,AV.sl 2 0 x.of.length,AV.sl 3 0 x.en.length]))
def kc5Step(x:RaD):Empty→Option (Empty⊕Ret)
 | x=>x.elim
theorem kc5En_ok(x:RaD)(o:Empty⊕Ret)(h:kc5En x=some o):Arr Try.prog Try.f52 0 (kc5St x) kc5Hd (zB Try.f52) [] {n:=Try.f52.ntmps,fr:=enumF 0 ([raA x]),hp:=([])} o:=
 Scr.ok h mix (
 .rn 0 [] [] [] [] (al (u2 t2)) <|
 .gu fun a0=>
 .gu fun a1=>
 .gu fun a2=>
 .gu fun a3=>
 have c0:=kcf_c (x.dn) a0;
 have c1:=kcf_c (x.up) a1;
 have c2:=clk_c (x.of) a2;
 have c3:=clk_c (x.en) a3;
 .rt [] [] [(5,hK c0 [] []),(8,hK c1 [] []),(11,hK c2 [] []),(14,hK c3 [] [])] [] [2,3,4,5] [] (aj (aj (u2 (u2 (aj (k2 (al (c0))) (u2 (u2 (aj (k2 (al (c1))) (u2 (u2 (aj (k2 (al (c2))) (u2 (u2 (aj (k2 (al (c3))) (u2 (aj t3 (u2 (aj t3 (u2 (aj t3 (u2 (al t3)))))))))))))))))))) (al (u2 (al (k2 n11))))) (aj (ak (k3 (k5 t9))) t5))) (by kernel_rfl)
theorem kc5_ct(x:RaD)(r:Ret)(h:MReach (kc5Step x) (kc5En x) r):CT Try.prog 52 ([]) ([raA x]) r.1 r.2:=
 CT.mach (fn:=Try.f52) (c:=zB Try.f52) (S:=kc5St x) (hd:=kc5Hd) Try.func52 (by kernel_rfl) (nL rfl)
  (fun s o ho=>match s,ho with
   | x,_=>x.elim)
  (fun o ho=>kc5En_ok x o ho) h
theorem kdo_c(l:List FrD)(q:Int):CT Try.prog 88 [] [.lst (l.map frA),.int .i64 q] [some (fB (dblO l q).l)] (loK (dblO l q)):=by
 unfold dblO
 cases hh:hasF l q with
 | false=>
  exact CT.virt (res:=.tup [.nils,.bool false]) (kdo_ct l q ([],_) (.val (by unfold kdoEn;rw[hh];rfl))) fun _ _ _ _ h=>tup2_nil h
 | true=>
  obtain⟨h2,h0,h1⟩:=hasF_iff.1 hh
  refine kdo_ct l q ([_],_) (.val ?_)
  unfold kdoEn
  rw[hh,br_f (by rfl),gu_t h0,el_t (getE fr0 (show q.toNat<l.length by omega))];rfl
theorem klo_c(l:List FrD)(q:Int):CT Try.prog 87 [] [.lst (l.map frA),.int .i64 q] [some (fB (losO l q).l)] (loK (losO l q)):=klo_ct l q ([_],_) (.val rfl)
def raM(s:SeD)(a:AgD)(b:BdD)(p q i j:AV):AV:=.agg [.int .u64 s.q,.bool s.o,.int .i64 s.c,.int .i64 s.f,.int .u64 a.l,.int .i64 a.t,.bool a.s,.int .i64 a.r,.int .i64 a.c,
 .int .i64 b.c,.int .i64 b.t,.bool b.s,.bool b.f,p,q,i,j]
def rB(s:SeD)(a:AgD)(b:BdD)(dn up:List FrD)(of en:List Int):Blk:={es:=[raM s a b (.sl 1 0 dn.length) (.sl 2 0 up.length) (.sl 3 0 of.length) (.sl 4 0 en.length)],z:=17,flat:=false}
theorem kc5_c(z:SeD)(g:AgD)(d:BdD)(dn up:List FrD)(of en:List Int)(h:RaS ⟨z,g,d,dn,up,of,en⟩):CT Try.prog 52 [] [raA ⟨z,g,d,dn,up,of,en⟩] [some (fB dn),some (fB up),some (iB of),some (iB en)]
  (raM z g d (.sl 0 0 dn.length) (.sl 1 0 up.length) (.sl 2 0 of.length) (.sl 3 0 en.length)):=by
 obtain⟨h1,h2,h3,h4⟩:=h
 refine kc5_ct _ ([_,_,_,_],_) (.val ?_)
 unfold kc5En
 rw[gu_t h1,gu_t h2,gu_t h3,gu_t h4];rfl
def cnfSt(z:SeD)(g:AgD)(d:BdD)(dn up:List FrD)(of en:List Int)(y:FrD):Empty→St
 | x=>x.elim
def cnfHd:Empty→Nat
 | x=>x.elim
def cnfEn(z:SeD)(g:AgD)(d:BdD)(dn up:List FrD)(of en:List Int)(y:FrD):Option (Empty⊕Ret):=
 br (y.k != 2)
 (some (.inr ([some (Blk.mk [rV z g d [AV.sl 1 0 dn.length,AV.sl 2 0 up.length,AV.sl 3 0 of.length,AV.sl 4 0 en.length]] 17 false true none),some (bK (List.map frA dn) 5),some (bK (List.map frA up) 5),some (bK (List.map iV of) 1),some (bK (List.map iV en) 1)],AV.tup [])))
 (br (z.f==0)
  (gu (∀(blk:Blk),blk∈[fB (sendF dn (FrD.mk 3 0 y.q 0 y.f))]→ImmB blk) <|
   some (.inr ([some (Blk.mk [rV (cfmO z y.q).s g d [AV.sl 1 0 (sendF dn (FrD.mk 3 0 y.q 0 y.f)).length,AV.sl 2 0 up.length,AV.sl 3 0 of.length,AV.sl 4 0 en.length]] 17 false true none),some (bK (List.map frA (sendF dn (FrD.mk 3 0 y.q 0 y.f))) 5),some (bK (List.map frA up) 5),some (bK (List.map iV of) 1),some (bK (List.map iV en) 1)],AV.tup [])))
  (br (y.f==2)
   (gu (∀(blk:Blk),blk∈[fB (sendF dn (FrD.mk 3 0 y.q 0 y.f))]→ImmB blk) <|
    some (.inr ([some (Blk.mk [rV (cfmO z y.q).s g d [AV.sl 1 0 (sendF dn (FrD.mk 3 0 y.q 0 y.f)).length,AV.sl 2 0 up.length,AV.sl 3 0 of.length,AV.sl 4 0 en.length]] 17 false true none),some (bK (List.map frA (sendF dn (FrD.mk 3 0 y.q 0 y.f))) 5),some (bK (List.map frA up) 5),some (bK (List.map iV of) 1),some (bK (List.map iV en) 1)],AV.tup [])))
   (gu (∀(blk:Blk),blk∈[fB (sendF dn (FrD.mk 3 0 y.q 0 y.f))]→ImmB blk) <|
    some (.inr ([some (Blk.mk [rV z g d [AV.sl 1 0 (sendF dn (FrD.mk 3 0 y.q 0 y.f)).length,AV.sl 2 0 up.length,AV.sl 3 0 of.length,AV.sl 4 0 en.length]] 17 false true none),some (bK (List.map frA (sendF dn (FrD.mk 3 0 y.q 0 y.f))) 5),some (bK (List.map frA up) 5),some (bK (List.map iV of) 1),some (bK (List.map iV en) 1)],AV.tup [])))))
def cnfStep(z:SeD)(g:AgD)(d:BdD)(dn up:List FrD)(of en:List Int)(y:FrD):Empty→Option (Empty⊕Ret)
 | x=>x.elim
theorem cnfEn_ok(z:SeD)(g:AgD)(d:BdD)(dn up:List FrD)(of en:List Int)(y:FrD)(o:Empty⊕Ret)(h:cnfEn z g d dn up of en y=some o):Arr Try.prog Try.f90 1 (cnfSt z g d dn up of en y) cnfHd (zB Try.f90) [] {n:=Try.f90.ntmps,fr:=enumF 0 ([.ptr 0 0 0,frA y]),hp:=([some {es:=[raM z g d (.sl 1 0 dn.length) (.sl 2 0 up.length) (.sl 3 0 of.length) (.sl 4 0 en.length)],z:=17,flat:=false},some {es:=dn.map frA,z:=5},some {es:=up.map frA,z:=5},some {es:=of.map (AV.int .i64),z:=1},some {es:=en.map (AV.int .i64),z:=1}])} o:=
 Scr.ok h mix (
 .rn 1 [] [] [] [] (aj s2 (al (u2 (u2 s2)))) <|
 .br (fun a0=>
 .rt [13] [] [] [] [0,1,2,3,4] [] (aj (al a0) (ak (aj (al (ak (k3 (k5 t9)))) t5))))
 (fun a0=>
 .br (fun a1=>
  have c0:=cfm_c z (y.q);
  .rn 1 [12,27] [] [(26,hK c0 [] [])] [] (aj a0 (aj (u2 (u2 (u2 (u2 (u2 (u2 (u2 (aj a1 (aj a1 (aj a1 (al (aj a1 t2)))))))))))) (ak (al (u2 (u2 (u2 (u2 (u2 (u2 (u2 (aj (k2 (aj t5 (ak (al (c0))))) (u2 (u2 (u2 (u2 (u2 (al t3)))))))))))))))))) <|
  .gu fun a2=>
  have c1:=ksn_c (dn) (FrD.mk 3 0 y.q 0 y.f);
  .rt [27] [] [(41,hK c1 [] [1])] [] [0,6,2,3,4] [] (aj (al (u2 (u2 (u2 (u2 (u2 (u2 (u2 (u2 (u2 (aj t3 (aj (k2 (aj (show dn.length=(List.map frA dn).length by simp) (aj t6 (aj (c1) a2)))) (u2 (u2 (al t3))))))))))))))) (ak (aj (al (ak (k3 (k5 t9)))) t5))))
 (fun a1=>
  .rn 0 [12,26] [] [] [] (aj a0 (al (u2 (u2 (u2 (u2 (u2 (u2 (u2 (ag a1 (ag a1 (ag a1 (al (aj a1 t2)))))))))))))) <|
  .br (fun a2=>
  have c0:=cfm_c z (y.q);
  .rn 0 [26,35] [] [(26,hK c0 [] [])] [] (aj a2 (al (u2 (u2 (u2 (u2 (u2 (u2 (u2 (aj (k2 (aj t5 (ak (al (c0))))) (u2 (u2 (u2 (u2 (u2 (al t3)))))))))))))))) <|
  .gu fun a3=>
  have c1:=ksn_c (dn) (FrD.mk 3 0 y.q 0 y.f);
  .rt [26] [] [(41,hK c1 [] [1])] [] [0,6,2,3,4] [] (aj (al (u2 (u2 (u2 (u2 (u2 (u2 (u2 (u2 (u2 (aj t3 (aj (k2 (aj (show dn.length=(List.map frA dn).length by simp) (aj t6 (aj (c1) a3)))) (u2 (u2 (al t3))))))))))))))) (ak (aj (al (ak (k3 (k5 t9)))) t5))))
  (fun a2=>
  .gu fun a3=>
  have c0:=ksn_c (dn) (FrD.mk 3 0 y.q 0 y.f);
  .rt [26,34] [] [(41,hK c0 [] [1])] [] [0,6,2,3,4] [] (aj (aj a2 (al (u2 (u2 (u2 (u2 (u2 (u2 (u2 (u2 (u2 (aj t3 (aj (k2 (aj (show dn.length=(List.map frA dn).length by simp) (aj t6 (aj (c0) a3)))) (u2 (u2 (al t3)))))))))))))))) (ak (aj (al (ak (k3 (k5 t9)))) t5))))))) (by kernel_rfl)
theorem cnf_ct(z:SeD)(g:AgD)(d:BdD)(dn up:List FrD)(of en:List Int)(y:FrD)(r:Ret)(h:MReach (cnfStep z g d dn up of en y) (cnfEn z g d dn up of en y) r)(hi:immF 3 r.2=true∧∀blk,some blk∈r.1→ImmB blk):CTX Try.prog 90 ([some {es:=[raM z g d (.sl 1 0 dn.length) (.sl 2 0 up.length) (.sl 3 0 of.length) (.sl 4 0 en.length)],z:=17,flat:=false},some {es:=dn.map frA,z:=5},some {es:=up.map frA,z:=5},some {es:=of.map (AV.int .i64),z:=1},some {es:=en.map (AV.int .i64),z:=1}]) ([.ptr 0 0 0,frA y]) r.1 r.2:=
 CTX.mach (fn:=Try.f90) (c:=zB Try.f90) (S:=cnfSt z g d dn up of en y) (hd:=cnfHd) Try.func90 (by kernel_rfl) (nL rfl) (nL rfl)
  (fun s o ho=>match s,ho with
   | x,_=>x.elim)
  (fun o ho=>cnfEn_ok z g d dn up of en y o ho) h hi
inductive ansPc where
 | l0 (v0:Int) (v1:List FrD)
def ansSt(z:SeD)(g:AgD)(d:BdD)(dn up:List FrD)(of en:List Int)(m:List FrD):ansPc→St
 | .l0 v0 v1=>St.mk 22 [(0,AV.ptr 0 0 0),(6,AV.lst (List.map frA m)),(7,iv (iN (List.map frA m).length)),(8,iv v0)] [some (Blk.mk [AV.agg [uV z.q,bV z.o,iv z.c,iv z.f,uV g.l,iv g.t,bV g.s,iv g.r,iv g.c,iv d.c,iv d.t,bV d.s,bV d.f,AV.sl 1 0 dn.length,AV.sl 2 0 v1.length,AV.sl 3 0 of.length,AV.sl 4 0 en.length]] 17 false true none),some (bK (List.map frA dn) 5),some (bK (List.map frA v1) 5),some (bK (List.map (iv) of) 1),some (bK (List.map (iv) en) 1)]
def ansHd:ansPc→Nat
 | .l0 _ _=>0
def ansEn(z:SeD)(g:AgD)(d:BdD)(dn up:List FrD)(of en:List Int)(m:List FrD):Option (ansPc⊕Ret):=
 some (.inl (.l0 ((0:Int)) (up)))
def ansS0(z:SeD)(g:AgD)(d:BdD)(dn up:List FrD)(of en:List Int)(m:List FrD)(v0:Int)(v1:List FrD):Option (ansPc⊕Ret):=
 br (decide (v0<iN (List.map frA m).length))
 (gu (0≤v0) <|
  el m (v0.toNat) fun(x10:FrD)=>
  gu (∀(blk:Blk),blk∈[fB (sendF v1 x10)]→ImmB blk) <|
  some (.inl (.l0 (i64.wrap (v0+1)) (sendF v1 x10))))
 (some (.inr ([some (Blk.mk [rV z g d [AV.sl 1 0 dn.length,AV.sl 2 0 v1.length,AV.sl 3 0 of.length,AV.sl 4 0 en.length]] 17 false true none),some (bK (List.map frA dn) 5),some (bK (List.map frA v1) 5),some (bK (List.map iV of) 1),some (bK (List.map iV en) 1)],AV.tup [])))
def ansStep(z:SeD)(g:AgD)(d:BdD)(dn up:List FrD)(of en:List Int)(m:List FrD):ansPc→Option (ansPc⊕Ret)
 | .l0 v0 v1=>ansS0 z g d dn up of en m v0 v1
theorem ansEn_ok(z:SeD)(g:AgD)(d:BdD)(dn up:List FrD)(of en:List Int)(m:List FrD)(o:ansPc⊕Ret)(h:ansEn z g d dn up of en m=some o):Arr Try.prog Try.f72 1 (ansSt z g d dn up of en m) ansHd (zB Try.f72) [] {n:=Try.f72.ntmps,fr:=enumF 0 ([.ptr 0 0 0,.lst (m.map frA)]),hp:=([some {es:=[raM z g d (.sl 1 0 dn.length) (.sl 2 0 up.length) (.sl 3 0 of.length) (.sl 4 0 en.length)],z:=17,flat:=false},some {es:=dn.map frA,z:=5},some {es:=up.map frA,z:=5},some {es:=of.map (AV.int .i64),z:=1},some {es:=en.map (AV.int .i64),z:=1}])} o:=
 Scr.ok h mix (
 .lp [] [] [] [] [] [0,1,2,3,4] [0,6,7,8] (aj (al (u2 (u2 t2))) (ak (k3 (aj (al (ak (k3 (k5 t9)))) t5))))) (by kernel_rfl)
theorem ansS0_ok(z:SeD)(g:AgD)(d:BdD)(dn up:List FrD)(of en:List Int)(m:List FrD)(v0:Int)(v1:List FrD)(o:ansPc⊕Ret)(h:ansS0 z g d dn up of en m v0 v1=some o):Arr Try.prog Try.f72 1 (ansSt z g d dn up of en m) ansHd (headC Try.f72 0) (.rnd (headC Try.f72 0)::headK Try.f72 0) (ansSt z g d dn up of en m (.l0 v0 v1)) o:=
 Scr.ok h mix (
 .rn 0 [] [] [] [] (al (al t3)) <|
 .br (fun a0=>
 .gu fun a1=>
 .el fun x10 a2=>
 .rn 0 [19] [(10,frA x10)] [] [] (aj a0 (al (aj (k2 (aj a1 (getMap (f:=frA) a2))) (u2 (ak (al (k2 n11))))))) <|
 .gu fun a3=>
 have c0:=ksn_c v1 (x10);
 .lp [] [] [(18,hK c0 [] [2])] [] [] [0,1,6,3,4] [0,6,7,8] (aj (aj (u2 (u2 (u2 (u2 (u2 (u2 (aj (k2 (aj (show v1.length=(List.map frA v1).length by simp) (aj t6 (aj (c0) a3)))) (u2 (u2 (al t3)))))))))) (al (u2 s2))) (ak (k3 (aj (al (ak (k3 (k5 t9)))) t5)))))
 (fun a0=>
 .rt [18] [] [] [] [0,1,2,3,4] [] (aj (al a0) (ak (aj (al (ak (k3 (k5 t9)))) t5))))) (by kernel_rfl)
theorem ans_ct(z:SeD)(g:AgD)(d:BdD)(dn up:List FrD)(of en:List Int)(m:List FrD)(r:Ret)(h:MReach (ansStep z g d dn up of en m) (ansEn z g d dn up of en m) r)(hi:immF 3 r.2=true∧∀blk,some blk∈r.1→ImmB blk):CTX Try.prog 72 ([some {es:=[raM z g d (.sl 1 0 dn.length) (.sl 2 0 up.length) (.sl 3 0 of.length) (.sl 4 0 en.length)],z:=17,flat:=false},some {es:=dn.map frA,z:=5},some {es:=up.map frA,z:=5},some {es:=of.map (AV.int .i64),z:=1},some {es:=en.map (AV.int .i64),z:=1}]) ([.ptr 0 0 0,.lst (m.map frA)]) r.1 r.2:=
 CTX.mach (fn:=Try.f72) (c:=zB Try.f72) (S:=ansSt z g d dn up of en m) (hd:=ansHd) Try.func72 (by kernel_rfl) (nL rfl) (nL rfl)
  (fun s o ho=>match s,ho with
   | .l0 v0 v1,ho=>ansS0_ok z g d dn up of en m v0 v1 o ho
  )
  (fun o ho=>ansEn_ok z g d dn up of en m o ho) h hi
theorem immFB(l:List FrD):ImmB (fB l):=fun e he c hc=>by
 obtain⟨x,_,rfl⟩:=List.mem_map.1 he
 simp[frA,AV.cells] at hc
 rcases hc with rfl | rfl | rfl | rfl | rfl<;>rfl
theorem immIB(l:List Int):ImmB (iB l):=fun e he c hc=>by
 obtain⟨x,_,rfl⟩:=List.mem_map.1 he
 simp[AV.cells] at hc
 subst hc;rfl
theorem immRB{z:SeD}{g:AgD}{d:BdD}{dn up:List FrD}{of en:List Int}:ImmB (rB z g d dn up of en):=fun e he c hc=>by
 simp[rB] at he
 subst he
 exact List.all_eq_true.1 (show List.all (AV.cells (raM z g d (.sl 1 0 dn.length) (.sl 2 0 up.length) (.sl 3 0 of.length) (.sl 4 0 en.length))) (immF 1)=true from rfl) c hc
theorem immAll{z:SeD}{g:AgD}{d:BdD}{dn up:List FrD}{of en:List Int}:∀blk,some blk∈[some (rB z g d dn up of en),some (fB dn),some (fB up),some (iB of),some (iB en)]→ImmB blk:=fun blk h=>by
 simp at h
 rcases h with rfl | rfl | rfl | rfl | rfl
 ·exact immRB
 ·exact immFB _
 ·exact immFB _
 ·exact immIB _
 ·exact immIB _
theorem immOne(l:List FrD):∀blk:Blk,blk∈[fB l]→ImmB blk:=fun blk h=>by
 rw[List.mem_singleton.1 h];exact immFB l
theorem cnf_c(z:SeD)(g:AgD)(d:BdD)(dn up:List FrD)(of en:List Int)(y:FrD):CTX Try.prog 90 [some (rB z g d dn up of en),some (fB dn),some (fB up),some (iB of),some (iB en)] [.ptr 0 0 0,frA y]
  [some (rB (cnfO z dn y).s g d (cnfO z dn y).dn up of en),some (fB (cnfO z dn y).dn),some (fB up),some (iB of),some (iB en)] (.tup []):=by
 refine cnf_ct z g d dn up of en y ([_,_,_,_,_],_) (.val ?_) ⟨rfl,immAll⟩
 unfold cnfEn cnfO
 simp only[bne]
 cases y.k==2 with
 | false=>rfl
 | true=>cases z.f==0<;>cases y.f==2<;>exact gu_t (immOne _)
theorem ans_c(z:SeD)(g:AgD)(d:BdD)(dn up:List FrD)(of en:List Int)(m:List FrD)(hm:m.length≤1000000):CTX Try.prog 72 [some (rB z g d dn up of en),some (fB dn),some (fB up),some (iB of),some (iB en)] [.ptr 0 0 0,.lst (m.map frA)]
  [some (rB z g d dn (allF up m) of en),some (fB dn),some (fB (allF up m)),some (iB of),some (iB en)] (.tup []):=by
 refine ans_ct z g d dn up of en m ([_,_,_,_,_],_) ?_ ⟨rfl,immAll⟩
 unfold ansEn
 refine loop_up (fun i=>ansPc.l0 (i:Int) (allF up (m.take i))) m.length (fun i hi h=>?_) ?_
 ·refine .to (show ansS0 z g d dn up of en m i _=_ from ?_) h
  unfold ansS0
  rw[rngG fr0 hi,zW i (by omega),List.take_add_one,getE fr0 hi,Option.toList_some]
  refine(gu_t (immOne _)).trans ?_
  unfold allF
  rw[List.foldl_append];rfl
 ·refine .to (show ansS0 z g d dn up of en m m.length _=_ from ?_) (.ret _)
  unfold ansS0
  rw[rngE,List.take_length];rfl
def trdSt(z:SeD)(g:AgD)(d:BdD)(dn up:List FrD)(of en:List Int)(y:EvD):Empty→St
 | x=>x.elim
def trdHd:Empty→Nat
 | x=>x.elim
def trdEn(z:SeD)(g:AgD)(d:BdD)(dn up:List FrD)(of en:List Int)(y:EvD):Option (Empty⊕Ret):=
 br (y.k==4)
 (gu (∀(blk:Blk),blk∈[fB (losO dn y.b).l]→ImmB blk) <|
  some (.inr ([some (Blk.mk [rV z g d [AV.sl 1 0 (losO dn y.b).l.length,AV.sl 2 0 up.length,AV.sl 3 0 of.length,AV.sl 4 0 en.length]] 17 false true none),some (bK (List.map frA (losO dn y.b).l) 5),some (bK (List.map frA up) 5),some (bK (List.map iV of) 1),some (bK (List.map iV en) 1)],bV (losO dn y.b).o)))
 (br (y.k==5)
  (gu (∀(blk:Blk),blk∈[fB (losO dn y.b).l]→ImmB blk) <|
   some (.inr ([some (Blk.mk [rV z g d [AV.sl 1 0 (losO dn y.b).l.length,AV.sl 2 0 up.length,AV.sl 3 0 of.length,AV.sl 4 0 en.length]] 17 false true none),some (bK (List.map frA (losO dn y.b).l) 5),some (bK (List.map frA up) 5),some (bK (List.map iV of) 1),some (bK (List.map iV en) 1)],bV (losO dn y.b).o)))
  (br (y.k==6)
   (gu (∀(blk:Blk),blk∈[fB (dblO dn y.b).l]→ImmB blk) <|
    some (.inr ([some (Blk.mk [rV z g d [AV.sl 1 0 (dblO dn y.b).l.length,AV.sl 2 0 up.length,AV.sl 3 0 of.length,AV.sl 4 0 en.length]] 17 false true none),some (bK (List.map frA (dblO dn y.b).l) 5),some (bK (List.map frA up) 5),some (bK (List.map iV of) 1),some (bK (List.map iV en) 1)],bV (dblO dn y.b).o)))
   (br (y.k==7)
    (gu (∀(blk:Blk),blk∈[fB (dblO dn y.b).l]→ImmB blk) <|
     some (.inr ([some (Blk.mk [rV z g d [AV.sl 1 0 (dblO dn y.b).l.length,AV.sl 2 0 up.length,AV.sl 3 0 of.length,AV.sl 4 0 en.length]] 17 false true none),some (bK (List.map frA (dblO dn y.b).l) 5),some (bK (List.map frA up) 5),some (bK (List.map iV of) 1),some (bK (List.map iV en) 1)],bV (dblO dn y.b).o)))
    (gu (∀(blk:Blk),blk∈[fB (delO dn y.b).l]→ImmB blk) <|
     br (!(delO dn y.b).o)
     (some (.inr ([some (Blk.mk [rV z g d [AV.sl 1 0 dn.length,AV.sl 2 0 up.length,AV.sl 3 0 of.length,AV.sl 4 0 en.length]] 17 false true none),some (bK (List.map frA dn) 5),some (bK (List.map frA up) 5),some (bK (List.map iV of) 1),some (bK (List.map iV en) 1)],bV false)))
     (br (y.k==3)
      (some (.inr ([some (Blk.mk [rV (cnfO z (delO dn y.b).l (delO dn y.b).x).s g d [AV.sl 1 0 (cnfO z (delO dn y.b).l (delO dn y.b).x).dn.length,AV.sl 2 0 up.length,AV.sl 3 0 of.length,AV.sl 4 0 en.length]] 17 false true none),some (bK (List.map frA (cnfO z (delO dn y.b).l (delO dn y.b).x).dn) 5),some (bK (List.map frA up) 5),some (bK (List.map iV of) 1),some (bK (List.map iV en) 1)],bV true)))
      (br (!d.f)
       (gu ((heO g 0 (delO dn y.b).x).l.length≤1000000) <|
        some (.inr ([some (Blk.mk [rV z (heO g 0 (delO dn y.b).x).a d [AV.sl 1 0 (delO dn y.b).l.length,AV.sl 2 0 (allF up (heO g 0 (delO dn y.b).x).l).length,AV.sl 3 0 of.length,AV.sl 4 0 en.length]] 17 false true none),some (bK (List.map frA (delO dn y.b).l) 5),some (bK (List.map frA (allF up (heO g 0 (delO dn y.b).x).l)) 5),some (bK (List.map iV of) 1),some (bK (List.map iV en) 1)],bV true)))
       (some (.inr ([some (Blk.mk [rV z g d [AV.sl 1 0 (delO dn y.b).l.length,AV.sl 2 0 up.length,AV.sl 3 0 of.length,AV.sl 4 0 en.length]] 17 false true none),some (bK (List.map frA (delO dn y.b).l) 5),some (bK (List.map frA up) 5),some (bK (List.map iV of) 1),some (bK (List.map iV en) 1)],bV true)))))))))
def trdStep(z:SeD)(g:AgD)(d:BdD)(dn up:List FrD)(of en:List Int)(y:EvD):Empty→Option (Empty⊕Ret)
 | x=>x.elim
theorem trdEn_ok(z:SeD)(g:AgD)(d:BdD)(dn up:List FrD)(of en:List Int)(y:EvD)(o:Empty⊕Ret)(h:trdEn z g d dn up of en y=some o):Arr Try.prog Try.f71 1 (trdSt z g d dn up of en y) trdHd (zB Try.f71) [] {n:=Try.f71.ntmps,fr:=enumF 0 ([.ptr 0 0 0,.ptr 0 0 13,evA y]),hp:=([some {es:=[raM z g d (.sl 1 0 dn.length) (.sl 2 0 up.length) (.sl 3 0 of.length) (.sl 4 0 en.length)],z:=17,flat:=false},some {es:=dn.map frA,z:=5},some {es:=up.map frA,z:=5},some {es:=of.map (AV.int .i64),z:=1},some {es:=en.map (AV.int .i64),z:=1}])} o:=
 Scr.ok h mix (
 .rn 3 [] [] [] [] (ag t2 (u2 (aj (u2 s2) (al (u2 s2))))) <|
 .br (fun a0=>
 .gu fun a1=>
 have c0:=klo_c (dn) (y.b);
 .rt [29] [] [(24,hK c0 [] [1])] [] [0,6,2,3,4] [] (aj (aj a0 (ak (aj (u2 (u2 (u2 (u2 (u2 (u2 (aj (k2 (aj (show dn.length=(List.map frA dn).length by simp) (ak (aj (c0) a1)))) (u2 (u2 (u2 (u2 (aj t3 s2)))))))))))) (al (u2 s2))))) (ak (aj (al (ak (k3 (k5 t9)))) t5))))
 (fun a0=>
 .rn 0 [28] [] [] [] (aj a0 (al (u2 s2))) <|
 .br (fun a1=>
  .gu fun a2=>
  have c0:=klo_c (dn) (y.b);
  .rt [29] [] [(24,hK c0 [] [1])] [] [0,6,2,3,4] [] (aj (aj a1 (aj (u2 (u2 (u2 (u2 (u2 (u2 (aj (k2 (aj (show dn.length=(List.map frA dn).length by simp) (ak (aj (c0) a2)))) (u2 (u2 (u2 (u2 (aj t3 s2)))))))))))) (al (u2 s2)))) (ak (aj (al (ak (k3 (k5 t9)))) t5))))
 (fun a1=>
  .rn 0 [28] [] [] [] (aj a1 (al (u2 s2))) <|
  .br (fun a2=>
  .gu fun a3=>
  have c0:=kdo_c (dn) (y.b);
  .rt [59] [] [(39,hK c0 [] [1])] [] [0,6,2,3,4] [] (aj (aj a2 (ak (aj (u2 (u2 (u2 (u2 (u2 (u2 (aj (k2 (aj (show dn.length=(List.map frA dn).length by simp) (ak (aj (c0) a3)))) (u2 (u2 (u2 (u2 (aj t3 s2)))))))))))) (al (u2 s2))))) (ak (aj (al (ak (k3 (k5 t9)))) t5))))
  (fun a2=>
  .rn 0 [58] [] [] [] (aj a2 (al (u2 s2))) <|
  .br (fun a3=>
   .gu fun a4=>
   have c0:=kdo_c (dn) (y.b);
   .rt [59] [] [(39,hK c0 [] [1])] [] [0,6,2,3,4] [] (aj (aj a3 (aj (u2 (u2 (u2 (u2 (u2 (u2 (aj (k2 (aj (show dn.length=(List.map frA dn).length by simp) (ak (aj (c0) a4)))) (u2 (u2 (u2 (u2 (aj t3 s2)))))))))))) (al (u2 s2)))) (ak (aj (al (ak (k3 (k5 t9)))) t5))))
  (fun a3=>
   .gu fun a4=>
   have c0:=kde_c (dn) (y.b);
   .rn 1 [58] [] [(50,hK c0 [] [1])] [] (aj a3 (aj (u2 (u2 (u2 (u2 (u2 (aj (k2 (aj (show dn.length=(List.map frA dn).length by simp) (ak (aj (c0) a4)))) (u2 (u2 (u2 (u2 (ak (aj (k2 n11) (u2 s2))))))))))))) (al (u2 s2)))) <|
   .br (fun a5=>
   .rt [111] [] [] [] [0,1,2,3,4] [] (aj (aj a5 s2) (ak (aj (al (ak (k3 (k5 t9)))) t5))))
   (fun a5=>
   .rn 1 [110] [] [] [] (aj a5 (aj (u2 (u2 (u2 (al t3)))) (al (u2 (u2 (u2 s2)))))) <|
   .br (fun a6=>
    have c1:=cnf_c z g d ((delO dn y.b).l) (up) (of) (en) ((delO dn y.b).x);
    .rt [119] [] [(65,hKO c1 [0,6,2,3,4] [])] [] [0,8,9,10,11] [] (aj (aj a6 (aj (u2 (u2 (al (k3 (aj t6 (aj (al (ak (k3 (k5 t9)))) (ak (k3 (c1))))))))) s2)) (ak (aj (al (ak (k3 (k5 t9)))) t5))))
   (fun a6=>
    .rn 0 [118] [] [] [] (aj a6 (al (u2 (u2 (u2 (u2 (u2 (u2 s2)))))))) <|
    .br (fun a7=>
    have c1:=aHe_c g (0) ((delO dn y.b).x);
    .rn 1 [133] [] [(79,hK c1 [] [])] [] (aj a7 (aj (u2 (u2 (u2 (u2 (u2 (aj (k2 (aj t6 (ak (aj t6 (al (c1)))))) (u2 (u2 (u2 (ak (aj (k2 n11) s2))))))))))) (al (u2 (u2 (u2 (u2 (al t3)))))))) <|
    .gu fun a8=>
    have c2:=ans_c z ((heO g 0 (delO dn y.b).x).a) d ((delO dn y.b).l) (up) (of) (en) ((heO g 0 (delO dn y.b).x).l) a8;
    .rt [] [] [(88,hKO c2 [0,6,2,3,4] [])] [] [0,9,10,11,12] [] (aj (aj (u2 (u2 (al (ak (k3 (aj (al (ak (k3 (k5 t9)))) (ak (k3 (c2))))))))) s2) (ak (aj (al (ak (k3 (k5 t9)))) t5))))
    (fun a7=>
    .rt [132] [] [] [] [0,6,2,3,4] [] (aj (aj a7 s2) (ak (aj (al (ak (k3 (k5 t9)))) t5))))))))))) (by kernel_rfl)
theorem trd_ct(z:SeD)(g:AgD)(d:BdD)(dn up:List FrD)(of en:List Int)(y:EvD)(r:Ret)(h:MReach (trdStep z g d dn up of en y) (trdEn z g d dn up of en y) r)(hi:immF 3 r.2=true∧∀blk,some blk∈r.1→ImmB blk):CTX Try.prog 71 ([some {es:=[raM z g d (.sl 1 0 dn.length) (.sl 2 0 up.length) (.sl 3 0 of.length) (.sl 4 0 en.length)],z:=17,flat:=false},some {es:=dn.map frA,z:=5},some {es:=up.map frA,z:=5},some {es:=of.map (AV.int .i64),z:=1},some {es:=en.map (AV.int .i64),z:=1}]) ([.ptr 0 0 0,.ptr 0 0 13,evA y]) r.1 r.2:=
 CTX.mach (fn:=Try.f71) (c:=zB Try.f71) (S:=trdSt z g d dn up of en y) (hd:=trdHd) Try.func71 (by kernel_rfl) (nL rfl) (nL rfl)
  (fun s o ho=>match s,ho with
   | x,_=>x.elim)
  (fun o ho=>trdEn_ok z g d dn up of en y o ho) h hi
def truSt(z:SeD)(g:AgD)(d:BdD)(dn up:List FrD)(of en:List Int)(y:EvD):Empty→St
 | x=>x.elim
def truHd:Empty→Nat
 | x=>x.elim
def truEn(z:SeD)(g:AgD)(d:BdD)(dn up:List FrD)(of en:List Int)(y:EvD):Option (Empty⊕Ret):=
 br (y.k==4)
 (gu (∀(blk:Blk),blk∈[fB (losO up y.b).l]→ImmB blk) <|
  some (.inr ([some (Blk.mk [rV z g d [AV.sl 1 0 dn.length,AV.sl 2 0 (losO up y.b).l.length,AV.sl 3 0 of.length,AV.sl 4 0 en.length]] 17 false true none),some (bK (List.map frA dn) 5),some (bK (List.map frA (losO up y.b).l) 5),some (bK (List.map iV of) 1),some (bK (List.map iV en) 1)],bV (losO up y.b).o)))
 (br (y.k==5)
  (gu (∀(blk:Blk),blk∈[fB (losO up y.b).l]→ImmB blk) <|
   some (.inr ([some (Blk.mk [rV z g d [AV.sl 1 0 dn.length,AV.sl 2 0 (losO up y.b).l.length,AV.sl 3 0 of.length,AV.sl 4 0 en.length]] 17 false true none),some (bK (List.map frA dn) 5),some (bK (List.map frA (losO up y.b).l) 5),some (bK (List.map iV of) 1),some (bK (List.map iV en) 1)],bV (losO up y.b).o)))
  (br (y.k==6)
   (gu (∀(blk:Blk),blk∈[fB (dblO up y.b).l]→ImmB blk) <|
    some (.inr ([some (Blk.mk [rV z g d [AV.sl 1 0 dn.length,AV.sl 2 0 (dblO up y.b).l.length,AV.sl 3 0 of.length,AV.sl 4 0 en.length]] 17 false true none),some (bK (List.map frA dn) 5),some (bK (List.map frA (dblO up y.b).l) 5),some (bK (List.map iV of) 1),some (bK (List.map iV en) 1)],bV (dblO up y.b).o)))
   (br (y.k==7)
    (gu (∀(blk:Blk),blk∈[fB (dblO up y.b).l]→ImmB blk) <|
     some (.inr ([some (Blk.mk [rV z g d [AV.sl 1 0 dn.length,AV.sl 2 0 (dblO up y.b).l.length,AV.sl 3 0 of.length,AV.sl 4 0 en.length]] 17 false true none),some (bK (List.map frA dn) 5),some (bK (List.map frA (dblO up y.b).l) 5),some (bK (List.map iV of) 1),some (bK (List.map iV en) 1)],bV (dblO up y.b).o)))
    (gu (∀(blk:Blk),blk∈[fB (delO up y.b).l]→ImmB blk) <|
     br (!(delO up y.b).o)
     (some (.inr ([some (Blk.mk [rV z g d [AV.sl 1 0 dn.length,AV.sl 2 0 up.length,AV.sl 3 0 of.length,AV.sl 4 0 en.length]] 17 false true none),some (bK (List.map frA dn) 5),some (bK (List.map frA up) 5),some (bK (List.map iV of) 1),some (bK (List.map iV en) 1)],bV false)))
     (br (y.k==3)
      (some (.inr ([some (Blk.mk [rV (cnfO z dn (delO up y.b).x).s g d [AV.sl 1 0 (cnfO z dn (delO up y.b).x).dn.length,AV.sl 2 0 (delO up y.b).l.length,AV.sl 3 0 of.length,AV.sl 4 0 en.length]] 17 false true none),some (bK (List.map frA (cnfO z dn (delO up y.b).x).dn) 5),some (bK (List.map frA (delO up y.b).l) 5),some (bK (List.map iV of) 1),some (bK (List.map iV en) 1)],bV true)))
      (br (!d.f)
       (gu ((heO g 0 (delO up y.b).x).l.length≤1000000) <|
        some (.inr ([some (Blk.mk [rV z (heO g 0 (delO up y.b).x).a d [AV.sl 1 0 dn.length,AV.sl 2 0 (allF (delO up y.b).l (heO g 0 (delO up y.b).x).l).length,AV.sl 3 0 of.length,AV.sl 4 0 en.length]] 17 false true none),some (bK (List.map frA dn) 5),some (bK (List.map frA (allF (delO up y.b).l (heO g 0 (delO up y.b).x).l)) 5),some (bK (List.map iV of) 1),some (bK (List.map iV en) 1)],bV true)))
       (some (.inr ([some (Blk.mk [rV z g d [AV.sl 1 0 dn.length,AV.sl 2 0 (delO up y.b).l.length,AV.sl 3 0 of.length,AV.sl 4 0 en.length]] 17 false true none),some (bK (List.map frA dn) 5),some (bK (List.map frA (delO up y.b).l) 5),some (bK (List.map iV of) 1),some (bK (List.map iV en) 1)],bV true)))))))))
def truStep(z:SeD)(g:AgD)(d:BdD)(dn up:List FrD)(of en:List Int)(y:EvD):Empty→Option (Empty⊕Ret)
 | x=>x.elim
theorem truEn_ok(z:SeD)(g:AgD)(d:BdD)(dn up:List FrD)(of en:List Int)(y:EvD)(o:Empty⊕Ret)(h:truEn z g d dn up of en y=some o):Arr Try.prog Try.f71 1 (truSt z g d dn up of en y) truHd (zB Try.f71) [] {n:=Try.f71.ntmps,fr:=enumF 0 ([.ptr 0 0 0,.ptr 0 0 14,evA y]),hp:=([some {es:=[raM z g d (.sl 1 0 dn.length) (.sl 2 0 up.length) (.sl 3 0 of.length) (.sl 4 0 en.length)],z:=17,flat:=false},some {es:=dn.map frA,z:=5},some {es:=up.map frA,z:=5},some {es:=of.map (AV.int .i64),z:=1},some {es:=en.map (AV.int .i64),z:=1}])} o:=
 Scr.ok h mix (
 .rn 3 [] [] [] [] (ag t2 (u2 (aj (u2 s2) (al (u2 s2))))) <|
 .br (fun a0=>
 .gu fun a1=>
 have c0:=klo_c (up) (y.b);
 .rt [29] [] [(24,hK c0 [] [2])] [] [0,1,6,3,4] [] (aj (aj a0 (ak (aj (u2 (u2 (u2 (u2 (u2 (u2 (aj (k2 (aj (show up.length=(List.map frA up).length by simp) (ak (aj (c0) a1)))) (u2 (u2 (u2 (u2 (aj t3 s2)))))))))))) (al (u2 s2))))) (ak (aj (al (ak (k3 (k5 t9)))) t5))))
 (fun a0=>
 .rn 0 [28] [] [] [] (aj a0 (al (u2 s2))) <|
 .br (fun a1=>
  .gu fun a2=>
  have c0:=klo_c (up) (y.b);
  .rt [29] [] [(24,hK c0 [] [2])] [] [0,1,6,3,4] [] (aj (aj a1 (aj (u2 (u2 (u2 (u2 (u2 (u2 (aj (k2 (aj (show up.length=(List.map frA up).length by simp) (ak (aj (c0) a2)))) (u2 (u2 (u2 (u2 (aj t3 s2)))))))))))) (al (u2 s2)))) (ak (aj (al (ak (k3 (k5 t9)))) t5))))
 (fun a1=>
  .rn 0 [28] [] [] [] (aj a1 (al (u2 s2))) <|
  .br (fun a2=>
  .gu fun a3=>
  have c0:=kdo_c (up) (y.b);
  .rt [59] [] [(39,hK c0 [] [2])] [] [0,1,6,3,4] [] (aj (aj a2 (ak (aj (u2 (u2 (u2 (u2 (u2 (u2 (aj (k2 (aj (show up.length=(List.map frA up).length by simp) (ak (aj (c0) a3)))) (u2 (u2 (u2 (u2 (aj t3 s2)))))))))))) (al (u2 s2))))) (ak (aj (al (ak (k3 (k5 t9)))) t5))))
  (fun a2=>
  .rn 0 [58] [] [] [] (aj a2 (al (u2 s2))) <|
  .br (fun a3=>
   .gu fun a4=>
   have c0:=kdo_c (up) (y.b);
   .rt [59] [] [(39,hK c0 [] [2])] [] [0,1,6,3,4] [] (aj (aj a3 (aj (u2 (u2 (u2 (u2 (u2 (u2 (aj (k2 (aj (show up.length=(List.map frA up).length by simp) (ak (aj (c0) a4)))) (u2 (u2 (u2 (u2 (aj t3 s2)))))))))))) (al (u2 s2)))) (ak (aj (al (ak (k3 (k5 t9)))) t5))))
  (fun a3=>
   .gu fun a4=>
   have c0:=kde_c (up) (y.b);
   .rn 1 [58] [] [(50,hK c0 [] [2])] [] (aj a3 (aj (u2 (u2 (u2 (u2 (u2 (aj (k2 (aj (show up.length=(List.map frA up).length by simp) (ak (aj (c0) a4)))) (u2 (u2 (u2 (u2 (ak (aj (k2 n11) (u2 s2))))))))))))) (al (u2 s2)))) <|
   .br (fun a5=>
   .rt [111] [] [] [] [0,1,2,3,4] [] (aj (aj a5 s2) (ak (aj (al (ak (k3 (k5 t9)))) t5))))
   (fun a5=>
   .rn 1 [110] [] [] [] (aj a5 (aj (u2 (u2 (u2 (al t3)))) (al (u2 (u2 (u2 s2)))))) <|
   .br (fun a6=>
    have c1:=cnf_c z g d (dn) ((delO up y.b).l) (of) (en) ((delO up y.b).x);
    .rt [119] [] [(65,hKO c1 [0,1,6,3,4] [])] [] [0,8,9,10,11] [] (aj (aj a6 (aj (u2 (u2 (al (k3 (aj t6 (aj (al (ak (k3 (k5 t9)))) (ak (k3 (c1))))))))) s2)) (ak (aj (al (ak (k3 (k5 t9)))) t5))))
   (fun a6=>
    .rn 0 [118] [] [] [] (aj a6 (al (u2 (u2 (u2 (u2 (u2 (u2 s2)))))))) <|
    .br (fun a7=>
    have c1:=aHe_c g (0) ((delO up y.b).x);
    .rn 1 [133] [] [(79,hK c1 [] [])] [] (aj a7 (aj (u2 (u2 (u2 (u2 (u2 (aj (k2 (aj t6 (ak (aj t6 (al (c1)))))) (u2 (u2 (u2 (ak (aj (k2 n11) s2))))))))))) (al (u2 (u2 (u2 (u2 (al t3)))))))) <|
    .gu fun a8=>
    have c2:=ans_c z ((heO g 0 (delO up y.b).x).a) d (dn) ((delO up y.b).l) (of) (en) ((heO g 0 (delO up y.b).x).l) a8;
    .rt [] [] [(88,hKO c2 [0,1,6,3,4] [])] [] [0,9,10,11,12] [] (aj (aj (u2 (u2 (al (ak (k3 (aj (al (ak (k3 (k5 t9)))) (ak (k3 (c2))))))))) s2) (ak (aj (al (ak (k3 (k5 t9)))) t5))))
    (fun a7=>
    .rt [132] [] [] [] [0,1,6,3,4] [] (aj (aj a7 s2) (ak (aj (al (ak (k3 (k5 t9)))) t5))))))))))) (by kernel_rfl)
theorem tru_ct(z:SeD)(g:AgD)(d:BdD)(dn up:List FrD)(of en:List Int)(y:EvD)(r:Ret)(h:MReach (truStep z g d dn up of en y) (truEn z g d dn up of en y) r)(hi:immF 3 r.2=true∧∀blk,some blk∈r.1→ImmB blk):CTX Try.prog 71 ([some {es:=[raM z g d (.sl 1 0 dn.length) (.sl 2 0 up.length) (.sl 3 0 of.length) (.sl 4 0 en.length)],z:=17,flat:=false},some {es:=dn.map frA,z:=5},some {es:=up.map frA,z:=5},some {es:=of.map (AV.int .i64),z:=1},some {es:=en.map (AV.int .i64),z:=1}]) ([.ptr 0 0 0,.ptr 0 0 14,evA y]) r.1 r.2:=
 CTX.mach (fn:=Try.f71) (c:=zB Try.f71) (S:=truSt z g d dn up of en y) (hd:=truHd) Try.func71 (by kernel_rfl) (nL rfl) (nL rfl)
  (fun s o ho=>match s,ho with
   | x,_=>x.elim)
  (fun o ho=>truEn_ok z g d dn up of en y o ho) h hi
structure TmD where
 z:SeD
 g:AgD
 dn:List FrD
 up:List FrD
 o:Bool
theorem heO_len(a:AgD)(q:Int)(f:FrD):(heO a q f).l.length≤1:=by
 unfold heO
 cases frV f&&f.r==q with
 | false=>exact Nat.zero_le _
 | true=>
  show(heaO a f).l.length≤1
  unfold heaO
  cases f.k==1 with
  | true=>exact Nat.le_refl _
  | false=>cases f.k==3&&(!(a.r==0)&&(f.q==a.l&&f.f==a.r))<;>exact Nat.zero_le _
def trdO(z:SeD)(g:AgD)(d:BdD)(dn up:List FrD)(y:EvD):TmD:=bif y.k==4||y.k==5 then ⟨z,g,(losO dn y.b).l,up,(losO dn y.b).o⟩
 else bif y.k==6||y.k==7 then ⟨z,g,(dblO dn y.b).l,up,(dblO dn y.b).o⟩
 else bif !(delO dn y.b).o then ⟨z,g,dn,up,false⟩
 else bif y.k==3 then ⟨(cnfO z (delO dn y.b).l (delO dn y.b).x).s,g,(cnfO z (delO dn y.b).l (delO dn y.b).x).dn,up,true⟩
 else bif d.f then ⟨z,g,(delO dn y.b).l,up,true⟩
 else ⟨z,(heO g 0 (delO dn y.b).x).a,(delO dn y.b).l,allF up (heO g 0 (delO dn y.b).x).l,true⟩
def truO(z:SeD)(g:AgD)(d:BdD)(dn up:List FrD)(y:EvD):TmD:=bif y.k==4||y.k==5 then ⟨z,g,dn,(losO up y.b).l,(losO up y.b).o⟩
 else bif y.k==6||y.k==7 then ⟨z,g,dn,(dblO up y.b).l,(dblO up y.b).o⟩
 else bif !(delO up y.b).o then ⟨z,g,dn,up,false⟩
 else bif y.k==3 then ⟨(cnfO z dn (delO up y.b).x).s,g,(cnfO z dn (delO up y.b).x).dn,(delO up y.b).l,true⟩
 else bif d.f then ⟨z,g,dn,(delO up y.b).l,true⟩
 else ⟨z,(heO g 0 (delO up y.b).x).a,dn,allF (delO up y.b).l (heO g 0 (delO up y.b).x).l,true⟩
theorem trd_c(z:SeD)(g:AgD)(d:BdD)(dn up:List FrD)(of en:List Int)(y:EvD):CTX Try.prog 71 [some (rB z g d dn up of en),some (fB dn),some (fB up),some (iB of),some (iB en)] [.ptr 0 0 0,.ptr 0 0 13,evA y]
  [some (rB (trdO z g d dn up y).z (trdO z g d dn up y).g d (trdO z g d dn up y).dn (trdO z g d dn up y).up of en),some (fB (trdO z g d dn up y).dn),some (fB (trdO z g d dn up y).up),some (iB of),some (iB en)] (.bool (trdO z g d dn up y).o):=by
 have hl:=heO_len g 0 (delO dn y.b).x
 refine trd_ct z g d dn up of en y ([some (rB (trdO z g d dn up y).z (trdO z g d dn up y).g d (trdO z g d dn up y).dn (trdO z g d dn up y).up of en),some (fB (trdO z g d dn up y).dn),some (fB (trdO z g d dn up y).up),some (iB of),some (iB en)],.bool (trdO z g d dn up y).o) (.val ?_) ⟨rfl,immAll⟩
 obtain⟨dc,dt,ds,df⟩:=d
 unfold trdEn trdO
 rw[gu_t (show(heO g 0 (delO dn y.b).x).l.length≤1000000 by omega),gu_t (immOne (delO dn y.b).l)]
 cases y.k==4 with
 | true=>exact gu_t (immOne _)
 | false=>cases y.k==5 with
  | true=>exact gu_t (immOne _)
  | false=>cases y.k==6 with
   | true=>exact gu_t (immOne _)
   | false=>cases y.k==7 with
    | true=>exact gu_t (immOne _)
    | false=>cases (delO dn y.b).o with
     | false=>rfl
     | true=>cases y.k==3 with
      | true=>rfl
      | false=>cases df<;>rfl
theorem tru_c(z:SeD)(g:AgD)(d:BdD)(dn up:List FrD)(of en:List Int)(y:EvD):CTX Try.prog 71 [some (rB z g d dn up of en),some (fB dn),some (fB up),some (iB of),some (iB en)] [.ptr 0 0 0,.ptr 0 0 14,evA y]
  [some (rB (truO z g d dn up y).z (truO z g d dn up y).g d (truO z g d dn up y).dn (truO z g d dn up y).up of en),some (fB (truO z g d dn up y).dn),some (fB (truO z g d dn up y).up),some (iB of),some (iB en)] (.bool (truO z g d dn up y).o):=by
 have hl:=heO_len g 0 (delO up y.b).x
 refine tru_ct z g d dn up of en y ([some (rB (truO z g d dn up y).z (truO z g d dn up y).g d (truO z g d dn up y).dn (truO z g d dn up y).up of en),some (fB (truO z g d dn up y).dn),some (fB (truO z g d dn up y).up),some (iB of),some (iB en)],.bool (truO z g d dn up y).o) (.val ?_) ⟨rfl,immAll⟩
 obtain⟨dc,dt,ds,df⟩:=d
 unfold truEn truO
 rw[gu_t (show(heO g 0 (delO up y.b).x).l.length≤1000000 by omega),gu_t (immOne (delO up y.b).l)]
 cases y.k==4 with
 | true=>exact gu_t (immOne _)
 | false=>cases y.k==5 with
  | true=>exact gu_t (immOne _)
  | false=>cases y.k==6 with
   | true=>exact gu_t (immOne _)
   | false=>cases y.k==7 with
    | true=>exact gu_t (immOne _)
    | false=>cases (delO up y.b).o with
     | false=>rfl
     | true=>cases y.k==3 with
      | true=>rfl
      | false=>cases df<;>rfl
theorem ans_e(z:SeD)(g:AgD)(d:BdD)(dn up:List FrD)(of en:List Int)(c:Int)(m:List FrD)(hm:m.length≤1000000):CTX Try.prog 72 [some {es:=[raM z g d (.sl 1 0 dn.length) (.sl 2 0 up.length) (.sl 3 0 of.length) (.sl 4 0 ((en.map (AV.int .i64)).length+[AV.int .i64 c].length))],z:=17,flat:=false},some (fB dn),some (fB up),some (iB of),some {es:=en.map (AV.int .i64)++[AV.int .i64 c],z:=1}] [.ptr 0 0 0,.lst (m.map frA)]
  [some (rB z g d dn (allF up m) of (en++[c])),some (fB dn),some (fB (allF up m)),some (iB of),some (iB (en++[c]))] (.tup []):=by
 have h:=ans_c z g d dn up of (en++[c]) m hm
 have e1:(en++[c]).length=(en.map (AV.int .i64)).length+[AV.int .i64 c].length:=by simp
 have e2:iB (en++[c])={es:=en.map (AV.int .i64)++[AV.int .i64 c],z:=1}:=by rw[iB,List.map_append];rfl
 have e3:rB z g d dn up of (en++[c])={es:=[raM z g d (.sl 1 0 dn.length) (.sl 2 0 up.length) (.sl 3 0 of.length) (.sl 4 0 ((en.map (AV.int .i64)).length+[AV.int .i64 c].length))],z:=17,flat:=false}:=by rw[rB,e1]
 rw[e3] at h
 have h':=h
 rw[show [some ({es:=[raM z g d (.sl 1 0 dn.length) (.sl 2 0 up.length) (.sl 3 0 of.length) (.sl 4 0 ((en.map (AV.int .i64)).length+[AV.int .i64 c].length))],z:=17,flat:=false}:Blk),some (fB dn),some (fB up),some (iB of),some (iB (en++[c]))]=[some {es:=[raM z g d (.sl 1 0 dn.length) (.sl 2 0 up.length) (.sl 3 0 of.length) (.sl 4 0 ((en.map (AV.int .i64)).length+[AV.int .i64 c].length))],z:=17,flat:=false},some (fB dn),some (fB up),some (iB of),some {es:=en.map (AV.int .i64)++[AV.int .i64 c],z:=1}] by rw[e2]] at h'
 exact h'
def rstSt(n:NetD)(z:SeD)(g:AgD)(d:BdD)(dn up:List FrD)(of en:List Int)(y:EvD):Empty→St
 | x=>x.elim
def rstHd:Empty→Nat
 | x=>x.elim
def rstEn(n:NetD)(z:SeD)(g:AgD)(d:BdD)(dn up:List FrD)(of en:List Int)(y:EvD):Option (Empty⊕Ret):=
 br (y.k==3)
 (some (.inr ([some (Blk.mk [rV (truO z g d dn up y).z (truO z g d dn up y).g d [AV.sl 1 0 (truO z g d dn up y).dn.length,AV.sl 2 0 (truO z g d dn up y).up.length,AV.sl 3 0 of.length,AV.sl 4 0 en.length]] 17 false true none),some (bK (List.map frA (truO z g d dn up y).dn) 5),some (bK (List.map frA (truO z g d dn up y).up) 5),some (bK (List.map iV of) 1),some (bK (List.map iV en) 1)],bV (truO z g d dn up y).o)))
 (br (y.k==5)
  (some (.inr ([some (Blk.mk [rV (truO z g d dn up y).z (truO z g d dn up y).g d [AV.sl 1 0 (truO z g d dn up y).dn.length,AV.sl 2 0 (truO z g d dn up y).up.length,AV.sl 3 0 of.length,AV.sl 4 0 en.length]] 17 false true none),some (bK (List.map frA (truO z g d dn up y).dn) 5),some (bK (List.map frA (truO z g d dn up y).up) 5),some (bK (List.map iV of) 1),some (bK (List.map iV en) 1)],bV (truO z g d dn up y).o)))
  (br (y.k==7)
   (some (.inr ([some (Blk.mk [rV (truO z g d dn up y).z (truO z g d dn up y).g d [AV.sl 1 0 (truO z g d dn up y).dn.length,AV.sl 2 0 (truO z g d dn up y).up.length,AV.sl 3 0 of.length,AV.sl 4 0 en.length]] 17 false true none),some (bK (List.map frA (truO z g d dn up y).dn) 5),some (bK (List.map frA (truO z g d dn up y).up) 5),some (bK (List.map iV of) 1),some (bK (List.map iV en) 1)],bV (truO z g d dn up y).o)))
   (br (y.k==2)
    (some (.inr ([some (Blk.mk [rV (trdO z g d dn up y).z (trdO z g d dn up y).g d [AV.sl 1 0 (trdO z g d dn up y).dn.length,AV.sl 2 0 (trdO z g d dn up y).up.length,AV.sl 3 0 of.length,AV.sl 4 0 en.length]] 17 false true none),some (bK (List.map frA (trdO z g d dn up y).dn) 5),some (bK (List.map frA (trdO z g d dn up y).up) 5),some (bK (List.map iV of) 1),some (bK (List.map iV en) 1)],bV (trdO z g d dn up y).o)))
    (br (y.k==4)
     (some (.inr ([some (Blk.mk [rV (trdO z g d dn up y).z (trdO z g d dn up y).g d [AV.sl 1 0 (trdO z g d dn up y).dn.length,AV.sl 2 0 (trdO z g d dn up y).up.length,AV.sl 3 0 of.length,AV.sl 4 0 en.length]] 17 false true none),some (bK (List.map frA (trdO z g d dn up y).dn) 5),some (bK (List.map frA (trdO z g d dn up y).up) 5),some (bK (List.map iV of) 1),some (bK (List.map iV en) 1)],bV (trdO z g d dn up y).o)))
     (br (y.k==6)
      (some (.inr ([some (Blk.mk [rV (trdO z g d dn up y).z (trdO z g d dn up y).g d [AV.sl 1 0 (trdO z g d dn up y).dn.length,AV.sl 2 0 (trdO z g d dn up y).up.length,AV.sl 3 0 of.length,AV.sl 4 0 en.length]] 17 false true none),some (bK (List.map frA (trdO z g d dn up y).dn) 5),some (bK (List.map frA (trdO z g d dn up y).up) 5),some (bK (List.map iV of) 1),some (bK (List.map iV en) 1)],bV (trdO z g d dn up y).o)))
      (br (y.k==8)
       (br ((outO z 0).o)
        (gu (∀(blk:Blk),blk∈[fB (sendF dn (outO z 0).x)]→ImmB blk) <|
         gu ((agaO g 0 d).length≤1000000) <|
         some (.inr ([some (Blk.mk [rV z g d [AV.sl 1 0 (sendF dn (outO z 0).x).length,AV.sl 2 0 (allF up (agaO g 0 d)).length,AV.sl 3 0 of.length,AV.sl 4 0 en.length]] 17 false true none),some (bK (List.map frA (sendF dn (outO z 0).x)) 5),some (bK (List.map frA (allF up (agaO g 0 d))) 5),some (bK (List.map iV of) 1),some (bK (List.map iV en) 1)],bV true)))
        (gu ((agaO g 0 d).length≤1000000) <|
         some (.inr ([some (Blk.mk [rV z g d [AV.sl 1 0 dn.length,AV.sl 2 0 (allF up (agaO g 0 d)).length,AV.sl 3 0 of.length,AV.sl 4 0 en.length]] 17 false true none),some (bK (List.map frA dn) 5),some (bK (List.map frA (allF up (agaO g 0 d))) 5),some (bK (List.map iV of) 1),some (bK (List.map iV en) 1)],bV true))))
       (br (y.k==9)
        (gu (Rows n.nx) <|
         br ((driO n g 0 d).a.l==g.l&&((driO n g 0 d).a.t==g.t&&((driO n g 0 d).a.s==g.s&&((driO n g 0 d).a.r==g.r&&((driO n g 0 d).a.c==g.c&&true)))))
         (br ((driO n g 0 d).b.c==d.c&&((driO n g 0 d).b.t==d.t&&((driO n g 0 d).b.s==d.s&&((driO n g 0 d).b.f==d.f&&true))))
          (some (.inr ([some (Blk.mk [rV z g d [AV.sl 1 0 dn.length,AV.sl 2 0 up.length,AV.sl 3 0 of.length,AV.sl 4 0 en.length]] 17 false true none),some (bK (List.map frA dn) 5),some (bK (List.map frA up) 5),some (bK (List.map iV of) 1),some (bK (List.map iV en) 1)],bV false)))
          (br ((driO n g 0 d).b.t == -1)
           (gu ((List.map iV en).length+[iV (driO n g 0 d).b.c].length≤9223372036854775807) <|
            gu (((List.map iV en).length+[iV (driO n g 0 d).b.c].length) * 8≤140737488355328) <|
            gu ((driO n g 0 d).l.length≤1000000) <|
            some (.inr ([some (Blk.mk [rV z (driO n g 0 d).a (driO n g 0 d).b [AV.sl 1 0 dn.length,AV.sl 2 0 (allF up (driO n g 0 d).l).length,AV.sl 3 0 of.length,AV.sl 4 0 (en++[(driO n g 0 d).b.c]).length]] 17 false true none),some (bK (List.map frA dn) 5),some (bK (List.map frA (allF up (driO n g 0 d).l)) 5),some (bK (List.map iV of) 1),some (bK (List.map iV (en++[(driO n g 0 d).b.c])) 1)],bV true)))
           (gu ((driO n g 0 d).l.length≤1000000) <|
            some (.inr ([some (Blk.mk [rV z (driO n g 0 d).a (driO n g 0 d).b [AV.sl 1 0 dn.length,AV.sl 2 0 (allF up (driO n g 0 d).l).length,AV.sl 3 0 of.length,AV.sl 4 0 en.length]] 17 false true none),some (bK (List.map frA dn) 5),some (bK (List.map frA (allF up (driO n g 0 d).l)) 5),some (bK (List.map iV of) 1),some (bK (List.map iV en) 1)],bV true)))))
         (br ((driO n g 0 d).b.t == -1)
          (gu ((List.map iV en).length+[iV (driO n g 0 d).b.c].length≤9223372036854775807) <|
           gu (((List.map iV en).length+[iV (driO n g 0 d).b.c].length) * 8≤140737488355328) <|
           gu ((driO n g 0 d).l.length≤1000000) <|
           some (.inr ([some (Blk.mk [rV z (driO n g 0 d).a (driO n g 0 d).b [AV.sl 1 0 dn.length,AV.sl 2 0 (allF up (driO n g 0 d).l).length,AV.sl 3 0 of.length,AV.sl 4 0 (en++[(driO n g 0 d).b.c]).length]] 17 false true none),some (bK (List.map frA dn) 5),some (bK (List.map frA (allF up (driO n g 0 d).l)) 5),some (bK (List.map iV of) 1),some (bK (List.map iV (en++[(driO n g 0 d).b.c])) 1)],bV true)))
          (gu ((driO n g 0 d).l.length≤1000000) <|
           some (.inr ([some (Blk.mk [rV z (driO n g 0 d).a (driO n g 0 d).b [AV.sl 1 0 dn.length,AV.sl 2 0 (allF up (driO n g 0 d).l).length,AV.sl 3 0 of.length,AV.sl 4 0 en.length]] 17 false true none),some (bK (List.map frA dn) 5),some (bK (List.map frA (allF up (driO n g 0 d).l)) 5),some (bK (List.map iV of) 1),some (bK (List.map iV en) 1)],bV true)))))
        (br (y.k==10)
         (br ((finO g 0 d).b.c==d.c&&((finO g 0 d).b.t==d.t&&((finO g 0 d).b.s==d.s&&((finO g 0 d).b.f==d.f&&true))))
          (some (.inr ([some (Blk.mk [rV z g d [AV.sl 1 0 dn.length,AV.sl 2 0 up.length,AV.sl 3 0 of.length,AV.sl 4 0 en.length]] 17 false true none),some (bK (List.map frA dn) 5),some (bK (List.map frA up) 5),some (bK (List.map iV of) 1),some (bK (List.map iV en) 1)],bV false)))
          (gu ((finO g 0 d).l.length≤1000000) <|
           some (.inr ([some (Blk.mk [rV z (finO g 0 d).a (finO g 0 d).b [AV.sl 1 0 dn.length,AV.sl 2 0 (allF up (finO g 0 d).l).length,AV.sl 3 0 of.length,AV.sl 4 0 en.length]] 17 false true none),some (bK (List.map frA dn) 5),some (bK (List.map frA (allF up (finO g 0 d).l)) 5),some (bK (List.map iV of) 1),some (bK (List.map iV en) 1)],bV true))))
         (br (y.k==11)
          (some (.inr ([some (Blk.mk [AV.agg [uV z.q,bV z.o,iV z.c,iV z.f,uV g.l,iV g.t,bV g.s,iV g.r,iV g.c,iV d.c,iV d.t,bV d.s,bV true,AV.sl 1 0 dn.length,AV.sl 2 0 up.length,AV.sl 3 0 of.length,AV.sl 4 0 en.length]] 17 false true none),some (bK (List.map frA dn) 5),some (bK (List.map frA up) 5),some (bK (List.map iV of) 1),some (bK (List.map iV en) 1)],bV !d.f)))
          (some (.inr ([some (Blk.mk [rV z g d [AV.sl 1 0 dn.length,AV.sl 2 0 up.length,AV.sl 3 0 of.length,AV.sl 4 0 en.length]] 17 false true none),some (bK (List.map frA dn) 5),some (bK (List.map frA up) 5),some (bK (List.map iV of) 1),some (bK (List.map iV en) 1)],bV false))))))))))))
def rstStep(n:NetD)(z:SeD)(g:AgD)(d:BdD)(dn up:List FrD)(of en:List Int)(y:EvD):Empty→Option (Empty⊕Ret)
 | x=>x.elim
theorem rstEn_ok(n:NetD)(z:SeD)(g:AgD)(d:BdD)(dn up:List FrD)(of en:List Int)(y:EvD)(o:Empty⊕Ret)(h:rstEn n z g d dn up of en y=some o):Arr Try.prog Try.f55 1 (rstSt n z g d dn up of en y) rstHd (zB Try.f55) [] {n:=Try.f55.ntmps,fr:=enumF 0 ([netA n,.ptr 0 0 0,evA y]),hp:=([some {es:=[raM z g d (.sl 1 0 dn.length) (.sl 2 0 up.length) (.sl 3 0 of.length) (.sl 4 0 en.length)],z:=17,flat:=false},some {es:=dn.map frA,z:=5},some {es:=up.map frA,z:=5},some {es:=of.map (AV.int .i64),z:=1},some {es:=en.map (AV.int .i64),z:=1}])} o:=
 Scr.ok h mix (
 .rn 3 [] [] [] [] (aj (u2 (u2 t2)) (aj (u2 (u2 (u2 s2))) (aj (u2 s2) (al (u2 s2))))) <|
 .br (fun a0=>
 have c0:=tru_c z g d (dn) (up) (of) (en) (y);
 .rt [45] [] [(44,hKO c0 [0,1,2,3,4] [])] [] [0,7,8,9,10] [] (aj (aj a0 (ak (aj (u2 (u2 (u2 s2))) (al (u2 (u2 (u2 (aj (k5 (aj t5 (aj (al (ak (k3 (k5 t9)))) (ak (k3 (c0)))))) s2)))))))) (ak (aj (al (ak (k3 (k5 t9)))) t5))))
 (fun a0=>
 .rn 0 [44] [] [] [] (aj a0 (al (u2 s2))) <|
 .br (fun a1=>
  have c0:=tru_c z g d (dn) (up) (of) (en) (y);
  .rt [45] [] [(44,hKO c0 [0,1,2,3,4] [])] [] [0,7,8,9,10] [] (aj (aj a1 (ak (aj (u2 (u2 (u2 s2))) (al (u2 (u2 (u2 (aj (k5 (aj t5 (aj (al (ak (k3 (k5 t9)))) (ak (k3 (c0)))))) s2)))))))) (ak (aj (al (ak (k3 (k5 t9)))) t5))))
 (fun a1=>
  .rn 0 [44] [] [] [] (aj a1 (al (u2 s2))) <|
  .br (fun a2=>
  have c0:=tru_c z g d (dn) (up) (of) (en) (y);
  .rt [45] [] [(44,hKO c0 [0,1,2,3,4] [])] [] [0,7,8,9,10] [] (aj (aj a2 (aj (u2 (u2 (u2 s2))) (al (u2 (u2 (u2 (aj (k5 (aj t5 (aj (al (ak (k3 (k5 t9)))) (ak (k3 (c0)))))) s2))))))) (ak (aj (al (ak (k3 (k5 t9)))) t5))))
  (fun a2=>
  .rn 0 [44] [] [] [] (aj a2 (al (u2 s2))) <|
  .br (fun a3=>
   have c0:=trd_c z g d (dn) (up) (of) (en) (y);
   .rt [53] [] [(44,hKO c0 [0,1,2,3,4] [])] [] [0,7,8,9,10] [] (aj (aj a3 (ak (al (u2 (u2 (u2 (aj (k5 (aj t5 (aj (al (ak (k3 (k5 t9)))) (ak (k3 (c0)))))) s2))))))) (ak (aj (al (ak (k3 (k5 t9)))) t5))))
  (fun a3=>
   .rn 0 [52] [] [] [] (aj a3 (al (u2 s2))) <|
   .br (fun a4=>
   have c0:=trd_c z g d (dn) (up) (of) (en) (y);
   .rt [53] [] [(44,hKO c0 [0,1,2,3,4] [])] [] [0,7,8,9,10] [] (aj (aj a4 (ak (al (u2 (u2 (u2 (aj (k5 (aj t5 (aj (al (ak (k3 (k5 t9)))) (ak (k3 (c0)))))) s2))))))) (ak (aj (al (ak (k3 (k5 t9)))) t5))))
   (fun a4=>
   .rn 0 [52] [] [] [] (aj a4 (al (u2 s2))) <|
   .br (fun a5=>
    have c0:=trd_c z g d (dn) (up) (of) (en) (y);
    .rt [53] [] [(44,hKO c0 [0,1,2,3,4] [])] [] [0,7,8,9,10] [] (aj (aj a5 (al (u2 (u2 (u2 (aj (k5 (aj t5 (aj (al (ak (k3 (k5 t9)))) (ak (k3 (c0)))))) s2)))))) (ak (aj (al (ak (k3 (k5 t9)))) t5))))
   (fun a5=>
    .rn 0 [52] [] [] [] (aj a5 (al (u2 s2))) <|
    .br (fun a6=>
    have c0:=sou_c z (0);
    .rn 1 [61] [] [(50,hK c0 [] [])] [] (aj a6 (aj (u2 (u2 (u2 (u2 (aj (ak (aj t5 (ak (al (c0))))) (u2 (u2 (u2 (ak (aj (k2 n11) s2)))))))))) (al s2))) <|
    .br (fun a7=>
     .gu fun a8=>
     have c1:=ksn_c (dn) ((outO z 0).x);
     .rn 0 [107] [] [(60,hK c1 [] [1])] [] (aj a7 (al (u2 (u2 (u2 (u2 (u2 (u2 (aj (k2 (aj (show dn.length=(List.map frA dn).length by simp) (aj t6 (aj (c1) a8)))) (u2 (u2 (al t3)))))))))))) <|
     .gu fun a9=>
     have c2:=aga_c g (0) (d);
     have c3:=ans_c z g d (sendF dn (outO z 0).x) (up) (of) (en) (agaO g 0 d) a9;
     .rt [] [] [(72,hK c2 [] []),(73,hKO c3 [0,8,2,3,4] [])] [] [0,9,10,11,12] [] (aj (aj (u2 (u2 (u2 (u2 (u2 (u2 (u2 (u2 (u2 (aj (k2 (aj t6 (ak (aj t5 (al (c2)))))) (al (ak (k3 (aj (al (ak (k3 (k5 t9)))) (ak (k3 (c3))))))))))))))))) s2) (ak (aj (al (ak (k3 (k5 t9)))) t5))))
    (fun a7=>
     .gu fun a8=>
     have c1:=aga_c g (0) (d);
     have c2:=ans_c z g d (dn) (up) (of) (en) (agaO g 0 d) a8;
     .rt [106] [] [(72,hK c1 [] []),(73,hKO c2 [0,1,2,3,4] [])] [] [0,8,9,10,11] [] (aj (aj a7 (aj (u2 (u2 (u2 (u2 (u2 (u2 (u2 (u2 (u2 (aj (k2 (aj t6 (ak (aj t5 (al (c1)))))) (al (ak (k3 (aj (al (ak (k3 (k5 t9)))) (ak (k3 (c2))))))))))))))))) s2)) (ak (aj (al (ak (k3 (k5 t9)))) t5)))))
    (fun a6=>
    .rn 0 [60] [] [] [] (aj a6 (al (u2 s2))) <|
    .br (fun a7=>
     .gu fun a8=>
     have c0:=dri_c n g (0) d a8;
     .rn 0 [65] [] [(84,hK c0 [] [])] [] (aj a7 (al (u2 (u2 (u2 (u2 (u2 (u2 (u2 (u2 (u2 (aj (k3 (aj t9 (aj t6 (ak (aj t5 (al (c0))))))) (u2 (u2 (u2 (u2 (k2 (aj (k2 n11) (aj (k2 n11) s2))))))))))))))))))) <|
     .br (fun a9=>
     .rn 0 [189] [] [] [] (al (u2 (u2 (u2 (u2 (u2 (aj t3 (u2 (ag a9 (ag a9 (ag a9 (ag a9 (ag a9 (aj (aj a9 t3) (al (aj a9 t2)))))))))))))))) <|
     .br (fun a10=>
      .rt [189,203] [] [] [] [0,1,2,3,4] [] (aj (aj a10 s2) (ak (aj (al (ak (k3 (k5 t9)))) t5))))
     (fun a10=>
      .rn 0 [189,202] [] [] [] (aj a10 (al (u2 (u2 s2)))) <|
      .br (fun a11=>
      .gu fun a12=>
      .gu fun a13=>
      .rn 1 [189,209] [] [] [] (aj a11 (aj (u2 (u2 (u2 (u2 (u2 (u2 (u2 (u2 (aj (k2 (aj (show(List.map (iv) en).length=en.length by simp) (aj (aj (show nat_lit 1=nat_lit 1 from rfl) (show 1≤[iv (driO n g 0 d).b.c].length by simp)) (aj a12 a13)))) (u2 (u2 (al t3)))))))))))) (al (u2 (u2 (u2 (u2 (u2 (u2 (aj t3 (u2 (u2 (al t3))))))))))))) <|
      .gu fun a14=>
      have c1:=ans_e z ((driO n g 0 d).a) ((driO n g 0 d).b) (dn) (up) (of) (en) ((driO n g 0 d).b.c) ((driO n g 0 d).l) a14;
      .rt [189] [] [(126,hKO c1 [0,1,2,3,10] [])] [] [0,11,12,13,14] [] (aj (aj (u2 (u2 (al (ak (k3 (aj (al (ak (k3 (k5 t9)))) (ak (k3 (c1))))))))) s2) (ak (aj (al (ak (k3 (k5 t9)))) t5))))
      (fun a11=>
      .rn 0 [189,208] [] [] [] (aj a11 (al (u2 (u2 (u2 (u2 (u2 (u2 (aj t3 (u2 (u2 (al t3)))))))))))) <|
      .gu fun a12=>
      have c1:=ans_c z ((driO n g 0 d).a) ((driO n g 0 d).b) (dn) (up) (of) (en) ((driO n g 0 d).l) a12;
      .rt [189] [] [(126,hKO c1 [0,1,2,3,4] [])] [] [0,9,10,11,12] [] (aj (aj (u2 (u2 (al (ak (k3 (aj (al (ak (k3 (k5 t9)))) (ak (k3 (c1))))))))) s2) (ak (aj (al (ak (k3 (k5 t9)))) t5))))))
     (fun a9=>
     .rn 1 [188] [] [] [] (aj (u2 (u2 (u2 (u2 (u2 (aj t3 (u2 (aj a9 (aj a9 (aj a9 (aj a9 (aj a9 (aj a9 (al (aj a9 t2))))))))))))))) (ak (al (u2 (u2 s2))))) <|
     .br (fun a10=>
      .gu fun a11=>
      .gu fun a12=>
      .rn 1 [188,209] [] [] [] (aj a10 (aj (u2 (u2 (u2 (u2 (u2 (u2 (u2 (u2 (aj (k2 (aj (show(List.map (iv) en).length=en.length by simp) (aj (aj (show nat_lit 1=nat_lit 1 from rfl) (show 1≤[iv (driO n g 0 d).b.c].length by simp)) (aj a11 a12)))) (u2 (u2 (al t3)))))))))))) (al (u2 (u2 (u2 (u2 (u2 (u2 (aj t3 (u2 (u2 (al t3))))))))))))) <|
      .gu fun a13=>
      have c1:=ans_e z ((driO n g 0 d).a) ((driO n g 0 d).b) (dn) (up) (of) (en) ((driO n g 0 d).b.c) ((driO n g 0 d).l) a13;
      .rt [188] [] [(126,hKO c1 [0,1,2,3,10] [])] [] [0,11,12,13,14] [] (aj (aj (u2 (u2 (al (ak (k3 (aj (al (ak (k3 (k5 t9)))) (ak (k3 (c1))))))))) s2) (ak (aj (al (ak (k3 (k5 t9)))) t5))))
     (fun a10=>
      .rn 0 [188,208] [] [] [] (aj a10 (al (u2 (u2 (u2 (u2 (u2 (u2 (aj t3 (u2 (u2 (al t3)))))))))))) <|
      .gu fun a11=>
      have c1:=ans_c z ((driO n g 0 d).a) ((driO n g 0 d).b) (dn) (up) (of) (en) ((driO n g 0 d).l) a11;
      .rt [188] [] [(126,hKO c1 [0,1,2,3,4] [])] [] [0,9,10,11,12] [] (aj (aj (u2 (u2 (al (ak (k3 (aj (al (ak (k3 (k5 t9)))) (ak (k3 (c1))))))))) s2) (ak (aj (al (ak (k3 (k5 t9)))) t5))))))
    (fun a7=>
     .rn 0 [64] [] [] [] (aj a7 (al (u2 s2))) <|
     .br (fun a8=>
     have c0:=fin_c g (0) (d);
     .rn 1 [69] [] [(136,hK c0 [] [])] [] (aj a8 (aj (u2 (u2 (u2 (u2 (u2 (u2 (u2 (u2 (aj (k2 (aj t6 (ak (aj t5 (al (c0)))))) (u2 (u2 (u2 (u2 (k2 (aj (k2 n11) (aj (k2 n11) s2)))))))))))))))) (al (u2 (u2 (u2 (u2 (u2 (al t3))))))))) <|
     .br (fun a9=>
      .rt [291] [] [] [] [0,1,2,3,4] [] (aj (aj a9 s2) (ak (aj (al (ak (k3 (k5 t9)))) t5))))
     (fun a9=>
      .rn 0 [290] [] [] [] (aj a9 (al (u2 (u2 (u2 (u2 (u2 (u2 (aj t3 (u2 (u2 (al t3)))))))))))) <|
      .gu fun a10=>
      have c1:=ans_c z ((finO g 0 d).a) ((finO g 0 d).b) (dn) (up) (of) (en) ((finO g 0 d).l) a10;
      .rt [] [] [(156,hKO c1 [0,1,2,3,4] [])] [] [0,9,10,11,12] [] (aj (aj (u2 (u2 (al (ak (k3 (aj (al (ak (k3 (k5 t9)))) (ak (k3 (c1))))))))) s2) (ak (aj (al (ak (k3 (k5 t9)))) t5)))))
     (fun a8=>
     .rn 0 [68] [] [] [] (aj a8 (al (u2 s2))) <|
     .br (fun a9=>
      .rt [73] [] [] [] [0,1,2,3,4] [] (aj (aj a9 (aj (u2 (u2 (u2 (u2 (u2 s2))))) (aj (u2 (u2 (u2 (u2 s2)))) (al (u2 (u2 s2)))))) (ak (aj (al (ak (k3 (k5 t9)))) t5))))
     (fun a9=>
      .rt [72] [] [] [] [0,1,2,3,4] [] (aj (aj a9 s2) (ak (aj (al (ak (k3 (k5 t9)))) t5)))))))))))))) (by kernel_rfl)
theorem rst_ct(n:NetD)(z:SeD)(g:AgD)(d:BdD)(dn up:List FrD)(of en:List Int)(y:EvD)(r:Ret)(h:MReach (rstStep n z g d dn up of en y) (rstEn n z g d dn up of en y) r)(hi:immF 3 r.2=true∧∀blk,some blk∈r.1→ImmB blk):CTX Try.prog 55 ([some {es:=[raM z g d (.sl 1 0 dn.length) (.sl 2 0 up.length) (.sl 3 0 of.length) (.sl 4 0 en.length)],z:=17,flat:=false},some {es:=dn.map frA,z:=5},some {es:=up.map frA,z:=5},some {es:=of.map (AV.int .i64),z:=1},some {es:=en.map (AV.int .i64),z:=1}]) ([netA n,.ptr 0 0 0,evA y]) r.1 r.2:=
 CTX.mach (fn:=Try.f55) (c:=zB Try.f55) (S:=rstSt n z g d dn up of en y) (hd:=rstHd) Try.func55 (by kernel_rfl) (nL rfl) (nL rfl)
  (fun s o ho=>match s,ho with
   | x,_=>x.elim)
  (fun o ho=>rstEn_ok n z g d dn up of en y o ho) h hi
theorem agaO_len(x:AgD)(q:Int)(y:BdD):(agaO x q y).length≤1000000:=by
 unfold agaO
 cases x.r==0<;>cases y.f<;>simp
theorem driO_len(n:NetD)(x:AgD)(q:Int)(y:BdD):(driO n x q y).l.length≤1000000:=by
 unfold driO
 cases y.c == -1<;>cases y.f<;>cases y.t == -1<;>cases (!y.s&&(!(x.t == -1)&&folB n y.c x.t))<;>simp
theorem finO_len(x:AgD)(q:Int)(y:BdD):(finO x q y).l.length≤1000000:=by
 unfold finO
 cases y.c == -1<;>cases (y.s&&!y.f)<;>simp
structure SoD where
 x:RaD
 o:Bool
def agB(x y:AgD):Bool:=x.l==y.l&&(x.t==y.t&&(x.s==y.s&&(x.r==y.r&&(x.c==y.c&&true))))
def bdB(x y:BdD):Bool:=x.c==y.c&&(x.t==y.t&&(x.s==y.s&&(x.f==y.f&&true)))
def stO(n:NetD)(x:RaD)(y:EvD):SoD:=
 bif y.k==3||(y.k==5||y.k==7) then ⟨⟨(truO x.s x.a x.b x.dn x.up y).z,(truO x.s x.a x.b x.dn x.up y).g,x.b,(truO x.s x.a x.b x.dn x.up y).dn,(truO x.s x.a x.b x.dn x.up y).up,x.of,x.en⟩,(truO x.s x.a x.b x.dn x.up y).o⟩
 else bif y.k==2||(y.k==4||y.k==6) then ⟨⟨(trdO x.s x.a x.b x.dn x.up y).z,(trdO x.s x.a x.b x.dn x.up y).g,x.b,(trdO x.s x.a x.b x.dn x.up y).dn,(trdO x.s x.a x.b x.dn x.up y).up,x.of,x.en⟩,(trdO x.s x.a x.b x.dn x.up y).o⟩
 else bif y.k==8 then ⟨⟨x.s,x.a,x.b,bif (outO x.s 0).o then sendF x.dn (outO x.s 0).x else x.dn,allF x.up (agaO x.a 0 x.b),x.of,x.en⟩,true⟩
 else bif y.k==9 then (bif agB (driO n x.a 0 x.b).a x.a&&bdB (driO n x.a 0 x.b).b x.b then ⟨x,false⟩ else
  ⟨⟨x.s,(driO n x.a 0 x.b).a,(driO n x.a 0 x.b).b,x.dn,allF x.up (driO n x.a 0 x.b).l,x.of,bif (driO n x.a 0 x.b).b.t == -1 then x.en++[(driO n x.a 0 x.b).b.c] else x.en⟩,true⟩)
 else bif y.k==10 then (bif bdB (finO x.a 0 x.b).b x.b then ⟨x,false⟩ else ⟨⟨x.s,(finO x.a 0 x.b).a,(finO x.a 0 x.b).b,x.dn,allF x.up (finO x.a 0 x.b).l,x.of,x.en⟩,true⟩)
 else bif y.k==11 then ⟨⟨x.s,x.a,⟨x.b.c,x.b.t,x.b.s,true⟩,x.dn,x.up,x.of,x.en⟩,!x.b.f⟩ else ⟨x,false⟩
@[irreducible] def stJ(n:NetD)(x:RaD)(y:EvD):SoD:=stO n x y
theorem stJ_eq:stJ=stO:=by funext n x y;unfold stJ;rfl
def rX(x:RaD):Blk:=rB x.s x.a x.b x.dn x.up x.of x.en
theorem rst_o(n:NetD)(z:SeD)(g:AgD)(d:BdD)(dn up:List FrD)(of en:List Int)(y:EvD)(hrw:Rows n.nx)(hen:en.length≤1000000)(x:SoD)(hx:stO n ⟨z,g,d,dn,up,of,en⟩ y=x):CTX Try.prog 55 [some (rB z g d dn up of en),some (fB dn),some (fB up),some (iB of),some (iB en)] [netA n,.ptr 0 0 0,evA y]
  [some (rX x.x),some (fB x.x.dn),some (fB x.x.up),some (iB x.x.of),some (iB x.x.en)] (.bool x.o):=by
 refine rst_ct n z g d dn up of en y ([_,_,_,_,_],_) (.val ?_) ⟨rfl,immAll⟩
 subst hx
 obtain⟨dc,dt,ds,df⟩:=d
 have he1:(en.map (AV.int .i64)).length+[AV.int .i64 (driO n g 0 ⟨dc,dt,ds,df⟩).b.c].length≤9223372036854775807:=by simp only[List.length_map,List.length_singleton];omega
 have he2:((en.map (AV.int .i64)).length+[AV.int .i64 (driO n g 0 ⟨dc,dt,ds,df⟩).b.c].length) * 8≤140737488355328:=by simp only[List.length_map,List.length_singleton];omega
 unfold rstEn stO
 cases y.k==3 with
 | true=>rfl
 | false=>cases y.k==5 with
  | true=>rfl
  | false=>cases y.k==7 with
   | true=>rfl
   | false=>cases y.k==2 with
    | true=>rfl
    | false=>cases y.k==4 with
     | true=>rfl
     | false=>cases y.k==6 with
      | true=>rfl
      | false=>cases y.k==8 with
       | true=>
        cases (outO z 0).o with
        | true=>exact(gu_t (immOne _)).trans (gu_t (agaO_len _ _ _))
        | false=>exact gu_t (agaO_len _ _ _)
       | false=>cases y.k==9 with
        | true=>
         refine(gu_t hrw).trans ?_
         cases hA:agB (driO n g 0 ⟨dc,dt,ds,df⟩).a g with
         | false=>
          refine(br_f hA).trans ?_
          cases (driO n g 0 ⟨dc,dt,ds,df⟩).b.t == -1 with
          | true=>exact(gu_t he1).trans ((gu_t he2).trans (gu_t (driO_len _ _ _ _)))
          | false=>exact gu_t (driO_len _ _ _ _)
         | true=>
          refine(br_t hA).trans ?_
          cases hB:bdB (driO n g 0 ⟨dc,dt,ds,df⟩).b ⟨dc,dt,ds,df⟩ with
          | true=>exact br_t hB
          | false=>
           refine(br_f hB).trans ?_
           cases (driO n g 0 ⟨dc,dt,ds,df⟩).b.t == -1 with
           | true=>exact(gu_t he1).trans ((gu_t he2).trans (gu_t (driO_len _ _ _ _)))
           | false=>exact gu_t (driO_len _ _ _ _)
        | false=>cases y.k==10 with
         | true=>
          cases hB:bdB (finO g 0 ⟨dc,dt,ds,df⟩).b ⟨dc,dt,ds,df⟩ with
          | true=>exact br_t hB
          | false=>exact(br_f hB).trans (gu_t (finO_len _ _ _))
         | false=>cases y.k==11<;>rfl
theorem rst_c(n:NetD)(z:SeD)(g:AgD)(d:BdD)(dn up:List FrD)(of en:List Int)(y:EvD)(hrw:Rows n.nx)(hen:en.length≤1000000):CTX Try.prog 55 [some (rB z g d dn up of en),some (fB dn),some (fB up),some (iB of),some (iB en)] [netA n,.ptr 0 0 0,evA y]
  [some (rX (stJ n ⟨z,g,d,dn,up,of,en⟩ y).x),some (fB (stJ n ⟨z,g,d,dn,up,of,en⟩ y).x.dn),some (fB (stJ n ⟨z,g,d,dn,up,of,en⟩ y).x.up),some (iB (stJ n ⟨z,g,d,dn,up,of,en⟩ y).x.of),some (iB (stJ n ⟨z,g,d,dn,up,of,en⟩ y).x.en)] (.bool (stJ n ⟨z,g,d,dn,up,of,en⟩ y).o):=by
 rw[stJ_eq]
 exact rst_o n z g d dn up of en y hrw hen _ rfl
def stpSt(n:NetD)(x:RaD)(y:EvD):Empty→St
 | x=>x.elim
def stpHd:Empty→Nat
 | x=>x.elim
def stpEn(n:NetD)(x:RaD)(y:EvD):Option (Empty⊕Ret):=
 gu (RaS x) <|
 br (y.a != 0)
 (some (.inr ([],AV.tup [rV x.s x.a x.b [AV.lst (List.map frA x.dn),AV.lst (List.map frA x.up),AV.lst (List.map iV x.of),AV.lst (List.map iV x.en)],bV false])))
 (gu (Rows n.nx) <|
  gu (x.en.length≤1000000) <|
  br (!(stJ n x y).o)
  (some (.inr ([],AV.tup [rV x.s x.a x.b [AV.lst (List.map frA x.dn),AV.lst (List.map frA x.up),AV.lst (List.map iV x.of),AV.lst (List.map iV x.en)],bV false])))
  (some (.inr ([],AV.tup [rV (stJ n x y).x.s (stJ n x y).x.a (stJ n x y).x.b [AV.lst (List.map frA (stJ n x y).x.dn),AV.lst (List.map frA (stJ n x y).x.up),AV.lst (List.map iV (stJ n x y).x.of),AV.lst (List.map iV (stJ n x y).x.en)],bV true]))))
def stpStep(n:NetD)(x:RaD)(y:EvD):Empty→Option (Empty⊕Ret)
 | x=>x.elim
theorem stpEn_ok(n:NetD)(x:RaD)(y:EvD)(o:Empty⊕Ret)(h:stpEn n x y=some o):Arr Try.prog Try.f33 0 (stpSt n x y) stpHd (zB Try.f33) [] {n:=Try.f33.ntmps,fr:=enumF 0 ([netA n,raA x,evA y]),hp:=([])} o:=
 Scr.ok h mix (
 .rn 0 [] [] [] [] (al (u2 (u2 (u2 t3)))) <|
 .gu fun a0=>
 have c0:=rcl_e (x.s) (x.a) (x.b) (x.dn) (x.up) (x.of) (x.en) a0;
 .rn 1 [] [] [(10,hK c0 [] [])] [] (aj (u2 (aj (ak (aj (ak (k3 (k5 t9))) (al (c0)))) (al (k2 (show Nat.le 1 [AV.agg [uV x.s.q,bV x.s.o,iv x.s.c,iv x.s.f,uV x.a.l,iv x.a.t,bV x.a.s,iv x.a.r,iv x.a.c,iv x.b.c,iv x.b.t,bV x.b.s,bV x.b.f,AV.lst (List.map frA x.dn),AV.lst (List.map frA x.up),AV.lst (List.map (iv) x.of),AV.lst (List.map (iv) x.en)]].length from(nL rfl)))))) (al (u2 (u2 s2)))) <|
 .br (fun a1=>
 .rt [27] [] [] [] [] [] (aj (aj a1 (al (u2 (aj (k2 n11) t2)))) (al (aj (ak (k3 (k5 t9))) t2))))
 (fun a1=>
 have c1:=kc5_c (x.s) (x.a) (x.b) (x.dn) (x.up) (x.of) (x.en) a0;
 .rn 0 [26] [] [(16,hK c1 [] [])] [] (aj a1 (al (u2 (aj (ak (aj (ak (k3 (k5 t9))) (al (c1)))) (ak (al (k2 n11))))))) <|
 .gu fun a2=>
 .gu fun a3=>
 have c2:=rst_c n (x.s) (x.a) (x.b) (x.dn) (x.up) (x.of) (x.en) y a2 a3;
 .rn 0 [] [] [(19,hKO c2 [8,4,5,6,7] [])] [] (al (u2 (u2 (aj (k3 (aj t9 (ak (aj t5 (aj (al (ak (k3 (k5 t9)))) (ak (k3 (c2)))))))) s2)))) <|
 .br (fun a4=>
  .rt [41] [] [] [] [] [] (aj (aj a4 (al (u2 (aj (k2 n11) t2)))) (al (aj (ak (k3 (k5 t9))) t2))))
 (fun a4=>
  .rt [40] [] [] [] [] [9,10,11,12] (aj (aj a4 (al (u2 (aj (k2 n11) t2)))) (al (aj (k3 (k5 (k5 (aj (show(stJ n x y).x.dn.length=(List.map frA (stJ n x y).x.dn).length by simp) (aj (show(stJ n x y).x.up.length=(List.map frA (stJ n x y).x.up).length by simp) (aj (show(stJ n x y).x.of.length=(List.map (iv) (stJ n x y).x.of).length by simp) (al (show(stJ n x y).x.en.length=(List.map (iv) (stJ n x y).x.en).length by simp)))))))) t2)))))) (by kernel_rfl)
theorem stp_ct(n:NetD)(x:RaD)(y:EvD)(r:Ret)(h:MReach (stpStep n x y) (stpEn n x y) r):CT Try.prog 33 ([]) ([netA n,raA x,evA y]) r.1 r.2:=
 CT.mach (fn:=Try.f33) (c:=zB Try.f33) (S:=stpSt n x y) (hd:=stpHd) Try.func33 (by kernel_rfl) (nL rfl)
  (fun s o ho=>match s,ho with
   | x,_=>x.elim)
  (fun o ho=>stpEn_ok n x y o ho) h
def soA(y:SoD):AV:=.tup [raA y.x,.bool y.o]
def evO(n:NetD)(x:RaD)(y:EvD):SoD:=bif y.a != 0 then ⟨x,false⟩ else bif (stO n x y).o then ⟨(stO n x y).x,true⟩ else ⟨x,false⟩
theorem stp_c(n:NetD)(x:RaD)(y:EvD)(hrw:Rows n.nx)(hx:RaS x):CT Try.prog 33 [] [netA n,raA x,evA y] [] (soA (evO n x y)):=by
 refine stp_ct n x y ([],_) (.val ?_)
 unfold stpEn evO
 rw[stJ_eq,gu_t hx,gu_t hrw,gu_t hx.2.2.2]
 cases y.a != 0 with
 | true=>rfl
 | false=>cases (stO n x y).o<;>rfl
def offSt(n:NetD)(x:RaD)(q p:Int):Empty→St
 | x=>x.elim
def offHd:Empty→Nat
 | x=>x.elim
def offEn(n:NetD)(x:RaD)(q p:Int):Option (Empty⊕Ret):=
 gu (0≤x.s.q∧x.s.q≤1000000) <|
 br ((offO x.s q p).e != 0)
 (some (.inr ([],AV.tup [AV.agg [uV 0,bV false,iV 0,iV 0,uV 0,iV 0,bV false,iV 0,iV 0,iV 0,iV 0,bV false,bV false,AV.nils,AV.nils,AV.nils,AV.nils],iV (offO x.s q p).e])))
 (br (decide (0<iN (List.map iV x.of).length))
  (gu (0≤i64.wrap (iN (List.map iV x.of).length-1)) <|
   el (x.of) ((i64.wrap (iN (List.map iV x.of).length-1)).toNat) fun(x40:Int)=>
   gu (Rows n.nx) <|
   br (!folB n x40 q)
   (some (.inr ([],AV.tup [AV.agg [uV 0,bV false,iV 0,iV 0,uV 0,iV 0,bV false,iV 0,iV 0,iV 0,iV 0,bV false,bV false,AV.nils,AV.nils,AV.nils,AV.nils],iV 24])))
   (gu (RaS x) <|
    gu ((List.map iV x.of).length+[iV q].length≤9223372036854775807) <|
    gu (((List.map iV x.of).length+[iV q].length) * 8≤140737488355328) <|
    some (.inr ([],AV.tup [rV (offO x.s q p).s x.a x.b [AV.lst (List.map frA (sendF x.dn (outO (offO x.s q p).s 0).x)),AV.lst (List.map frA x.up),AV.lst (List.map iV x.of++[iV q]),AV.lst (List.map iV x.en)],iV 0]))))
  (gu (Rows n.nx) <|
   br (!folB n x.b.c q)
   (some (.inr ([],AV.tup [AV.agg [uV 0,bV false,iV 0,iV 0,uV 0,iV 0,bV false,iV 0,iV 0,iV 0,iV 0,bV false,bV false,AV.nils,AV.nils,AV.nils,AV.nils],iV 24])))
   (gu (RaS x) <|
    gu ((List.map iV x.of).length+[iV q].length≤9223372036854775807) <|
    gu (((List.map iV x.of).length+[iV q].length) * 8≤140737488355328) <|
    some (.inr ([],AV.tup [rV (offO x.s q p).s x.a x.b [AV.lst (List.map frA (sendF x.dn (outO (offO x.s q p).s 0).x)),AV.lst (List.map frA x.up),AV.lst (List.map iV x.of++[iV q]),AV.lst (List.map iV x.en)],iV 0])))))
def offStep(n:NetD)(x:RaD)(q p:Int):Empty→Option (Empty⊕Ret)
 | x=>x.elim
theorem offEn_ok(n:NetD)(x:RaD)(q p:Int)(o:Empty⊕Ret)(h:offEn n x q p=some o):Arr Try.prog Try.f32 0 (offSt n x q p) offHd (zB Try.f32) [] {n:=Try.f32.ntmps,fr:=enumF 0 ([netA n,raA x,.int .i64 q,.int .i64 p]),hp:=([])} o:=
 Scr.ok h mix (
 .rn 0 [] [] [] [] (al (u2 (u2 t3))) <|
 .gu fun a0=>
 have c0:=ofr_c (x.s) q p a0;
 .rn 1 [] [] [(21,hK c0 [] [])] [] (aj (u2 (u2 (u2 (u2 (aj (k3 (aj t5 (k2 (al (c0))))) (u2 (u2 (u2 (ak (aj (k2 n11) s2)))))))))) (al (u2 s2))) <|
 .br (fun a1=>
 .rt [51] [] [] [] [] [] (aj (aj a1 (al (ak (u2 (aj (k2 n11) s2))))) (al (aj (ak (k3 (k5 t9))) t2))))
 (fun a1=>
 .rn 2 [50] [] [] [] (aj a1 (aj (u2 (u2 (u2 s2))) (aj (u2 (u2 (u2 s2))) (al (u2 s2))))) <|
 .br (fun a2=>
  .gu fun a3=>
  .el fun x40 a4=>
  .rn 0 [71] [(40,iv x40)] [] [] (aj a2 (al (u2 (u2 (u2 (u2 (aj (k2 (aj a3 (getMap (f:=iv) a4))) (u2 s2)))))))) <|
  .gu fun a5=>
  have c1:=cfol_c n x40 q a5;
  .rn 0 [] [] [(45,hK c1 [] [])] [] (al (u2 (u2 (u2 (aj (k3 (aj t9 (k2 (al (c1))))) s2))))) <|
  .br (fun a6=>
  .rt [93] [] [] [] [] [] (aj (aj a6 (al (ak (aj (k2 n11) t2)))) (al (aj (ak (k3 (k5 t9))) t2))))
  (fun a6=>
  .gu fun a7=>
  have c2:=kcl_c (x.s) (x.a) (x.b) (x.dn) (x.up) (x.of) (x.en) a7;
  .rn 0 [92] [] [(49,hK c2 [] [])] [] (aj a6 (al (u2 (aj (ak (aj (ak (k3 (k5 t9))) (al (c2)))) (al (k2 (show Nat.le 1 [AV.agg [uV x.s.q,bV x.s.o,iv x.s.c,iv x.s.f,uV x.a.l,iv x.a.t,bV x.a.s,iv x.a.r,iv x.a.c,iv x.b.c,iv x.b.t,bV x.b.s,bV x.b.f,AV.lst (List.map frA x.dn),AV.lst (List.map frA x.up),AV.lst (List.map (iv) x.of),AV.lst (List.map (iv) x.en)]].length from(nL rfl)))))))) <|
  .gu fun a8=>
  .gu fun a9=>
  have c3:=sou_c ((offO x.s q p).s) (0);
  have c4:=sen_c (x.dn) ((outO (offO x.s q p).s 0).x);
  .rt [] [] [(60,hK c3 [] []),(66,hK c4 [] [])] [] [] [7,5] (aj (aj (u2 (u2 (u2 (u2 (u2 (aj (k2 (aj (show(List.map (iv) x.of).length=x.of.length by simp) (aj (aj (show nat_lit 1=nat_lit 1 from rfl) (show 1≤[iv q].length by simp)) (aj a8 a9)))) (u2 (aj t3 (u2 (al t3)))))))))) (aj (u2 (aj (ak (aj t5 (ak (al (c3))))) (u2 (u2 (u2 (ak (aj (k2 n11) s2))))))) (aj (u2 (u2 (u2 (aj (k3 (aj t6 (al (c4)))) (u2 (al t3)))))) (al (u2 (aj (k2 n11) t2)))))) (al (aj (k5 (k5 (k5 (aj (show(List.map (iv) x.of).length+[iv q].length=(List.map (iv) x.of++[iv q]).length by simp) (al (show x.en.length=(List.map (iv) x.en).length by simp)))))) t2)))))
 (fun a2=>
  .gu fun a3=>
  have c1:=cfol_c n (x.b.c) q a3;
  .rn 0 [70] [] [(45,hK c1 [] [])] [] (aj a2 (al (u2 (u2 (u2 (aj (k3 (aj t9 (k2 (al (c1))))) s2)))))) <|
  .br (fun a4=>
  .rt [93] [] [] [] [] [] (aj (aj a4 (al (ak (aj (k2 n11) t2)))) (al (aj (ak (k3 (k5 t9))) t2))))
  (fun a4=>
  .gu fun a5=>
  have c2:=kcl_c (x.s) (x.a) (x.b) (x.dn) (x.up) (x.of) (x.en) a5;
  .rn 0 [92] [] [(49,hK c2 [] [])] [] (aj a4 (al (u2 (aj (ak (aj (ak (k3 (k5 t9))) (al (c2)))) (al (k2 (show Nat.le 1 [AV.agg [uV x.s.q,bV x.s.o,iv x.s.c,iv x.s.f,uV x.a.l,iv x.a.t,bV x.a.s,iv x.a.r,iv x.a.c,iv x.b.c,iv x.b.t,bV x.b.s,bV x.b.f,AV.lst (List.map frA x.dn),AV.lst (List.map frA x.up),AV.lst (List.map (iv) x.of),AV.lst (List.map (iv) x.en)]].length from(nL rfl)))))))) <|
  .gu fun a6=>
  .gu fun a7=>
  have c3:=sou_c ((offO x.s q p).s) (0);
  have c4:=sen_c (x.dn) ((outO (offO x.s q p).s 0).x);
  .rt [] [] [(60,hK c3 [] []),(66,hK c4 [] [])] [] [] [7,5] (aj (aj (u2 (u2 (u2 (u2 (u2 (aj (k2 (aj (show(List.map (iv) x.of).length=x.of.length by simp) (aj (aj (show nat_lit 1=nat_lit 1 from rfl) (show 1≤[iv q].length by simp)) (aj a6 a7)))) (u2 (aj t3 (u2 (al t3)))))))))) (aj (u2 (aj (ak (aj t5 (ak (al (c3))))) (u2 (u2 (u2 (ak (aj (k2 n11) s2))))))) (aj (u2 (u2 (u2 (aj (k3 (aj t6 (al (c4)))) (u2 (al t3)))))) (al (u2 (aj (k2 n11) t2)))))) (al (aj (k5 (k5 (k5 (aj (show(List.map (iv) x.of).length+[iv q].length=(List.map (iv) x.of++[iv q]).length by simp) (al (show x.en.length=(List.map (iv) x.en).length by simp)))))) t2))))))) (by kernel_rfl)
theorem off_ct(n:NetD)(x:RaD)(q p:Int)(r:Ret)(h:MReach (offStep n x q p) (offEn n x q p) r):CT Try.prog 32 ([]) ([netA n,raA x,.int .i64 q,.int .i64 p]) r.1 r.2:=
 CT.mach (fn:=Try.f32) (c:=zB Try.f32) (S:=offSt n x q p) (hd:=offHd) Try.func32 (by kernel_rfl) (nL rfl)
  (fun s o ho=>match s,ho with
   | x,_=>x.elim)
  (fun o ho=>offEn_ok n x q p o ho) h
def plO(x:RaD):Int:=if 0<x.of.length then x.of.getD (x.of.length-1) 0 else x.b.c
def ofdO(n:NetD)(x:RaD)(q p:Int):NwD:=bif (offO x.s q p).e != 0 then ⟨ra0,(offO x.s q p).e⟩ else bif folB n (plO x) q then ⟨⟨(offO x.s q p).s,x.a,x.b,sendF x.dn (outO (offO x.s q p).s 0).x,x.up,x.of++[q],x.en⟩,0⟩ else ⟨ra0,24⟩
def raZ:AV:=.agg [.int .u64 0,.bool false,.int .i64 0,.int .i64 0,.int .u64 0,.int .i64 0,.bool false,.int .i64 0,.int .i64 0,.int .i64 0,.int .i64 0,.bool false,.bool false,.nils,.nils,.nils,.nils]
def OfL(x:RaD):Prop:=RaS x∧0≤x.s.q∧x.s.q≤1000000
theorem CT.nw{f:FuncId}{args:List AV}{x y:AV}{z:NwD}(h:CT Try.prog f [] args [] (.tup [x,y]))(e:AV.tup [wkr x,y]=nwA z):CT Try.prog f [] args [] (nwA z):=by
 rw[←e]
 exact h.less fun φ A w v hv=>VR_tw hv
theorem plO_el(x:RaD)(h:0<x.of.length):x.of[(i64.wrap (iN (x.of.map (AV.int .i64)).length-1)).toNat]?=some (plO x)∨1000000<x.of.length:=by
 by_cases hl:1000000<x.of.length
 ·exact .inr hl
 refine .inl ?_
 rw[iN_len,wrap_in (by omega) (by omega),show((x.of.length:Int)-1).toNat=x.of.length-1 by omega,plO,if_pos h]
 exact getE 0 (by omega)
theorem off_c(n:NetD)(x:RaD)(q p:Int)(hrw:Rows n.nx)(hx:OfL x):CT Try.prog 32 [] [netA n,raA x,.int .i64 q,.int .i64 p] [] (nwA (ofdO n x q p)):=by
 obtain⟨hs,h0,h1⟩:=hx
 have hs':=hs
 obtain⟨g1,g2,g3,g4⟩:=hs'
 unfold ofdO
 cases he:(offO x.s q p).e != 0 with
 | true=>exact CT.nw (off_ct n x q p ([],_) (.val (by unfold offEn;rw[gu_t ⟨h0,h1⟩,br_t he]))) rfl
 | false=>
  have key:offEn n x q p=br (!folB n (plO x) q) (some (.inr ([],.tup [raZ,.int .i64 24]))) (some (.inr ([],nwA ⟨⟨(offO x.s q p).s,x.a,x.b,sendF x.dn (outO (offO x.s q p).s 0).x,x.up,x.of++[q],x.en⟩,0⟩))):=by
   unfold offEn
   rw[gu_t ⟨h0,h1⟩,br_f he]
   have e2:(x.of.map (AV.int .i64))++[AV.int .i64 q]=(x.of++[q]).map (AV.int .i64):=by simp
   by_cases hl:0<x.of.length
   ·rw[br_t (dec_t (by rw[iN_len];omega)),gu_t (by rw[iN_len,wrap_in (by omega) (by omega)];omega),el_t ((plO_el x hl).resolve_right (by omega)),gu_t hrw,gu_t hs,gu_t (by simp only[List.length_map,List.length_singleton];omega),gu_t (by simp only[List.length_map,List.length_singleton];omega),e2];rfl
   ·rw[br_f (dec_f (by rw[iN_len];omega)),gu_t hrw,gu_t hs,gu_t (by simp only[List.length_map,List.length_singleton];omega),gu_t (by simp only[List.length_map,List.length_singleton];omega),e2,plO,if_neg hl];rfl
  cases hf:folB n (plO x) q with
  | true=>exact off_ct n x q p ([],_) (.val (by rw[key,hf];rfl))
  | false=>exact CT.nw (x:=raZ) (y:=.int .i64 24) (off_ct n x q p ([],_) (.val (by rw[key,hf];rfl))) rfl
theorem bdB_self(d:BdD):bdB d d=true:=by simp[bdB]
theorem agB_self(d:AgD):agB d d=true:=by simp[agB]
theorem driO_c(n:NetD)(a:AgD)(q:Int)(b:BdD):(driO n a q b=⟨a,b,[]⟩)∨
  ((b.t = -1∧b.c≠-1∧b.f=false∧b.s=false∧a.t≠-1∧folB n b.c a.t=true)∧driO n a q b=⟨a,⟨b.c,a.t,b.s,b.f⟩,[]⟩)∨
  ((b.t≠-1∧b.c≠-1∧b.f=false)∧driO n a q b=⟨⟨a.l,-1,a.s,1,b.t⟩,⟨b.t,-1,b.s||a.s,b.f⟩,[repF ⟨a.l,-1,a.s,1,b.t⟩ q]⟩):=by
 unfold driO
 cases h1:b.c == -1 with
 | true=>exact .inl rfl
 | false=>cases h2:b.f with
  | true=>exact .inl rfl
  | false=>cases h3:b.t == -1 with
   | true=>cases h4:!b.s&&(!(a.t == -1)&&folB n b.c a.t) with
    | true=>
     simp only[Bool.and_eq_true,Bool.not_eq_true',beq_eq_false_iff_ne] at h4
     exact .inr (.inl ⟨⟨eq_of_beq h3,by simpa using h1,rfl,h4.1,h4.2.1,h4.2.2⟩,rfl⟩)
    | false=>exact .inl rfl
   | false=>exact .inr (.inr ⟨⟨by simpa using h3,by simpa using h1,rfl⟩,rfl⟩)
def ofeSt(L:List Int)(kk:Nat)(n:NetD)(x:RaD):Empty→St
 | x=>x.elim
def ofeHd:Empty→Nat
 | x=>x.elim
def ofeEn(L:List Int)(kk:Nat)(n:NetD)(x:RaD):Option (Empty⊕Ret):=
 br (decide (0<iN (List.map iV x.of).length))
 (gu (0≤i64.wrap (iN (List.map iV x.of).length-1)) <|
  el (x.of) ((i64.wrap (iN (List.map iV x.of).length-1)).toNat) fun(x24:Int)=>
  gu (Rows n.nx) <|
  br (ckE n x24 != 0)
  (gu (ValidN n) <|
   gu (kk<9223372036854775807) <|
   gu (kk+1<9223372036854775807) <|
   some (.inr ([some (bK [AV.agg [AV.lst (List.map iV L),iV (iN (kk+1+1))]] 2)],AV.tup [iV (nextZ L kk (iN (celN n))),iV (nextZ L (kk+1) 2)])))
  (br (iN (List.map iV (nxO n x24)).length==0)
   (gu (ValidN n) <|
    gu (kk<9223372036854775807) <|
    gu (kk+1<9223372036854775807) <|
    some (.inr ([some (bK [AV.agg [AV.lst (List.map iV L),iV (iN (kk+1+1))]] 2)],AV.tup [iV (nextZ L kk (iN (celN n))),iV (nextZ L (kk+1) 2)])))
   (gu (kk<9223372036854775807) <|
    br (nextZ L kk 8==0)
    (gu (ValidN n) <|
     gu (kk+1<9223372036854775807) <|
     gu (kk+1+1<9223372036854775807) <|
     some (.inr ([some (bK [AV.agg [AV.lst (List.map iV L),iV (iN (kk+1+1+1))]] 2)],AV.tup [iV (nextZ L (kk+1) (iN (celN n))),iV (nextZ L (kk+1+1) 2)])))
    (gu (kk+1<9223372036854775807) <|
     gu (0≤nextZ L (kk+1) (iN (List.map iV (nxO n x24)).length)) <|
     el (nxO n x24) ((nextZ L (kk+1) (iN (List.map iV (nxO n x24)).length)).toNat) fun(x55:Int)=>
     gu (kk+1+1<9223372036854775807) <|
     some (.inr ([some (bK [AV.agg [AV.lst (List.map iV L),iV (iN (kk+1+1+1))]] 2)],AV.tup [iV x55,iV (i64.wrap ((nextZ L (kk+1+1) 4).tdiv 3))]))))))
 (gu (Rows n.nx) <|
  br (ckE n x.b.c != 0)
  (gu (ValidN n) <|
   gu (kk<9223372036854775807) <|
   gu (kk+1<9223372036854775807) <|
   some (.inr ([some (bK [AV.agg [AV.lst (List.map iV L),iV (iN (kk+1+1))]] 2)],AV.tup [iV (nextZ L kk (iN (celN n))),iV (nextZ L (kk+1) 2)])))
  (br (iN (List.map iV (nxO n x.b.c)).length==0)
   (gu (ValidN n) <|
    gu (kk<9223372036854775807) <|
    gu (kk+1<9223372036854775807) <|
    some (.inr ([some (bK [AV.agg [AV.lst (List.map iV L),iV (iN (kk+1+1))]] 2)],AV.tup [iV (nextZ L kk (iN (celN n))),iV (nextZ L (kk+1) 2)])))
   (gu (kk<9223372036854775807) <|
    br (nextZ L kk 8==0)
    (gu (ValidN n) <|
     gu (kk+1<9223372036854775807) <|
     gu (kk+1+1<9223372036854775807) <|
     some (.inr ([some (bK [AV.agg [AV.lst (List.map iV L),iV (iN (kk+1+1+1))]] 2)],AV.tup [iV (nextZ L (kk+1) (iN (celN n))),iV (nextZ L (kk+1+1) 2)])))
    (gu (kk+1<9223372036854775807) <|
     gu (0≤nextZ L (kk+1) (iN (List.map iV (nxO n x.b.c)).length)) <|
     el (nxO n x.b.c) ((nextZ L (kk+1) (iN (List.map iV (nxO n x.b.c)).length)).toNat) fun(x55:Int)=>
     gu (kk+1+1<9223372036854775807) <|
     some (.inr ([some (bK [AV.agg [AV.lst (List.map iV L),iV (iN (kk+1+1+1))]] 2)],AV.tup [iV x55,iV (i64.wrap ((nextZ L (kk+1+1) 4).tdiv 3))]))))))
def ofeStep(L:List Int)(kk:Nat)(n:NetD)(x:RaD):Empty→Option (Empty⊕Ret)
 | x=>x.elim
theorem ofeEn_ok(L:List Int)(kk:Nat)(n:NetD)(x:RaD)(o:Empty⊕Ret)(h:ofeEn L kk n x=some o):Arr Try.prog Try.f31 1 (ofeSt L kk n x) ofeHd (zB Try.f31) [] {n:=Try.f31.ntmps,fr:=enumF 0 ([.ptr 0 0 0,netA n,raA x]),hp:=([some (tapeB L kk)])} o:=
 Scr.ok h mix (
 .rn 2 [] [] [] [] (aj (u2 (u2 t3)) (aj (u2 (u2 (u2 s2))) (al (u2 (u2 (u2 s2)))))) <|
 .br (fun a0=>
 .gu fun a1=>
 .el fun x24 a2=>
 .rn 0 [35] [(24,iv x24)] [] [] (aj a0 (al (u2 (u2 (u2 (u2 (u2 (u2 (aj (k2 (aj a1 (getMap (f:=iv) a2))) (u2 s2)))))))))) <|
 .gu fun a3=>
 have c0:=cnext_c n x24 a3;
 .rn 0 [] [] [(29,hK c0 [] [])] [] (al (u2 (u2 (aj (k2 (aj t9 (ak (al (c0))))) (u2 (u2 (u2 (u2 s2)))))))) <|
 .br (fun a4=>
  .rn 0 [69] [] [] [] (al (u2 (u2 (u2 (aj a4 (aj a4 (aj a4 (ag a4 (u2 (k3 (al t3))))))))))) <|
  .gu fun a5=>
  .gu fun a6=>
  .gu fun a7=>
  have c1:=cells_ct a5;
  have c2:=next_ct (L) (kk) (iN (celN n)) a6;
  have c3:=next_ct (L) (kk+1) (2) a7;
  .rt [69] [] [(46,hK c1 [] []),(47,hK c2 [0] []),(49,hK c3 [0] [])] [] [0] [] (aj (ak (al (u2 (u2 (aj (ak (aj t9 (al (c1)))) (aj (k5 (al (c2))) (u2 (aj (ak (k3 (al (c3)))) (u2 s2))))))))) (aj t3 t2)))
 (fun a4=>
  .br (fun a5=>
  .rn 0 [68,79] [] [] [] (al (u2 (u2 (u2 (ag a4 (ag a4 (ag a4 (ag a4 (u2 (aj a5 (aj a5 (aj a5 (al (aj a5 t2)))))))))))))) <|
  .gu fun a6=>
  .gu fun a7=>
  .gu fun a8=>
  have c1:=cells_ct a6;
  have c2:=next_ct (L) (kk) (iN (celN n)) a7;
  have c3:=next_ct (L) (kk+1) (2) a8;
  .rt [68,79] [] [(46,hK c1 [] []),(47,hK c2 [0] []),(49,hK c3 [0] [])] [] [0] [] (aj (ak (al (u2 (u2 (aj (ak (aj t9 (al (c1)))) (aj (k5 (al (c2))) (u2 (aj (ak (k3 (al (c3)))) (u2 s2))))))))) (aj t3 t2)))
  (fun a5=>
  .gu fun a6=>
  have c1:=next_ct (L) (kk) (8) a6;
  .rn 0 [68,78] [] [(41,hK c1 [0] [])] [] (al (u2 (u2 (u2 (ag a4 (ag a4 (ag a4 (ag a4 (u2 (ag a5 (aj (aj a5 (ak (k3 (al (c1))))) (ag a5 (al (aj a5 t2)))))))))))))) <|
  .br (fun a7=>
   .gu fun a8=>
   .gu fun a9=>
   .gu fun a10=>
   have c2:=cells_ct a8;
   have c3:=next_ct (L) (kk+1) (iN (celN n)) a9;
   have c4:=next_ct (L) (kk+1+1) (2) a10;
   .rt [68,78,87] [] [(46,hK c2 [] []),(47,hK c3 [0] []),(49,hK c4 [0] [])] [] [0] [] (aj (aj a7 (al (u2 (u2 (aj (ak (aj t9 (al (c2)))) (aj (k5 (al (c3))) (u2 (aj (ak (k3 (al (c4)))) (u2 s2))))))))) (aj t3 t2)))
  (fun a7=>
   .gu fun a8=>
   .gu fun a9=>
   .el fun x55 a10=>
   .gu fun a11=>
   have c2:=next_ct (L) (kk+1) (iN (List.map (iv) (nxO n x24)).length) a8;
   have c3:=next_ct (L) (kk+1+1) (4) a11;
   .rt [68,78,86] [(55,iv x55)] [(54,hK c2 [0] []),(58,hK c3 [0] [])] [] [0] [] (aj (aj a7 (al (u2 (u2 (u2 (u2 (aj (k5 (al (c2))) (aj (k2 (aj a9 (getMap (f:=iv) a10))) (u2 (u2 (aj (ak (k3 (al (c3)))) (aj (ak (show(3:Int)=(0:Int)→False from(by first | decide | exact Int.NonNeg.mk _))) (u2 s2))))))))))))) (aj t3 t2))))))
 (fun a0=>
 .gu fun a1=>
 have c0:=cnext_c n (x.b.c) a1;
 .rn 0 [34] [] [(29,hK c0 [] [])] [] (aj a0 (al (u2 (u2 (aj (k2 (aj t9 (ak (al (c0))))) (u2 (u2 (u2 (u2 s2))))))))) <|
 .br (fun a2=>
  .rn 0 [69] [] [] [] (al (u2 (u2 (u2 (aj a2 (aj a2 (aj a2 (ag a2 (u2 (k3 (al t3))))))))))) <|
  .gu fun a3=>
  .gu fun a4=>
  .gu fun a5=>
  have c1:=cells_ct a3;
  have c2:=next_ct (L) (kk) (iN (celN n)) a4;
  have c3:=next_ct (L) (kk+1) (2) a5;
  .rt [69] [] [(46,hK c1 [] []),(47,hK c2 [0] []),(49,hK c3 [0] [])] [] [0] [] (aj (ak (al (u2 (u2 (aj (ak (aj t9 (al (c1)))) (aj (k5 (al (c2))) (u2 (aj (ak (k3 (al (c3)))) (u2 s2))))))))) (aj t3 t2)))
 (fun a2=>
  .br (fun a3=>
  .rn 0 [68,79] [] [] [] (al (u2 (u2 (u2 (ag a2 (ag a2 (ag a2 (ag a2 (u2 (aj a3 (aj a3 (aj a3 (al (aj a3 t2)))))))))))))) <|
  .gu fun a4=>
  .gu fun a5=>
  .gu fun a6=>
  have c1:=cells_ct a4;
  have c2:=next_ct (L) (kk) (iN (celN n)) a5;
  have c3:=next_ct (L) (kk+1) (2) a6;
  .rt [68,79] [] [(46,hK c1 [] []),(47,hK c2 [0] []),(49,hK c3 [0] [])] [] [0] [] (aj (ak (al (u2 (u2 (aj (ak (aj t9 (al (c1)))) (aj (k5 (al (c2))) (u2 (aj (ak (k3 (al (c3)))) (u2 s2))))))))) (aj t3 t2)))
  (fun a3=>
  .gu fun a4=>
  have c1:=next_ct (L) (kk) (8) a4;
  .rn 0 [68,78] [] [(41,hK c1 [0] [])] [] (al (u2 (u2 (u2 (ag a2 (ag a2 (ag a2 (ag a2 (u2 (ag a3 (aj (aj a3 (ak (k3 (al (c1))))) (ag a3 (al (aj a3 t2)))))))))))))) <|
  .br (fun a5=>
   .gu fun a6=>
   .gu fun a7=>
   .gu fun a8=>
   have c2:=cells_ct a6;
   have c3:=next_ct (L) (kk+1) (iN (celN n)) a7;
   have c4:=next_ct (L) (kk+1+1) (2) a8;
   .rt [68,78,87] [] [(46,hK c2 [] []),(47,hK c3 [0] []),(49,hK c4 [0] [])] [] [0] [] (aj (aj a5 (al (u2 (u2 (aj (ak (aj t9 (al (c2)))) (aj (k5 (al (c3))) (u2 (aj (ak (k3 (al (c4)))) (u2 s2))))))))) (aj t3 t2)))
  (fun a5=>
   .gu fun a6=>
   .gu fun a7=>
   .el fun x55 a8=>
   .gu fun a9=>
   have c2:=next_ct (L) (kk+1) (iN (List.map (iv) (nxO n x.b.c)).length) a6;
   have c3:=next_ct (L) (kk+1+1) (4) a9;
   .rt [68,78,86] [(55,iv x55)] [(54,hK c2 [0] []),(58,hK c3 [0] [])] [] [0] [] (aj (aj a5 (al (u2 (u2 (u2 (u2 (aj (k5 (al (c2))) (aj (k2 (aj a7 (getMap (f:=iv) a8))) (u2 (u2 (aj (ak (k3 (al (c3)))) (aj (ak (show(3:Int)=(0:Int)→False from(by first | decide | exact Int.NonNeg.mk _))) (u2 s2))))))))))))) (aj t3 t2))))))) (by kernel_rfl)
theorem ofe_ct(L:List Int)(kk:Nat)(n:NetD)(x:RaD)(r:Ret)(h:MReach (ofeStep L kk n x) (ofeEn L kk n x) r):CT Try.prog 31 ([some (tapeB L kk)]) ([.ptr 0 0 0,netA n,raA x]) r.1 r.2:=
 CT.mach (fn:=Try.f31) (c:=zB Try.f31) (S:=ofeSt L kk n x) (hd:=ofeHd) Try.func31 (by kernel_rfl) (nL rfl)
  (fun s o ho=>match s,ho with
   | x,_=>x.elim)
  (fun o ho=>ofeEn_ok L kk n x o ho) h
def LiO(x:RaD):Prop:=OfL x∧∀f∈x.dn,0≤f.q
theorem ofe_exP(L:List Int)(kk:Nat)(n:NetD)(x:RaD):∃p:(Int×Int)×Nat,kk≤1000000→ValidN n→Rows n.nx→x.of.length≤1000000→p.2≤kk+3∧CT Try.prog 31 [some (tapeB L kk)] [.ptr 0 0 0,netA n,raA x] [some (tapeB L p.2)] (.tup [.int .i64 p.1.1,.int .i64 p.1.2]):=by
 by_cases h:kk≤1000000∧ValidN n∧Rows n.nx∧x.of.length≤1000000
 ·obtain⟨hk,hv,hrw,hl⟩:=h
  have key:∀c:Int,∃p:(Int×Int)×Nat,p.2≤kk+3∧((gu (Rows n.nx) <| br (ckE n c != 0) (gu (ValidN n) <| gu (kk<9223372036854775807) <| gu (kk+1<9223372036854775807) <| some (.inr ([some (Blk.mk [AV.agg [AV.lst (List.map (AV.int .i64) L),(AV.int .i64) (iN (kk+1+1))]] 2 true true none)],AV.tup [(AV.int .i64) (nextZ L kk (iN (celN n))),(AV.int .i64) (nextZ L (kk+1) 2)]))) (br (iN (List.map (AV.int .i64) (nxO n c)).length==0) (gu (ValidN n) <| gu (kk<9223372036854775807) <| gu (kk+1<9223372036854775807) <| some (.inr ([some (Blk.mk [AV.agg [AV.lst (List.map (AV.int .i64) L),(AV.int .i64) (iN (kk+1+1))]] 2 true true none)],AV.tup [(AV.int .i64) (nextZ L kk (iN (celN n))),(AV.int .i64) (nextZ L (kk+1) 2)]))) (gu (kk<9223372036854775807) <| br (nextZ L kk 8==0) (gu (ValidN n) <| gu (kk+1<9223372036854775807) <| gu (kk+1+1<9223372036854775807) <| some (.inr ([some (Blk.mk [AV.agg [AV.lst (List.map (AV.int .i64) L),(AV.int .i64) (iN (kk+1+1+1))]] 2 true true none)],AV.tup [(AV.int .i64) (nextZ L (kk+1) (iN (celN n))),(AV.int .i64) (nextZ L (kk+1+1) 2)]))) (gu (kk+1<9223372036854775807) <| gu (0≤nextZ L (kk+1) (iN (List.map (AV.int .i64) (nxO n c)).length)) <| el (nxO n c) ((nextZ L (kk+1) (iN (List.map (AV.int .i64) (nxO n c)).length)).toNat) fun(x55:Int)=>gu (kk+1+1<9223372036854775807) <| some (.inr ([some (Blk.mk [AV.agg [AV.lst (List.map (AV.int .i64) L),(AV.int .i64) (iN (kk+1+1+1))]] 2 true true none)],AV.tup [(AV.int .i64) x55,(AV.int .i64) (i64.wrap ((nextZ L (kk+1+1) 4).tdiv 3))])))))):Option (Empty⊕Ret))=some (.inr (([some (tapeB L p.2)],.tup [.int .i64 p.1.1,.int .i64 p.1.2]):Ret)):=by
   intro c
   rw[gu_t hrw]
   repeat rw[gu_t hv]
   repeat rw[gu_t (show kk<9223372036854775807 by omega)]
   repeat rw[gu_t (show kk+1<9223372036854775807 by omega)]
   repeat rw[gu_t (show kk+1+1<9223372036854775807 by omega)]
   cases ckE n c != 0 with
   | true=>exact⟨((_,_),_),by simp only;omega,rfl⟩
   | false=>cases hn:iN (List.map (AV.int .i64) (nxO n c)).length==0 with
    | true=>exact⟨((_,_),_),by simp only;omega,rfl⟩
    | false=>cases nextZ L kk 8==0 with
     | true=>exact⟨((_,_),_),by simp only;omega,rfl⟩
     | false=>
      have hn':(nxO n c).length≠0:=fun e=>by rw[iN_len,e] at hn;cases hn
      have hxl:=nxO_len hrw c
      have hr:=nextZ_rng L (kk+1) ((nxO n c).length:Int) (by omega) (by omega)
      rw[iN_len,gu_t (by omega),el_t (getE 0 (show(nextZ L (kk+1) ((nxO n c).length:Int)).toNat<(nxO n c).length by omega))]
      exact⟨((_,_),kk+1+1+1),by simp only;omega,gu_t (by omega)⟩
  by_cases hp:0<x.of.length
  ·obtain⟨p,h1,h2⟩:=key (plO x)
   refine⟨p,fun _ _ _ _=>⟨h1,ofe_ct L kk n x ([_],_) (.val ?_)⟩⟩
   unfold ofeEn
   rw[br_t (dec_t (by rw[iN_len];omega)),gu_t (by rw[iN_len,wrap_in (by omega) (by omega)];omega),el_t ((plO_el x hp).resolve_right (by omega))]
   exact h2
  ·obtain⟨p,h1,h2⟩:=key x.b.c
   refine⟨p,fun _ _ _ _=>⟨h1,ofe_ct L kk n x ([_],_) (.val ?_)⟩⟩
   unfold ofeEn
   rw[br_f (dec_f (by rw[iN_len];omega))]
   exact h2
 ·exact⟨((0,0),0),fun a b c d=>absurd ⟨a,b,c,d⟩ h⟩
@[irreducible] def ofeC(L:List Int)(kk:Nat)(n:NetD)(x:RaD):Int:=(Classical.choose (ofe_exP L kk n x)).1.1
@[irreducible] def ofeF(L:List Int)(kk:Nat)(n:NetD)(x:RaD):Int:=(Classical.choose (ofe_exP L kk n x)).1.2
@[irreducible] def ofeK(L:List Int)(kk:Nat)(n:NetD)(x:RaD):Nat:=(Classical.choose (ofe_exP L kk n x)).2
theorem ofe_spec{L:List Int}{kk:Nat}{n:NetD}{x:RaD}(h1:kk≤1000000)(h2:ValidN n)(h3:Rows n.nx)(h4:x.of.length≤1000000):ofeK L kk n x≤kk+3∧CT Try.prog 31 [some (tapeB L kk)] [.ptr 0 0 0,netA n,raA x] [some (tapeB L (ofeK L kk n x))] (.tup [.int .i64 (ofeC L kk n x),.int .i64 (ofeF L kk n x)]):=by
 unfold ofeC ofeF ofeK;exact Classical.choose_spec (ofe_exP L kk n x) h1 h2 h3 h4
theorem ofe_c(L:List Int)(kk:Nat)(n:NetD)(x:RaD)(h1:kk≤1000000)(h2:ValidN n)(h3:Rows n.nx)(h4:x.of.length≤1000000):CT Try.prog 31 [some (tapeB L kk)] [.ptr 0 0 0,netA n,raA x] [some (tapeB L (ofeK L kk n x))] (.tup [.int .i64 (ofeC L kk n x),.int .i64 (ofeF L kk n x)]):=(ofe_spec h1 h2 h3 h4).2
@[irreducible] def evJ(n:NetD)(x:RaD)(y:EvD):SoD:=evO n x y
theorem evJ_eq:evJ=evO:=by funext n x y;unfold evJ;rfl
theorem stp_j(n:NetD)(x:RaD)(y:EvD)(hrw:Rows n.nx)(hx:RaS x):CT Try.prog 33 [] [netA n,raA x,evA y] [] (soA (evJ n x y)):=by rw[evJ_eq];exact stp_c n x y hrw hx
@[irreducible] def ofJ(n:NetD)(x:RaD)(q p:Int):NwD:=ofdO n x q p
theorem ofJ_eq:ofJ=ofdO:=by funext n x q p;unfold ofJ;rfl
theorem off_j(n:NetD)(x:RaD)(q p:Int)(hrw:Rows n.nx)(hx:OfL x):CT Try.prog 32 [] [netA n,raA x,.int .i64 q,.int .i64 p] [] (nwA (ofJ n x q p)):=by rw[ofJ_eq];exact off_c n x q p hrw hx
@[irreducible] def nwJ(n:NetD)(q:Int):NwD:=newO n q
theorem nwJ_eq:nwJ=newO:=by funext n q;unfold nwJ;rfl
theorem rnw_j(n:NetD)(q:Int)(hrw:Rows n.nx):CT Try.prog 30 [] [netA n,.int .i64 q] [] (nwA (nwJ n q)):=by rw[nwJ_eq];exact rnw_c n q hrw
inductive kn8Pc where
 | l0 (v0:NwD) (v1:Int) (v2:RaD)
def kn8St:kn8Pc→St
 | .l0 v0 v1 v2=>St.mk 83 [(1,AV.ptr 0 0 0),(2,AV.ptr 1 0 0),(3,iv v0.e),(4,AV.lst (List.map (iv) (nxO (netM [2] 0 4) 0))),(6,AV.lst [AV.agg [iv 6,iv 0,iv 0,AV.str (ByteArray.mk #[])],AV.agg [iv 2,iv 0,iv 0,AV.str (ByteArray.mk #[])],AV.agg [iv 2,iv 0,iv 0,AV.str (ByteArray.mk #[])],AV.agg [iv 9,iv 0,iv 0,AV.str (ByteArray.mk #[])],AV.agg [iv 9,iv 0,iv 0,AV.str (ByteArray.mk #[])],AV.agg [iv 9,iv 0,iv 0,AV.str (ByteArray.mk #[])]]),(7,iv v1)] [some (bK [netA (netM [2] 0 4)] 8),some (bK [AV.agg [uV v2.s.q,bV v2.s.o,iv v2.s.c,iv v2.s.f,uV v2.a.l,iv v2.a.t,bV v2.a.s,iv v2.a.r,iv v2.a.c,iv v2.b.c,iv v2.b.t,bV v2.b.s,bV v2.b.f,AV.lst (List.map frA v2.dn),AV.lst (List.map frA v2.up),AV.lst (List.map (iv) v2.of),AV.lst (List.map (iv) v2.en)]] 17)]
def kn8Hd:kn8Pc→Nat
 | .l0 _ _ _=>0
def kn8En:Option (kn8Pc⊕Ret):=
 gu (Rows (netM [(2:Int)] (nat_lit 0) (4:Int)).nx) <|
 br ((nwJ (netM [2] 0 4) 0).e != 0)
 (some (.inr ([],bV false)))
 (br (ckE (netM [2] 0 4) 0 != 0)
  (some (.inr ([],bV false)))
  (br (iN (List.map iV (nxO (netM [2] 0 4) 0)).length==0)
   (some (.inr ([],bV false)))
   (el (nxO (netM [2] 0 4) 0) (Int.toNat 0) fun(x37:Int)=>
    gu (OfL (nwJ (netM [(2:Int)] (nat_lit 0) (4:Int)) (0:Int)).1) <|
    some (.inl (.l0 (ofJ (netM [2] 0 4) (nwJ (netM [2] 0 4) 0).1 x37 0) ((0:Int)) ((ofJ (netM [2] 0 4) (nwJ (netM [2] 0 4) 0).1 x37 0).x))))))
def kn8S0(v0:NwD)(v1:Int)(v2:RaD):Option (kn8Pc⊕Ret):=
 br (decide (v1<6))
 (gu (0≤v1) <|
  el ([EvD.mk 6 0 0,EvD.mk 2 0 0,EvD.mk 2 0 0,EvD.mk 9 0 0,EvD.mk 9 0 0,EvD.mk 9 0 0]) (v1.toNat) fun(x60:EvD)=>
  gu (Rows (netM [(2:Int)] (nat_lit 0) (4:Int)).nx) <|
  gu (RaS v2) <|
  some (.inl (.l0 v0 (i64.wrap (v1+1)) ((evJ (netM [2] 0 4) v2 x60).x))))
 (br (v0.e==0)
  (br (iN (List.map iV v2.en).length==1)
   (el (v2.en) (Int.toNat 0) fun(x76:Int)=>
    el (nxO (netM [2] 0 4) 0) (Int.toNat 0) fun(x79:Int)=>
    some (.inr ([],bV (x76==x79))))
   (some (.inr ([],bV false))))
  (some (.inr ([],bV false))))
def kn8Step:kn8Pc→Option (kn8Pc⊕Ret)
 | .l0 v0 v1 v2=>kn8S0 v0 v1 v2
theorem kn8En_ok(o:kn8Pc⊕Ret)(h:kn8En=some o):Arr Try.prog Try.f29 0 (kn8St) kn8Hd (zB Try.f29) [] {n:=Try.f29.ntmps,fr:=enumF 0 ([]),hp:=([])} o:=
 Scr.ok h mix (
 have c0:=net_ct ([2]) (0) (4) (show nat_lit 0≤(5000:Nat) from(by first | exact nL rfl | decide)) (show(1:Int)≤(4:Int)∧(4:Int)≤(20:Int) from ⟨(by first | exact nL rfl | decide),(by first | exact nL rfl | decide)⟩);
 .rn 1 [] [(8,AV.lst [])] [(11,hK c0 [0] [])] [] (u2 (al (ak (u2 (u2 (aj (ak (k3 (al (c0)))) (ak (al (k2 n11))))))))) <|
 .gu fun a0=>
 have c1:=rnw_j (netM [2] 0 4) (0) a0;
 have c2:=cnext_c (netM [2] 0 4) (0) a0;
 .rn 1 [] [] [(14,hK c1 [] []),(19,hK c2 [] [])] [] (aj (u2 (aj (ak (aj t9 (ak (al (c1))))) (u2 (u2 (u2 (ak (aj (k2 n11) s2))))))) (al (u2 (aj (ak (aj t9 (ak (al (c2))))) (u2 (u2 (u2 (u2 s2)))))))) <|
 .br (fun a1=>
 .rt [49] [] [] [] [] [] (aj (aj (u2 (u2 (u2 (aj a1 (aj a1 (ag a1 (u2 (k3 (al t3))))))))) (ak s2)) t2))
 (fun a1=>
 .br (fun a2=>
  .rt [48,57] [] [] [] [] [] (aj (aj (u2 (u2 (u2 (ag a1 (ag a1 (ag a1 (u2 (aj a2 (aj a2 (aj a2 (al (aj a2 t2)))))))))))) (ak s2)) t2))
 (fun a2=>
  .rn 0 [48,56] [] [] [] (al (u2 (u2 (u2 (ag a1 (ag a1 (ag a1 (u2 (ag a2 (ag a2 (ag a2 (al (aj a2 t2))))))))))))) <|
  .br (fun a3=>
  .rt [48,56,65] [] [] [] [] [] (aj (aj a3 s2) t2))
  (fun a3=>
  .el fun x37 a4=>
  .gu fun a5=>
  have c3:=off_j (netM [2] 0 4) ((nwJ (netM [2] 0 4) 0).1) x37 (0) a0 a5;
  .lp [48,56,64] [(37,iv x37),(48,AV.lst [])] [(39,hK c3 [] [])] [] [] [1,2] [1,2,3,4,6,7] (aj (aj a3 (aj (u2 (u2 (u2 (aj (ak (aj (show(0:Int)≤(0:Int) from(by first | exact nL rfl | decide)) (getMap (f:=iv) a4))) (u2 (aj (k3 (aj t9 (aj (ak (k3 (k5 t9))) (k2 (al (c3)))))) (u2 (u2 (u2 (aj (k2 (show Nat.le (nat_lit 1) [AV.agg [uV (nwJ (netM [(2:Int)] (nat_lit 0) (4:Int)) (0:Int)).x.s.q,bV (nwJ (netM [(2:Int)] (nat_lit 0) (4:Int)) (0:Int)).x.s.o,iv (nwJ (netM [(2:Int)] (nat_lit 0) (4:Int)) (0:Int)).x.s.c,iv (nwJ (netM [(2:Int)] (nat_lit 0) (4:Int)) (0:Int)).x.s.f,uV (nwJ (netM [(2:Int)] (nat_lit 0) (4:Int)) (0:Int)).x.a.l,iv (nwJ (netM [(2:Int)] (nat_lit 0) (4:Int)) (0:Int)).x.a.t,bV (nwJ (netM [(2:Int)] (nat_lit 0) (4:Int)) (0:Int)).x.a.s,iv (nwJ (netM [(2:Int)] (nat_lit 0) (4:Int)) (0:Int)).x.a.r,iv (nwJ (netM [(2:Int)] (nat_lit 0) (4:Int)) (0:Int)).x.a.c,iv (nwJ (netM [(2:Int)] (nat_lit 0) (4:Int)) (0:Int)).x.b.c,iv (nwJ (netM [(2:Int)] (nat_lit 0) (4:Int)) (0:Int)).x.b.t,bV (nwJ (netM [(2:Int)] (nat_lit 0) (4:Int)) (0:Int)).x.b.s,bV (nwJ (netM [(2:Int)] (nat_lit 0) (4:Int)) (0:Int)).x.b.f,AV.lst (List.map frA (nwJ (netM [(2:Int)] (nat_lit 0) (4:Int)) (0:Int)).x.dn),AV.lst (List.map frA (nwJ (netM [(2:Int)] (nat_lit 0) (4:Int)) (0:Int)).x.up),AV.lst (List.map (iv) (nwJ (netM [(2:Int)] (nat_lit 0) (4:Int)) (0:Int)).x.of),AV.lst (List.map (iv) (nwJ (netM [(2:Int)] (nat_lit 0) (4:Int)) (0:Int)).x.en)]].length from(nL rfl))) s2)))))))))) (aj (ak (k5 (aj t7 s2))) s2))) t9))))) (by kernel_rfl)
theorem kn8S0_ok(v0:NwD)(v1:Int)(v2:RaD)(o:kn8Pc⊕Ret)(h:kn8S0 v0 v1 v2=some o):Arr Try.prog Try.f29 0 (kn8St) kn8Hd (headC Try.f29 0) (.rnd (headC Try.f29 0)::headK Try.f29 0) (kn8St (.l0 v0 v1 v2)) o:=
 Scr.ok h mix (
 .rn 0 [] [] [] [] (al (u2 (u2 (u2 (al t3))))) <|
 .br (fun a0=>
 .gu fun a1=>
 .el fun x60 a2=>
 .gu fun a3=>
 .gu fun a4=>
 have c0:=stp_j (netM [2] 0 4) v2 x60 a3 a4;
 .lp [105] [(60,evA x60)] [(62,hK c0 [] [])] [] [] [0,1] [1,2,3,4,6,7] (aj (aj a0 (aj (u2 (u2 (u2 (u2 (aj (k2 (aj a1 (getMap (f:=evA) a2))) (u2 (aj (k3 (aj t9 (aj (ak (k3 (k5 t9))) (aj t5 (al (c0)))))) (u2 (u2 (u2 (al (k2 (show Nat.le 1 [AV.agg [uV v2.s.q,bV v2.s.o,iv v2.s.c,iv v2.s.f,uV v2.a.l,iv v2.a.t,bV v2.a.s,iv v2.a.r,iv v2.a.c,iv v2.b.c,iv v2.b.t,bV v2.b.s,bV v2.b.f,AV.lst (List.map frA v2.dn),AV.lst (List.map frA v2.up),AV.lst (List.map (iv) v2.of),AV.lst (List.map (iv) v2.en)]].length from(nL rfl)))))))))))))) (al (u2 (u2 s2))))) t9))
 (fun a0=>
 .br (fun a1=>
  .br (fun a2=>
  .el fun x76 a3=>
  .el fun x79 a4=>
  .rt [104,135,147] [(76,iv x76),(79,iv x79)] [] [] [] [] (aj (aj a0 (al (u2 (u2 (u2 (ag a1 (ag a1 (ag a1 (ag a1 (ag a1 (u2 (ag a2 (ag a2 (aj (aj a2 (ak (aj (show(0:Int)≤(0:Int) from(by first | exact nL rfl | decide)) (getMap (f:=iv) a3)))) (ag a2 (ag a2 (aj (aj a2 (ak (aj (show(0:Int)≤(0:Int) from(by first | exact nL rfl | decide)) (getMap (f:=iv) a4)))) (ag a2 (aj (aj a2 t3) (ag a2 s2)))))))))))))))))))) t2))
  (fun a2=>
  .rt [104,135,146] [] [] [] [] [] (aj (aj a0 (al (u2 (u2 (u2 (ag a1 (ag a1 (ag a1 (ag a1 (ag a1 (u2 (aj a2 (aj a2 (aj a2 (aj a2 (aj a2 (aj a2 (aj a2 (aj a2 (ag a2 s2)))))))))))))))))))) t2)))
 (fun a1=>
  .rt [104,134] [] [] [] [] [] (aj (aj a0 (al (u2 (u2 (u2 (aj a1 (aj a1 (aj a1 (aj a1 (ag a1 (u2 (k3 (k5 (aj t3 s2)))))))))))))) t2)))) (by kernel_rfl)
theorem kn8_ct(r:Ret)(h:MReach (kn8Step) (kn8En) r):CT Try.prog 29 ([]) ([]) r.1 r.2:=
 CT.mach (fn:=Try.f29) (c:=zB Try.f29) (S:=kn8St) (hd:=kn8Hd) Try.func29 (by kernel_rfl) (nL rfl)
  (fun s o ho=>match s,ho with
   | .l0 v0 v1 v2,ho=>kn8S0_ok v0 v1 v2 o ho
  )
  (fun o ho=>kn8En_ok o ho) h
def DnOk(z:SeD)(of en:List Int)(f:FrD):Prop:=0≤f.q∧(f.k=1→f.q≤z.q∧1≤f.q∧f.r=0∧of[(f.q-1).toNat]?=some f.c∧0≤f.c∧f.c<48∧(f.f=0∨f.f=1)∧(f.q=z.q→f.f=z.f))∧
 (f.k=3→f.q≤(en.length:Int)∧(z.o=true→f.q=z.q→z.f=1∧f.f≠2))
def UpOk(z:SeD)(en:List Int)(t:Bool)(f:FrD):Prop:=0≤f.q∧(f.k=2→f.q≤(en.length:Int)∧(t=true→f.q=z.q→f.f≠2))
structure RC(n:NetD)(c0:Int)(z:SeD)(g:AgD)(d:BdD)(of en:List Int):Prop where
 sq:z.q=(of.length:Int)
 l0:g.l≤z.q
 l1:z.q≤g.l+1
 et:en=of.take en.length
 ol:en.length≤of.length
 e1:g.t = -1→(en.length:Int)=g.l
 e2:g.t≠-1→(en.length:Int)+1=g.l∧of[en.length]?=some g.t
 cl:z.o=false→en.length=of.length
 lt:g.l<z.q→g.t = -1
 bt:d.t≠-1→d.t=g.t
 rp:g.r≠0→g.t = -1
 sc:z.o=true→of[of.length-1]?=some z.c∧0≤z.c∧z.c<48∧1≤z.q∧(z.f=0∨z.f=1)
 sv:d.s=true→z.o=true∧g.l=z.q∧z.f=1∧g.t = -1∧g.r≠2
 fl:g.t≠-1→g.s=(z.f==1)
 fn:z.o=true→g.l=z.q→g.t = -1→d.s=false→g.r=if z.f=0 then 1 else 2
 bc:0≤d.c
 pl:∀(i:Nat) c,of[i]?=some c→folB n (if i=0 then c0 else of.getD (i-1) 0) c=true∧0≤c
 pb:d.c=if en.length=0 then c0 else of.getD (en.length-1) 0
theorem RC.accept{n:NetD}{c0:Int}{z:SeD}{g:AgD}{d:BdD}{of en:List Int}{f:FrD}(h:RC n c0 z g d of en)(hf:DnOk z of en f)(hk:f.k=1)(hl:g.l<f.q):RC n c0 z ⟨f.q,f.c,f.f==1,0,0⟩ d of en:=by
 obtain⟨sq,l0,l1,he,ol,e1,e2,cl,lt,bt,rp,sc,sv,fl,fn,bc,pl,pb⟩:=h
 obtain⟨h0,h1,_⟩:=hf
 obtain⟨k1,k2,k3,k4,k5,k6,k7,k8⟩:=h1 hk
 have hq:f.q=z.q:=by omega
 have ht:=lt (by omega)
 have h1:=e1 ht
 have hn:(f.q-1).toNat=en.length:=by omega
 refine⟨sq,by simp only;omega,by simp only;omega,he,ol,fun h=>?_,fun _=>⟨by simp only;omega,by rw[hn] at k4;exact k4⟩,cl,fun h=>?_,fun h=>?_,fun h=>absurd rfl h,sc,fun h=>?_,fun _=>?_,fun _ _ h=>?_,bc,pl,pb⟩
 ·simp only at h;omega
 ·simp only at h;omega
 ·exact absurd ((bt h).trans ht) h
 ·have:=sv h;omega
 ·simp only[k8 hq]
 ·simp only at h;omega
theorem RC.acked{n:NetD}{c0:Int}{z:SeD}{g:AgD}{d:BdD}{of en:List Int}{f:FrD}(h:RC n c0 z g d of en)(hf:DnOk z of en f)(hk:f.k=3)(hq:f.q=g.l)(hr:f.f=g.r):RC n c0 z ⟨g.l,g.t,g.s,0,0⟩ d of en:=by
 obtain⟨sq,l0,l1,he,ol,e1,e2,cl,lt,bt,rp,sc,sv,fl,fn,bc,pl,pb⟩:=h
 obtain⟨h0,_,h1⟩:=hf
 refine⟨sq,l0,l1,he,ol,e1,e2,cl,lt,bt,fun h=>absurd rfl h,sc,fun h=>?_,fl,fun a b c e=>?_,bc,pl,pb⟩
 ·obtain⟨a,b,c,e,_⟩:=sv h;exact⟨a,b,c,e,fun h=>by simp at h⟩
 ·have h2:=fn a b c e
  obtain⟨h3,h4⟩:=h1 hk
  obtain⟨h5,h6⟩:=h4 a (hq.trans b)
  rw[if_neg (by omega)] at h2
  omega
theorem RC.close{n:NetD}{c0:Int}{z:SeD}{g:AgD}{d:BdD}{of en:List Int}{f:FrD}(h:RC n c0 z g d of en)(hf:UpOk z en d.s f)(hk:f.k=2)(hq:f.q=z.q)(hr:z.f=0∨f.f=2):RC n c0 ⟨z.q,false,z.c,z.f⟩ g d of en:=by
 obtain⟨sq,l0,l1,he,ol,e1,e2,cl,lt,bt,rp,sc,sv,fl,fn,bc,pl,pb⟩:=h
 obtain⟨h1,h2⟩:=hf.2 hk
 refine⟨sq,l0,l1,he,ol,e1,e2,fun _=>by omega,lt,bt,rp,(nomatch ·),fun h=>?_,fl,(nomatch ·),bc,pl,pb⟩
 have:=sv h
 have h3:=h2 h hq
 omega
theorem RC.start{n:NetD}{c0:Int}{z:SeD}{g:AgD}{d:BdD}{of en:List Int}(h:RC n c0 z g d of en):RC n c0 z g ⟨d.c,g.t,d.s,d.f⟩ of en:=by
 obtain⟨sq,l0,l1,he,ol,e1,e2,cl,lt,bt,rp,sc,sv,fl,fn,bc,pl,pb⟩:=h
 exact⟨sq,l0,l1,he,ol,e1,e2,cl,lt,fun _=>rfl,rp,sc,sv,fl,fn,bc,pl,pb⟩
theorem RC.fault{n:NetD}{c0:Int}{z:SeD}{g:AgD}{d:BdD}{of en:List Int}(h:RC n c0 z g d of en)(t:Bool):RC n c0 z g ⟨d.c,d.t,d.s,t⟩ of en:=by
 obtain⟨sq,l0,l1,he,ol,e1,e2,cl,lt,bt,rp,sc,sv,fl,fn,bc,pl,pb⟩:=h
 exact⟨sq,l0,l1,he,ol,e1,e2,cl,lt,bt,rp,sc,sv,fl,fn,bc,pl,pb⟩
theorem RC.serve{n:NetD}{c0:Int}{z:SeD}{g:AgD}{d:BdD}{of en:List Int}(h:RC n c0 z g d of en)(hs:d.s=true)(c:Int):RC n c0 z ⟨g.l,g.t,g.s,2,c⟩ ⟨d.c,d.t,false,d.f⟩ of en:=by
 obtain⟨sq,l0,l1,he,ol,e1,e2,cl,lt,bt,rp,sc,sv,fl,fn,bc,pl,pb⟩:=h
 obtain⟨s1,s2,s3,s4,s5⟩:=sv hs
 exact⟨sq,l0,l1,he,ol,e1,e2,cl,lt,bt,fun _=>s4,sc,(nomatch ·),fl,fun _ _ _ _=>by rw[if_neg (by omega)],bc,pl,pb⟩
theorem take_succ'{of en:List Int}{t:Int}(he:en=of.take en.length)(ht:of[en.length]?=some t):en++[t]=of.take (en++[t]).length:=by
 rw[List.length_append,List.length_singleton,List.take_add_one,ht,←he];rfl
theorem RC.arrive{n:NetD}{c0:Int}{z:SeD}{g:AgD}{d:BdD}{of en:List Int}(h:RC n c0 z g d of en)(hd:d.t≠-1):RC n c0 z ⟨g.l,-1,g.s,1,d.t⟩ ⟨d.t,-1,d.s||g.s,d.f⟩ of (en++[d.t]):=by
 obtain⟨sq,l0,l1,he,ol,e1,e2,cl,lt,bt,rp,sc,sv,fl,fn,bc,pl,pb⟩:=h
 have ht:=bt hd
 have hg:g.t≠-1:=fun e=>hd (ht.trans e)
 obtain⟨h1,h2⟩:=e2 hg
 have hl:en.length<of.length:=(List.getElem?_eq_some_iff.1 h2).1
 have ho:z.o=true:=by
  cases h:z.o with
  | true=>rfl
  | false=>have:=cl h;omega
 have hz:g.l=z.q:=by
  rcases Decidable.em (g.l<z.q) with h | h
  ·exact absurd (lt h) hg
  ·omega
 have hs:d.s=false:=by
  cases h:d.s with
  | false=>rfl
  | true=>exact absurd (sv h).2.2.2.1 hg
 have hfl:=fl hg
 have hsc:=(sc ho).2.2.2.2
 have len:((en++[d.t]).length:Int)=en.length+1:=by simp
 have hgd:of.getD en.length 0=d.t:=by rw[List.getD_eq_getElem?_getD,h2,ht];rfl
 refine⟨sq,l0,l1,take_succ' he (by rw[ht];exact h2),by simp only[List.length_append,List.length_singleton];omega,fun _=>by rw[len];exact h1,fun h=>absurd rfl h,fun h=>(by rw[ho] at h;cases h),fun _=>rfl,fun h=>absurd rfl h,fun _=>rfl,sc,fun h=>?_,fun h=>absurd rfl h,fun _ _ _ h=>?_,?_,pl,?_⟩
 ·rw[hs,hfl] at h
  exact⟨ho,hz,by simpa using h,rfl,(fun h=>absurd (show(1:Int)=2 from h) (by decide))⟩
 ·simp only[hs,hfl,Bool.false_or,beq_eq_false_iff_ne] at h
  rw[if_pos (by omega)]
 ·have:=(pl _ _ h2).2;simp only;omega
 ·rw[List.length_append,List.length_singleton,if_neg (by omega)]
  simp only[Nat.add_sub_cancel,hgd]
theorem RC.offer{n:NetD}{c0:Int}{z:SeD}{g:AgD}{d:BdD}{of en:List Int}(h:RC n c0 z g d of en)(ho:z.o=false){c f:Int}(hc:0≤c∧c<48)(hf:0≤f∧f≤1)(hp:folB n (if 0<of.length then of.getD (of.length-1) 0 else d.c) c=true):RC n c0 ⟨z.q+1,true,c,f⟩ g d (of++[c]) en:=by
 obtain⟨sq,l0,l1,he,ol,e1,e2,cl,lt,bt,rp,sc,sv,fl,fn,bc,pl,pb⟩:=h
 have hcl:=cl ho
 have ht:g.t = -1:=by
  rcases Decidable.em (g.t = -1) with h | h
  ·exact h
  ·obtain⟨h1,h2⟩:=e2 h
   have:=(List.getElem?_eq_some_iff.1 h2).1
   omega
 have h1:=e1 ht
 refine⟨by simp only[List.length_append,List.length_singleton];omega,by simp only;omega,by simp only;omega,?_,by simp only[List.length_append];omega,e1,fun h=>absurd ht h,(nomatch ·),fun _=>ht,bt,rp,fun _=>⟨?_,hc.1,hc.2,by simp only;omega,by simp only;omega⟩,fun h=>?_,fun h=>absurd ht h,fun _ h=>?_,bc,fun i c' h=>?_,?_⟩
 ·rw[List.take_append_of_le_length ol];exact he
 ·simp
 ·have:=(sv h).1;rw[ho] at this;cases this
 ·simp only at h;omega
 ·rcases Nat.lt_or_ge i of.length with hi | hi
  ·rw[List.getElem?_append_left hi] at h
   rw[List.getD_eq_getElem?_getD,List.getElem?_append_left (by omega),←List.getD_eq_getElem?_getD]
   exact pl i c' h
  ·have hi':i=of.length:=by
    have:=(List.getElem?_eq_some_iff.1 h).1
    simp only[List.length_append,List.length_singleton] at this;omega
   subst hi'
   rw[List.getElem?_concat_length] at h
   cases h
   refine⟨?_,hc.1⟩
   by_cases h0:of.length=0
   ·rw[if_pos h0]
    rw[if_neg (by omega),pb,if_pos (by omega)] at hp;exact hp
   ·rw[if_neg h0,List.getD_eq_getElem?_getD,List.getElem?_append_left (by omega),←List.getD_eq_getElem?_getD]
    rw[if_pos (by omega)] at hp;exact hp
 ·by_cases h0:en.length=0
  ·rw[if_pos h0];rw[if_pos h0] at pb;exact pb
  ·rw[if_neg h0,List.getD_eq_getElem?_getD,List.getElem?_append_left (by omega),←List.getD_eq_getElem?_getD]
   rw[if_neg h0] at pb;exact pb
theorem send_mem{l:List FrD}{y f:FrD}(h:f∈sendF l y):f∈l∨f=y:=by
 unfold sendF at h
 split at h
 ·cases h
 ·split at h
  ·rcases List.mem_append.1 h with h | h
   ·exact .inl h
   ·exact .inr (List.mem_singleton.1 h)
  ·exact .inl h
theorem send_len{l:List FrD}{y:FrD}(h:l.length≤6):(sendF l y).length≤6:=by
 unfold sendF
 rw[if_neg (by omega)]
 split
 ·rw[List.length_append,List.length_singleton];omega
 ·exact h
theorem all_mem{m:List FrD}:∀{l:List FrD} {f:FrD},f∈allF l m→f∈l∨f∈m:=by
 unfold allF
 induction m with
 | nil=>intro l f h;exact .inl h
 | cons y m ih=>
  intro l f h
  rcases ih h with h | h
  ·rcases send_mem h with h | h
   ·exact .inl h
   ·exact .inr (by rw[h];exact List.mem_cons_self)
  ·exact .inr (List.mem_cons_of_mem _ h)
theorem all_len{m:List FrD}:∀{l:List FrD},l.length≤6→(allF l m).length≤6:=by
 unfold allF
 induction m with
 | nil=>intro l h;exact h
 | cons y m ih=>intro l h;exact ih (send_len h)
theorem del_mem{l:List FrD}{q:Int}{f:FrD}(h:f∈(delO l q).l):f∈l:=by
 unfold delO at h
 cases hh:hasF l q with
 | false=>rw[hh] at h;cases h
 | true=>
  rw[hh] at h
  rcases List.mem_append.1 h with h | h
  ·exact List.mem_of_mem_take h
  ·exact List.mem_of_mem_drop h
theorem del_len{l:List FrD}{q:Int}:(delO l q).l.length≤l.length:=by
 unfold delO
 cases hh:hasF l q with
 | false=>exact Nat.zero_le _
 | true=>
  show(l.take q.toNat++l.drop (q.toNat+1)).length≤_
  rw[List.length_append,List.length_take,List.length_drop];omega
theorem del_x{l:List FrD}{q:Int}(h:(delO l q).o=true):(delO l q).x∈l:=by
 unfold delO at h ⊢
 cases hh:hasF l q with
 | false=>rw[hh] at h;cases h
 | true=>
  obtain⟨h2,h0,h1⟩:=hasF_iff.1 hh
  have hl:q.toNat<l.length:=by omega
  show l.getD q.toNat fr0∈l
  rw[List.getD_eq_getElem?_getD,List.getElem?_eq_getElem hl]
  exact List.getElem_mem hl
theorem dbl_mem{l:List FrD}{q:Int}{f:FrD}(h:f∈(dblO l q).l):f∈l:=by
 unfold dblO at h
 cases hh:hasF l q with
 | false=>rw[hh] at h;cases h
 | true=>
  rw[hh] at h
  obtain⟨h2,h0,h1⟩:=hasF_iff.1 hh
  have hl:q.toNat<l.length:=by omega
  rcases send_mem h with h | h
  ·exact h
  ·rw[h,List.getD_eq_getElem?_getD,List.getElem?_eq_getElem hl]
   exact List.getElem_mem hl
theorem dbl_len{l:List FrD}{q:Int}(h:l.length≤6):(dblO l q).l.length≤6:=by
 unfold dblO
 cases hh:hasF l q with
 | false=>exact Nat.zero_le _
 | true=>exact send_len h
structure RI(n:NetD)(c0:Int)(x:RaD):Prop where
 c:RC n c0 x.s x.a x.b x.of x.en
 dn:∀f∈x.dn,DnOk x.s x.of x.en f
 up:∀f∈x.up,UpOk x.s x.en x.b.s f
 dl:x.dn.length≤6
 ul:x.up.length≤6
theorem dn_ack{z:SeD}{of en:List Int}{t:Bool}{f:FrD}(h:UpOk z en t f)(hk:f.k=2)(hz:z.o=true→f.q=z.q→z.f=1∧f.f≠2):DnOk z of en ⟨3,0,f.q,0,f.f⟩:=
 ⟨h.1,fun h=>absurd (show(3:Int)=1 from h) (by decide),fun _=>⟨(h.2 hk).1,hz⟩⟩
theorem rep_ok{n:NetD}{c0:Int}{z:SeD}{g:AgD}{d:BdD}{of en:List Int}(h:RC n c0 z g d of en)(hr:g.r≠0)(q:Int):UpOk z en d.s (repF g q):=by
 have ht:=h.rp hr
 have h1:=h.e1 ht
 refine⟨by show 0≤g.l;omega,fun _=>⟨by show g.l≤_;omega,fun hs _=>(h.sv hs).2.2.2.2⟩⟩
theorem hea_ok{n:NetD}{c0:Int}{z:SeD}{g:AgD}{d:BdD}{of en:List Int}{f:FrD}(h:RC n c0 z g d of en)(hf:DnOk z of en f):RC n c0 z (heO g 0 f).a d of en∧∀y∈(heO g 0 f).l,UpOk z en d.s y:=by
 unfold heO
 cases frV f&&f.r==0 with
 | false=>exact⟨h,fun y hy=>nomatch hy⟩
 | true=>
  show RC n c0 z (heaO g f).a d of en∧∀y∈(heaO g f).l,UpOk z en d.s y
  unfold heaO
  cases hk:f.k==1 with
  | true=>
   have hk:=eq_of_beq hk
   refine⟨?_,fun y hy=>?_⟩
   ·show RC n c0 z (bif decide (g.l<f.q) then _ else g) d of en
    by_cases hl:g.l<f.q
    ·rw[dec_t hl];exact h.accept hf hk hl
    ·rw[dec_f hl];exact h
   ·rw[List.mem_singleton.1 hy]
    exact⟨hf.1,fun h=>absurd (show(3:Int)=2 from h) (by decide)⟩
  | false=>
   cases hc:f.k==3&&(!(g.r==0)&&(f.q==g.l&&f.f==g.r)) with
   | false=>exact⟨h,fun y hy=>nomatch hy⟩
   | true=>
    simp only[Bool.and_eq_true,beq_iff_eq] at hc
    exact⟨h.acked hf hc.1 hc.2.2.1 hc.2.2.2,fun y hy=>nomatch hy⟩
theorem cnf_ok{n:NetD}{c0:Int}{z:SeD}{g:AgD}{d:BdD}{of en:List Int}{f:FrD}{dn:List FrD}(h:RC n c0 z g d of en)(hd:∀f∈dn,DnOk z of en f)(hl:dn.length≤6)(hf:UpOk z en d.s f):
  RC n c0 (cnfO z dn f).s g d of en∧(∀y∈(cnfO z dn f).dn,DnOk (cnfO z dn f).s of en y)∧(cnfO z dn f).dn.length≤6∧(cnfO z dn f).s.q=z.q:=by
 unfold cnfO
 cases hk:f.k==2 with
 | false=>exact⟨h,hd,hl,rfl⟩
 | true=>
  have hk:=eq_of_beq hk
  cases hc:z.f==0||f.f==2 with
  | false=>
   simp only[Bool.or_eq_false_iff,beq_eq_false_iff_ne] at hc
   refine⟨h,fun y hy=>?_,send_len hl,rfl⟩
   rcases send_mem hy with hy | hy
   ·exact hd y hy
   ·rw[hy];exact dn_ack hf hk fun ho _=>⟨((h.sc ho).2.2.2.2).resolve_left hc.1,hc.2⟩
  | true=>
   have hc':z.f=0∨f.f=2:=by simpa using hc
   show RC n c0 (cfmO z f.q).s g d of en∧(∀y∈sendF dn ⟨3,0,f.q,0,f.f⟩,DnOk (cfmO z f.q).s of en y)∧(sendF dn ⟨3,0,f.q,0,f.f⟩).length≤6∧(cfmO z f.q).s.q=z.q
   unfold cfmO
   cases hq:z.o&&f.q==z.q with
   | false=>
    refine⟨h,fun y hy=>?_,send_len hl,rfl⟩
    rcases send_mem hy with hy | hy
    ·exact hd y hy
    ·rw[hy];exact dn_ack hf hk fun ho he=>by show z.f=1∧_;rw[show z.o=true from ho,show f.q=z.q from he] at hq;simp at hq
   | true=>
    simp only[Bool.and_eq_true,beq_iff_eq] at hq
    refine⟨h.close hf hk hq.2 hc',fun y hy=>?_,send_len hl,rfl⟩
    rcases send_mem hy with hy | hy
    ·obtain⟨a,b,c⟩:=hd y hy
     exact⟨a,b,fun h=>⟨(c h).1,fun h=>nomatch h⟩⟩
    ·rw[hy];exact dn_ack (z:=⟨z.q,false,z.c,z.f⟩) hf hk fun ho _=>nomatch ho
theorem trd_ok{n:NetD}{c0:Int}{x:RaD}(h:RI n c0 x)(y:EvD)(hy:(y.k==3)=false):RI n c0 ⟨(trdO x.s x.a x.b x.dn x.up y).z,(trdO x.s x.a x.b x.dn x.up y).g,x.b,(trdO x.s x.a x.b x.dn x.up y).dn,(trdO x.s x.a x.b x.dn x.up y).up,x.of,x.en⟩∨(trdO x.s x.a x.b x.dn x.up y).o=false:=by
 obtain⟨z,g,d,dn,up,of,en⟩:=x
 obtain⟨hc,hd,hu,hdl,hul⟩:=h
 dsimp only at hc hd hu hdl hul ⊢
 unfold trdO
 cases y.k==4||y.k==5 with
 | true=>exact .inl ⟨hc,fun f hf=>hd f (del_mem hf),hu,Nat.le_trans del_len hdl,hul⟩
 | false=>cases y.k==6||y.k==7 with
  | true=>exact .inl ⟨hc,fun f hf=>hd f (dbl_mem hf),hu,dbl_len hdl,hul⟩
  | false=>cases ho:(delO dn y.b).o with
   | false=>exact .inr rfl
   | true=>
    have hf:=hd _ (del_x ho)
    have hd':∀f∈(delO dn y.b).l,DnOk z of en f:=fun f hf=>hd f (del_mem hf)
    have hdl':(delO dn y.b).l.length≤6:=Nat.le_trans del_len hdl
    rw[hy]
    cases d.f with
    | true=>exact .inl ⟨hc,hd',hu,hdl',hul⟩
    | false=>
     obtain⟨h1,h2⟩:=hea_ok hc hf
     exact .inl ⟨h1,hd',fun f hf=>(all_mem hf).elim (hu f) (h2 f),hdl',all_len hul⟩
theorem tru_ok{n:NetD}{c0:Int}{x:RaD}(h:RI n c0 x)(y:EvD)(hy:(y.k==3)=true∨(y.k==5)=true∨(y.k==7)=true):RI n c0 ⟨(truO x.s x.a x.b x.dn x.up y).z,(truO x.s x.a x.b x.dn x.up y).g,x.b,(truO x.s x.a x.b x.dn x.up y).dn,(truO x.s x.a x.b x.dn x.up y).up,x.of,x.en⟩∨(truO x.s x.a x.b x.dn x.up y).o=false:=by
 obtain⟨z,g,d,dn,up,of,en⟩:=x
 obtain⟨hc,hd,hu,hdl,hul⟩:=h
 dsimp only at hc hd hu hdl hul ⊢
 unfold truO
 cases h45:y.k==4||y.k==5 with
 | true=>exact .inl ⟨hc,hd,fun f hf=>hu f (del_mem hf),hdl,Nat.le_trans del_len hul⟩
 | false=>cases h67:y.k==6||y.k==7 with
  | true=>exact .inl ⟨hc,hd,fun f hf=>hu f (dbl_mem hf),hdl,dbl_len hul⟩
  | false=>cases ho:(delO up y.b).o with
   | false=>exact .inr rfl
   | true=>
    have hy':(y.k==3)=true:=by
     simp only[Bool.or_eq_false_iff] at h45 h67
     rcases hy with h | h | h
     ·exact h
     ·rw[h45.2] at h;cases h
     ·rw[h67.2] at h;cases h
    rw[hy']
    have hf:=hu _ (del_x ho)
    obtain⟨h1,h2,h3,h4⟩:=cnf_ok hc hd hdl hf
    refine .inl ⟨h1,h2,fun f hf=>?_,h3,Nat.le_trans del_len hul⟩
    obtain⟨a,b⟩:=hu f (del_mem hf)
    exact⟨a,fun hk=>⟨(b hk).1,fun t e=>(b hk).2 t (e.trans h4)⟩⟩
theorem st_ok{n:NetD}{c0:Int}{x:RaD}(h:RI n c0 x)(y:EvD):RI n c0 (stO n x y).x∨(stO n x y).o=false:=by
 unfold stO
 cases h3:y.k==3||(y.k==5||y.k==7) with
 | true=>exact tru_ok h y (by simpa using h3)
 | false=>
  simp only[Bool.or_eq_false_iff] at h3
  cases y.k==2||(y.k==4||y.k==6) with
  | true=>exact trd_ok h y h3.1
  | false=>
   obtain⟨z,g,d,dn,up,of,en⟩:=x
   obtain⟨hc,hd,hu,hdl,hul⟩:=h
   dsimp only at hc hd hu hdl hul ⊢
   cases y.k==8 with
   | true=>
    refine .inl ⟨hc,fun f hf=>?_,fun f hf=>?_,?_,all_len hul⟩
    ·have hf:f∈(bif (outO z 0).o then sendF dn (outO z 0).x else dn):=hf
     cases ho:(outO z 0).o with
     | false=>rw[ho] at hf;exact hd f hf
     | true=>
      rw[ho] at hf
      rcases send_mem hf with hf | hf
      ·exact hd f hf
      ·have hz:z.o=true:=by unfold outO at ho;cases hz:z.o with | true=>rfl | false=>rw[hz] at ho;cases ho
       obtain⟨s1,s2,s3,s4,s5⟩:=hc.sc hz
       have e:(outO z 0).x=⟨1,0,z.q,z.c,z.f⟩:=by unfold outO;rw[hz];rfl
       rw[hf,e]
       have sq:=hc.sq
       refine⟨by simp only;omega,fun _=>⟨Int.le_refl _,s4,rfl,?_,s2,s3,s5,fun _=>rfl⟩,fun h=>absurd (show(1:Int)=3 from h) (by decide)⟩
       show of[(z.q-1).toNat]?=some z.c
       rw[show (z.q-1).toNat=of.length-1 by omega];exact s1
    ·rcases all_mem hf with hf | hf
     ·exact hu f hf
     ·unfold agaO at hf
      cases hr:g.r==0 with
      | true=>rw[hr] at hf;cases hf
      | false=>
       rw[hr] at hf
       cases hdf:d.f with
       | true=>rw[hdf] at hf;cases hf
       | false=>
        rw[hdf] at hf
        rw[List.mem_singleton.1 hf]
        exact rep_ok hc (by simpa using hr) 0
    ·show(bif (outO z 0).o then sendF dn (outO z 0).x else dn).length≤6
     cases (outO z 0).o with
     | true=>exact send_len hdl
     | false=>exact hdl
   | false=>cases y.k==9 with
    | true=>
     rcases driO_c n g 0 d with e | ⟨⟨h1,h2,h3,h4,h5,h6⟩,e⟩ | ⟨⟨h1,h2,h3⟩,e⟩
     ·rw[e]
      exact .inr (by show(bif agB g g&&bdB d d then (_:SoD) else _).o=false;rw[agB_self,bdB_self];rfl)
     ·rw[e]
      cases agB g g&&bdB ⟨d.c,g.t,d.s,d.f⟩ d with
      | true=>exact .inr rfl
      | false=>
       have ht:(g.t == -1)=false:=by simpa using h5
       refine .inl ?_
       show RI n c0 ⟨z,g,⟨d.c,g.t,d.s,d.f⟩,dn,up,of,bif g.t == -1 then en++[d.c] else en⟩
       rw[ht]
       exact⟨hc.start,hd,hu,hdl,hul⟩
     ·rw[e]
      cases agB ⟨g.l,-1,g.s,1,d.t⟩ g&&bdB ⟨d.t,-1,d.s||g.s,d.f⟩ d with
      | true=>exact .inr rfl
      | false=>
       refine .inl ?_
       show RI n c0 ⟨z,⟨g.l,-1,g.s,1,d.t⟩,⟨d.t,-1,d.s||g.s,d.f⟩,dn,allF up [repF ⟨g.l,-1,g.s,1,d.t⟩ 0],of,en++[d.t]⟩
       have hc':=hc.arrive h1
       have hl:((en++[d.t]).length:Int)=en.length+1:=by simp
       have sq:=hc.sq
       have ho:(en++[d.t]).length≤of.length:=hc'.ol
       refine⟨hc',fun f hf=>?_,fun f hf=>?_,hdl,all_len hul⟩
       ·obtain⟨a,b,c⟩:=hd f hf
        exact⟨a,b,fun h=>⟨by have:=(c h).1;simp only;omega,(c h).2⟩⟩
       ·rcases all_mem hf with hf | hf
        ·obtain⟨a,b⟩:=hu f hf
         refine⟨a,fun hk=>⟨by have:=(b hk).1;simp only;omega,fun _ hq=>?_⟩⟩
         have:=(b hk).1;simp only at hq;omega
        ·rw[List.mem_singleton.1 hf]
         exact rep_ok hc' (by show(1:Int)≠0;decide) 0
    | false=>cases y.k==10 with
     | true=>
      cases hb:bdB (finO g 0 d).b d with
      | true=>exact .inr rfl
      | false=>
       refine .inl ?_
       show RI n c0 ⟨z,(finO g 0 d).a,(finO g 0 d).b,dn,allF up (finO g 0 d).l,of,en⟩
       unfold finO at hb ⊢
       cases hcc:d.c == -1 with
       | true=>rw[hcc] at hb;exact absurd (show bdB d d=false from hb) (by rw[bdB_self];decide)
       | false=>
        rw[hcc] at hb
        cases hs:d.s&&!d.f with
        | false=>rw[hs] at hb;exact absurd (show bdB d d=false from hb) (by rw[bdB_self];decide)
        | true=>
         simp only[Bool.and_eq_true] at hs
         have hc':=hc.serve hs.1 d.c
         refine⟨hc',hd,fun f hf=>?_,hdl,all_len hul⟩
         rcases all_mem hf with hf | hf
         ·obtain⟨a,b⟩:=hu f hf
          exact⟨a,fun hk=>⟨(b hk).1,fun h=>nomatch h⟩⟩
         ·rw[List.mem_singleton.1 hf]
          exact rep_ok hc' (by show(2:Int)≠0;decide) 0
     | false=>cases y.k==11 with
      | true=>exact .inl ⟨hc.fault true,hd,hu,hdl,hul⟩
      | false=>exact .inr rfl
theorem RI.ev{n:NetD}{c0:Int}{x:RaD}(h:RI n c0 x)(y:EvD):RI n c0 (evO n x y).x:=by
 unfold evO
 cases y.a != 0 with
 | true=>exact h
 | false=>
  cases ho:(stO n x y).o with
  | true=>exact(st_ok h y).resolve_right (by rw[ho];decide)
  | false=>exact h
theorem st_of(n:NetD)(x:RaD)(y:EvD):(stO n x y).x.of=x.of:=by
 unfold stO
 cases y.k==3||(y.k==5||y.k==7) with
 | true=>rfl
 | false=>cases y.k==2||(y.k==4||y.k==6) with
  | true=>rfl
  | false=>cases y.k==8 with
   | true=>rfl
   | false=>cases y.k==9 with
    | true=>cases agB (driO n x.a 0 x.b).a x.a&&bdB (driO n x.a 0 x.b).b x.b<;>rfl
    | false=>cases y.k==10 with
     | true=>cases bdB (finO x.a 0 x.b).b x.b<;>rfl
     | false=>cases y.k==11<;>rfl
theorem ev_of(n:NetD)(x:RaD)(y:EvD):(evO n x y).x.of=x.of:=by
 unfold evO
 cases y.a != 0 with
 | true=>rfl
 | false=>cases (stO n x y).o with
  | true=>exact st_of n x y
  | false=>rfl
theorem offO_ok{z:SeD}{c f:Int}(h:(offO z c f).e=0):z.o=false∧(0≤c∧c<48)∧(0≤f∧f≤1)∧(offO z c f).s=⟨z.q+1,true,c,f⟩:=by
 unfold offO at h ⊢
 by_cases h1:c<0
 ·rw[dec_t h1] at h;cases h
 by_cases h2:48≤c
 ·rw[dec_f h1,dec_t h2] at h;cases h
 by_cases h3:f<0
 ·rw[dec_f h1,dec_f h2,dec_t h3] at h;cases h
 by_cases h4:1<f
 ·rw[dec_f h1,dec_f h2,dec_f h3,dec_t h4] at h;cases h
 rw[dec_f h1,dec_f h2,dec_f h3,dec_f h4] at h ⊢
 cases ho:z.o with
 | true=>rw[ho] at h;cases h
 | false=>exact⟨rfl,by omega,by omega,rfl⟩
theorem ofd_ok{n:NetD}{x:RaD}{c f:Int}(h:(ofdO n x c f).e=0):(offO x.s c f).e=0∧folB n (plO x) c=true∧(ofdO n x c f).x=⟨(offO x.s c f).s,x.a,x.b,sendF x.dn (outO (offO x.s c f).s 0).x,x.up,x.of++[c],x.en⟩:=by
 unfold ofdO at h ⊢
 cases he:(offO x.s c f).e != 0 with
 | true=>rw[he] at h;exact absurd h (by simpa using he)
 | false=>
  rw[he] at h
  cases hf:folB n (plO x) c with
  | false=>rw[hf] at h;cases h
  | true=>exact⟨by simpa using he,rfl,rfl⟩
theorem RI.offer{n:NetD}{c0:Int}{x:RaD}(h:RI n c0 x){c f:Int}(he:(ofdO n x c f).e=0):RI n c0 (ofdO n x c f).x∧(ofdO n x c f).x.s.q=x.s.q+1:=by
 obtain⟨h1,h2,h3⟩:=ofd_ok he
 obtain⟨g1,g2,g3,g4⟩:=offO_ok h1
 obtain⟨z,g,d,dn,up,of,en⟩:=x
 obtain⟨hc,hd,hu,hdl,hul⟩:=h
 dsimp only at hc hd hu hdl hul h1 h2 h3 g1 g2 g3 g4 ⊢
 rw[h3,g4]
 have sq:=hc.sq
 have ol:=hc.ol
 refine⟨⟨hc.offer g1 g2 g3 h2,fun y hy=>?_,fun y hy=>?_,send_len hdl,hul⟩,rfl⟩
 ·rcases send_mem hy with hy | hy
  ·obtain⟨a,b,e⟩:=hd y hy
   refine⟨a,fun hk=>?_,fun hk=>⟨(e hk).1,fun _ hq=>?_⟩⟩
   ·obtain⟨k1,k2,k3,k4,k5,k6,k7,k8⟩:=b hk
    exact⟨by simp only;omega,k2,k3,by rw[List.getElem?_append_left (List.getElem?_eq_some_iff.1 k4).1];exact k4,k5,k6,k7,fun hq=>by simp only at hq;omega⟩
   ·have:=(e hk).1;simp only at hq;omega
  ·rw[hy]
   refine⟨by show 0≤z.q+1;omega,fun _=>⟨Int.le_refl _,by show 1≤z.q+1;omega,rfl,?_,g2.1,g2.2,by show f=0∨f=1;omega,fun _=>rfl⟩,fun h=>absurd (show(1:Int)=3 from h) (by decide)⟩
   show(of++[c])[(z.q+1-1).toNat]?=some c
   rw[show (z.q+1-1).toNat=of.length by omega,List.getElem?_concat_length]
 ·obtain⟨a,b⟩:=hu y hy
  refine⟨a,fun hk=>⟨(b hk).1,fun ht=>?_⟩⟩
  have:=(hc.sv ht).1
  rw[g1] at this;cases this
theorem RI.new{n:NetD}{q:Int}(h:0≤q):RI n q (raN q):=by
 refine⟨⟨rfl,Int.le_refl _,by show(0:Int)≤0+1;decide,rfl,Nat.le_refl _,fun _=>rfl,fun h=>absurd rfl h,fun _=>rfl,fun _=>rfl,fun h=>absurd rfl h,fun h=>absurd rfl h,(nomatch ·),(nomatch ·),fun h=>absurd rfl h,(nomatch ·),h,fun i c h=>(nomatch h),rfl⟩,fun f hf=>(nomatch hf),fun f hf=>(nomatch hf),Nat.zero_le _,Nat.zero_le _⟩
theorem RI.lio{n:NetD}{c0:Int}{x:RaD}(h:RI n c0 x)(hq:x.s.q≤1000000):LiO x:=by
 have sq:=h.c.sq
 have ol:=h.c.ol
 have hd:=h.dl
 have hu:=h.ul
 exact⟨⟨⟨by omega,by omega,by omega,by omega⟩,by omega,hq⟩,fun f hf=>(h.dn f hf).1⟩
theorem RI.evq{n:NetD}{c0:Int}{x:RaD}(h:RI n c0 x)(y:EvD):(evO n x y).x.s.q=x.s.q:=by
 rw[(h.ev y).c.sq,h.c.sq,ev_of]
theorem new_ok{n:NetD}(hv:ValidN n){q:Int}(h0:0≤q)(h1:q<(celN n:Int)):newO n q=⟨raN q,0⟩:=by
 unfold newO
 rw[if_pos (ckE_of hv h0 h1)]
theorem ev_dbl{n:NetD}{x:RaD}{f:FrD}(h:x.dn=[f]):(evO n x ⟨6,0,0⟩).x=⟨x.s,x.a,x.b,[f,f],x.up,x.of,x.en⟩:=by
 obtain⟨z,g,d,dn,up,of,en⟩:=x
 subst h;rfl
theorem ev_dn{n:NetD}{x:RaD}{f:FrD}{l:List FrD}(h:x.dn=f::l)(hl:l.length≤5)(hf:x.b.f=false):(evO n x ⟨2,0,0⟩).x=⟨x.s,(heO x.a 0 f).a,x.b,l,allF x.up (heO x.a 0 f).l,x.of,x.en⟩:=by
 obtain⟨z,g,⟨dc,dt,ds,df⟩,dn,up,of,en⟩:=x
 dsimp only at h hf;subst h;subst hf
 have hh:hasF (f::l) 0=true:=hasF_iff.2 ⟨by simp only[List.length_cons];omega,Int.le_refl _,by simp only[List.length_cons];omega⟩
 have hd:delO (f::l) 0=⟨f,l,true⟩:=by unfold delO;rw[hh];rfl
 have ht:trdO z g ⟨dc,dt,ds,false⟩ (f::l) up ⟨2,0,0⟩=⟨z,(heO g 0 f).a,l,allF up (heO g 0 f).l,true⟩:=by
  unfold trdO;simp only[hd];rfl
 have hs:stO n ⟨z,g,⟨dc,dt,ds,false⟩,f::l,up,of,en⟩ ⟨2,0,0⟩=⟨⟨z,(heO g 0 f).a,⟨dc,dt,ds,false⟩,l,allF up (heO g 0 f).l,of,en⟩,true⟩:=by
  show(⟨⟨(trdO z g ⟨dc,dt,ds,false⟩ (f::l) up ⟨2,0,0⟩).z,_,_,_,_,_,_⟩,_⟩:SoD)=_
  rw[ht]
 unfold evO
 rw[hs];rfl
theorem hea_new{g:AgD}{q c:Int}(hg:g.l<q)(hq:1≤q)(hc:0≤c∧c<48){f:Int}(hf:f=0∨f=1):heO g 0 ⟨1,0,q,c,f⟩=⟨⟨q,c,f==1,0,0⟩,[⟨3,0,q,0,0⟩]⟩:=by
 have h1:frV ⟨1,0,q,c,f⟩=true:=by
  have e1:(q==0)=false:=beq_eq_false_iff_ne.2 (by omega)
  have e2:decide (c<0)=false:=dec_f (by omega)
  have e3:decide (48≤c)=false:=dec_f (by omega)
  have e4:decide (f<0)=false:=dec_f (by omega)
  have e5:decide (2<f)=false:=dec_f (by omega)
  have e6:decide (f<2)=true:=dec_t (by omega)
  unfold frV knK
  simp only[e1,e2,e3,e4,e5,e6];rfl
 unfold heO
 rw[h1]
 show heaO g ⟨1,0,q,c,f⟩=_
 unfold heaO
 show(⟨bif decide (g.l<q) then ⟨q,c,f==1,0,0⟩ else g,[⟨3,0,q,0,0⟩]⟩:HeD)=_
 rw[dec_t hg];rfl
theorem hea_old{g:AgD}{q c:Int}(hg:g.l=q)(hq:1≤q)(hc:0≤c∧c<48){f:Int}(hf:f=0∨f=1):heO g 0 ⟨1,0,q,c,f⟩=⟨g,[⟨3,0,q,0,0⟩]⟩:=by
 have h1:frV ⟨1,0,q,c,f⟩=true:=by
  have e1:(q==0)=false:=beq_eq_false_iff_ne.2 (by omega)
  have e2:decide (c<0)=false:=dec_f (by omega)
  have e3:decide (48≤c)=false:=dec_f (by omega)
  have e4:decide (f<0)=false:=dec_f (by omega)
  have e5:decide (2<f)=false:=dec_f (by omega)
  have e6:decide (f<2)=true:=dec_t (by omega)
  unfold frV knK
  simp only[e1,e2,e3,e4,e5,e6];rfl
 unfold heO
 rw[h1]
 show heaO g ⟨1,0,q,c,f⟩=_
 unfold heaO
 show(⟨bif decide (g.l<q) then ⟨q,c,f==1,0,0⟩ else g,[⟨3,0,q,0,0⟩]⟩:HeD)=_
 rw[dec_f (by omega)];rfl
theorem ev_go{n:NetD}{x:RaD}(h1:x.b.t = -1)(h2:x.b.c≠-1)(h3:x.b.f=false)(h4:x.b.s=false)(h5:x.a.t≠-1)(h6:folB n x.b.c x.a.t=true):evO n x ⟨9,0,0⟩=⟨⟨x.s,x.a,⟨x.b.c,x.a.t,false,false⟩,x.dn,x.up,x.of,x.en⟩,true⟩:=by
 obtain⟨z,g,⟨dc,dt,ds,df⟩,dn,up,of,en⟩:=x
 dsimp only at h1 h2 h3 h4 h5 h6;subst h1 h3 h4
 have hd:driO n g 0 ⟨dc,-1,false,false⟩=⟨g,⟨dc,g.t,false,false⟩,[]⟩:=by
  unfold driO
  rw[show (dc == -1)=false from beq_eq_false_iff_ne.2 h2,show(g.t == -1)=false from beq_eq_false_iff_ne.2 h5]
  simp only[h6];rfl
 have hb:bdB ⟨dc,g.t,false,false⟩ ⟨dc,-1,false,false⟩=false:=by
  have:(g.t == -1)=false:=beq_eq_false_iff_ne.2 h5
  simp[bdB,this]
 have hs:stO n ⟨z,g,⟨dc,-1,false,false⟩,dn,up,of,en⟩ ⟨9,0,0⟩=⟨⟨z,g,⟨dc,g.t,false,false⟩,dn,up,of,en⟩,true⟩:=by
  show(bif agB (driO n g 0 ⟨dc,-1,false,false⟩).a g&&bdB (driO n g 0 ⟨dc,-1,false,false⟩).b ⟨dc,-1,false,false⟩ then (⟨⟨z,g,⟨dc,-1,false,false⟩,dn,up,of,en⟩,false⟩:SoD) else
   ⟨⟨z,(driO n g 0 ⟨dc,-1,false,false⟩).a,(driO n g 0 ⟨dc,-1,false,false⟩).b,dn,allF up (driO n g 0 ⟨dc,-1,false,false⟩).l,of,bif (driO n g 0 ⟨dc,-1,false,false⟩).b.t == -1 then en++[(driO n g 0 ⟨dc,-1,false,false⟩).b.c] else en⟩,true⟩)=_
  rw[hd]
  dsimp only
  rw[hb,Bool.and_false,show(g.t == -1)=false from beq_eq_false_iff_ne.2 h5];rfl
 unfold evO
 rw[hs];rfl
theorem ev_in{n:NetD}{x:RaD}(h1:x.b.t≠-1)(h2:x.b.c≠-1)(h3:x.b.f=false):evO n x ⟨9,0,0⟩=⟨⟨x.s,⟨x.a.l,-1,x.a.s,1,x.b.t⟩,⟨x.b.t,-1,x.b.s||x.a.s,false⟩,x.dn,allF x.up [repF ⟨x.a.l,-1,x.a.s,1,x.b.t⟩ 0],x.of,x.en++[x.b.t]⟩,true⟩:=by
 obtain⟨z,g,⟨dc,dt,ds,df⟩,dn,up,of,en⟩:=x
 dsimp only at h1 h2 h3 ⊢;subst h3
 have hd:driO n g 0 ⟨dc,dt,ds,false⟩=⟨⟨g.l,-1,g.s,1,dt⟩,⟨dt,-1,ds||g.s,false⟩,[repF ⟨g.l,-1,g.s,1,dt⟩ 0]⟩:=by
  unfold driO
  rw[show (dc == -1)=false from beq_eq_false_iff_ne.2 h2,show(dt == -1)=false from beq_eq_false_iff_ne.2 h1];rfl
 have hb:bdB ⟨dt,-1,ds||g.s,false⟩ ⟨dc,dt,ds,false⟩=false:=by
  have:((-1:Int)==dt)=false:=beq_eq_false_iff_ne.2 (fun e=>h1 e.symm)
  simp[bdB,this]
 have hs:stO n ⟨z,g,⟨dc,dt,ds,false⟩,dn,up,of,en⟩ ⟨9,0,0⟩=⟨⟨z,⟨g.l,-1,g.s,1,dt⟩,⟨dt,-1,ds||g.s,false⟩,dn,allF up [repF ⟨g.l,-1,g.s,1,dt⟩ 0],of,en++[dt]⟩,true⟩:=by
  show(bif agB (driO n g 0 ⟨dc,dt,ds,false⟩).a g&&bdB (driO n g 0 ⟨dc,dt,ds,false⟩).b ⟨dc,dt,ds,false⟩ then (⟨⟨z,g,⟨dc,dt,ds,false⟩,dn,up,of,en⟩,false⟩:SoD) else
   ⟨⟨z,(driO n g 0 ⟨dc,dt,ds,false⟩).a,(driO n g 0 ⟨dc,dt,ds,false⟩).b,dn,allF up (driO n g 0 ⟨dc,dt,ds,false⟩).l,of,bif (driO n g 0 ⟨dc,dt,ds,false⟩).b.t == -1 then en++[(driO n g 0 ⟨dc,dt,ds,false⟩).b.c] else en⟩,true⟩)=_
  rw[hd]
  dsimp only
  rw[hb,Bool.and_false];rfl
 unfold evO
 rw[hs];rfl
theorem nx0_ne{n:NetD}(h:NetOk n)(hb:1<n.bs.length):∃c l,nxO n 0=c::l∧0≤c∧c<48∧folB n 0 c=true∧ckE n 0=0:=by
 have hcel:=h.v.cel
 have hk:ckE n 0=0:=ckE_of h.v (Int.le_refl _) (by omega)
 have hp:plF n 0=none:=by
  cases hp:plF n 0 with
  | none=>rfl
  | some i=>
   obtain⟨s,hs,_,h1,h2,_⟩:=plF_some hp
   have:=h.v.sb hs
   omega
 have hm:(((0+1) % n.bs.length:Nat):Int)∈nxO n 0:=by
  unfold nxO nxtL
  rw[if_pos hk,hp]
  exact List.mem_append.2 (.inl (h.rng hb 0 (by omega)))
 have hr:=nxtL_rng h.rows h.v (Int.le_refl 0) (show(0:Int)<(celN n:Int) by omega)
 cases e:nxO n 0 with
 | nil=>rw[e] at hm;cases hm
 | cons c l=>
  have hc:c∈nxO n 0:=by rw[e];exact List.mem_cons_self
  have hc':c∈nxtL n 0:=by unfold nxO at hc;rw[if_pos hk] at hc;exact hc
  have:=hr c hc'
  exact⟨c,l,rfl,by omega,by omega,by unfold folB;exact hasZ_mem.2 hc,hk⟩
def k8X(c:Int):Nat→RaD
 | 0=>⟨⟨1,true,c,0⟩,ag0,⟨0,-1,false,false⟩,[⟨1,0,1,c,0⟩],[],[c],[]⟩
 | 1=>⟨⟨1,true,c,0⟩,ag0,⟨0,-1,false,false⟩,[⟨1,0,1,c,0⟩,⟨1,0,1,c,0⟩],[],[c],[]⟩
 | 2=>⟨⟨1,true,c,0⟩,⟨1,c,false,0,0⟩,⟨0,-1,false,false⟩,[⟨1,0,1,c,0⟩],[⟨3,0,1,0,0⟩],[c],[]⟩
 | 3=>⟨⟨1,true,c,0⟩,⟨1,c,false,0,0⟩,⟨0,-1,false,false⟩,[],[⟨3,0,1,0,0⟩,⟨3,0,1,0,0⟩],[c],[]⟩
 | 4=>⟨⟨1,true,c,0⟩,⟨1,c,false,0,0⟩,⟨0,c,false,false⟩,[],[⟨3,0,1,0,0⟩,⟨3,0,1,0,0⟩],[c],[]⟩
 | _=>⟨⟨1,true,c,0⟩,⟨1,-1,false,1,c⟩,⟨c,-1,false,false⟩,[],[⟨3,0,1,0,0⟩,⟨3,0,1,0,0⟩,⟨2,0,1,c,1⟩],[c],[c]⟩
def k8E:List EvD:=[EvD.mk 6 0 0,EvD.mk 2 0 0,EvD.mk 2 0 0,EvD.mk 9 0 0,EvD.mk 9 0 0,EvD.mk 9 0 0]
theorem k8_step{n:NetD}{c:Int}(h0:0≤c)(h1:c<48)(hf:folB n 0 c=true)(i:Nat)(hi:i<6):(evO n (k8X c i) (k8E.getD i ⟨0,0,0⟩)).x=k8X c (i+1):=by
 match i,hi with
 | 0,_=>exact ev_dbl rfl
 | 1,_=>
  refine(ev_dn rfl (nL rfl) rfl).trans ?_
  rw[show (k8X c 1).a=ag0 from rfl,hea_new (by decide) (by decide) ⟨h0,h1⟩ (.inl rfl)];rfl
 | 2,_=>
  refine(ev_dn rfl (nL rfl) rfl).trans ?_
  rw[show (k8X c 2).a=⟨1,c,false,0,0⟩ from rfl,hea_old rfl (Int.le_refl 1) ⟨h0,h1⟩ (.inl rfl)];rfl
 | 3,_=>
  show(evO n (k8X c 3) ⟨9,0,0⟩).x=_
  rw[ev_go (x:=k8X c 3) rfl (by show(0:Int)≠-1;decide) rfl rfl (by show c≠-1;omega) hf];rfl
 | 4,_=>
  show(evO n (k8X c 4) ⟨9,0,0⟩).x=_
  rw[ev_in (x:=k8X c 4) (by show c≠-1;omega) (by show(0:Int)≠-1;decide) rfl];rfl
 | 5,_=>
  have hd:driO n ⟨1,-1,false,1,c⟩ 0 ⟨c,-1,false,false⟩=⟨⟨1,-1,false,1,c⟩,⟨c,-1,false,false⟩,[]⟩:=by
   unfold driO
   rw[show (c == -1)=false from beq_eq_false_iff_ne.2 (by omega)];rfl
  have hs:stO n (k8X c 5) ⟨9,0,0⟩=⟨k8X c 5,false⟩:=by
   show(bif agB (driO n ⟨1,-1,false,1,c⟩ 0 ⟨c,-1,false,false⟩).a ⟨1,-1,false,1,c⟩&&bdB (driO n ⟨1,-1,false,1,c⟩ 0 ⟨c,-1,false,false⟩).b ⟨c,-1,false,false⟩ then (⟨k8X c 5,false⟩:SoD) else _)=_
   rw[hd]
   dsimp only
   rw[agB_self,bdB_self];rfl
  show(evO n (k8X c 5) ⟨9,0,0⟩).x=_
  unfold evO
  rw[hs];rfl
theorem k8_ras(c:Int)(i:Nat):RaS (k8X c i):=by
 match i with
 | 0 | 1 | 2 | 3 | 4=>exact⟨nL rfl,nL rfl,nL rfl,nL rfl⟩
 | _+5=>exact⟨nL rfl,nL rfl,nL rfl,nL rfl⟩
theorem kn8_c:CT Try.prog 29 [] [] [] (.bool true):=by
 have hn:=(net_spec (L:=[2]) (kk:=0) (most:=4) (by decide) (by decide)).1
 have hb:1<(netM [2] 0 4).bs.length:=by
  have e:nextZ [2] 0 4=2:=by decide +kernel
  have:=net_nb (L:=[2]) (kk:=0) (most:=4) (by decide) (by decide)
  rw[e] at this;omega
 obtain⟨c,l,e1,h0,h1,hf,hck⟩:=nx0_ne hn hb
 have hcel:=hn.v.cel
 have e2:nwJ (netM [2] 0 4) 0=⟨raN 0,0⟩:=by rw[nwJ_eq];exact new_ok hn.v (Int.le_refl 0) (by omega)
 have e3:ofJ (netM [2] 0 4) (raN 0) c 0=⟨k8X c 0,0⟩:=by
  rw[ofJ_eq]
  unfold ofdO
  have e4:offO (raN 0).s c 0=⟨⟨1,true,c,0⟩,0⟩:=by
   unfold offO
   rw[dec_f (by omega),dec_f (by omega)];rfl
  rw[e4,show plO (raN 0)=0 from rfl,hf];rfl
 have e5:(nxO (netM [2] 0 4) 0)[Int.toNat 0]?=some c:=by rw[e1];rfl
 have hl:OfL (raN 0):=⟨⟨Nat.zero_le _,Nat.zero_le _,Nat.zero_le _,Nat.zero_le _⟩,Int.le_refl 0,by show(0:Int)≤1000000;decide⟩
 have he:kn8En=some (.inl (.l0 ⟨k8X c 0,0⟩ ((0:Nat):Int) (k8X c 0))):=by
  unfold kn8En
  rw[gu_t hn.rows,e2,br_f (by rfl),hck,br_f (by rfl),br_f (by rw[iN_len,e1];rfl),el_t e5,gu_t hl,e3];rfl
 refine kn8_ct ([],_) ?_
 rw[he]
 refine loop_up (fun i=>kn8Pc.l0 ⟨k8X c 0,0⟩ (i:Int) (k8X c i)) 6 (fun i hi h=>?_) ?_
 ·refine .to (show kn8S0 ⟨k8X c 0,0⟩ (i:Int) (k8X c i)=_ from ?_) h
  unfold kn8S0
  rw[br_t (dec_t (by omega)),gu_t (by omega)]
  refine(el_t (l:=k8E) (getE (l:=k8E) ⟨0,0,0⟩ (show((i:Nat):Int).toNat<k8E.length from hi))).trans ?_
  rw[gu_t hn.rows,gu_t (k8_ras c i),zW i (by omega),evJ_eq,show((i:Nat):Int).toNat=i from rfl,k8_step h0 h1 hf i hi]
 ·refine .to (show kn8S0 ⟨k8X c 0,0⟩ ((6:Nat):Int) (k8X c 6)=_ from ?_) (.ret _)
  unfold kn8S0
  rw[br_f (by rfl),br_t (by rfl),br_t (by rfl),el_t (show(k8X c 6).en[Int.toNat 0]?=some c from rfl),el_t e5,beq_self_eq_true]
inductive ronPc where
 | l0 (v0:Int) (v1:RaD) (v2:Nat)
 | l1 (v0 v1:Int) (v2:RaD) (v3:Nat)
def ronSt(ls ms:List Int):ronPc→St
 | .l0 v0 v1 v2=>St.mk 132 [(6,AV.ptr 0 0 0),(7,AV.ptr 1 0 0),(9,AV.ptr 2 0 0),(10,iv v0)] [some (bK [netA (looM ls 0 6)] 8),some (bK [AV.agg [uV v1.s.q,bV v1.s.o,iv v1.s.c,iv v1.s.f,uV v1.a.l,iv v1.a.t,bV v1.a.s,iv v1.a.r,iv v1.a.c,iv v1.b.c,iv v1.b.t,bV v1.b.s,bV v1.b.f,AV.lst (List.map frA v1.dn),AV.lst (List.map frA v1.up),AV.lst (List.map (iv) v1.of),AV.lst (List.map (iv) v1.en)]] 17),some (tapeB ms v2)]
 | .l1 v0 v1 v2 v3=>St.mk 132 [(6,AV.ptr 0 0 0),(7,AV.ptr 1 0 0),(9,AV.ptr 2 0 0),(10,iv v0),(15,iv v1)] [some (bK [netA (looM ls 0 6)] 8),some (bK [AV.agg [uV v2.s.q,bV v2.s.o,iv v2.s.c,iv v2.s.f,uV v2.a.l,iv v2.a.t,bV v2.a.s,iv v2.a.r,iv v2.a.c,iv v2.b.c,iv v2.b.t,bV v2.b.s,bV v2.b.f,AV.lst (List.map frA v2.dn),AV.lst (List.map frA v2.up),AV.lst (List.map (iv) v2.of),AV.lst (List.map (iv) v2.en)]] 17),some (tapeB ms v3)]
def ronHd:ronPc→Nat
 | .l0 _ _ _=>0
 | .l1 _ _ _ _=>1
def ronEn(ls ms:List Int):Option (ronPc⊕Ret):=
 gu (ValidN (looM ls 0 6)) <|
 gu (looK ls 0 6<9223372036854775807) <|
 gu (Rows (looM ls 0 6).nx) <|
 br ((nwJ (looM ls 0 6) (nextZ ls (looK ls 0 6) (iN (celN (looM ls 0 6))))).e != 0)
 (some (.inr ([],bV false)))
 (some (.inl (.l0 ((0:Int)) ((nwJ (looM ls 0 6) (nextZ ls (looK ls 0 6) (iN (celN (looM ls 0 6))))).x) (nat_lit 0))))
def ronS0(ls ms:List Int)(v0:Int)(v1:RaD)(v2:Nat):Option (ronPc⊕Ret):=
 br (decide (v0<60))
 (gu (v2<9223372036854775807) <|
  br (nextZ ms v2 4==0)
  (gu (v2+1≤1000000) <|
   gu (ValidN (looM ls 0 6)) <|
   gu (Rows (looM ls 0 6).nx) <|
   gu (v1.of.length≤1000000) <|
   gu (OfL v1) <|
   br ((ofJ (looM ls 0 6) v1 (ofeC ms (v2+1) (looM ls 0 6) v1) (ofeF ms (v2+1) (looM ls 0 6) v1)).e==0)
   (br (decide (iN (List.map iV (ofJ (looM ls 0 6) v1 (ofeC ms (v2+1) (looM ls 0 6) v1) (ofeF ms (v2+1) (looM ls 0 6) v1)).x.of).length<iN (List.map iV (ofJ (looM ls 0 6) v1 (ofeC ms (v2+1) (looM ls 0 6) v1) (ofeF ms (v2+1) (looM ls 0 6) v1)).x.en).length))
    (some (.inr ([],bV false)))
    (br (decide (iN (List.map iV (ofJ (looM ls 0 6) v1 (ofeC ms (v2+1) (looM ls 0 6) v1) (ofeF ms (v2+1) (looM ls 0 6) v1)).x.en).length<i64.wrap (iN (List.map iV (ofJ (looM ls 0 6) v1 (ofeC ms (v2+1) (looM ls 0 6) v1) (ofeF ms (v2+1) (looM ls 0 6) v1)).x.of).length-1)))
     (some (.inr ([],bV false)))
     (br (!(ofJ (looM ls 0 6) v1 (ofeC ms (v2+1) (looM ls 0 6) v1) (ofeF ms (v2+1) (looM ls 0 6) v1)).x.s.o)
      (br (iN (List.map iV (ofJ (looM ls 0 6) v1 (ofeC ms (v2+1) (looM ls 0 6) v1) (ofeF ms (v2+1) (looM ls 0 6) v1)).x.en).length != iN (List.map iV (ofJ (looM ls 0 6) v1 (ofeC ms (v2+1) (looM ls 0 6) v1) (ofeF ms (v2+1) (looM ls 0 6) v1)).x.of).length)
       (some (.inr ([],bV false)))
       (br (decide (6<iN (List.map frA (ofJ (looM ls 0 6) v1 (ofeC ms (v2+1) (looM ls 0 6) v1) (ofeF ms (v2+1) (looM ls 0 6) v1)).x.dn).length))
        (some (.inr ([],bV false)))
        (br (decide (6<iN (List.map frA (ofJ (looM ls 0 6) v1 (ofeC ms (v2+1) (looM ls 0 6) v1) (ofeF ms (v2+1) (looM ls 0 6) v1)).x.up).length))
         (some (.inr ([],bV false)))
         (some (.inl (.l1 v0 ((0:Int)) ((ofJ (looM ls 0 6) v1 (ofeC ms (v2+1) (looM ls 0 6) v1) (ofeF ms (v2+1) (looM ls 0 6) v1)).x) (ofeK ms (v2+1) (looM ls 0 6) v1)))))))
      (br (decide (6<iN (List.map frA (ofJ (looM ls 0 6) v1 (ofeC ms (v2+1) (looM ls 0 6) v1) (ofeF ms (v2+1) (looM ls 0 6) v1)).x.dn).length))
       (some (.inr ([],bV false)))
       (br (decide (6<iN (List.map frA (ofJ (looM ls 0 6) v1 (ofeC ms (v2+1) (looM ls 0 6) v1) (ofeF ms (v2+1) (looM ls 0 6) v1)).x.up).length))
        (some (.inr ([],bV false)))
        (some (.inl (.l1 v0 ((0:Int)) ((ofJ (looM ls 0 6) v1 (ofeC ms (v2+1) (looM ls 0 6) v1) (ofeF ms (v2+1) (looM ls 0 6) v1)).x) (ofeK ms (v2+1) (looM ls 0 6) v1)))))))))
   (br (decide (iN (List.map iV v1.of).length<iN (List.map iV v1.en).length))
    (some (.inr ([],bV false)))
    (br (decide (iN (List.map iV v1.en).length<i64.wrap (iN (List.map iV v1.of).length-1)))
     (some (.inr ([],bV false)))
     (br (!v1.s.o)
      (br (iN (List.map iV v1.en).length != iN (List.map iV v1.of).length)
       (some (.inr ([],bV false)))
       (br (decide (6<iN (List.map frA v1.dn).length))
        (some (.inr ([],bV false)))
        (br (decide (6<iN (List.map frA v1.up).length))
         (some (.inr ([],bV false)))
         (some (.inl (.l1 v0 ((0:Int)) v1 (ofeK ms (v2+1) (looM ls 0 6) v1)))))))
      (br (decide (6<iN (List.map frA v1.dn).length))
       (some (.inr ([],bV false)))
       (br (decide (6<iN (List.map frA v1.up).length))
        (some (.inr ([],bV false)))
        (some (.inl (.l1 v0 ((0:Int)) v1 (ofeK ms (v2+1) (looM ls 0 6) v1))))))))))
  (gu (v2+1≤1000000) <|
   gu (Rows (looM ls 0 6).nx) <|
   gu (RaS v1) <|
   br (decide (iN (List.map iV (evJ (looM ls 0 6) v1 (evtM ms (v2+1))).x.of).length<iN (List.map iV (evJ (looM ls 0 6) v1 (evtM ms (v2+1))).x.en).length))
   (some (.inr ([],bV false)))
   (br (decide (iN (List.map iV (evJ (looM ls 0 6) v1 (evtM ms (v2+1))).x.en).length<i64.wrap (iN (List.map iV (evJ (looM ls 0 6) v1 (evtM ms (v2+1))).x.of).length-1)))
    (some (.inr ([],bV false)))
    (br (!(evJ (looM ls 0 6) v1 (evtM ms (v2+1))).x.s.o)
     (br (iN (List.map iV (evJ (looM ls 0 6) v1 (evtM ms (v2+1))).x.en).length != iN (List.map iV (evJ (looM ls 0 6) v1 (evtM ms (v2+1))).x.of).length)
      (some (.inr ([],bV false)))
      (br (decide (6<iN (List.map frA (evJ (looM ls 0 6) v1 (evtM ms (v2+1))).x.dn).length))
       (some (.inr ([],bV false)))
       (br (decide (6<iN (List.map frA (evJ (looM ls 0 6) v1 (evtM ms (v2+1))).x.up).length))
        (some (.inr ([],bV false)))
        (some (.inl (.l1 v0 ((0:Int)) ((evJ (looM ls 0 6) v1 (evtM ms (v2+1))).x) (evtK ms (v2+1))))))))
     (br (decide (6<iN (List.map frA (evJ (looM ls 0 6) v1 (evtM ms (v2+1))).x.dn).length))
      (some (.inr ([],bV false)))
      (br (decide (6<iN (List.map frA (evJ (looM ls 0 6) v1 (evtM ms (v2+1))).x.up).length))
       (some (.inr ([],bV false)))
       (some (.inl (.l1 v0 ((0:Int)) ((evJ (looM ls 0 6) v1 (evtM ms (v2+1))).x) (evtK ms (v2+1)))))))))))
 (some (.inr ([],bV true)))
def ronS1(ls ms:List Int)(v0 v1:Int)(v2:RaD)(v3:Nat):Option (ronPc⊕Ret):=
 br (decide (v1<iN (List.map iV v2.en).length))
 (gu (0≤v1) <|
  el (v2.en) (v1.toNat) fun(x124:Int)=>
  el (v2.of) (v1.toNat) fun(x129:Int)=>
  br (x124 != x129)
  (some (.inr ([],bV false)))
  (some (.inl (.l1 v0 (i64.wrap (v1+1)) v2 v3))))
 (some (.inl (.l0 (i64.wrap (v0+1)) v2 v3)))
def ronStep(ls ms:List Int):ronPc→Option (ronPc⊕Ret)
 | .l0 v0 v1 v2=>ronS0 ls ms v0 v1 v2
 | .l1 v0 v1 v2 v3=>ronS1 ls ms v0 v1 v2 v3
theorem ronEn_ok(ls ms:List Int)(o:ronPc⊕Ret)(h:ronEn ls ms=some o):Arr Try.prog Try.f6 0 (ronSt ls ms) ronHd (zB Try.f6) [] {n:=Try.f6.ntmps,fr:=enumF 0 ([lI ls,lI ms]),hp:=([])} o:=
 Scr.ok h mix (
 have c0:=kn8_c;
 have c1:=loose_ct (ls) (0) (6) (show nat_lit 0≤(5000:Nat) from(by first | exact nL rfl | decide)) (show(1:Int)≤(6:Int)∧(6:Int)≤(20:Int) from ⟨(by first | exact nL rfl | decide),(by first | exact nL rfl | decide)⟩);
 .rn 3 [] [] [(16,hK c0 [] []),(22,hK c1 [0] [])] [] (u2 (aj (aj (al (c0)) s2) (ak (aj (u2 (u2 (u2 s2))) (al (u2 (aj (ak (k3 (al (c1)))) (ak (al (k2 n11)))))))))) <|
 .gu fun a0=>
 .gu fun a1=>
 .gu fun a2=>
 have c2:=cells_ct a0;
 have c3:=next_ct (ls) (looK ls 0 6) (iN (celN (looM ls 0 6))) a1;
 have c4:=rnw_j (looM ls 0 6) (nextZ ls (looK ls 0 6) (iN (celN (looM ls 0 6)))) a2;
 .rn 1 [] [] [(27,hK c2 [] []),(28,hK c3 [0] []),(29,hK c4 [] [])] [] (aj (u2 (u2 (u2 (aj (ak (aj t9 (al (c2)))) (aj (k5 (al (c3))) (aj (k2 (aj t9 (ak (al (c4))))) (u2 (u2 (u2 (ak (aj (k2 n11) s2))))))))))) (al (u2 s2))) <|
 .br (fun a3=>
 .rt [67] [] [] [] [] [] (aj (aj a3 s2) t2))
 (fun a3=>
 .lp [66] [] [] [] [] [1,2,3] [6,7,9,10] (aj (aj a3 (aj (u2 (u2 (u2 s2))) s2)) t8))) (by kernel_rfl)
theorem ronS0_ok(ls ms:List Int)(v0:Int)(v1:RaD)(v2:Nat)(o:ronPc⊕Ret)(h:ronS0 ls ms v0 v1 v2=some o):Arr Try.prog Try.f6 0 (ronSt ls ms) ronHd (headC Try.f6 0) (.rnd (headC Try.f6 0)::headK Try.f6 0) (ronSt ls ms (.l0 v0 v1 v2)) o:=
 Scr.ok h mix (
 .rn 0 [] [] [] [] (al (u2 s2)) <|
 .br (fun a0=>
 .gu fun a1=>
 have c0:=next_ct (ms) v2 (4) a1;
 .rn 0 [77] [] [(42,hK c0 [2] [])] [] (aj a0 (al (u2 (aj (ak (k3 (al (c0)))) s2)))) <|
 .br (fun a2=>
  .gu fun a3=>
  .gu fun a4=>
  .gu fun a5=>
  .gu fun a6=>
  have c1:=ofe_c (ms) (v2+1) (looM ls 0 6) v1 a3 a4 a5 a6;
  .rn 0 [87] [] [(48,hK c1 [2] [])] [] (aj a2 (al (u2 (u2 (u2 (aj (ak (k3 (aj t9 (aj (ak (k3 (k5 t9))) (ak (al (c1))))))) (u2 (u2 (u2 (u2 s2)))))))))) <|
  .gu fun a7=>
  have c2:=off_j (looM ls 0 6) v1 (ofeC ms (v2+1) (looM ls 0 6) v1) (ofeF ms (v2+1) (looM ls 0 6) v1) a5 a7;
  .rn 1 [] [] [(56,hK c2 [] [])] [] (aj (u2 (u2 (u2 (u2 (aj (ak (k3 (aj t9 (aj (ak (k3 (k5 t9))) (k2 (al (c2))))))) (u2 (u2 (u2 (ak (aj (k2 n11) s2)))))))))) (al (u2 s2))) <|
  .br (fun a8=>
  .rn 0 [121] [] [] [] (aj a8 (al (u2 (al (k2 (show Nat.le 1 [AV.agg [uV v1.s.q,bV v1.s.o,iv v1.s.c,iv v1.s.f,uV v1.a.l,iv v1.a.t,bV v1.a.s,iv v1.a.r,iv v1.a.c,iv v1.b.c,iv v1.b.t,bV v1.b.s,bV v1.b.f,AV.lst (List.map frA v1.dn),AV.lst (List.map frA v1.up),AV.lst (List.map (iv) v1.of),AV.lst (List.map (iv) v1.en)]].length from(nL rfl))))))) <|
  .br (fun a9=>
   .rt [155] [] [] [] [] [] (aj (aj (u2 (u2 (u2 (u2 (u2 (u2 (aj t3 (u2 (aj a9 (aj a9 (aj a9 (aj a9 (aj a9 (aj a9 (aj a9 (aj a9 (ag a9 (u2 (k3 (k5 (k5 (aj t3 (u2 (ak (k3 (aj t3 (u2 (ak (k3 (al t3)))))))))))))))))))))))))))))) (ak s2)) t2))
  (fun a9=>
   .br (fun a10=>
   .rt [154,175] [] [] [] [] [] (aj (aj (u2 (u2 (u2 (u2 (u2 (u2 (aj t3 (u2 (ag a9 (ag a9 (ag a9 (ag a9 (ag a9 (ag a9 (ag a9 (aj (aj a9 t3) (ag a9 (u2 (aj a10 (aj a10 (aj a10 (aj a10 (aj a10 (k2 (k5 (aj a10 (ag a10 (u2 (ak (k3 (aj t3 (u2 (ak (k3 (al t3))))))))))))))))))))))))))))))))))) (ak s2)) t2))
   (fun a10=>
   .br (fun a11=>
    .br (fun a12=>
    .rt [154,174,185,205] [] [] [] [] [] (aj (aj (u2 (u2 (u2 (u2 (u2 (u2 (aj t3 (u2 (ag a9 (ag a9 (ag a9 (ag a9 (ag a9 (ag a9 (ag a9 (aj (aj a9 t3) (ag a9 (u2 (ag a10 (ag a10 (ag a10 (ag a10 (ag a10 (ag a11 (ag a11 (ag a11 (ag a11 (ag a11 (ag a11 (aj (aj a11 t3) (aj (aj a10 (aj a11 t2)) (ag a10 (u2 (aj a12 (aj a12 (aj a12 (aj a12 (ag a12 (u2 (ak (k3 (al t3)))))))))))))))))))))))))))))))))))))))))) (ak s2)) t2))
    (fun a12=>
    .br (fun a13=>
     .rt [154,174,185,204,217] [] [] [] [] [] (aj (aj (u2 (u2 (u2 (u2 (u2 (u2 (aj t3 (u2 (ag a9 (ag a9 (ag a9 (ag a9 (ag a9 (ag a9 (ag a9 (aj (aj a9 t3) (ag a9 (u2 (ag a10 (ag a10 (ag a10 (ag a10 (ag a10 (ag a11 (ag a11 (ag a11 (ag a11 (ag a11 (ag a11 (aj (aj a11 t3) (aj (aj a10 (aj a11 t2)) (ag a10 (u2 (ag a12 (ag a12 (ag a12 (ag a12 (ag a12 (u2 (aj a13 (aj a13 (aj a13 (aj a13 (al (aj a13 t2))))))))))))))))))))))))))))))))))))))))))))) (ak s2)) t2))
    (fun a13=>
     .rn 0 [154,174,185,204,216] [] [] [] (al (u2 (u2 (u2 (u2 (u2 (u2 (aj t3 (u2 (ag a9 (ag a9 (ag a9 (ag a9 (ag a9 (ag a9 (ag a9 (aj (aj a9 t3) (ag a9 (u2 (ag a10 (ag a10 (ag a10 (ag a10 (ag a10 (ag a11 (ag a11 (ag a11 (ag a11 (ag a11 (ag a11 (aj (aj a11 t3) (aj (aj a10 (aj a11 t2)) (ag a10 (u2 (ag a12 (ag a12 (ag a12 (ag a12 (ag a12 (u2 (ag a13 (ag a13 (ag a13 (ag a13 (al (aj a13 t2)))))))))))))))))))))))))))))))))))))))))))))) <|
     .br (fun a14=>
     .rt [154,174,185,204,216,227] [] [] [] [] [] (aj (aj a14 s2) t2))
     (fun a14=>
     .lp [154,174,185,204,216,226] [] [] [] [] [0,1,2] [6,7,9,10,15] (aj (aj a14 s2) t9)))))
   (fun a11=>
    .br (fun a12=>
    .rt [154,174,184,217] [] [] [] [] [] (aj (aj (u2 (u2 (u2 (u2 (u2 (u2 (aj t3 (u2 (ag a9 (ag a9 (ag a9 (ag a9 (ag a9 (ag a9 (ag a9 (aj (aj a9 t3) (ag a9 (u2 (ag a10 (ag a10 (ag a10 (ag a10 (ag a10 (aj a11 (aj a11 (aj a11 (aj a11 (aj a11 (aj a11 (aj a11 (aj (aj a10 (aj a11 t2)) (ag a10 (u2 (aj t3 (aj t3 (aj t3 (aj t3 (aj t3 (u2 (aj a12 (aj a12 (aj a12 (aj a12 (al (aj a12 t2))))))))))))))))))))))))))))))))))))))))))))) (ak s2)) t2))
    (fun a12=>
    .rn 0 [154,174,184,216] [] [] [] (al (u2 (u2 (u2 (u2 (u2 (u2 (aj t3 (u2 (ag a9 (ag a9 (ag a9 (ag a9 (ag a9 (ag a9 (ag a9 (aj (aj a9 t3) (ag a9 (u2 (ag a10 (ag a10 (ag a10 (ag a10 (ag a10 (aj a11 (aj a11 (aj a11 (aj a11 (aj a11 (aj a11 (aj a11 (aj (aj a10 (aj a11 t2)) (ag a10 (u2 (aj t3 (aj t3 (aj t3 (aj t3 (aj t3 (u2 (ag a12 (ag a12 (ag a12 (ag a12 (al (aj a12 t2)))))))))))))))))))))))))))))))))))))))))))))) <|
    .br (fun a13=>
     .rt [154,174,184,216,227] [] [] [] [] [] (aj (aj a13 s2) t2))
    (fun a13=>
     .lp [154,174,184,216,226] [] [] [] [] [0,1,2] [6,7,9,10,15] (aj (aj a13 s2) t9)))))))
  (fun a8=>
  .br (fun a9=>
   .rt [120,155] [] [] [] [] [] (aj (aj a8 (aj (u2 (u2 (u2 (u2 (u2 (u2 (aj t3 (u2 (aj a9 (aj a9 (aj a9 (aj a9 (aj a9 (aj a9 (aj a9 (aj a9 (ag a9 (u2 (k3 (k5 (k5 (aj t3 (u2 (ak (k3 (aj t3 (u2 (ak (k3 (al t3)))))))))))))))))))))))))))))) (ak s2))) t2))
  (fun a9=>
   .br (fun a10=>
   .rt [120,154,175] [] [] [] [] [] (aj (aj a8 (aj (u2 (u2 (u2 (u2 (u2 (u2 (aj t3 (u2 (ag a9 (ag a9 (ag a9 (ag a9 (ag a9 (ag a9 (ag a9 (aj (aj a9 t3) (ag a9 (u2 (aj a10 (aj a10 (aj a10 (aj a10 (aj a10 (k2 (k5 (aj a10 (ag a10 (u2 (ak (k3 (aj t3 (u2 (ak (k3 (al t3))))))))))))))))))))))))))))))))))) (ak s2))) t2))
   (fun a10=>
   .br (fun a11=>
    .br (fun a12=>
    .rt [120,154,174,185,205] [] [] [] [] [] (aj (aj a8 (aj (u2 (u2 (u2 (u2 (u2 (u2 (aj t3 (u2 (ag a9 (ag a9 (ag a9 (ag a9 (ag a9 (ag a9 (ag a9 (aj (aj a9 t3) (ag a9 (u2 (ag a10 (ag a10 (ag a10 (ag a10 (ag a10 (ag a11 (ag a11 (ag a11 (ag a11 (ag a11 (ag a11 (aj (aj a11 t3) (aj (aj a10 (aj a11 t2)) (ag a10 (u2 (aj a12 (aj a12 (aj a12 (aj a12 (ag a12 (u2 (ak (k3 (al t3)))))))))))))))))))))))))))))))))))))))))) (ak s2))) t2))
    (fun a12=>
    .br (fun a13=>
     .rt [120,154,174,185,204,217] [] [] [] [] [] (aj (aj a8 (aj (u2 (u2 (u2 (u2 (u2 (u2 (aj t3 (u2 (ag a9 (ag a9 (ag a9 (ag a9 (ag a9 (ag a9 (ag a9 (aj (aj a9 t3) (ag a9 (u2 (ag a10 (ag a10 (ag a10 (ag a10 (ag a10 (ag a11 (ag a11 (ag a11 (ag a11 (ag a11 (ag a11 (aj (aj a11 t3) (aj (aj a10 (aj a11 t2)) (ag a10 (u2 (ag a12 (ag a12 (ag a12 (ag a12 (ag a12 (u2 (aj a13 (aj a13 (aj a13 (aj a13 (al (aj a13 t2))))))))))))))))))))))))))))))))))))))))))))) (ak s2))) t2))
    (fun a13=>
     .rn 0 [120,154,174,185,204,216] [] [] [] (aj a8 (al (u2 (u2 (u2 (u2 (u2 (u2 (aj t3 (u2 (ag a9 (ag a9 (ag a9 (ag a9 (ag a9 (ag a9 (ag a9 (aj (aj a9 t3) (ag a9 (u2 (ag a10 (ag a10 (ag a10 (ag a10 (ag a10 (ag a11 (ag a11 (ag a11 (ag a11 (ag a11 (ag a11 (aj (aj a11 t3) (aj (aj a10 (aj a11 t2)) (ag a10 (u2 (ag a12 (ag a12 (ag a12 (ag a12 (ag a12 (u2 (ag a13 (ag a13 (ag a13 (ag a13 (al (aj a13 t2))))))))))))))))))))))))))))))))))))))))))))))) <|
     .br (fun a14=>
     .rt [154,174,185,204,216,227] [] [] [] [] [] (aj (aj a14 s2) t2))
     (fun a14=>
     .lp [154,174,185,204,216,226] [] [] [] [] [0,1,2] [6,7,9,10,15] (aj (aj a14 s2) t9)))))
   (fun a11=>
    .br (fun a12=>
    .rt [120,154,174,184,217] [] [] [] [] [] (aj (aj a8 (aj (u2 (u2 (u2 (u2 (u2 (u2 (aj t3 (u2 (ag a9 (ag a9 (ag a9 (ag a9 (ag a9 (ag a9 (ag a9 (aj (aj a9 t3) (ag a9 (u2 (ag a10 (ag a10 (ag a10 (ag a10 (ag a10 (aj a11 (aj a11 (aj a11 (aj a11 (aj a11 (aj a11 (aj a11 (aj (aj a10 (aj a11 t2)) (ag a10 (u2 (aj t3 (aj t3 (aj t3 (aj t3 (aj t3 (u2 (aj a12 (aj a12 (aj a12 (aj a12 (al (aj a12 t2))))))))))))))))))))))))))))))))))))))))))))) (ak s2))) t2))
    (fun a12=>
    .rn 0 [120,154,174,184,216] [] [] [] (aj a8 (al (u2 (u2 (u2 (u2 (u2 (u2 (aj t3 (u2 (ag a9 (ag a9 (ag a9 (ag a9 (ag a9 (ag a9 (ag a9 (aj (aj a9 t3) (ag a9 (u2 (ag a10 (ag a10 (ag a10 (ag a10 (ag a10 (aj a11 (aj a11 (aj a11 (aj a11 (aj a11 (aj a11 (aj a11 (aj (aj a10 (aj a11 t2)) (ag a10 (u2 (aj t3 (aj t3 (aj t3 (aj t3 (aj t3 (u2 (ag a12 (ag a12 (ag a12 (ag a12 (al (aj a12 t2))))))))))))))))))))))))))))))))))))))))))))))) <|
    .br (fun a13=>
     .rt [154,174,184,216,227] [] [] [] [] [] (aj (aj a13 s2) t2))
    (fun a13=>
     .lp [154,174,184,216,226] [] [] [] [] [0,1,2] [6,7,9,10,15] (aj (aj a13 s2) t9))))))))
 (fun a2=>
  .gu fun a3=>
  .gu fun a4=>
  .gu fun a5=>
  have c1:=evt_c (ms) (v2+1) a3;
  have c2:=stp_j (looM ls 0 6) v1 (evtM ms (v2+1)) a4 a5;
  .rn 0 [86] [] [(66,hK c1 [2] []),(67,hK c2 [] [])] [] (aj a2 (al (u2 (u2 (u2 (aj (k3 (al (c1))) (aj (k3 (aj t9 (aj (ak (k3 (k5 t9))) (aj t5 (al (c2)))))) (u2 (u2 (u2 (al (k2 (show Nat.le 1 [AV.agg [uV v1.s.q,bV v1.s.o,iv v1.s.c,iv v1.s.f,uV v1.a.l,iv v1.a.t,bV v1.a.s,iv v1.a.r,iv v1.a.c,iv v1.b.c,iv v1.b.t,bV v1.b.s,bV v1.b.f,AV.lst (List.map frA v1.dn),AV.lst (List.map frA v1.up),AV.lst (List.map (iv) v1.of),AV.lst (List.map (iv) v1.en)]].length from(nL rfl)))))))))))))) <|
  .br (fun a6=>
  .rt [155] [] [] [] [] [] (aj (aj (u2 (u2 (u2 (u2 (u2 (u2 (aj t3 (u2 (aj a6 (aj a6 (aj a6 (aj a6 (aj a6 (aj a6 (aj a6 (aj a6 (ag a6 (u2 (k3 (k5 (k5 (aj t3 (u2 (ak (k3 (aj t3 (u2 (ak (k3 (al t3)))))))))))))))))))))))))))))) (ak s2)) t2))
  (fun a6=>
  .br (fun a7=>
   .rt [154,175] [] [] [] [] [] (aj (aj (u2 (u2 (u2 (u2 (u2 (u2 (aj t3 (u2 (ag a6 (ag a6 (ag a6 (ag a6 (ag a6 (ag a6 (ag a6 (aj (aj a6 t3) (ag a6 (u2 (aj a7 (aj a7 (aj a7 (aj a7 (aj a7 (k2 (k5 (aj a7 (ag a7 (u2 (ak (k3 (aj t3 (u2 (ak (k3 (al t3))))))))))))))))))))))))))))))))))) (ak s2)) t2))
  (fun a7=>
   .br (fun a8=>
   .br (fun a9=>
    .rt [154,174,185,205] [] [] [] [] [] (aj (aj (u2 (u2 (u2 (u2 (u2 (u2 (aj t3 (u2 (ag a6 (ag a6 (ag a6 (ag a6 (ag a6 (ag a6 (ag a6 (aj (aj a6 t3) (ag a6 (u2 (ag a7 (ag a7 (ag a7 (ag a7 (ag a7 (ag a8 (ag a8 (ag a8 (ag a8 (ag a8 (ag a8 (aj (aj a8 t3) (aj (aj a7 (aj a8 t2)) (ag a7 (u2 (aj a9 (aj a9 (aj a9 (aj a9 (ag a9 (u2 (ak (k3 (al t3)))))))))))))))))))))))))))))))))))))))))) (ak s2)) t2))
   (fun a9=>
    .br (fun a10=>
    .rt [154,174,185,204,217] [] [] [] [] [] (aj (aj (u2 (u2 (u2 (u2 (u2 (u2 (aj t3 (u2 (ag a6 (ag a6 (ag a6 (ag a6 (ag a6 (ag a6 (ag a6 (aj (aj a6 t3) (ag a6 (u2 (ag a7 (ag a7 (ag a7 (ag a7 (ag a7 (ag a8 (ag a8 (ag a8 (ag a8 (ag a8 (ag a8 (aj (aj a8 t3) (aj (aj a7 (aj a8 t2)) (ag a7 (u2 (ag a9 (ag a9 (ag a9 (ag a9 (ag a9 (u2 (aj a10 (aj a10 (aj a10 (aj a10 (al (aj a10 t2))))))))))))))))))))))))))))))))))))))))))))) (ak s2)) t2))
    (fun a10=>
    .rn 0 [154,174,185,204,216] [] [] [] (al (u2 (u2 (u2 (u2 (u2 (u2 (aj t3 (u2 (ag a6 (ag a6 (ag a6 (ag a6 (ag a6 (ag a6 (ag a6 (aj (aj a6 t3) (ag a6 (u2 (ag a7 (ag a7 (ag a7 (ag a7 (ag a7 (ag a8 (ag a8 (ag a8 (ag a8 (ag a8 (ag a8 (aj (aj a8 t3) (aj (aj a7 (aj a8 t2)) (ag a7 (u2 (ag a9 (ag a9 (ag a9 (ag a9 (ag a9 (u2 (ag a10 (ag a10 (ag a10 (ag a10 (al (aj a10 t2)))))))))))))))))))))))))))))))))))))))))))))) <|
    .br (fun a11=>
     .rt [154,174,185,204,216,227] [] [] [] [] [] (aj (aj a11 s2) t2))
    (fun a11=>
     .lp [154,174,185,204,216,226] [] [] [] [] [0,1,2] [6,7,9,10,15] (aj (aj a11 s2) t9)))))
   (fun a8=>
   .br (fun a9=>
    .rt [154,174,184,217] [] [] [] [] [] (aj (aj (u2 (u2 (u2 (u2 (u2 (u2 (aj t3 (u2 (ag a6 (ag a6 (ag a6 (ag a6 (ag a6 (ag a6 (ag a6 (aj (aj a6 t3) (ag a6 (u2 (ag a7 (ag a7 (ag a7 (ag a7 (ag a7 (aj a8 (aj a8 (aj a8 (aj a8 (aj a8 (aj a8 (aj a8 (aj (aj a7 (aj a8 t2)) (ag a7 (u2 (aj t3 (aj t3 (aj t3 (aj t3 (aj t3 (u2 (aj a9 (aj a9 (aj a9 (aj a9 (al (aj a9 t2))))))))))))))))))))))))))))))))))))))))))))) (ak s2)) t2))
   (fun a9=>
    .rn 0 [154,174,184,216] [] [] [] (al (u2 (u2 (u2 (u2 (u2 (u2 (aj t3 (u2 (ag a6 (ag a6 (ag a6 (ag a6 (ag a6 (ag a6 (ag a6 (aj (aj a6 t3) (ag a6 (u2 (ag a7 (ag a7 (ag a7 (ag a7 (ag a7 (aj a8 (aj a8 (aj a8 (aj a8 (aj a8 (aj a8 (aj a8 (aj (aj a7 (aj a8 t2)) (ag a7 (u2 (aj t3 (aj t3 (aj t3 (aj t3 (aj t3 (u2 (ag a9 (ag a9 (ag a9 (ag a9 (al (aj a9 t2)))))))))))))))))))))))))))))))))))))))))))))) <|
    .br (fun a10=>
    .rt [154,174,184,216,227] [] [] [] [] [] (aj (aj a10 s2) t2))
    (fun a10=>
    .lp [154,174,184,216,226] [] [] [] [] [0,1,2] [6,7,9,10,15] (aj (aj a10 s2) t9))))))))
 (fun a0=>
 .rt [76] [] [] [] [] [] (aj (aj a0 s2) t2))) (by kernel_rfl)
theorem ronS1_ok(ls ms:List Int)(v0 v1:Int)(v2:RaD)(v3:Nat)(o:ronPc⊕Ret)(h:ronS1 ls ms v0 v1 v2 v3=some o):Arr Try.prog Try.f6 0 (ronSt ls ms) ronHd (headC Try.f6 1) (.rnd (headC Try.f6 1)::headK Try.f6 1) (ronSt ls ms (.l1 v0 v1 v2 v3)) o:=
 Scr.ok h mix (
 .rn 0 [] [] [] [] (al (u2 (u2 (u2 (u2 (al t3)))))) <|
 .br (fun a0=>
 .gu fun a1=>
 .el fun x124 a2=>
 .el fun x129 a3=>
 .rn 0 [237] [(124,iv x124),(129,iv x129)] [] [] (aj a0 (al (u2 (u2 (u2 (aj (k2 (aj a1 (getMap (f:=iv) a2))) (u2 (u2 (u2 (u2 (aj (k2 (aj a1 (getMap (f:=iv) a3))) (u2 (al t3))))))))))))) <|
 .br (fun a4=>
  .rt [263] [] [] [] [] [] (aj (aj a4 s2) t2))
 (fun a4=>
  .lp [262] [] [] [] [] [0,1,2] [6,7,9,10,15] (aj (aj a4 (al (u2 (u2 s2)))) t9)))
 (fun a0=>
 .lp [236] [] [] [] [] [0,1,2] [6,7,9,10] (aj (aj a0 (al (u2 (u2 s2)))) t8))) (by kernel_rfl)
theorem ron_ct(ls ms:List Int)(r:Ret)(h:MReach (ronStep ls ms) (ronEn ls ms) r):CT Try.prog 6 ([]) ([lI ls,lI ms]) r.1 r.2:=
 CT.mach (fn:=Try.f6) (c:=zB Try.f6) (S:=ronSt ls ms) (hd:=ronHd) Try.func6 (by kernel_rfl) (nL rfl)
  (fun s o ho=>match s,ho with
   | .l0 v0 v1 v2,ho=>ronS0_ok ls ms v0 v1 v2 o ho
   | .l1 v0 v1 v2 v3,ho=>ronS1_ok ls ms v0 v1 v2 v3 o ho
  )
  (fun o ho=>ronEn_ok ls ms o ho) h
theorem rdInts{n:Nat}{es:List AV}(h:∀x∈es,ShV Try.prog n 3 x):∃L:List Int,es=L.map (AV.int .i64):=by
 induction es with
 | nil=>exact⟨[],rfl⟩
 | cons x es ih=>
  obtain⟨L,rfl⟩:=ih fun y hy=>h y (List.mem_cons_of_mem _ hy)
  obtain⟨i,_,rfl⟩:=(h x (by simp)).intD Try.underlying3
  exact⟨i::L,rfl⟩
theorem ron_look{n:NetD}{c0:Int}{x:RaD}(h:RI n c0 x)(hq:x.s.q≤1000){ls ms:List Int}{k:Int}{t:Nat}(hg:MReach (ronStep ls ms) (some (.inl (.l1 k 0 x t))) ([],.bool true)):
  ∃o,(br (decide (iN (List.map (AV.int .i64) x.of).length<iN (List.map (AV.int .i64) x.en).length))
   (some (.inr ([],AV.bool false)))
   (br (decide (iN (List.map (AV.int .i64) x.en).length<i64.wrap (iN (List.map (AV.int .i64) x.of).length-1)))
    (some (.inr ([],AV.bool false)))
    (br (!x.s.o)
     (br (iN (List.map (AV.int .i64) x.en).length != iN (List.map (AV.int .i64) x.of).length)
      (some (.inr ([],AV.bool false)))
      (br (decide (6<iN (List.map frA x.dn).length))
       (some (.inr ([],AV.bool false)))
       (br (decide (6<iN (List.map frA x.up).length))
        (some (.inr ([],AV.bool false)))
        (some (.inl (.l1 k ((0:Int)) x t))))))
     (br (decide (6<iN (List.map frA x.dn).length))
      (some (.inr ([],AV.bool false)))
      (br (decide (6<iN (List.map frA x.up).length))
       (some (.inr ([],AV.bool false)))
       (some (.inl (.l1 k ((0:Int)) x t))))))):Option (ronPc⊕Ret))=o∧MReach (ronStep ls ms) o ([],.bool true):=by
 have sq:=h.c.sq
 have ol:=h.c.ol
 have l1:=h.c.l1
 have dl:=h.dl
 have ul:=h.ul
 have hen:(x.of.length:Int)-1≤x.en.length:=by
  by_cases ht:x.a.t = -1
  ·have:=h.c.e1 ht;omega
  ·have:=(h.c.e2 ht).1
   have:¬x.a.l<x.s.q:=fun h'=>ht (h.c.lt h')
   omega
 refine⟨_,?_,hg⟩
 simp only[iN_len]
 rw[br_f (dec_f (by omega)),br_f (dec_f (by rw[wrap_in (by omega) (by omega)];omega)),br_f (dec_f (by omega)),br_f (dec_f (by omega))]
 cases ho:x.s.o with
 | true=>rfl
 | false=>
  rw[br_t (show(!false)=true from rfl),br_f (by rw[h.c.cl ho];simp)]
theorem ron_pre{n:NetD}{c0:Int}{x:RaD}(h:RI n c0 x)(hq:x.s.q≤1000){ls ms:List Int}{k t:Nat}(hk:k<60)(hg:MReach (ronStep ls ms) (some (.inl (.l0 ((k+1:Nat):Int) x t))) ([],.bool true)):MReach (ronStep ls ms) (some (.inl (.l1 (k:Int) 0 x t))) ([],.bool true):=by
 have sq:=h.c.sq
 have ol:=h.c.ol
 refine loop_up (fun i=>ronPc.l1 (k:Int) (i:Int) x t) x.en.length (fun i hi h'=>?_) ?_
 ·refine .to (show ronS1 ls ms (k:Int) (i:Int) x t=_ from ?_) h'
  unfold ronS1
  have e:x.en.getD i 0=x.of.getD i 0:=by
   rw[List.getD_eq_getElem?_getD,List.getD_eq_getElem?_getD]
   have:=h.c.et
   rw[this,List.getElem?_take,if_pos hi]
  rw[iN_len,br_t (dec_t (by omega)),gu_t (by omega),el_t (getE 0 (show((i:Nat):Int).toNat<x.en.length from hi)),el_t (getE 0 (show((i:Nat):Int).toNat<x.of.length by show i<_;omega)),zW i (by omega)]
  exact br_f (by show(x.en.getD i 0 != x.of.getD i 0)=false;rw[e];simp)
 ·refine .to (show ronS1 ls ms (k:Int) (x.en.length:Int) x t=_ from ?_) hg
  unfold ronS1
  rw[iN_len,br_f (dec_f (by omega)),zW k (by omega)]
theorem ron_run(ls ms:List Int){n:NetD}(hn:looM ls 0 6=n)(hv:ValidN n)(hrw:Rows n.nx){c0:Int}:∀(m k t:Nat) (x:RaD),k+m=60→t≤10 * k→RI n c0 x→x.s.q≤k→MReach (ronStep ls ms) (some (.inl (.l0 (k:Int) x t))) ([],.bool true):=by
 intro m
 induction m with
 | zero=>
  intro k t x hk ht hx hq
  refine .to (show ronS0 ls ms (k:Int) x t=_ from ?_) (.ret _)
  unfold ronS0
  rw[br_f (dec_f (by omega))]
 | succ m ih=>
  intro k t x hk ht hx hq
  have sq:=hx.c.sq
  suffices hs:∃o,ronS0 ls ms (k:Int) x t=o∧MReach (ronStep ls ms) o ([],.bool true) by
   obtain⟨o,h1,h2⟩:=hs
   exact .to (show ronS0 ls ms (k:Int) x t=o from h1) h2
  unfold ronS0
  rw[br_t (dec_t (by omega)),gu_t (by omega),hn]
  obtain⟨e1,_⟩:=evt_spec (L:=ms) (kk:=t+1) (by omega)
  obtain⟨e2,_⟩:=ofe_spec (L:=ms) (kk:=t+1) (n:=n) (x:=x) (by omega) hv hrw (by omega)
  have hl:=hx.lio (by omega)
  cases nextZ ms t 4==0 with
  | true=>
   rw[br_t rfl,gu_t (by omega),gu_t hv,gu_t hrw,gu_t (by omega),gu_t hl.1,ofJ_eq]
   cases he:(ofdO n x (ofeC ms (t+1) n x) (ofeF ms (t+1) n x)).e==0 with
   | true=>
    obtain⟨h1,h2⟩:=hx.offer (eq_of_beq he)
    rw[br_t rfl]
    exact ron_look h1 (by omega) (ron_pre h1 (by omega) (by omega) (ih (k+1) _ _ (by omega) (by omega) h1 (by omega)))
   | false=>
    rw[br_f rfl]
    exact ron_look hx (by omega) (ron_pre hx (by omega) (by omega) (ih (k+1) _ _ (by omega) (by omega) hx (by omega)))
  | false=>
   rw[br_f rfl,gu_t (by omega),gu_t hrw,gu_t hl.1.1,evJ_eq]
   have h1:=hx.ev (evtM ms (t+1))
   have h2:=hx.evq (evtM ms (t+1))
   exact ron_look h1 (by omega) (ron_pre h1 (by omega) (by omega) (ih (k+1) _ _ (by omega) (by omega) h1 (by omega)))
theorem ron_law(ls ms:List Int):CT Try.prog 6 [] [lI ls,lI ms] [] (.bool true):=by
 obtain⟨hlo,hlk,_⟩:=loo_spec (L:=ls) (kk:=0) (most:=6) (by decide) (by decide)
 have hcel:=hlo.v.cel
 have hnb:=hlo.v.nb24
 have hz:=nextZ_rng ls (looK ls 0 6) (iN (celN (looM ls 0 6))) (by simp only[iN];omega) (by simp only[iN];omega)
 simp only[iN] at hz
 refine ron_ct ls ms ([],_) ?_
 have he:ronEn ls ms=some (.inl (.l0 ((0:Nat):Int) (raN (nextZ ls (looK ls 0 6) (celN (looM ls 0 6)))) 0)):=by
  unfold ronEn
  rw[gu_t hlo.v,gu_t (by omega),gu_t hlo.rows,nwJ_eq]
  simp only[iN]
  rw[new_ok hlo.v hz.1 hz.2];rfl
 rw[he]
 exact ron_run ls ms rfl hlo.v hlo.rows 60 0 0 _ rfl (Nat.le_refl _) (RI.new hz.1) (Int.le_refl _)
theorem radioOnce_row(avs:List AV)(h:ShVs Try.prog 6 Try.f6.params.toList avs):CT Try.prog 6 [] avs [] (.bool true):=by
 rw[Try.params6] at h
 obtain⟨a,_,rfl,ka,h⟩:=h.consD
 obtain⟨b,_,rfl,kb,h⟩:=h.consD
 obtain rfl:=h.nilD
 obtain⟨_,_,he,rfl⟩:=ka.sliceD Try.underlying22
 obtain⟨l,rfl⟩:=rdInts he
 obtain⟨_,_,hf,rfl⟩:=kb.sliceD Try.underlying22
 obtain⟨m,rfl⟩:=rdInts hf
 exact ron_law l m
end Go.Proofs.Ytifigemlifbkcaa

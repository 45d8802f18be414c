/- Parts of the proof:NmO,NmP,NmQ,NmR,NmS,NmU,NmV,NmW,NmX,NmY,NmZ,NmZa,NmZb,NmZc,Pam,PaA,AxMl,UtA,LoA,St6m,StE,LoB,CeA,Ce1m,CeB,Ce2m,CeC,Ce3m,CeD,AxRw,RvA,RvB,Rv1m,Rv1A,RvC,RvD,Rv2m,RvE,AxNd,RqA,RqB,Cz1m,CzA,Rq1m,Rq2m,RqC,SpA,SpB,Sg1m,SgA,SgB. -/
import Derived.KernelRfl
import Derived.Test.YtedjkebooffjpaaProg
import Derived.Test.YtedjkebooffjpaaSignalsActsM5
noncomputable section
set_option linter.unusedVariables false
set_option linter.unusedSimpArgs false
open Go Go.AX Go.Proofs
set_option maxRecDepth 100000
set_option linter.unusedVariables false
set_option linter.unusedSimpArgs false
open Go.IntKind (i64 u64)
namespace Go.Proofs.Ytedjkebooffjpaa
def qA(L:List Int)(kk:Nat)(bs:List AQ)(g g2:List (List Int))(ss:List Az)(k base:Int)(u:ByteArray)(x y z w:Int)(t1 t2 t3 t4:Nat):QA:=⟨L,kk,t1,t2,t3,t4,bs,g,g2,ss,[],k,base,u,x,y,z,w,0,0,0,[],0,0,s0,false,0⟩
def HX(L:List Int)(kk i:Nat):AQ:=⟨H6 i,Ag L (kk+2 * i) 9-4,Ag L (kk+2 * i+1) 9-4⟩
def bsZ(L:List Int)(kk n:Nat):List AQ:=(List.range n).map (HX L kk)
theorem H9(L:List Int)(kk n:Nat):(bsZ L kk n).length=n:=by simp[bsZ]
theorem bsZ_succ(L:List Int)(kk n:Nat):bsZ L kk (n+1)=bsZ L kk n++[HX L kk n]:=by simp[bsZ,Ua]
theorem LessB_zN:Ch zB8 (nA1 [] []):=by
 refine⟨rfl,fun _=>rfl,rfl,Tx _,fun i e' h=>?_,fun h=>(by cases h),fun h=>(by cases h)⟩
 match i,h with
 | 0,h=>
  simp[nA1] at h;subst h
  refine⟨_,rfl,rfl,fun j c' hj=>?_⟩
  match j,hj with
  | 0,hj=>simp[AV.cells] at hj;subst hj;exact⟨.nils,rfl,.nilS 3 0⟩
  | 1,hj=>simp[AV.cells] at hj;subst hj;exact⟨.nils,rfl,.nilS 4 0⟩
  | 2,hj=>simp[AV.cells] at hj;subst hj;exact⟨.nils,rfl,.refl _⟩
  | 3,hj=>simp[AV.cells] at hj;subst hj;exact⟨.nils,rfl,.refl _⟩
  | 4,hj=>simp[AV.cells] at hj;subst hj;exact⟨.int .i64 0,rfl,.refl _⟩
  | 5,hj=>simp[AV.cells] at hj;subst hj;exact⟨.int .i64 0,rfl,.refl _⟩
  | 6,hj=>simp[AV.cells] at hj;subst hj;exact⟨.int .i64 0,rfl,.refl _⟩
  | 7,hj=>simp[AV.cells] at hj;subst hj;exact⟨.int .i64 0,rfl,.refl _⟩
  | j+8,hj=>simp[AV.cells] at hj
 | i+1,h=>simp[nA1] at h
theorem ren_z(q:QA)(hb:q.bs=[])(hg:q.g=[]):Ren 1 (EC q) (CO q):=by
 refine Ren.less rfl (by simp[EC,CO]) (fun s=>.refl _) fun b blk' h=>?_
 match b,h with
 | 0,h=>exact .inl ⟨by simp[EC],_,rfl,.inl (by simpa [CO,nth] using h.symm)⟩
 | 1,h=>exact .inl ⟨by simp[EC],_,rfl,.inl (by simpa [CO,nth] using h.symm)⟩
 | 2,h=>
  simp only[CO,nth,S1] at h;subst h
  exact .inl ⟨by simp[EC],_,rfl,.inr (by rw[hb,hg];exact LessB_zN)⟩
 | 3,h=>
  simp only[CO,nth,S1] at h;subst h
  exact .inr ⟨by simp[EC],by simp[bsB,hb],rfl,rfl,rfl⟩
 | 4,h=>
  simp only[CO,nth,S1] at h;subst h
  exact .inr ⟨by simp[EC],by simp[gB,hg,gL],rfl,rfl,rfl⟩
 | b+5,h=>simp[CO,nth] at h
theorem rng0_rep(b:Nat):List.replicate b []=A2 b 0:=by
 apply List.ext_getElem
 .simp[A2]
 .intro i h1 h2;simp[A2]
theorem QW(i:Nat):gL (List.replicate i [])++[AV.lst []]=gL (List.replicate (i+1) []):=by
 unfold gL
 rw[List.replicate_succ',Tz];rfl
theorem PX{L:List Int}{kk K:Nat}(hK:1<=K/\K<=24)(hkk:kk<=10000){post:Exit->St->Prop}
  (hT:∀B:Int,B=(K:Int)->T Try.prog 1 (.loop (zC (zB Try.f28) 1)) (DN (qA L ((A6 L K (kk+2 * K)).2+1) (bsZ L kk K) (A6 L K (kk+2 * K)).1 [] [] (3+Ag L (A6 L K (kk+2 * K)).2 3) B em 0 0 0 0 0 0 0 0)) (TK Try.prog 1 post (zK (zB Try.f28) 1))):
  T Try.prog 1 (.loop (zC (zB Try.f28) 0)) (CO (qA L kk [] [] [] [] (K:Int) 0 em 0 0 0 0 0 0 0 0)) (TK Try.prog 1 post (zK (zB Try.f28) 0)):=by
 suffices hh:T Try.prog 1 (.loop (zC (zB Try.f28) 0)) (CO (qA L (kk+2 * 0) (bsZ L kk 0) (List.replicate 0 []) [] [] ((K:Int)-((0:Nat):Int)) 0 em 0 0 0 0 0 0 0 0)) (TK Try.prog 1 post (zK (zB Try.f28) 0)) by
  simpa [bsZ] using hh
 refine T.loop (fun i:Nat=>CO (qA L (kk+2 * i) (bsZ L kk i) (List.replicate i []) [] [] ((K:Int)-(i:Int)) 0 em 0 0 0 0 0 0 0 0)) (fun i=>i<=K) (fun i=>K+1-i) 0 (Ty _) ?_
 intro i hi
 have hbl:=H9 L kk i
 have hbm:((bsZ L kk i).map bA).length=i:=by simp[bsZ]
 have hgl:=Bt (List.replicate i ([]:List Int))
 rw[TG] at hgl
 by_cases h:i<K
 .have n1:=AI L (kk+2 * i) 9 (by omega)
  have n2:=AI L (kk+2 * i+1) 9 (by omega)
  have r1:=AP L (kk+2 * i) 9 (by omega) (by omega)
  have r2:=AP L (kk+2 * i+1) 9 (by omega) (by omega)
  have d1:=Po i (by omega)
  have w1:i64.wrap (Ag L (kk+2 * i) 9-4)=Ag L (kk+2 * i) 9-4:=AU _ (by omega) (by omega)
  have w2:i64.wrap (Ag L (kk+2 * i+1) 9-4)=Ag L (kk+2 * i+1) 9-4:=AU _ (by omega) (by omega)
  have wk:i64.wrap ((K:Int)-(i:Int)-1)=(K:Int)-((i+1:Nat):Int):=by rw[AU _ (by omega) (by omega)];omega
  have hsz:(B1 i).size<=2:=by unfold B1;split<;>exact nL rfl
  have dd:CT Try.prog 56 [] [.int .i64 (iN (bsZ L kk i).length)] [] (.str (B1 i)):=by rw[hbl];exact d1
  refine T.path mix (ntl_0 (qA L (kk+2 * i) (bsZ L kk i) (List.replicate i []) [] [] ((K:Int)-(i:Int)) 0 (B1 i) (Ag L (kk+2 * i) 9) (Ag L (kk+2 * i+1) 9) 0 0 (kk+2 * i+1) (kk+2 * i+2) 0 0)
   (Ts (by simp only[qA];omega)) dd (by show 1+(B1 i).size<=_;omega) n1 n2 (by simp only[qA,hbl,hbm]) (by simp) (by simp only[qA,hbm,T1];omega) (by simp only[qA,hbm,T1];omega)
   (by simp only[qA,hgl,TG]) (by simp only[qA,hgl];omega) (by simp only[qA,hgl];omega) ?_)
  intro st hst
  refine⟨i+1,?_,h,by omega⟩
  simp only[qA,wk,w1,w2] at hst
  have e1:(bsZ L kk (i+1)).map bA=(bsZ L kk i).map bA++[AV.agg [AV.str (ByteArray.mk #[98]++B1 i),AV.int .i64 (Ag L (kk+2 * i) 9-4),AV.int .i64 (Ag L (kk+2 * i+1) 9-4)]]:=by rw[bsZ_succ,Tz];rfl
  have e2:(bsZ L kk (i+1)).length=((bsZ L kk i).map bA).length+[AV.agg [AV.str (ByteArray.mk #[98]++B1 i),AV.int .i64 (Ag L (kk+2 * i) 9-4),AV.int .i64 (Ag L (kk+2 * i+1) 9-4)]].length:=by rw[H9,hbm];rfl
  have e3:(List.replicate (i+1) ([]:List Int)).length=(gL (List.replicate i [])).length+1:=by rw[hgl];simp
  unfold CO nA1 bsB gB
  simp only[qA]
  rw[e1,e2,e3,<-QW]
  exact hst
 .obtain rfl:i=K:=by omega
  have hr:=ring_ct (L:=L) (bs:=bsZ L kk i) (by rw[hbl];exact hK) (kk+2 * i) (by omega)
  rw[hbl] at hr
  have hro:=LB (L:=L) (kk:=kk+2 * i) hK
  have n1:=AI L (A6 L i (kk+2 * i)).2 3 (by omega)
  have r1:=AP L (A6 L i (kk+2 * i)).2 3 (by omega) (by omega)
  have w3:i64.wrap (3+Ag L (A6 L i (kk+2 * i)).2 3)=3+Ag L (A6 L i (kk+2 * i)).2 3:=AU _ (by omega) (by omega)
  rw[<-rng0_rep] at hr
  have k:=ntx_0 (post:=post) (qA L (kk+2 * i) (bsZ L kk i) (List.replicate i []) (A6 L i (kk+2 * i)).1 [] ((i:Int)-(i:Int)) 0 em (Ag L (A6 L i (kk+2 * i)).2 3) 0 0 0 (A6 L i (kk+2 * i)).2 ((A6 L i (kk+2 * i)).2+1) 0 0)
   (Tq (by simp only[qA];omega)) hr n1 (by have:=hT (iN (bsZ L kk i).length) (by simp[iN,hbl]);simp only[qA,w3];exact this)
  exact T.out mix k
def spZ(L:List Int)(b:Nat)(i kk:Nat)(base:Int)(dep:Bool):Az:=⟨Fl i,dep,Ag L kk b,Ag L (kk+1) b,1+Ag L (kk+2) 3,base⟩
structure SS where
 ss:List Az
 kk:Nat
 base:Int
def stS(L:List Int)(b:Nat)(p:SS):SS:=
 if p.ss.length=0 then ⟨p.ss++[spZ L b p.ss.length p.kk p.base true],p.kk+3,p.base+(1+Ag L (p.kk+2) 3)⟩
 else if 2<p.ss.length then ⟨p.ss++[spZ L b p.ss.length (p.kk+1) p.base (Ag L p.kk 2==0)],p.kk+4,p.base+(1+Ag L (p.kk+3) 3)⟩
 else ⟨p.ss++[spZ L b p.ss.length p.kk p.base false],p.kk+3,p.base+(1+Ag L (p.kk+2) 3)⟩
def itS(L:List Int)(b:Nat)(p:SS):Nat->SS
 | 0=>p
 | n+1=>stS L b (itS L b p n)
theorem KD{L:List Int}{b:Nat}{p:SS}:∀n,(itS L b p n).ss.length=p.ss.length+n/\(itS L b p n).kk<=p.kk+4 * n/\p.base<=(itS L b p n).base/\(itS L b p n).base<=p.base+3 * n:=by
 intro n
 induction n with
 | zero=>simp[itS]
 | succ n ih=>
  obtain⟨h1,h2,h3,h4⟩:=ih
  have r1:=AP L ((itS L b p n).kk+2) 3 (by omega) (by omega)
  have r2:=AP L ((itS L b p n).kk+3) 3 (by omega) (by omega)
  simp only[itS]
  unfold stS
  split
  .refine⟨by simp;omega,by simp only;omega,by simp only;omega,by simp only;omega⟩
  split
  .refine⟨by simp;omega,by simp only;omega,by simp only;omega,by simp only;omega⟩
  .refine⟨by simp;omega,by simp only;omega,by simp only;omega,by simp only;omega⟩
theorem ssl_eq(ss:List Az)(s:Az):(ss++[s]).map sA=ss.map sA++[sA s]/\(ss++[s]).length=(ss.map sA).length+1:=by simp
theorem n1_step{L:List Int}{bs:List AQ}(hb:1<=bs.length/\bs.length<=24){g:List (List Int)}{p:SS}(hp:p.ss.length<6)(hkk:p.kk<=100000)(hba:0<=p.base/\p.base<=1000){k:Int}(hk:0<k/\k<=10){R:St->Prop}{post:Exit->St->Prop}
  (hR:∀st,Ren 1 st (BX (qA L (stS L bs.length p).kk bs g [] (stS L bs.length p).ss (k-1) (stS L bs.length p).base em 0 0 0 0 0 0 0 0))->R st):
  T Try.prog 1 (zC (zB Try.f28) 1) (BX (qA L p.kk bs g [] p.ss k p.base em 0 0 0 0 0 0 0 0)) (andThen R post):=by
 obtain⟨ss,kk,base⟩:=p
 simp only at hp hkk hba
 have hsm:(ss.map sA).length=ss.length:=by simp
 have dd:=Po ss.length (by omega)
 have hsz:(B1 ss.length).size<=2:=by unfold B1;split<;>exact nL rfl
 have dk:decide (0<k)=true:=Ts hk.1
 have wk:i64.wrap (k-1)=k-1:=AU _ (by omega) (by omega)
 have fsz:1+(B1 ss.length).size<=9223372036854775807:=by omega
 have n0:=AI L kk bs.length (by omega)
 have n1:=AI L (kk+1) bs.length (by omega)
 have n2:=AI L (kk+2) bs.length (by omega)
 have m2:=AI L (kk+2) 3 (by omega)
 have m3:=AI L (kk+3) 3 (by omega)
 have c0:=AI L kk 2 (by omega)
 have r2:=AP L (kk+2) 3 (by omega) (by omega)
 have r3:=AP L (kk+3) 3 (by omega) (by omega)
 have w2:i64.wrap (1+Ag L (kk+2) 3)=1+Ag L (kk+2) 3:=AU _ (by omega) (by omega)
 have w3:i64.wrap (1+Ag L (kk+3) 3)=1+Ag L (kk+3) 3:=AU _ (by omega) (by omega)
 have v2:i64.wrap (base+(1+Ag L (kk+2) 3))=base+(1+Ag L (kk+2) 3):=AU _ (by omega) (by omega)
 have v3:i64.wrap (base+(1+Ag L (kk+3) 3))=base+(1+Ag L (kk+3) 3):=AU _ (by omega) (by omega)
 have fin:∀(dep:Bool) (t:Nat) (bb:Int) (s:Az) st,s.dep=dep->Ren 1 st (St.mk 191 [(0,AV.ptr 0 0 0),(4,AV.ptr 1 0 0),(5,AV.ptr 2 0 0),(8,AV.int i64 bb),(9,AV.int i64 (k-1))] [some (Ae L t),some zB8,
   some (Blk.mk [AV.agg [AV.sl 3 0 bs.length,AV.sl 4 0 g.length,AV.sl 5 0 ((ss.map sA).length+1),AV.nils,AV.int i64 0,AV.int i64 0,AV.int i64 0,AV.int i64 0]] 8 false true none),some (bsB bs),some (gB g),some (Blk.mk (ss.map sA++[sA s]) 6 true true none)])->
   Ren 1 st (BX (qA L t bs g [] (ss++[s]) (k-1) bb em 0 0 0 0 0 0 0 0)):=fun dep t bb s st _ h=>by
  obtain⟨e1,e2⟩:=ssl_eq ss s
  unfold BX nA2 ssB
  simp only[qA]
  rw[e1,e2]
  exact h
 unfold stS at hR
 simp only at hR
 by_cases h0:ss.length=0
 .rw[Ti h0] at hR
  refine T.path mix (nul_0 (qA L kk bs g [] ss k base (B1 ss.length) 0 (Ag L kk bs.length) (Ag L (kk+1) bs.length) (Ag L (kk+2) 3) 0 (kk+1) (kk+2) (kk+3)) dk dd fsz (by simp[qA,iN,h0]) n0 n1 m2 (by simp only[qA,hsm]) (by simp) (by simp only[qA,hsm,T1];omega) (by simp only[qA,hsm,T1];omega) ?_)
  intro st hst
  simp only[qA,wk,w2,v2] at hst
  exact hR st (fin true _ _ (spZ L bs.length ss.length kk base true) st rfl hst)
 .rw[Tj h0] at hR
  have hz:(iN ss.length==0)=false:=by simp only[iN,TX,ne_eq];omega
  by_cases h2:2<ss.length
  .rw[Ti h2] at hR
   refine T.path mix (nul_1 (qA L kk bs g [] ss k base (B1 ss.length) (Ag L kk 2) (Ag L (kk+1) bs.length) (Ag L (kk+2) bs.length) (Ag L (kk+3) 3) (kk+1) (kk+2) (kk+3) (kk+4)) dk dd fsz hz (Ts (by simp only[qA,iN];omega)) c0 n1 n2 m3 (by simp only[qA,hsm]) (by simp) (by simp only[qA,hsm,T1];omega) (by simp only[qA,hsm,T1];omega) ?_)
   intro st hst
   simp only[qA,wk,w3,v3] at hst
   exact hR st (fin (Ag L kk 2==0) _ _ (spZ L bs.length ss.length (kk+1) base (Ag L kk 2==0)) st rfl hst)
  .rw[Tj h2] at hR
   refine T.path mix (nul_2 (qA L kk bs g [] ss k base (B1 ss.length) 0 (Ag L kk bs.length) (Ag L (kk+1) bs.length) (Ag L (kk+2) 3) 0 (kk+1) (kk+2) (kk+3)) dk dd fsz hz (Tq (by simp only[qA,iN];omega)) n0 n1 m2 (by simp only[qA,hsm]) (by simp) (by simp only[qA,hsm,T1];omega) (by simp only[qA,hsm,T1];omega) ?_)
   intro st hst
   simp only[qA,wk,w2,v2] at hst
   exact hR st (fin false _ _ (spZ L bs.length ss.length kk base false) st rfl hst)
theorem LessB_zS{bs:List AQ}{g:List (List Int)}:Ch (nA1 bs g) (nA2 bs g []):=by
 refine⟨rfl,fun _=>rfl,rfl,Tx _,fun i e' h=>?_,fun h=>(by cases h),fun h=>(by cases h)⟩
 match i,h with
 | 0,h=>
  simp[nA2] at h;subst h
  refine⟨_,rfl,rfl,fun j c' hj=>?_⟩
  match j,hj with
  | 0,hj=>simp[AV.cells] at hj;subst hj;exact⟨_,rfl,.refl _⟩
  | 1,hj=>simp[AV.cells] at hj;subst hj;exact⟨_,rfl,.refl _⟩
  | 2,hj=>simp[AV.cells] at hj;subst hj;exact⟨.nils,rfl,.nilS 5 0⟩
  | 3,hj=>simp[AV.cells] at hj;subst hj;exact⟨_,rfl,.refl _⟩
  | 4,hj=>simp[AV.cells] at hj;subst hj;exact⟨_,rfl,.refl _⟩
  | 5,hj=>simp[AV.cells] at hj;subst hj;exact⟨_,rfl,.refl _⟩
  | 6,hj=>simp[AV.cells] at hj;subst hj;exact⟨_,rfl,.refl _⟩
  | 7,hj=>simp[AV.cells] at hj;subst hj;exact⟨_,rfl,.refl _⟩
  | j+8,hj=>simp[AV.cells] at hj
 | i+1,h=>simp[nA2] at h
theorem ren_s(q:QA)(hs:q.ss=[]):Ren 1 (DN q) (BX q):=by
 refine Ren.less rfl (by simp[DN,BX]) (fun s=>.refl _) fun b blk' h=>?_
 match b,h with
 | 0,h=>exact .inl ⟨by simp[DN],_,rfl,.inl (by simpa [BX,nth] using h.symm)⟩
 | 1,h=>exact .inl ⟨by simp[DN],_,rfl,.inl (by simpa [BX,nth] using h.symm)⟩
 | 2,h=>
  simp only[BX,nth,S1] at h;subst h
  exact .inl ⟨by simp[DN],_,rfl,.inr (by rw[hs];exact LessB_zS)⟩
 | 3,h=>exact .inl ⟨by simp[DN],_,rfl,.inl (by simpa [BX,nth] using h.symm)⟩
 | 4,h=>exact .inl ⟨by simp[DN],_,rfl,.inl (by simpa [BX,nth] using h.symm)⟩
 | 5,h=>
  simp only[BX,nth,S1] at h;subst h
  exact .inr ⟨by simp[DN],by simp[ssB,hs],rfl,rfl,rfl⟩
 | b+6,h=>simp[BX,nth] at h
theorem N9{L:List Int}{bs:List AQ}(hb:1<=bs.length/\bs.length<=24){g:List (List Int)}{kk K:Nat}(hkk:kk<=90000)(hK:3<=K/\K<=5){base:Int}(hba:0<=base/\base<=900){post:Exit->St->Prop}
  (hX:T Try.prog 1 (zC (zB Try.f28) 1) (BX (qA L (itS L bs.length ⟨[],kk,base⟩ K).kk bs g [] (itS L bs.length ⟨[],kk,base⟩ K).ss 0 (itS L bs.length ⟨[],kk,base⟩ K).base em 0 0 0 0 0 0 0 0)) (andThen (fun _=>False) (TK Try.prog 1 post (zK (zB Try.f28) 1)))):
  T Try.prog 1 (.loop (zC (zB Try.f28) 1)) (DN (qA L kk bs g [] [] (K:Int) base em 0 0 0 0 0 0 0 0)) (TK Try.prog 1 post (zK (zB Try.f28) 1)):=by
 refine T.less (ren_s _ rfl) ?_
 suffices hh:T Try.prog 1 (.loop (zC (zB Try.f28) 1)) (BX (qA L (itS L bs.length ⟨[],kk,base⟩ 0).kk bs g [] (itS L bs.length ⟨[],kk,base⟩ 0).ss ((K:Int)-((0:Nat):Int)) (itS L bs.length ⟨[],kk,base⟩ 0).base em 0 0 0 0 0 0 0 0)) (TK Try.prog 1 post (zK (zB Try.f28) 1)) by
  simpa [itS] using hh
 refine T.loop (fun m:Nat=>BX (qA L (itS L bs.length ⟨[],kk,base⟩ m).kk bs g [] (itS L bs.length ⟨[],kk,base⟩ m).ss ((K:Int)-(m:Int)) (itS L bs.length ⟨[],kk,base⟩ m).base em 0 0 0 0 0 0 0 0)) (fun m=>m<=K) (fun m=>K+1-m) 0 (Ty _) ?_
 intro m hm
 obtain⟨h1,h2,h3,h4⟩:=KD (L:=L) (b:=bs.length) (p:=⟨[],kk,base⟩) m
 simp only[T3,TB] at h1 h2 h3 h4
 by_cases h:m<K
 .refine n1_step hb (by omega) (by omega) (by omega) (by omega) fun st hst=>⟨m+1,?_,h,by omega⟩
  have e:(K:Int)-(m:Int)-1=(K:Int)-((m+1:Nat):Int):=by omega
  rw[e] at hst
  exact hst
 .obtain rfl:m=K:=by omega
  have e:(m:Int)-(m:Int)=0:=by omega
  rw[e]
  exact hX.mono fun ex st hp=>by
   cases ex with
   | normal=>exact hp.elim
   | _=>exact hp
def D2(q:QF):St:={n:=Try.f28.ntmps,fr:=[(0,.ptr 0 0 0),(4,.ptr 1 0 0),(5,.ptr 2 0 0),(12,.ptr 6 0 0),(14,.int .i64 q.k)],hp:=[some (Ae q.L q.kk),some zB8,some (nA3 q.bs q.g q.ss q.cx q.cy q.cz q.cw),some (bsB q.bs),some (gB q.g),some (ssB q.ss),some (capB q.cg q.cs q.cc)]}
theorem LessB_zR{bs:List AQ}{g:List (List Int)}{ss:List Az}{x y z w:Int}:Ch (nA3 bs g ss x y z w) (nA5 bs g ss [] x y z w):=by
 refine⟨rfl,fun _=>rfl,rfl,Tx _,fun i e' h=>?_,fun h=>(by cases h),fun h=>(by cases h)⟩
 match i,h with
 | 0,h=>
  simp[nA5] at h;subst h
  refine⟨_,rfl,rfl,fun j c' hj=>?_⟩
  match j,hj with
  | 0,hj=>simp[AV.cells] at hj;subst hj;exact⟨_,rfl,.refl _⟩
  | 1,hj=>simp[AV.cells] at hj;subst hj;exact⟨_,rfl,.refl _⟩
  | 2,hj=>simp[AV.cells] at hj;subst hj;exact⟨_,rfl,.refl _⟩
  | 3,hj=>simp[AV.cells] at hj;subst hj;exact⟨.nils,rfl,.nilS 7 0⟩
  | 4,hj=>simp[AV.cells] at hj;subst hj;exact⟨_,rfl,.refl _⟩
  | 5,hj=>simp[AV.cells] at hj;subst hj;exact⟨_,rfl,.refl _⟩
  | 6,hj=>simp[AV.cells] at hj;subst hj;exact⟨_,rfl,.refl _⟩
  | 7,hj=>simp[AV.cells] at hj;subst hj;exact⟨_,rfl,.refl _⟩
  | j+8,hj=>simp[AV.cells] at hj
 | i+1,h=>simp[nA5] at h
theorem ren_r(q:QF)(hs:q.rs=[]):Ren 1 (D2 q) (BI q):=by
 refine Ren.less rfl (by simp[D2,BI,hF]) (fun s=>.refl _) fun b blk' h=>?_
 match b,h with
 | 0,h=>exact .inl ⟨by simp[D2],_,rfl,.inl (by simpa [BI,hF,nth] using h.symm)⟩
 | 1,h=>exact .inl ⟨by simp[D2],_,rfl,.inl (by simpa [BI,hF,nth] using h.symm)⟩
 | 2,h=>
  simp only[BI,hF,nth,S1] at h;subst h
  exact .inl ⟨by simp[D2],_,rfl,.inr (by rw[hs];exact LessB_zR)⟩
 | 3,h=>exact .inl ⟨by simp[D2],_,rfl,.inl (by simpa [BI,hF,nth] using h.symm)⟩
 | 4,h=>exact .inl ⟨by simp[D2],_,rfl,.inl (by simpa [BI,hF,nth] using h.symm)⟩
 | 5,h=>exact .inl ⟨by simp[D2],_,rfl,.inl (by simpa [BI,hF,nth] using h.symm)⟩
 | 6,h=>exact .inl ⟨by simp[D2],_,rfl,.inl (by simpa [BI,hF,nth] using h.symm)⟩
 | 7,h=>
  simp only[BI,hF,nth,S1] at h;subst h
  exact .inr ⟨by simp[D2],by simp[dB,hs],rfl,rfl,rfl⟩
 | b+8,h=>simp[BI,hF,nth] at h
theorem N6{n:Aa}(hrw:Rows n.nx)(hv:Ax n)(hrs:n.rs=[]):CT Try.prog 58 [] [AV.agg [AV.lst (List.map bA n.bs),AV.lst (gL n.nx),AV.lst (List.map sA n.ss),AV.nils,AV.int i64 n.q,AV.int i64 n.a,AV.int i64 n.d,AV.int i64 n.p]] []
  (AV.tup [AV.agg [AV.int i64 (iN (Bd n).length),AV.any,AV.int i64 (BK n),AV.int i64 (Di (Bd n) (BK n))],AV.int i64 0]):=by
 have h:=fleet_ct hrw hv
 have h2:=h.less (res':=AV.tup [AV.agg [AV.int i64 (iN (Bd n).length),AV.any,AV.int i64 (BK n),AV.int i64 (Di (Bd n) (BK n))],AV.int i64 0]) ?_
 .refine h2.lessArgs rfl fun i a' ha=>?_
  match i,ha with
  | 0,ha=>
   simp at ha;subst ha
   refine⟨_,rfl,BO.agg rfl fun j c' hj=>?_⟩
   match j,hj with
   | 0,hj=>simp at hj;subst hj;exact⟨_,rfl,.refl _⟩
   | 1,hj=>simp at hj;subst hj;exact⟨_,rfl,.refl _⟩
   | 2,hj=>simp at hj;subst hj;exact⟨_,rfl,.refl _⟩
   | 3,hj=>simp at hj;subst hj;rw[hrs];exact⟨.nils,rfl,.nilL⟩
   | 4,hj=>simp at hj;subst hj;exact⟨_,rfl,.refl _⟩
   | 5,hj=>simp at hj;subst hj;exact⟨_,rfl,.refl _⟩
   | 6,hj=>simp at hj;subst hj;exact⟨_,rfl,.refl _⟩
   | 7,hj=>simp at hj;subst hj;exact⟨_,rfl,.refl _⟩
   | j+8,hj=>simp at hj
  | i+1,ha=>simp at ha
 .intro φ A w v hv
  cases hv with
  | imm _ _ h=>cases h
  | tup cs vs hl hh=>
   refine .tup _ vs (by simpa using hl) fun i c u hc hu=>?_
   match i,hc with
   | 0,hc=>
    simp at hc;subst hc
    refine(BO.agg (cs':=[.int .i64 (iN (Bd n).length),.any,.int .i64 (BK n),.int .i64 (Di (Bd n) (BK n))]) rfl fun j c' hj=>?_:BO (AV.agg [.int .i64 (iN (Bd n).length),lI (Bd n),.int .i64 (BK n),.int .i64 (Di (Bd n) (BK n))]) _).2 _ _ _ _ (hh 0 _ u rfl hu)
    match j,hj with
    | 0,hj=>simp at hj;subst hj;exact⟨_,rfl,.refl _⟩
    | 1,hj=>simp at hj;subst hj;exact⟨lI (Bd n),rfl,.any rfl⟩
    | 2,hj=>simp at hj;subst hj;exact⟨_,rfl,.refl _⟩
    | 3,hj=>simp at hj;subst hj;exact⟨_,rfl,.refl _⟩
    | j+4,hj=>simp at hj
   | 1,hc=>exact hh 1 c u (by simpa using hc) hu
   | i+2,hc=>simp at hc
theorem Pk{L:List Int}{bs:List AQ}{g:List (List Int)}{ss:List Az}{kk:Nat}{base:Int}{x y z w v cg cs cc:Int}(hx:0<=x/\x<=10)(hw:0<=w/\w<=10)(hv:0<=v/\v<=10)
  (n0:CT Try.prog 15 [some (Ae L kk)] [.ptr 0 0 0,.int .i64 4] [some (Ae L (kk+1))] (.int .i64 x)) (n1:CT Try.prog 15 [some (Ae L (kk+1))] [.ptr 0 0 0,.int .i64 3] [some (Ae L (kk+2))] (.int .i64 y))
  (n2:CT Try.prog 15 [some (Ae L (kk+2))] [.ptr 0 0 0,.int .i64 3] [some (Ae L (kk+3))] (.int .i64 z)) (n3:CT Try.prog 15 [some (Ae L (kk+3))] [.ptr 0 0 0,.int .i64 8] [some (Ae L (kk+4))] (.int .i64 w))
  (n4:CT Try.prog 15 [some (Ae L (kk+4))] [.ptr 0 0 0,.int .i64 3] [some (Ae L (kk+5))] (.int .i64 v))
  (fl:CT Try.prog 58 [] [AV.agg [AV.lst (List.map bA bs),AV.lst (gL g),AV.lst (List.map sA ss),AV.nils,AV.int i64 (1+x),AV.int i64 y,AV.int i64 z,AV.int i64 (1+w)]] [] (AV.tup [AV.agg [AV.int i64 cg,AV.any,AV.int i64 cs,AV.int i64 cc],AV.int i64 0]))
  {R:St->Prop} {post:Exit->St->Prop}
  (hT:T Try.prog 1 (.loop (zC (zB Try.f28) 2)) (BI ⟨L,kk+5,bs,g,ss,[],1+x,y,z,1+w,cg,cs,cc,1+v,[],0,0,s0,false,0,0⟩) (TK Try.prog 1 post (zK (zB Try.f28) 2))):
  T Try.prog 1 (zC (zB Try.f28) 1) (BX (qA L kk bs g [] ss 0 base em 0 0 0 0 0 0 0 0)) (andThen R (TK Try.prog 1 post (zK (zB Try.f28) 1))):=by
 have w0:i64.wrap (1+x)=1+x:=AU _ (by omega) (by omega)
 have w3:i64.wrap (1+w)=1+w:=AU _ (by omega) (by omega)
 have w4:i64.wrap (1+v)=1+v:=AU _ (by omega) (by omega)
 have hbl:bs.length=(bs.map bA).length:=by simp
 have hgl:g.length=(gL g).length:=(Bt g).symm
 have hsl:ss.length=(ss.map sA).length:=by simp
 have k:=nux_0 (post:=post) ⟨L,kk,kk+1,kk+2,kk+3,kk+4,bs,g,[],ss,[],0,base,em,x,y,z,w,cg,cs,cc,[],0,0,s0,false,v⟩ (by simp) n0 n1 n2 n3 hbl hgl hsl (by simp only[w0,w3];exact fl) n4
  (by simp only[w0,w3,w4];exact T.less (ren_r ⟨L,kk+5,bs,g,ss,[],1+x,y,z,1+w,cg,cs,cc,1+v,[],0,0,s0,false,0,0⟩ rfl) hT)
 exact T.out mix k
structure SpI(b:Nat)(b0:Int)(p:SS):Prop where
 base:p.base=b0+(p.ss.map (·.k)).sum
 el:∀(i:Nat) (s:Az),p.ss[i]?=some s->s.nm=Fl i/\(i=0->s.dep=true)/\(i=1\/i=2->s.dep=false)/\(0<=s.i/\s.i<(b:Int))/\(0<=s.o/\s.o<(b:Int))/\(1<=s.k/\s.k<=3)/\s.b=b0+((p.ss.take i).map (·.k)).sum
theorem SpI.push{b:Nat}{b0:Int}{p:SS}(h:SpI b b0 p){s:Az}{kk:Nat}(h1:s.nm=Fl p.ss.length)(h2:p.ss.length=0->s.dep=true)(h3:p.ss.length=1\/p.ss.length=2->s.dep=false)
  (h4:0<=s.i/\s.i<(b:Int)) (h5:0<=s.o/\s.o<(b:Int)) (h6:1<=s.k/\s.k<=3) (h7:s.b=p.base):SpI b b0 ⟨p.ss++[s],kk,p.base+s.k⟩:=by
 refine⟨by simp[h.base,List.sum_append];omega,fun i t ht=>?_⟩
 simp only at ht ⊢
 rw[TW] at ht
 split at ht
 .rename_i hi
  have:=h.el i t ht
  rw[List.take_append_of_le_length (by omega)]
  exact this
 .rename_i hi
  have hil:i=p.ss.length:=by
   by_cases e:i=p.ss.length
   .exact e
   .rw[TI (by simp;omega)] at ht;cases ht
  subst hil
  simp at ht;subst ht
  refine⟨h1,h2,h3,h4,h5,h6,?_⟩
  rw[List.take_append_of_le_length (Tx _),List.take_length,h7,h.base]
theorem Ou{L:List Int}{b:Nat}(hb:1<=b/\b<=24){kk:Nat}{b0:Int}:∀n,SpI b b0 (itS L b ⟨[],kk,b0⟩ n):=by
 intro n
 induction n with
 | zero=>exact⟨by simp[itS],fun i s h=>by simp[itS] at h⟩
 | succ n ih=>
  have r:=fun k=>AP L k (b:Int) (by omega) (by omega)
  have r3:=fun k=>AP L k 3 (by omega) (by omega)
  simp only[itS]
  unfold stS
  split
  .rename_i h0
   exact ih.push (s:=spZ L b _ _ _ true) rfl (fun _=>rfl) (fun h=>by omega) (r _) (r _) ⟨by have:=r3 ((itS L b ⟨[],kk,b0⟩ n).kk+2);simp only[spZ];omega,by have:=r3 ((itS L b ⟨[],kk,b0⟩ n).kk+2);simp only[spZ];omega⟩ rfl
  split
  .rename_i h0 h2
   exact ih.push (s:=spZ L b _ _ _ _) rfl (fun h=>by omega) (fun h=>by omega) (r _) (r _) ⟨by have:=r3 ((itS L b ⟨[],kk,b0⟩ n).kk+1+2);simp only[spZ];omega,by have:=r3 ((itS L b ⟨[],kk,b0⟩ n).kk+1+2);simp only[spZ];omega⟩ rfl
  .rename_i h0 h2
   exact ih.push (s:=spZ L b _ _ _ false) rfl (fun h=>by omega) (fun _=>rfl) (r _) (r _) ⟨by have:=r3 ((itS L b ⟨[],kk,b0⟩ n).kk+2);simp only[spZ];omega,by have:=r3 ((itS L b ⟨[],kk,b0⟩ n).kk+2);simp only[spZ];omega⟩ rfl
theorem Jt{L:List Int}{kk K i:Nat}{b:AQ}(h:(bsZ L kk K)[i]?=some b):i<K/\b=HX L kk i:=by
 unfold bsZ at h
 rw[Tw] at h
 cases hr:(List.range K)[i]? with
 | none=>rw[hr] at h;cases h
 | some j=>
  rw[hr] at h
  obtain⟨h1,h2⟩:=Tm.1 hr
  simp at h1 h2
  simp at h
  subst h2
  exact⟨h1,h.symm⟩
theorem row_ok{r:List Int}{n v:Nat}(hl:r.length<=4)(hp:r.Pairwise (· < ·))(hr:∀w∈r,0<=w/\w<(n:Int)/\w≠(v:Int)):nxB r v n=true:=by
 rw[MT]
 have:fnd (AJ r n v) 0 r.length=none:=by
  cases he:fnd (AJ r n v) 0 r.length with
  | none=>rfl
  | some i=>
   exfalso
   obtain⟨h1,_,h3⟩:=D6 he
   have hi:i<r.length:=by omega
   have hm:r.getD i 0∈r:=by rw[Tl,Tk hi];exact TU hi
   obtain⟨g1,g2,g3⟩:=hr _ hm
   unfold AJ at h1
   simp only[TY,decide_eq_true_eq,Tu,beq_iff_eq] at h1
   rcases h1 with h1 | h1 | h1 | ⟨h1,h2⟩
   .omega
   .omega
   .exact g3 h1
   .have:=List.pairwise_iff_getElem.1 hp (i-1) i (by omega) hi (by omega)
    rw[Tl,Tl,Tk hi,Tk (by omega:i-1<r.length)] at h2
    simp at h2
    omega
 rw[this];simpa using hl
theorem Nx{L:List Int}{kk K:Nat}(hK:1<=K/\K<=24){g:List (List Int)}(hg:GI K 4 g){p:SS}(hp:SpI K (K:Int) p)(hl:3<=p.ss.length/\p.ss.length<=5){x y z w:Int}(hx:0<=x/\x<4)(hy:0<=y/\y<3)(hz:0<=z/\z<3)(hw:0<=w/\w<8):
  Ax ⟨bsZ L kk K,g,p.ss,[],1+x,y,z,1+w⟩:=by
 have hbl:=H9 L kk K
 have hT:∀(i:Nat) (s:Az),p.ss[i]?=some s->CZ ⟨bsZ L kk K,g,p.ss,[],1+x,y,z,1+w⟩ i s:=fun i s h=>by
  obtain⟨_,_,_,h4,h5,h6,h7⟩:=hp.el i s h
  exact⟨by simp only[hbl];exact h4,by simp only[hbl];exact h5,by omega,by unfold Aw;simp only[hbl];exact h7⟩
 have hnm:∀(i:Nat) (s:Az),p.ss[i]?=some s->s.nm=Fl i/\i<6:=fun i s h=>⟨(hp.el i s h).1,by have:=(Tm.1 h).1;omega⟩
 refine⟨Bb.2 (by simp only[hbl];omega),by simp only[hbl];exact hg.len,by simp only;omega,by simp,?_,fun i b h=>?_,fun i s h=>Qb ?_ (hT i s h),?_,?_,fun i c h=>by simp at h⟩
 .unfold AZ
  simp only[Tu,Bb]
  omega
 .obtain⟨h1,rfl⟩:=Jt h
  have r1:=AP L (kk+2 * i) 9 (by omega) (by omega)
  have r2:=AP L (kk+2 * i+1) 9 (by omega) (by omega)
  obtain⟨g1,g2,g3⟩:=hg.row i h1
  exact⟨nmBk_ok i (by omega),Bb.2 (by simp only[HX];omega),Bb.2 (by simp only[HX];omega),by simp only[hbl];exact row_ok g1 g2 g3⟩
 .obtain⟨e,hi⟩:=hnm i s h
  rw[e];exact nmSp_ok i hi
 .unfold BZ
  rw[List.nodup_append]
  refine⟨?_,?_,?_⟩
  .rw[List.nodup_iff_pairwise_ne,List.pairwise_iff_getElem]
   intro a b ha hb hab he
   simp only[List.getElem_map] at he
   have ga:=Jt (Tk (l:=bsZ L kk K) (i:=a) (by simpa using ha))
   have gb:=Jt (Tk (l:=bsZ L kk K) (i:=b) (by simpa using hb))
   rw[ga.2,gb.2] at he
   have:=nmBk_inj a (by omega) b (by omega) he
   omega
  .rw[List.nodup_iff_pairwise_ne,List.pairwise_iff_getElem]
   intro a b ha hb hab he
   simp only[List.getElem_map] at he
   obtain⟨ga,ha6⟩:=hnm a _ (Tk (by simpa using ha))
   obtain⟨gb,hb6⟩:=hnm b _ (Tk (by simpa using hb))
   rw[ga,gb] at he
   have:=nmSp_inj a ha6 b hb6 he
   omega
  .intro a ha b hb he
   obtain⟨s,hs,rfl⟩:=TT.1 ha
   obtain⟨t,ht,rfl⟩:=TT.1 hb
   obtain⟨i,hi⟩:=List.mem_iff_getElem?.1 hs
   obtain⟨j,hj⟩:=List.mem_iff_getElem?.1 ht
   obtain⟨h1,rfl⟩:=Jt hi
   obtain⟨e,hj6⟩:=hnm j t hj
   rw[e] at he
   exact nm_dis i (by omega) j hj6 he
 .obtain⟨s,hs⟩:∃s,p.ss[0]?=some s:=⟨_,Tk (by omega)⟩
  obtain⟨_,h2,_,_,_,h6,_⟩:=hp.el 0 s hs
  refine⟨s.b,s,?_,h2 rfl,by omega,by omega⟩
  rw[List.take_length]
  exact Tp hs
theorem LQ(c i:Nat):(List.replicate c false).getD i false=false:=by
 rw[Tl,TM];split<;>rfl
theorem RP(c:Nat)(s:Az):FX (List.replicate c false) s=true:=by
 unfold FX
 rw[LQ,LQ]
 have:fnd (fun j=>(List.replicate c false).getD (s.b+(j:Int)).toNat false) 0 s.k.toNat=none:=by
  cases he:fnd (fun j=>(List.replicate c false).getD (s.b+(j:Int)).toNat false) 0 s.k.toNat with
  | none=>rfl
  | some i=>have:=(D6 he).1;rw[LQ] at this;cases this
 rw[this];rfl
theorem hasZ_nil(x:Int):Ak [] x=false:=by
 cases h:Ak [] x with
 | false=>rfl
 | true=>have:=Fz.1 h;simp at this
theorem Rj{s:Az}(hk:0<=s.k):((CF s []).length:Int)=if s.dep=true then s.k else 0:=by
 unfold CF Bn
 split
 .rw[List.filter_eq_self.2 (fun x _=>by rw[hasZ_nil];rfl)]
  simp;omega
 .rfl
theorem Ow{n:Aa}(hv:Ax n)(c:Nat):∀i,i<=n.ss.length->A8 n (List.replicate c false) i=((Br n.ss [] i).length:Int):=by
 intro i
 induction i with
 | zero=>intro _;simp[A8,Br]
 | succ i ih=>
  intro h
  obtain⟨s,hs⟩:∃s,n.ss[i]?=some s:=⟨_,Tk h⟩
  rw[KV hs,Jp hs,TF,ih (by omega),RP,Bool.and_true]
  have hk:=(hv.goodT i s hs).hk
  have:=Rj (s:=s) (by omega)
  omega
theorem It{ss:List Az}{rs:List Int}{x:Int}:∀i,i<=ss.length->(x∈Br ss rs i↔(∃s∈ss.take i,s.dep=true/\s.b<=x/\x<s.b+s.k)/\x∉rs):=by
 intro i hi
 unfold Br
 rw[List.mem_flatMap]
 constructor
 .rintro⟨s,hs,hx⟩
  unfold CF at hx
  split at hx
  .rename_i hd
   unfold Bn at hx
   rw[List.mem_filter] at hx
   obtain⟨h1,h2⟩:=hx
   obtain⟨t,ht,rfl⟩:=TT.1 h1
   have:=Uc.1 ht
   refine⟨⟨s,hs,hd,by omega,by omega⟩,fun hm=>?_⟩
   rw[Fz.2 hm] at h2;cases h2
  .cases hx
 .rintro⟨⟨s,hs,hd,h1,h2⟩,hn⟩
  refine⟨s,hs,?_⟩
  unfold CF Bn
  rw[Ti hd,List.mem_filter]
  refine⟨TT.2 ⟨(x-s.b).toNat,Uc.2 (by omega),by omega⟩,?_⟩
  cases hh:Ak rs x with
  | false=>rfl
  | true=>exact absurd (Fz.1 hh) hn
theorem nodup_le:∀{l m:List Int},l.Nodup->(∀x∈l,x∈m)->l.length<=m.length:=by
 intro l
 induction l with
 | nil=>intro m _ _;simp
 | cons a l ih=>
  intro m hn hs
  rw[List.nodup_cons] at hn
  have ha:=hs a (by simp)
  have:=ih (m:=m.erase a) hn.2 fun x hx=>(List.mem_erase_of_ne (a:=x) (b:=a) (fun e=>hn.1 (by rw[<-e];exact hx))).2 (hs x (TD _ hx))
  rw[List.length_erase_of_mem ha] at this
  have:0<m.length:=Uf ha
  simp only[T2];omega
theorem Sp{n:Aa}(hv:Ax n):∀i,i<=n.ss.length->(Br n.ss [] i).Nodup:=by
 intro i
 induction i with
 | zero=>intro _;simp[Br]
 | succ i ih=>
  intro h
  obtain⟨s,hs⟩:∃s,n.ss[i]?=some s:=⟨_,Tk h⟩
  rw[Jp hs,List.nodup_append]
  refine⟨ih (by omega),?_,fun a ha b hb e=>?_⟩
  .unfold CF Bn
   split
   .refine List.Pairwise.filter _ ?_
    rw[List.pairwise_map]
    refine List.Pairwise.imp ?_ (List.nodup_iff_pairwise_ne.1 List.nodup_range)
    intro x y hxy e
    omega
   .simp
  .subst e
   obtain⟨⟨t,ht,_,h1,h2⟩,_⟩:=(It i (by omega)).1 ha
   obtain⟨j,hj⟩:=List.mem_iff_getElem?.1 ht
   have hji:j<i:=by have:=(Tm.1 hj).1;simp at this;omega
   have hjt:n.ss[j]?=some t:=by rw[TE,Ti hji] at hj;exact hj
   have g1:=(hv.goodT j t hjt).hb
   have g2:=(hv.goodT i s hs).hb
   have hm:=PP hv (i:=j+1) (j:=i) (by omega) (by omega)
   rw[Er hjt] at hm
   unfold CF Bn at hb
   split at hb
   .rw[List.mem_filter] at hb
    obtain⟨t',_,e'⟩:=TT.1 hb.1
    omega
   .cases hb
theorem MQ{n:Aa}(hv:Ax n)(c:Nat){rs:List Int}(h:(rs.length:Int)<A8 n (List.replicate c false) n.ss.length):Br n.ss rs n.ss.length≠[]:=by
 intro he
 have h1:=Ow hv c n.ss.length (Tx _)
 have h2:=nodup_le (Sp hv n.ss.length (Tx _)) (m:=rs) fun x hx=>by
  obtain⟨g1,_⟩:=(It _ (Tx _)).1 hx
  by_cases hm:x∈rs
  .exact hm
  .have:=(It (rs:=rs) _ (Tx _)).2 ⟨g1,hm⟩
   rw[he] at this;cases this
 omega
theorem Qg{n:Aa}(hrw:Rows n.nx)(hv:Ax n):1<=Di (Bd n) (BK n)/\Di (Bd n) (BK n)<=BK n:=by
 have hs1:1<=BK n:=by
  unfold BK
  rw[Ow hv _ _ (Tx _)]
  obtain⟨x,s,hs,hd,h1,h2⟩:=hv.dep
  have hm:x∈Br n.ss [] n.ss.length:=(It _ (Tx _)).2 ⟨⟨s,hs,hd,h1,h2⟩,by simp⟩
  have:=Uf hm
  omega
 have hg2:(Bd n).length≠1:=by
  intro he
  unfold Bd H4 at he
  rw[Ti hv.chk] at he
  obtain⟨hg,_⟩:=Hs hrw hv.chk
  obtain⟨⟨_,h2,h3⟩,_⟩:=R9 hg (by intro e;rw[e] at he;simp at he)
  generalize B7 n.nx (List.replicate n.bs.length false) n.nx.length=o at he h2 h3
  have hm:o.getD 0 0∈o:=by rw[Tl,Tk (by omega:0<o.length)];exact TU (by omega)
  have h4:=h3 0 (by omega)
  rw[he] at h4
  obtain⟨g1,g2,_⟩:=h2 _ hm
  have:=(hg.row (o.getD 0 0).toNat (by omega)).2 (o.getD 0 0) (by simpa using h4)
  omega
 unfold Di
 split
 .split<;>omega
 .omega
def nxR(Q:QF):QF:={Q with kk:=Q.kk+1,rs:=Q.rs++[E8 Q],k:=Q.k-1}
def itR(Q:QF):Nat->QF
 | 0=>Q
 | n+1=>nxR (itR Q n)
def Bz(Q:QF)(rs:List Int):Aa:=⟨Q.bs,Q.g,Q.ss,rs,Q.cx,Q.cy,Q.cz,Q.cw⟩
def DE(n:Aa)(rs:List Int):Prop:=∀(i:Nat) (c:Int),rs[i]?=some c->AM n n.ss.length c/\c∉rs.take i
theorem newR_ok{Q:QF}(hne:Br Q.ss Q.rs Q.ss.length≠[])(hl:(Br Q.ss Q.rs Q.ss.length).length<=1000):(∃s∈Q.ss,s.dep=true/\s.b<=E8 Q/\E8 Q<s.b+s.k)/\E8 Q∉Q.rs:=by
 have hp:=List.length_pos_iff.2 hne
 have r:=AP Q.L Q.kk ((Br Q.ss Q.rs Q.ss.length).length:Int) (by omega) (by omega)
 have hm:E8 Q∈Br Q.ss Q.rs Q.ss.length:=by
  unfold E8
  rw[Tl,Tk (by omega)]
  exact TU _
 obtain⟨⟨s,hs,h⟩,h2⟩:=(It _ (Tx _)).1 hm
 rw[List.take_length] at hs
 exact⟨⟨s,hs,h⟩,h2⟩
theorem DE.push{n:Aa}{rs:List Int}(h:DE n rs){c:Int}(h1:AM n n.ss.length c)(h2:c∉rs):DE n (rs++[c]):=by
 intro i d hd
 rw[TW] at hd
 split at hd
 .rename_i hi
  rw[List.take_append_of_le_length (by omega)]
  exact h i d hd
 .rename_i hi
  have hil:i=rs.length:=by
   by_cases e:i=rs.length
   .exact e
   .rw[TI (by simp;omega)] at hd;cases hd
  subst hil
  simp at hd;subst hd
  rw[List.take_append_of_le_length (Tx _),List.take_length]
  exact⟨h1,h2⟩
theorem Ax.robots{n:Aa}(h:Ax n){rs:List Int}(hr:DE n rs)(hl:rs.length<=8):Ax {n with rs:=rs}:=
 ⟨h.nb,h.nx,h.ns,hl,(by have:=h.cfg;unfold AZ at this ⊢;exact this),fun i b hb=>⟨(h.blk i b hb).nm,(h.blk i b hb).x,(h.blk i b hb).y,(h.blk i b hb).nx⟩,fun i s hs=>⟨(h.spu i s hs).nm,(h.spu i s hs).hi,(h.spu i s hs).ho,(h.spu i s hs).hk,(h.spu i s hs).hb⟩,h.nod,h.dep,hr⟩
theorem MN(Q:QF):∀m,itR Q m={Q with kk:=Q.kk+m,rs:=(itR Q m).rs,k:=Q.k-(m:Int)}:=by
 intro m
 induction m with
 | zero=>simp[itR]
 | succ m ih=>
  have e:itR Q (m+1)=nxR (itR Q m):=rfl
  rw[e]
  generalize itR Q m=R at ih ⊢
  rw[ih]
  simp only[nxR]
  congr 1
  omega
theorem JU{Q:QF}(hv:Ax (Bz Q []))(hrs:Q.rs=[]){c:Nat}{M:Nat}(hM:(M:Int)<=A8 (Bz Q []) (List.replicate c false) Q.ss.length):∀m,m<=M->(itR Q m).rs.length=m/\DE (Bz Q []) (itR Q m).rs:=by
 intro m
 induction m with
 | zero=>intro _;simp only[itR];rw[hrs];exact⟨rfl,fun i c h=>by simp at h⟩
 | succ m ih=>
  intro hm
  obtain⟨h1,h2⟩:=ih (by omega)
  have hne:=MQ hv c (rs:=(itR Q m).rs) (by rw[h1];exact Int.lt_of_lt_of_le (by omega) hM)
  have hfl:=Ps (ss:=Q.ss) (rs:=(itR Q m).rs) (fun s hs=>by obtain⟨j,hj⟩:=List.mem_iff_getElem?.1 hs;exact(hv.goodT j s hj).hk.2) Q.ss.length (Tx _)
  have hns:=hv.ns
  simp only[Bz] at hns hne
  have e:=MN Q m
  have hss:(itR Q m).ss=Q.ss:=by rw[e]
  have ok:=newR_ok (Q:=itR Q m) (by rw[hss];exact hne) (by rw[hss];omega)
  rw[hss] at ok
  refine⟨by simp only[itR,nxR,TF,T1,h1],?_⟩
  simp only[itR,nxR]
  refine h2.push ?_ ok.2
  obtain⟨s,hs,hd,g1,g2⟩:=ok.1
  refine⟨s,?_,hd,g1,g2⟩
  simp only[Bz]
  rw[List.take_length]
  exact hs
def l3n(q:QF):St:={n:=Try.f28.ntmps,fr:=[(0,.ptr 0 0 0),(4,.ptr 1 0 0),(5,.ptr 2 0 0),(12,.ptr 6 0 0),(14,.int .i64 q.k),(15,.nils),(16,.int .i64 0)],hp:=hF q}
theorem FH{a b:AV}(h:BO a b)(k s:Nat){r r':List (Nat×AV)}(hr:BO (AX.An r s) (AX.An r' s)):BO (AX.An ((k,a)::r) s) (AX.An ((k,b)::r') s):=by
 simp only[AX.An]
 cases Nat.beq k s with
 | true=>exact h
 | false=>exact hr
theorem ren_f(q:QF):Ren 1 (l3n q) (Cp (frU q [] 0 0 s0 false)):=by
 refine Ren.less rfl (by simp[l3n,Cp,hF]) (fun s=>?_) fun b blk' h=>?_
 .exact FH (.refl _) _ _ (FH (.refl _) _ _ (FH (.refl _) _ _ (FH (.refl _) _ _ (FH (.refl _) _ _ (FH (.nilS 8 0) _ _ (FH (.refl _) _ _ (.refl _)))))))
 match b,h with
 | 0,h=>exact .inl ⟨by simp[l3n,hF],_,rfl,.inl (by simpa [Cp,frU,hF,nth] using h.symm)⟩
 | 1,h=>exact .inl ⟨by simp[l3n,hF],_,rfl,.inl (by simpa [Cp,frU,hF,nth] using h.symm)⟩
 | 2,h=>exact .inl ⟨by simp[l3n,hF],_,rfl,.inl (by simpa [Cp,frU,hF,nth] using h.symm)⟩
 | 3,h=>exact .inl ⟨by simp[l3n,hF],_,rfl,.inl (by simpa [Cp,frU,hF,nth] using h.symm)⟩
 | 4,h=>exact .inl ⟨by simp[l3n,hF],_,rfl,.inl (by simpa [Cp,frU,hF,nth] using h.symm)⟩
 | 5,h=>exact .inl ⟨by simp[l3n,hF],_,rfl,.inl (by simpa [Cp,frU,hF,nth] using h.symm)⟩
 | 6,h=>exact .inl ⟨by simp[l3n,hF],_,rfl,.inl (by simpa [Cp,frU,hF,nth] using h.symm)⟩
 | 7,h=>exact .inl ⟨by simp[l3n,hF],_,rfl,.inl (by simpa [Cp,frU,hF,nth] using h.symm)⟩
 | 8,h=>
  have h:some (dB [])=some blk':=h
  simp only[S1] at h;subst h
  exact .inr ⟨by simp[l3n,hF],rfl,rfl,rfl,rfl⟩
 | b+9,h=>simp[Cp,frU,hF,nth] at h
theorem n2_run{Q:QF}(hv:Ax (Bz Q []))(hrs:Q.rs=[]){c:Nat}(hcc:1<=Q.cc/\Q.cc<=A8 (Bz Q []) (List.replicate c false) Q.ss.length)(hk:1<=Q.k/\Q.k<=5)(hkk:Q.kk<=90000){M:Nat}(hM:(M:Int)=if Q.k<=Q.cc then Q.k else Q.cc):
  T Try.prog 1 (.loop (zC (zB Try.f28) 2)) (BI Q) (TK Try.prog 1 (Fin Try.prog Try.f28 1 [some (Ae Q.L (Q.kk+M))] (Ad (Bz Q (itR Q M).rs))) (zK (zB Try.f28) 2)):=by
 have hM1:(M:Int)<=Q.k/\(M:Int)<=Q.cc/\((M:Int)=Q.k\/(M:Int)=Q.cc):=by split at hM<;>omega
 have hok:=JU hv hrs (c:=c) (M:=M) (by omega)
 have hns:=hv.ns
 simp only[Bz] at hns
 refine T.loop (fun m:Nat=>BI (itR Q m)) (fun m=>m<=M) (fun m=>M+1-m) 0 (Ty _) ?_
 intro m hm
 obtain⟨h1,h2⟩:=hok m hm
 have e:=MN Q m
 by_cases h:m<M
 .have hss:(itR Q m).ss=Q.ss:=by rw[e]
  have hkm:(itR Q m).k=Q.k-(m:Int):=by rw[e]
  have hcm:(itR Q m).cc=Q.cc:=by rw[e]
  have hkkm:(itR Q m).kk=Q.kk+m:=by rw[e]
  have hne:=MQ hv c (rs:=(itR Q m).rs) (by rw[h1];exact Int.lt_of_lt_of_le (by omega) hcc.2)
  simp only[Bz] at hne
  have hsp:SpOk (itR Q m).ss:=by
   rw[hss]
   refine⟨hns,fun s hs=>?_,fun s hs=>?_⟩
   .obtain⟨j,hj⟩:=List.mem_iff_getElem?.1 hs;exact(hv.goodT j s hj).hk
   .obtain⟨j,hj⟩:=List.mem_iff_getElem?.1 hs
    have g:=(hv.goodT j s hj).hb
    have b:=hv.bd j
    have nb:=hv.nb24
    have hjl:=(Tm.1 hj).1
    omega
  refine T.path mix (nvl_0 (itR Q m) (Ts (by rw[hkm];omega)) (Ts (by simp only[iN];rw[h1,hcm];omega)) (T.less (ren_f (itR Q m)) (Pm hsp (by omega) (by omega) (by omega) (by rw[hss];exact hne) fun st hst=>⟨m+1,hst,h,by omega⟩)))
 .obtain rfl:m=M:=by omega
  have hb:(itR Q m).bs.length=((itR Q m).bs.map bA).length:=by simp
  have hg:(itR Q m).g.length=(gL (itR Q m).g).length:=(Bt _).symm
  have hs:(itR Q m).ss.length=((itR Q m).ss.map sA).length:=by simp
  have hr:(itR Q m).rs.length=((itR Q m).rs.map (AV.int .i64)).length:=by simp
  have hkm:(itR Q m).k=Q.k-(m:Int):=by rw[e]
  have hcm:(itR Q m).cc=Q.cc:=by rw[e]
  have ek:Q.L=(itR Q m).L/\Q.kk+m=(itR Q m).kk/\Bz Q (itR Q m).rs=Bz (itR Q m) (itR Q m).rs:=by rw[e];exact⟨rfl,rfl,rfl⟩
  rw[ek.1,ek.2.1,ek.2.2]
  by_cases h0:(m:Int)=Q.k
  .exact T.out mix (nvx_0 (itR Q m) (Tq (by rw[hkm];omega)) hb hg hs hr)
  .exact T.out mix (nvy_0 (itR Q m) (Ts (by rw[hkm];omega)) (Tq (by simp only[iN];rw[h1,hcm];omega)) hb hg hs hr)
structure EB(n:Aa):Prop where
 v:Ax n
 ln:3<=n.ss.length/\n.ss.length<=5
 d0:∀s,n.ss[0]?=some s->s.dep=true
 d1:∀s,n.ss[1]?=some s->s.dep=false
 d2:∀s,n.ss[2]?=some s->s.dep=false
 rb:n.rs≠[]
 rows:Rows n.nx
 rng:Rng n.bs.length n.nx
theorem GI.rows{n m:Nat}{g:List (List Int)}(h:GI n m g)(hm:m<=1000):Rows g:=fun v hv=>by
 rw[h.len] at hv
 have:=(h.row v hv).1
 omega
theorem net_ex(L:List Int)(kk:Nat)(hkk:kk<=5000)(most:Int)(hmo:1<=most/\most<=20):
  ∃n kk',(EB n/\(n.bs.length:Int)=1+Ag L kk most)/\kk'<=kk+200/\CT Try.prog 28 [some (Ae L kk)] [.ptr 0 0 0,.int .i64 most] [some (Ae L kk')] (Ad n):=by
 have hb:Try.f28.body=some (zB Try.f28):=by kernel_rfl
 have c0:=AI L kk most (by omega)
 have r0:=AP L kk most (by omega) (by omega)
 have w0:i64.wrap (1+Ag L kk most)=1+Ag L kk most:=AU _ (by omega) (by omega)
 obtain⟨K,hK⟩:∃K:Nat,(K:Int)=1+Ag L kk most:=⟨(1+Ag L kk most).toNat,by omega⟩
 have hK2:1<=K/\K<=24:=by omega
 have hro:=LB (L:=L) (kk:=kk+1+2 * K) hK2
 have hbl:=H9 L (kk+1) K
 generalize hg:(A6 L K (kk+1+2 * K)).1=g at hro
 generalize hk1:(A6 L K (kk+1+2 * K)).2=k1 at hro
 have r1:=AP L k1 3 (by omega) (by omega)
 obtain⟨M,hM⟩:∃M:Nat,(M:Int)=3+Ag L k1 3:=⟨(3+Ag L k1 3).toNat,by omega⟩
 have hp:=Ou (L:=L) hK2 (kk:=k1+1) (b0:=(K:Int)) M
 have hpb:=KD (L:=L) (b:=K) (p:=⟨[],k1+1,(K:Int)⟩) M
 simp only[T3,TB] at hpb
 generalize hpp:itS L K ⟨[],k1+1,(K:Int)⟩ M=p at hp hpb
 have q0:=AP L p.kk 4 (by omega) (by omega)
 have q1:=AP L (p.kk+1) 3 (by omega) (by omega)
 have q2:=AP L (p.kk+2) 3 (by omega) (by omega)
 have q3:=AP L (p.kk+3) 8 (by omega) (by omega)
 have q4:=AP L (p.kk+4) 3 (by omega) (by omega)
 have e0:=AI L p.kk 4 (by omega)
 have e1:=AI L (p.kk+1) 3 (by omega)
 have e2:=AI L (p.kk+2) 3 (by omega)
 have e3:=AI L (p.kk+3) 8 (by omega)
 have e4:=AI L (p.kk+4) 3 (by omega)
 generalize Ag L p.kk 4=x at q0 e0
 generalize Ag L (p.kk+1) 3=y at q1 e1
 generalize Ag L (p.kk+2) 3=z at q2 e2
 generalize Ag L (p.kk+3) 8=w at q3 e3
 generalize Ag L (p.kk+4) 3=v at q4 e4
 have hrw:Rows g:=hro.1.rows (by omega)
 have hv:=Nx (L:=L) (kk:=kk+1) hK2 hro.1 hp (by omega) (x:=x) (y:=y) (z:=z) (w:=w) q0 q1 q2 q3
 have fl:=N6 (n:=⟨bsZ L (kk+1) K,g,p.ss,[],1+x,y,z,1+w⟩) hrw hv rfl
 have hcap:=Qg (n:=⟨bsZ L (kk+1) K,g,p.ss,[],1+x,y,z,1+w⟩) hrw hv
 have hslo:BK ⟨bsZ L (kk+1) K,g,p.ss,[],1+x,y,z,1+w⟩=A8 ⟨bsZ L (kk+1) K,g,p.ss,[],1+x,y,z,1+w⟩ (List.replicate (Ar ⟨bsZ L (kk+1) K,g,p.ss,[],1+x,y,z,1+w⟩) false) p.ss.length:=rfl
 generalize Ar ⟨bsZ L (kk+1) K,g,p.ss,[],1+x,y,z,1+w⟩=cel at hslo
 generalize BK ⟨bsZ L (kk+1) K,g,p.ss,[],1+x,y,z,1+w⟩=sl at fl hcap hslo
 generalize Bd ⟨bsZ L (kk+1) K,g,p.ss,[],1+x,y,z,1+w⟩=gi at fl hcap
 generalize Di gi sl=cc at fl hcap
 obtain⟨m,hm⟩:∃m:Nat,(m:Int)=if 1+v<=cc then 1+v else cc:=⟨(if 1+v<=cc then 1+v else cc).toNat,by split<;>omega⟩
 let Q:QF:=⟨L,p.kk+5,bsZ L (kk+1) K,g,p.ss,[],1+x,y,z,1+w,iN gi.length,sl,cc,1+v,[],0,0,s0,false,0,0⟩
 have hmb:1<=m/\m<=3:=by split at hm<;>omega
 have t2:=n2_run (Q:=Q) hv rfl (c:=cel) ⟨hcap.1,hslo ▸ hcap.2⟩ ⟨by show 1<=1+v;omega,by show 1+v<=5;omega⟩ (by show p.kk+5<=90000;omega) (M:=m) hm
 have rok:=JU (Q:=Q) hv rfl (c:=cel) (M:=m) (by have:(m:Int)<=cc:=by {split at hm<;>omega};exact Int.le_trans this (hslo ▸ hcap.2)) m (Tx _)
 refine⟨Bz Q (itR Q m).rs,p.kk+5+m,⟨⟨hv.robots rok.2 (by omega),by show 3<=p.ss.length/\p.ss.length<=5;omega,fun s h=>(hp.el 0 s h).2.1 rfl,fun s h=>(hp.el 1 s h).2.2.1 (.inl rfl),fun s h=>(hp.el 2 s h).2.2.1 (.inr rfl),fun e=>by have:=rok.1;have e':(itR Q m).rs=[]:=e;rw[e'] at this;simp at this;omega,hrw,by have:=NT L K (kk+1+2 * K);rw[hg,<-hbl] at this;exact this⟩,by rw[<-hK];show((bsZ L (kk+1) K).length:Int)=_;rw[hbl]⟩,by omega,?_⟩
 refine CT.path mix Try.func28 hb (nL rfl) (nti_0 (qA L kk [] [] [] [] most 0 em (Ag L kk most) 0 0 0 (kk+1) 0 0 0) c0 ?_)
 have t0:=PX (L:=L) (kk:=kk+1) hK2 (by omega) (post:=Fin Try.prog Try.f28 1 [some (Ae L (p.kk+5+m))] (Ad (Bz Q (itR Q m).rs))) fun B hB=>by
  subst hB
  rw[hg,hk1,<-hM]
  have hbl':1<=(bsZ L (kk+1) K).length/\(bsZ L (kk+1) K).length<=24:=by rw[hbl];exact hK2
  refine N9 hbl' (by omega) (by omega) (by omega) ?_
  rw[hbl,hpp]
  exact Pk (by omega) (by omega) (by omega) e0 e1 e2 e3 e4 fl t2
 have t1:=T.less (ren_z (qA L (kk+1) [] [] [] [] (K:Int) 0 em 0 0 0 0 0 0 0 0) rfl rfl) t0
 have t1':T Try.prog 1 (.loop (zC (zB Try.f28) 0)) (EC (qA L (kk+1) [] [] [] [] (i64.wrap (1+Ag L kk most)) 0 em 0 0 0 0 0 0 0 0)) (TK Try.prog 1 (Fin Try.prog Try.f28 1 [some (Ae L (p.kk+5+m))] (Ad (Bz Q (itR Q m).rs))) (zK (zB Try.f28) 0)):=by
  rw[w0,<-hK];exact t1
 exact t1'
def FL(n:Aa):AV:=.agg [.lst (n.bs.map bA),.sl 1 0 n.nx.length,.lst (n.ss.map sA),.sl 2 0 n.rs.length,.int .i64 n.q,.int .i64 n.a,.int .i64 n.d,.int .i64 n.p]
theorem n2_runL{Q:QF}(hv:Ax (Bz Q []))(hrs:Q.rs=[]){c:Nat}(hcc:1<=Q.cc/\Q.cc<=A8 (Bz Q []) (List.replicate c false) Q.ss.length)(hk:1<=Q.k/\Q.k<=5)(hkk:Q.kk<=90000){M:Nat}(hM:(M:Int)=if Q.k<=Q.cc then Q.k else Q.cc):
  T Try.prog 1 (.loop (zC (zB Try.f28) 2)) (BI Q) (TK Try.prog 1 (Fin Try.prog Try.f28 1 [some (Ae Q.L (Q.kk+M)),some (gB Q.g),some (dB (itR Q M).rs)] (FL (Bz Q (itR Q M).rs))) (zK (zB Try.f28) 2)):=by
 have hM1:(M:Int)<=Q.k/\(M:Int)<=Q.cc/\((M:Int)=Q.k\/(M:Int)=Q.cc):=by split at hM<;>omega
 have hok:=JU hv hrs (c:=c) (M:=M) (by omega)
 have hns:=hv.ns
 simp only[Bz] at hns
 refine T.loop (fun m:Nat=>BI (itR Q m)) (fun m=>m<=M) (fun m=>M+1-m) 0 (Ty _) ?_
 intro m hm
 obtain⟨h1,h2⟩:=hok m hm
 have e:=MN Q m
 by_cases h:m<M
 .have hss:(itR Q m).ss=Q.ss:=by rw[e]
  have hkm:(itR Q m).k=Q.k-(m:Int):=by rw[e]
  have hcm:(itR Q m).cc=Q.cc:=by rw[e]
  have hkkm:(itR Q m).kk=Q.kk+m:=by rw[e]
  have hne:=MQ hv c (rs:=(itR Q m).rs) (by rw[h1];exact Int.lt_of_lt_of_le (by omega) hcc.2)
  simp only[Bz] at hne
  have hsp:SpOk (itR Q m).ss:=by
   rw[hss]
   refine⟨hns,fun s hs=>?_,fun s hs=>?_⟩
   .obtain⟨j,hj⟩:=List.mem_iff_getElem?.1 hs;exact(hv.goodT j s hj).hk
   .obtain⟨j,hj⟩:=List.mem_iff_getElem?.1 hs
    have g:=(hv.goodT j s hj).hb
    have b:=hv.bd j
    have nb:=hv.nb24
    have hjl:=(Tm.1 hj).1
    omega
  refine T.path mix (nvl_0 (itR Q m) (Ts (by rw[hkm];omega)) (Ts (by simp only[iN];rw[h1,hcm];omega)) (T.less (ren_f (itR Q m)) (Pm hsp (by omega) (by omega) (by omega) (by rw[hss];exact hne) fun st hst=>⟨m+1,hst,h,by omega⟩)))
 .obtain rfl:m=M:=by omega
  have hb:(itR Q m).bs.length=((itR Q m).bs.map bA).length:=by simp
  have hg:(itR Q m).g.length=(gL (itR Q m).g).length:=(Bt _).symm
  have hs:(itR Q m).ss.length=((itR Q m).ss.map sA).length:=by simp
  have hr:(itR Q m).rs.length=((itR Q m).rs.map (AV.int .i64)).length:=by simp
  have hkm:(itR Q m).k=Q.k-(m:Int):=by rw[e]
  have hcm:(itR Q m).cc=Q.cc:=by rw[e]
  have ek:Q.L=(itR Q m).L/\Q.kk+m=(itR Q m).kk/\Q.g=(itR Q m).g/\Bz Q (itR Q m).rs=Bz (itR Q m) (itR Q m).rs:=by rw[e];exact⟨rfl,rfl,rfl,rfl⟩
  rw[ek.1,ek.2.1,ek.2.2.1,ek.2.2.2]
  by_cases h0:(m:Int)=Q.k
  .exact T.out mix (nvxL_0 (itR Q m) (Tq (by rw[hkm];omega)) hb hs)
  .exact T.out mix (nvyL_0 (itR Q m) (Ts (by rw[hkm];omega)) (Tq (by simp only[iN];rw[h1,hcm];omega)) hb hs)
theorem net_exL(L:List Int)(kk:Nat)(hkk:kk<=5000)(most:Int)(hmo:1<=most/\most<=20):
  ∃n kk',(EB n/\(n.bs.length:Int)=1+Ag L kk most)/\kk'<=kk+200/\CT Try.prog 28 [some (Ae L kk)] [.ptr 0 0 0,.int .i64 most] [some (Ae L kk'),some (gB n.nx),some (dB n.rs)] (FL n):=by
 have hb:Try.f28.body=some (zB Try.f28):=by kernel_rfl
 have c0:=AI L kk most (by omega)
 have r0:=AP L kk most (by omega) (by omega)
 have w0:i64.wrap (1+Ag L kk most)=1+Ag L kk most:=AU _ (by omega) (by omega)
 obtain⟨K,hK⟩:∃K:Nat,(K:Int)=1+Ag L kk most:=⟨(1+Ag L kk most).toNat,by omega⟩
 have hK2:1<=K/\K<=24:=by omega
 have hro:=LB (L:=L) (kk:=kk+1+2 * K) hK2
 have hbl:=H9 L (kk+1) K
 generalize hg:(A6 L K (kk+1+2 * K)).1=g at hro
 generalize hk1:(A6 L K (kk+1+2 * K)).2=k1 at hro
 have r1:=AP L k1 3 (by omega) (by omega)
 obtain⟨M,hM⟩:∃M:Nat,(M:Int)=3+Ag L k1 3:=⟨(3+Ag L k1 3).toNat,by omega⟩
 have hp:=Ou (L:=L) hK2 (kk:=k1+1) (b0:=(K:Int)) M
 have hpb:=KD (L:=L) (b:=K) (p:=⟨[],k1+1,(K:Int)⟩) M
 simp only[T3,TB] at hpb
 generalize hpp:itS L K ⟨[],k1+1,(K:Int)⟩ M=p at hp hpb
 have q0:=AP L p.kk 4 (by omega) (by omega)
 have q1:=AP L (p.kk+1) 3 (by omega) (by omega)
 have q2:=AP L (p.kk+2) 3 (by omega) (by omega)
 have q3:=AP L (p.kk+3) 8 (by omega) (by omega)
 have q4:=AP L (p.kk+4) 3 (by omega) (by omega)
 have e0:=AI L p.kk 4 (by omega)
 have e1:=AI L (p.kk+1) 3 (by omega)
 have e2:=AI L (p.kk+2) 3 (by omega)
 have e3:=AI L (p.kk+3) 8 (by omega)
 have e4:=AI L (p.kk+4) 3 (by omega)
 generalize Ag L p.kk 4=x at q0 e0
 generalize Ag L (p.kk+1) 3=y at q1 e1
 generalize Ag L (p.kk+2) 3=z at q2 e2
 generalize Ag L (p.kk+3) 8=w at q3 e3
 generalize Ag L (p.kk+4) 3=v at q4 e4
 have hrw:Rows g:=hro.1.rows (by omega)
 have hv:=Nx (L:=L) (kk:=kk+1) hK2 hro.1 hp (by omega) (x:=x) (y:=y) (z:=z) (w:=w) q0 q1 q2 q3
 have fl:=N6 (n:=⟨bsZ L (kk+1) K,g,p.ss,[],1+x,y,z,1+w⟩) hrw hv rfl
 have hcap:=Qg (n:=⟨bsZ L (kk+1) K,g,p.ss,[],1+x,y,z,1+w⟩) hrw hv
 have hslo:BK ⟨bsZ L (kk+1) K,g,p.ss,[],1+x,y,z,1+w⟩=A8 ⟨bsZ L (kk+1) K,g,p.ss,[],1+x,y,z,1+w⟩ (List.replicate (Ar ⟨bsZ L (kk+1) K,g,p.ss,[],1+x,y,z,1+w⟩) false) p.ss.length:=rfl
 generalize Ar ⟨bsZ L (kk+1) K,g,p.ss,[],1+x,y,z,1+w⟩=cel at hslo
 generalize BK ⟨bsZ L (kk+1) K,g,p.ss,[],1+x,y,z,1+w⟩=sl at fl hcap hslo
 generalize Bd ⟨bsZ L (kk+1) K,g,p.ss,[],1+x,y,z,1+w⟩=gi at fl hcap
 generalize Di gi sl=cc at fl hcap
 obtain⟨m,hm⟩:∃m:Nat,(m:Int)=if 1+v<=cc then 1+v else cc:=⟨(if 1+v<=cc then 1+v else cc).toNat,by split<;>omega⟩
 let Q:QF:=⟨L,p.kk+5,bsZ L (kk+1) K,g,p.ss,[],1+x,y,z,1+w,iN gi.length,sl,cc,1+v,[],0,0,s0,false,0,0⟩
 have hmb:1<=m/\m<=3:=by split at hm<;>omega
 have t2:=n2_runL (Q:=Q) hv rfl (c:=cel) ⟨hcap.1,hslo ▸ hcap.2⟩ ⟨by show 1<=1+v;omega,by show 1+v<=5;omega⟩ (by show p.kk+5<=90000;omega) (M:=m) hm
 have rok:=JU (Q:=Q) hv rfl (c:=cel) (M:=m) (by have:(m:Int)<=cc:=by {split at hm<;>omega};exact Int.le_trans this (hslo ▸ hcap.2)) m (Tx _)
 refine⟨Bz Q (itR Q m).rs,p.kk+5+m,⟨⟨hv.robots rok.2 (by omega),by show 3<=p.ss.length/\p.ss.length<=5;omega,fun s h=>(hp.el 0 s h).2.1 rfl,fun s h=>(hp.el 1 s h).2.2.1 (.inl rfl),fun s h=>(hp.el 2 s h).2.2.1 (.inr rfl),fun e=>by have:=rok.1;have e':(itR Q m).rs=[]:=e;rw[e'] at this;simp at this;omega,hrw,by have:=NT L K (kk+1+2 * K);rw[hg,<-hbl] at this;exact this⟩,by rw[<-hK];show((bsZ L (kk+1) K).length:Int)=_;rw[hbl]⟩,by omega,?_⟩
 refine CT.path mix Try.func28 hb (nL rfl) (nti_0 (qA L kk [] [] [] [] most 0 em (Ag L kk most) 0 0 0 (kk+1) 0 0 0) c0 ?_)
 have t0:=PX (L:=L) (kk:=kk+1) hK2 (by omega) (post:=Fin Try.prog Try.f28 1 [some (Ae L (p.kk+5+m)),some (gB g),some (dB (itR Q m).rs)] (FL (Bz Q (itR Q m).rs))) fun B hB=>by
  subst hB
  rw[hg,hk1,<-hM]
  have hbl':1<=(bsZ L (kk+1) K).length/\(bsZ L (kk+1) K).length<=24:=by rw[hbl];exact hK2
  refine N9 hbl' (by omega) (by omega) (by omega) ?_
  rw[hbl,hpp]
  exact Pk (by omega) (by omega) (by omega) e0 e1 e2 e3 e4 fl t2
 have t1:=T.less (ren_z (qA L (kk+1) [] [] [] [] (K:Int) 0 em 0 0 0 0 0 0 0 0) rfl rfl) t0
 have t1':T Try.prog 1 (.loop (zC (zB Try.f28) 0)) (EC (qA L (kk+1) [] [] [] [] (i64.wrap (1+Ag L kk most)) 0 em 0 0 0 0 0 0 0 0)) (TK Try.prog 1 (Fin Try.prog Try.f28 1 [some (Ae L (p.kk+5+m)),some (gB g),some (dB (itR Q m).rs)] (FL (Bz Q (itR Q m).rs))) (zK (zB Try.f28) 0)):=by
  rw[w0,<-hK];exact t1
 exact t1'
end Go.Proofs.Ytedjkebooffjpaa
set_option maxHeartbeats 4000000
namespace Go.Proofs.Ytedjkebooffjpaa
def inP(c:Int)(s:Az):Bool:=decide (s.b<=c)&&decide (c<s.b+s.k)
def plB(n:Aa)(c:Int)(i:Nat):Bool:=match n.ss[i]? with | some s=>inP c s | none=>false
@[irreducible] def plF(n:Aa)(c:Int):Option Nat:=fnd (plB n c) 0 n.ss.length
theorem Ax.sb{n:Aa}(hv:Ax n){i:Nat}{s:Az}(h:n.ss[i]?=some s):1<=s.k/\s.k<=4/\1<=s.b/\s.b<=44/\s.b=Aw n i:=by
 have g:=hv.goodT i s h
 have b:=hv.bd i
 have nb:=hv.nb24
 have ns:=hv.ns
 have hl:=(Tm.1 h).1
 have k:=g.hk
 have e:=g.hb
 exact⟨k.1,k.2,by omega,by omega,e⟩
theorem AB{p:Prop}[Decidable p](h:p):decide p=true:=Ts h
theorem Au{p:Prop}[Decidable p](h:¬p):decide p=false:=Tq h
end Go.Proofs.Ytedjkebooffjpaa
namespace Go.AX
theorem Al.to{σ ρ:Type}{step:σ->Option (σ⊕ρ)}{s:σ}{y:Option (σ⊕ρ)}{r:ρ}(h:step s=y)(k:Al step y r):Al step (some (.inl s)) r:=.go _ _ (h ▸ k)
theorem Al.val{σ ρ:Type}{step:σ->Option (σ⊕ρ)}{x:Option (σ⊕ρ)}{r:ρ}(h:x=some (.inr r)):Al step x r:=h ▸ .ret r
theorem Al.res{σ ρ:Type}{step:σ->Option (σ⊕ρ)}{x:Option (σ⊕ρ)}{r r':ρ}(h:Al step x r)(e:r=r'):Al step x r':=e ▸ h
theorem OE{α β σ ρ:Type}{step:σ->Option (σ⊕ρ)}{L:Nat->β->σ}{f:β->α->β}{l:List α}{r:ρ}
  (b0:β) (hg:∀i x,l[i]?=some x->Al step (some (.inl (L (i+1) (f ((l.take i).foldl f b0) x)))) r->Al step (some (.inl (L i ((l.take i).foldl f b0)))) r)
  (he:Al step (some (.inl (L l.length (l.foldl f b0)))) r):Al step (some (.inl (L 0 b0))) r:=by
 have key:∀k i,i+k=l.length->Al step (some (.inl (L i ((l.take i).foldl f b0)))) r:=by
  intro k
  induction k with
  | zero=>intro i hi;have e:i=l.length:=by omega
          subst e;rw[List.take_length];exact he
  | succ k ih=>
   intro i hi
   have hx:l[i]?=some l[i]:=Tk (by omega)
   refine hg i _ hx ?_
   have h:=ih (i+1) (by omega)
   rw[List.take_add_one,hx,Option.toList_some,List.foldl_append] at h
   exact h
 have h:=key l.length 0 (by omega)
 simpa using h
theorem br_or{α:Type}{b c:Bool}{x y:Option α}:br b x (br c x y)=br (b||c) x y:=by cases b<;>cases c<;>rfl
theorem br_and{α:Type}{b c:Bool}{x y:Option α}:br b (br c x y) y=br (b&&c) x y:=by cases b<;>cases c<;>rfl
theorem Gj{α β:Type}{g:α->AV}{l:List α}{i:Nat}{x:α}(hx:l[i]?=some x){f:α->Option β}{y:Option β}:br (decide ((i:Int)<iN (List.map g l).length)) (gu (0<=(i:Int)) (el l (i:Int).toNat f)) y=f x:=by
 have hl:=(Tm.1 hx).1
 rw[Ah (Ts (by simp[iN];omega)),Ab (by omega),Tv,A4 hx]
theorem Cf{α β:Type}{g:α->AV}{l:List α}{y z:Option β}:br (decide (((l.length:Nat):Int)<iN (List.map g l).length)) z y=y:=Af (Tq (by simp[iN]))
theorem Cb{σ ρ:Type}{step:σ->Option (σ⊕ρ)}(L:Nat->σ)(N:Nat){r:ρ}(h:∀i,i<N->Al step (some (.inl (L (i+1)))) r->Al step (some (.inl (L i))) r)(he:Al step (some (.inl (L N))) r):
  Al step (some (.inl (L 0))) r:=by
 have key:∀k i,i+k=N->Al step (some (.inl (L i))) r:=by
  intro k
  induction k with
  | zero=>intro i hi;have e:i=N:=by omega
          subst e;exact he
  | succ k ih=>intro i hi;exact h i (by omega) (ih (i+1) (by omega))
 exact key N 0 (by omega)
theorem rngB{α:Type}{g:α->AV}{l:List α}{i:Nat}(hi:i<l.length):decide ((i:Int)<iN (List.map g l).length)=true:=Ts (by simp[iN];omega)
theorem beqM{α:Type}{k i:Nat}{a b:α}:cond (Nat.beq k i) a b=if k=i then a else b:=by
 cases h:Nat.beq k i with
 | true=>rw[Ti (Tt h)];rfl
 | false=>rw[Tj (fun e=>by rw[e,Nat.beq_refl] at h;cases h)];rfl
end Go.AX
namespace Go.Proofs.Ytedjkebooffjpaa
theorem NS{σ ρ:Type}{step:σ->Option (σ⊕ρ)}(L:Nat->σ)(N:Nat)(p:Nat->Bool){rF:Nat->ρ}{r:ρ}
  (hb:∀i,i<N->p i=true->Al step (some (.inl (L i))) (rF i))
  (hg:∀i x,i<N->p i=false->Al step (some (.inl (L (i+1)))) x->Al step (some (.inl (L i))) x)
  (he:fnd p 0 N=none->Al step (some (.inl (L N))) r):Al step (some (.inl (L 0))) (match fnd p 0 N with | some i=>rF i | none=>r):=by
 have key:∀k i,i+k=N->fnd p 0 N=fnd p i (N-i)->Al step (some (.inl (L i))) (match fnd p i (N-i) with | some i=>rF i | none=>r):=by
  intro k
  induction k with
  | zero=>intro i hi h0
          have e:i=N:=by omega
          subst e
          rw[DW (by omega)] at h0 ⊢
          exact he h0
  | succ k ih=>
   intro i hi h0
   have hlt:i<N:=by omega
   rw[Dq hlt] at h0 ⊢
   cases hp:p i with
   | true=>exact hb i hlt hp
   | false=>rw[hp] at h0;exact hg i _ hlt hp (ih (i+1) (by omega) h0)
 exact key N 0 (by omega) rfl
theorem Be{α:Type}{l:List α}{i:Nat}(d:α)(h:i<l.length):l[i]?=some (l.getD i d):=by
 rw[Tl,Tk h];rfl
theorem Cn{α β:Type}{g:α->AV}{l:List α}{i:Nat}(d:α)(h:i<l.length){f:α->Option β}{y:Option β}:br (decide ((i:Int)<iN (List.map g l).length)) (gu (0<=(i:Int)) (el l (i:Int).toNat f)) y=f (l.getD i d):=Gj (Be d h)
theorem elG{α β:Type}{l:List α}{i:Nat}(d:α)(h:i<l.length){f:α->Option β}:el l (i:Int).toNat f=f (l.getD i d):=by
 rw[Tv,A4 (Be d h)]
theorem NH{x:Int}(h1 : -9223372036854775808<=x)(h2:x<=9223372036854775807):i64.wrap x=x:=by simp only[IntKind.wrap,IntKind.bits,IntKind.signed];simp;omega
theorem nd_inj{l:List Int}(hn:l.Nodup){i j:Nat}(hi:i<l.length)(hj:j<l.length)(h:l.getD i 0=l.getD j 0):i=j:=by
 rw[Tl,Tk hi,Tl,Tk hj] at h
 have hp:=List.pairwise_iff_getElem.1 hn
 rcases Nat.lt_trichotomy i j with g | g | g
 .exact absurd h (hp i j hi hj g)
 .exact g
 .exact absurd h.symm (hp j i hj hi g)
theorem Qy{l:List Int}{x:Int}(h:l.Nodup)(hx:x∉l):(l++[x]).Nodup:=by
 rw[List.nodup_append]
 exact⟨h,by simp,fun a ha b hb e=>hx (by rw[<-Tb.1 hb,<-e];exact ha)⟩
def ckE(n:Aa)(c:Int):Int:=if AY n=true then (if c<0\/(Ar n:Int)<=c then 19 else 0) else 20
theorem JP(L:List Int)(kk:Nat)(most:Int):∃p:Aa×Nat,kk<=5000->(1<=most/\most<=20)->(EB p.1/\(p.1.bs.length:Int)=1+Ag L kk most)/\p.2<=kk+200/\CT Try.prog 28 [some (Ae L kk)] [.ptr 0 0 0,.int .i64 most] [some (Ae L p.2)] (Ad p.1):=by
 by_cases h:kk<=5000/\(1<=most/\most<=20)
 .obtain⟨n,k,a,b,c⟩:=net_ex L kk h.1 most h.2
  exact⟨(n,k),fun _ _=>⟨a,b,c⟩⟩
 .exact⟨(⟨[],[],[],[],0,0,0,0⟩,0),fun a b=>absurd ⟨a,b⟩ h⟩
@[irreducible] def Fx(L:List Int)(kk:Nat)(most:Int):Aa:=(Classical.choose (JP L kk most)).1
@[irreducible] def HL(L:List Int)(kk:Nat)(most:Int):Nat:=(Classical.choose (JP L kk most)).2
theorem NG{L:List Int}{kk:Nat}{most:Int}(h:kk<=5000)(hm:1<=most/\most<=20):EB (Fx L kk most)/\HL L kk most<=kk+200/\CT Try.prog 28 [some (Ae L kk)] [.ptr 0 0 0,.int .i64 most] [some (Ae L (HL L kk most))] (Ad (Fx L kk most)):=
 by unfold Fx HL;have hs:=T0 (JP L kk most) h hm;exact⟨hs.1.1,hs.2⟩
theorem net_nb{L:List Int}{kk:Nat}{most:Int}(h:kk<=5000)(hm:1<=most/\most<=20):((Fx L kk most).bs.length:Int)=1+Ag L kk most:=by unfold Fx;exact(T0 (JP L kk most) h hm).1.2
theorem net_ct(L:List Int)(kk:Nat)(most:Int)(h:kk<=5000)(hm:1<=most/\most<=20):CT Try.prog 28 [some (Ae L kk)] [.ptr 0 0 0,.int .i64 most] [some (Ae L (HL L kk most))] (Ad (Fx L kk most)):=(NG h hm).2.2
theorem M5(L:List Int)(kk:Nat)(most:Int):∃p:Aa×Nat,kk<=5000->(1<=most/\most<=20)->EB p.1/\p.2<=kk+200/\CT Try.prog 28 [some (Ae L kk)] [.ptr 0 0 0,.int .i64 most] [some (Ae L p.2),some (gB p.1.nx),some (dB p.1.rs)] (FL p.1):=by
 by_cases h:kk<=5000/\(1<=most/\most<=20)
 .obtain⟨n,k,⟨a,_⟩,b,c⟩:=net_exL L kk h.1 most h.2
  exact⟨(n,k),fun _ _=>⟨a,b,c⟩⟩
 .exact⟨(⟨[],[],[],[],0,0,0,0⟩,0),fun a b=>absurd ⟨a,b⟩ h⟩
@[irreducible] def Aj(L:List Int)(kk:Nat)(most:Int):Aa:=(Classical.choose (M5 L kk most)).1
@[irreducible] def AR(L:List Int)(kk:Nat)(most:Int):Nat:=(Classical.choose (M5 L kk most)).2
theorem Oo{L:List Int}{kk:Nat}{most:Int}(h:kk<=5000)(hm:1<=most/\most<=20):EB (Aj L kk most)/\AR L kk most<=kk+200/\CT Try.prog 28 [some (Ae L kk)] [.ptr 0 0 0,.int .i64 most] [some (Ae L (AR L kk most)),some (gB (Aj L kk most).nx),some (dB (Aj L kk most).rs)] (FL (Aj L kk most)):=
 by unfold Aj AR;exact T0 (M5 L kk most) h hm
theorem netL_ct(L:List Int)(kk:Nat)(most:Int)(h:kk<=5000)(hm:1<=most/\most<=20):CT Try.prog 28 [some (Ae L kk)] [.ptr 0 0 0,.int .i64 most] [some (Ae L (AR L kk most)),some (gB (Aj L kk most).nx),some (dB (Aj L kk most).rs)] (FL (Aj L kk most)):=(Oo h hm).2.2
inductive DQ where
 | l0 (v0:Int) (v1:Nat) (v2:List (List Int)) (v3:List Int)
 | l1 (v0 v1:Int) (v2:Nat) (v3:List (List Int)) (v4:List Int)
def DJ(L:List Int)(kk:Nat)(most:Int):DQ->St
 | .l0 v0 v1 v2 v3=>St.mk 83 [(4,AV.ptr 1 0 0),(5,AV.ptr 2 0 0),(6,iv v0)] [some (Ae L v1),some (bK [AV.agg [AV.nils,AV.nils,AV.nils,AV.nils,iv 0,iv 0,iv 0,iv 0]] 8),some (Blk.mk [AV.agg [AV.lst (List.map bA (Aj L kk most).bs),AV.sl 3 0 v2.length,AV.lst (List.map sA (Aj L kk most).ss),AV.sl 4 0 v3.length,iv (Aj L kk most).q,iv (Aj L kk most).a,iv (Aj L kk most).d,iv (Aj L kk most).p]] 8 false true none),some (bK (List.map lI v2) 1),some (bK (List.map (iv) v3) 1)]
 | .l1 v0 v1 v2 v3 v4=>St.mk 83 [(4,AV.ptr 1 0 0),(5,AV.ptr 2 0 0),(6,iv v0),(7,iv v1)] [some (Ae L v2),some (bK [AV.agg [AV.nils,AV.nils,AV.nils,AV.nils,iv 0,iv 0,iv 0,iv 0]] 8),some (Blk.mk [AV.agg [AV.lst (List.map bA (Aj L kk most).bs),AV.sl 3 0 v3.length,AV.lst (List.map sA (Aj L kk most).ss),AV.sl 4 0 v4.length,iv (Aj L kk most).q,iv (Aj L kk most).a,iv (Aj L kk most).d,iv (Aj L kk most).p]] 8 false true none),some (bK (List.map lI v3) 1),some (bK (List.map (iv) v4) 1)]
def JW:DQ->Nat
 | .l0 _ _ _ _=>0
 | .l1 _ _ _ _ _=>1
def G9(L:List Int)(kk:Nat)(most:Int):Option (DQ⊕Ret):=
 gu (kk<=5000) <|
 gu (1<=most/\most<=20) <|
 gu (AR L kk most<9223372036854775807) <|
 br (Ag L (AR L kk most) 3==0)
 (br (decide (1<iN (List.map bA (Aj L kk most).bs).length))
  (gu (AR L kk most+1<9223372036854775807) <|
   gu (0<=Ag L (AR L kk most+1) (iN (List.map bA (Aj L kk most).bs).length)) <|
   gu (Ag L (AR L kk most+1) (iN (List.map bA (Aj L kk most).bs).length)<iN (Aj L kk most).nx.length) <|
   gu ((0+(Ag L (AR L kk most+1) (iN (List.map bA (Aj L kk most).bs).length)).toNat).succ.le (gL (Aj L kk most).nx).length) <|
   gu (AR L kk most+1+1<9223372036854775807) <|
   br (Ag L (AR L kk most+1+1) 3==0)
   (some (.inl (.l0 ((0:Int)) (AR L kk most+1+1+1) ((Aj L kk most).nx.set (0+(Ag L (AR L kk most+1) (iN (List.map bA (Aj L kk most).bs).length)).toNat) []) ((Aj L kk most).rs))))
   (gu ((Aj L kk most).nx.length=((gL (Aj L kk most).nx).set (0+(Ag L (AR L kk most+1) (iN (List.map bA (Aj L kk most).bs).length)).toNat) (AV.lst [])).length) <|
    some (.inr ([some (bK [AV.agg [AV.lst (List.map iV L),iV (iN (AR L kk most+1+1+1))]] 2)],AV.agg [AV.lst (List.map bA (Aj L kk most).bs),AV.lst ((gL (Aj L kk most).nx).set (0+(Ag L (AR L kk most+1) (iN (List.map bA (Aj L kk most).bs).length)).toNat) (AV.lst [])),AV.lst (List.map sA (Aj L kk most).ss),AV.lst (List.map iV (Aj L kk most).rs),iV (Aj L kk most).q,iV (Aj L kk most).a,iV (Aj L kk most).d,iV (Aj L kk most).p]))))
  (gu (AR L kk most+1<9223372036854775807) <|
   br (Ag L (AR L kk most+1) 3==0)
   (some (.inl (.l0 ((0:Int)) (AR L kk most+1+1) ((Aj L kk most).nx) ((Aj L kk most).rs))))
   (gu ((Aj L kk most).nx.length=(gL (Aj L kk most).nx).length) <|
    some (.inr ([some (bK [AV.agg [AV.lst (List.map iV L),iV (iN (AR L kk most+1+1))]] 2)],AV.agg [AV.lst (List.map bA (Aj L kk most).bs),AV.lst (gL (Aj L kk most).nx),AV.lst (List.map sA (Aj L kk most).ss),AV.lst (List.map iV (Aj L kk most).rs),iV (Aj L kk most).q,iV (Aj L kk most).a,iV (Aj L kk most).d,iV (Aj L kk most).p])))))
 (gu (AR L kk most+1<9223372036854775807) <|
  br (Ag L (AR L kk most+1) 3==0)
  (some (.inl (.l0 ((0:Int)) (AR L kk most+1+1) ((Aj L kk most).nx) ((Aj L kk most).rs))))
  (gu ((Aj L kk most).nx.length=(gL (Aj L kk most).nx).length) <|
   some (.inr ([some (bK [AV.agg [AV.lst (List.map iV L),iV (iN (AR L kk most+1+1))]] 2)],AV.agg [AV.lst (List.map bA (Aj L kk most).bs),AV.lst (gL (Aj L kk most).nx),AV.lst (List.map sA (Aj L kk most).ss),AV.lst (List.map iV (Aj L kk most).rs),iV (Aj L kk most).q,iV (Aj L kk most).a,iV (Aj L kk most).d,iV (Aj L kk most).p]))))
def F6(L:List Int)(kk:Nat)(most v0:Int)(v1:Nat)(v2:List (List Int))(v3:List Int):Option (DQ⊕Ret):=
 br (decide (v0<iN (List.map sA (Aj L kk most).ss).length))
 (some (.inl (.l1 v0 ((0:Int)) v1 v2 v3)))
 (some (.inr ([some (bK [AV.agg [AV.lst (List.map iV L),iV (iN v1)]] 2)],AV.agg [AV.lst (List.map bA (Aj L kk most).bs),AV.lst (List.map lI v2),AV.lst (List.map sA (Aj L kk most).ss),AV.lst (List.map iV v3),iV (Aj L kk most).q,iV (Aj L kk most).a,iV (Aj L kk most).d,iV (Aj L kk most).p])))
def FA(L:List Int)(kk:Nat)(most v0 v1:Int)(v2:Nat)(v3:List (List Int))(v4:List Int):Option (DQ⊕Ret):=
 gu (0<=v0) <|
 el ((Aj L kk most).ss) (v0.toNat) fun(x43:Az)=>
 br (decide (v1<x43.k))
 (el ((Aj L kk most).ss) (v0.toNat) fun(x51:Az)=>
  br (x51.dep)
  (br (decide (iN v4.length<8))
   (el ((Aj L kk most).ss) (v0.toNat) fun(x66:Az)=>
    gu (v4.length<=9223372036854775807) <|
    br (!Ak v4 (i64.wrap (x66.b+v1)))
    (gu ((List.map iV v4).length+[iV (i64.wrap (x66.b+v1))].length<=9223372036854775807) <|
     gu (((List.map iV v4).length+[iV (i64.wrap (x66.b+v1))].length) * 8<=140737488355328) <|
     some (.inl (.l1 v0 (i64.wrap (v1+1)) v2 v3 (v4++[i64.wrap (x66.b+v1)]))))
    (some (.inl (.l1 v0 (i64.wrap (v1+1)) v2 v3 v4))))
   (some (.inl (.l0 (i64.wrap (v0+1)) v2 v3 v4))))
  (some (.inl (.l0 (i64.wrap (v0+1)) v2 v3 v4))))
 (some (.inl (.l0 (i64.wrap (v0+1)) v2 v3 v4)))
def Fj(L:List Int)(kk:Nat)(most:Int):DQ->Option (DQ⊕Ret)
 | .l0 v0 v1 v2 v3=>F6 L kk most v0 v1 v2 v3
 | .l1 v0 v1 v2 v3 v4=>FA L kk most v0 v1 v2 v3 v4
theorem loEn_ok(L:List Int)(kk:Nat)(most:Int)(o:DQ⊕Ret)(h:G9 L kk most=some o):Arr Try.prog Try.f13 1 (DJ L kk most) JW (zB Try.f13) [] {n:=Try.f13.ntmps,fr:=AA 0 ([.ptr 0 0 0,.int .i64 most]),hp:=([some (Ae L kk)])} o:=
 Scr.ok h mix (
 .rn 0 [] [] [] [] s2 <|
 .gu fun a0=>
 .gu fun a1=>
 have c0:=netL_ct (L) (kk) (most) a0 a1;
 .rn 0 [] [] [(11,hK c0 [0] [])] [] (al (u2 (u2 (aj (k5 (al (c0))) (ak (al (k2 n11))))))) <|
 .gu fun a2=>
 .br (fun a3=>
 have c1:=AI (L) (AR L kk most) (3) a2;
 .rn 0 [31] [] [(13,hK c1 [0] [])] [] (al (u2 (aj (ak (k3 (al (c1)))) (u2 (u2 (ag a3 (ag a3 (ag a3 (ag a3 (al (aj a3 t2))))))))))) <|
 .br (fun a4=>
  .gu fun a5=>
  .gu fun a6=>
  .gu fun a7=>
  .gu fun a8=>
  have c2:=AI (L) (AR L kk most+1) (iN (List.map bA (Aj L kk most).bs).length) a5;
  .rn 0 [31,41] [(28,AV.lst [])] [(27,hK c2 [0] [])] [] (aj a4 (al (u2 (u2 (u2 (u2 (u2 (u2 (aj (k5 (al (c2))) (aj (k2 (aj a6 a7)) (al (ak a8)))))))))))) <|
  .gu fun a9=>
  have c3:=AI (L) (AR L kk most+1+1) (3) a9;
  .rn 0 [31] [] [(30,hK c3 [0] [])] [] (al (u2 (aj (ak (k3 (al (c3)))) s2))) <|
  .br (fun a10=>
  .lq [31,63] [] [] [] [] [0,1,4,2,3] [4,5,6] (up [] [(2,[AV.agg [AV.lst (List.map bA (Aj L kk most).bs),AV.sl 3 0 (Aj L kk most).nx.length,AV.lst (List.map sA (Aj L kk most).ss),AV.sl 4 0 (Aj L kk most).rs.length,iv (Aj L kk most).q,iv (Aj L kk most).a,iv (Aj L kk most).d,iv (Aj L kk most).p]]),(3,(gL (Aj L kk most).nx).set (0+(Ag L (AR L kk most+1) (iN (List.map bA (Aj L kk most).bs).length)).toNat) (AV.lst []))] (DJ L kk most (.l0 ((0:Int)) (AR L kk most+1+1+1) ((Aj L kk most).nx.set (0+(Ag L (AR L kk most+1) (iN (List.map bA (Aj L kk most).bs).length)).toNat) []) ((Aj L kk most).rs)))) (aj (aj a10 s2) (k5 (aj (al t9) t3))) (by simp[up,upF,upV,upH,upB,DJ,gL,boL,lI,sA,bA]))
  (fun a10=>
  .rn 0 [31,62] [] [] [] (aj a10 (al (u2 (al (k2 n11))))) <|
  .gu fun a11=>
  .rt [31] [] [] [] [0] [2,3] (ak (aj (ak (aj a11 (ak (aj (show(Aj L kk most).rs.length=(List.map (iv) (Aj L kk most).rs).length by simp) t5)))) t2))))
 (fun a4=>
  .gu fun a5=>
  have c2:=AI (L) (AR L kk most+1) (3) a5;
  .rn 0 [31,40] [] [(30,hK c2 [0] [])] [] (aj a4 (al (u2 (aj (ak (k3 (al (c2)))) s2)))) <|
  .br (fun a6=>
  .lp [31,63] [] [] [] [] [0,1,4,2,3] [4,5,6] (aj (aj a6 s2) (k5 (aj (al t9) t3))))
  (fun a6=>
  .rn 0 [31,62] [] [] [] (aj a6 (al (u2 (al (k2 n11))))) <|
  .gu fun a7=>
  .rt [31] [] [] [] [0] [2,3] (ak (aj (ak (aj a7 (ak (aj (show(Aj L kk most).rs.length=(List.map (iv) (Aj L kk most).rs).length by simp) t5)))) t2)))))
 (fun a3=>
 have c1:=AI (L) (AR L kk most) (3) a2;
 .rn 0 [30] [] [(13,hK c1 [0] [])] [] (al (u2 (aj (ak (k3 (al (c1)))) (u2 (u2 (aj a3 (aj a3 (aj a3 (aj a3 (al (aj a3 t2))))))))))) <|
 .gu fun a4=>
 have c2:=AI (L) (AR L kk most+1) (3) a4;
 .rn 0 [30] [] [(30,hK c2 [0] [])] [] (ak (al (u2 (aj (ak (k3 (al (c2)))) s2)))) <|
 .br (fun a5=>
  .lp [30,63] [] [] [] [] [0,1,4,2,3] [4,5,6] (aj (aj a5 s2) (k5 (aj (al t9) t3))))
 (fun a5=>
  .rn 0 [30,62] [] [] [] (aj a5 (al (u2 (al (k2 n11))))) <|
  .gu fun a6=>
  .rt [30] [] [] [] [0] [2,3] (ak (aj (ak (aj a6 (ak (aj (show(Aj L kk most).rs.length=(List.map (iv) (Aj L kk most).rs).length by simp) t5)))) t2))))) (by kernel_rfl)
theorem loS0_ok(L:List Int)(kk:Nat)(most v0:Int)(v1:Nat)(v2:List (List Int))(v3:List Int)(o:DQ⊕Ret)(h:F6 L kk most v0 v1 v2 v3=some o):Arr Try.prog Try.f13 1 (DJ L kk most) JW (Av Try.f13 0) (.rnd (Av Try.f13 0)::AG Try.f13 0) (DJ L kk most (.l0 v0 v1 v2 v3)) o:=
 Scr.ok h mix (
 .rn 0 [] [] [] [] (al (u2 (u2 (u2 (u2 (al t3)))))) <|
 .br (fun a0=>
 .lp [73] [] [] [] [] [0,1,2,3,4] [4,5,6,7] (aj (aj a0 s2) (ak (k5 (aj (al t9) t3)))))
 (fun a0=>
 .rt [72] [] [] [] [0] [3,4] (aj (aj a0 (al (u2 (al (k2 n11))))) (aj (ak (aj (show v2.length=(List.map lI v2).length by simp) (ak (aj (show v3.length=(List.map (iv) v3).length by simp) t5)))) t2)))) (by kernel_rfl)
theorem loS1_ok(L:List Int)(kk:Nat)(most v0 v1:Int)(v2:Nat)(v3:List (List Int))(v4:List Int)(o:DQ⊕Ret)(h:FA L kk most v0 v1 v2 v3 v4=some o):Arr Try.prog Try.f13 1 (DJ L kk most) JW (Av Try.f13 1) (.rnd (Av Try.f13 1)::AG Try.f13 1) (DJ L kk most (.l1 v0 v1 v2 v3 v4)) o:=
 Scr.ok h mix (
 .gu fun a0=>
 .el fun x43 a1=>
 .br (fun a2=>
 .el fun x51 a3=>
 .br (fun a4=>
  .rn 0 [95,111] [(43,sA x43),(51,sA x51)] [] [] (al (u2 (u2 (u2 (u2 (aj (k2 (aj a0 (Aq (f:=sA) a1))) (u2 (u2 (aj t3 (u2 (ag a2 (ag a2 (ag a2 (aj (aj a2 (k2 (aj a0 (Aq (f:=sA) a3)))) (ag a2 (ag a2 (ag a2 (u2 (ag a4 (ag a4 (ag a4 (ag a4 (al (aj a4 t2)))))))))))))))))))))))) <|
  .br (fun a5=>
  .el fun x66 a6=>
  .rn 0 [95,111,121] [(66,sA x66)] [] [] (aj a5 (al (u2 (u2 (u2 (aj (k2 (aj a0 (Aq (f:=sA) a6))) (u2 (u2 (u2 (aj t3 s2)))))))))) <|
  .gu fun a7=>
  have c0:=FR v4 (i64.wrap (x66.b+v1)) a7;
  .rn 0 [95,111] [] [(74,hK c0 [] [4])] [] (al (u2 (u2 (u2 (aj (k2 (aj (show v4.length=(List.map (iv) v4).length by simp) (ak (aj (c0) (show ∀(blk:Blk),blk∈[]->DB blk from(by intro _ h;cases h)))))) s2))))) <|
  .br (fun a8=>
   .gu fun a9=>
   .gu fun a10=>
   .lq [95,111,151] [] [] [] [] [0,1,2,3,6] [4,5,6,7] (up [] [(2,[AV.agg [AV.lst (List.map bA (Aj L kk most).bs),AV.sl 3 0 v3.length,AV.lst (List.map sA (Aj L kk most).ss),AV.sl 4 0 ((List.map (iv) v4).length+[iv (i64.wrap (x66.b+v1))].length),iv (Aj L kk most).q,iv (Aj L kk most).a,iv (Aj L kk most).d,iv (Aj L kk most).p]]),(4,List.map (iv) v4++[iv (i64.wrap (x66.b+v1))])] (DJ L kk most (.l1 v0 (i64.wrap (v1+1)) v2 v3 (v4++[i64.wrap (x66.b+v1)])))) (aj (aj a8 (aj (u2 (u2 (u2 (u2 (aj (k2 (aj (show(List.map (iv) v4).length=v4.length by simp) (aj (aj (show nat_lit 1=nat_lit 1 from rfl) (show 1<=[iv (i64.wrap (x66.b+v1))].length by simp)) (aj a9 a10)))) (u2 (al t3))))))) (al (u2 (u2 s2))))) (ak (k5 (aj (al t9) t3)))) (by simp[up,upF,upV,upH,upB,DJ,gL,boL,lI,sA,bA]))
  (fun a8=>
   .lp [95,111,150] [] [] [] [] [0,1,2,3,4] [4,5,6,7] (aj (aj a8 (al (u2 (u2 s2)))) (ak (k5 (aj (al t9) t3))))))
  (fun a5=>
  .lp [95,111,120] [] [] [] [] [0,1,2,3,4] [4,5,6] (aj (aj a5 (al (u2 (u2 s2)))) (k5 (aj (al t9) t3)))))
 (fun a4=>
  .lp [95,110] [(43,sA x43),(51,sA x51)] [] [] [] [0,1,2,3,4] [4,5,6] (aj (aj (u2 (u2 (u2 (u2 (aj (k2 (aj a0 (Aq (f:=sA) a1))) (u2 (u2 (aj t3 (u2 (ag a2 (ag a2 (ag a2 (aj (aj a2 (k2 (aj a0 (Aq (f:=sA) a3)))) (ag a2 (ag a2 (ag a2 (u2 (aj a4 (aj a4 (aj a4 (aj a4 (al (aj a4 t2))))))))))))))))))))))) (ak (al (u2 (u2 s2))))) (k5 (aj (al t9) t3)))))
 (fun a2=>
 .lp [94] [(43,sA x43)] [] [] [] [0,1,2,3,4] [4,5,6] (aj (aj (u2 (u2 (u2 (u2 (aj (k2 (aj a0 (Aq (f:=sA) a1))) (u2 (u2 (aj t3 (u2 (aj a2 (aj a2 (aj a2 (aj a2 (aj a2 (aj a2 (ag a2 (u2 (ak (k3 (al t3)))))))))))))))))))) (ak (al (u2 (u2 s2))))) (k5 (aj (al t9) t3))))) (by kernel_rfl)
theorem lo_ct(L:List Int)(kk:Nat)(most:Int)(r:Ret)(h:Al (Fj L kk most) (G9 L kk most) r):CT Try.prog 13 ([some (Ae L kk)]) ([.ptr 0 0 0,.int .i64 most]) r.1 r.2:=
 CT.mach (fn:=Try.f13) (c:=zB Try.f13) (S:=DJ L kk most) (hd:=JW) Try.func13 (by kernel_rfl) (nL rfl)
  (fun s o ho=>match s,ho with
   | .l0 v0 v1 v2 v3,ho=>loS0_ok L kk most v0 v1 v2 v3 o ho
   | .l1 v0 v1 v2 v3 v4,ho=>loS1_ok L kk most v0 v1 v2 v3 v4 o ho
  )
  (fun o ho=>loEn_ok L kk most o ho) h
structure FE(n:Aa):Prop where
 v:Ax n
 ln:3<=n.ss.length/\n.ss.length<=5
 d0:∀s,n.ss[0]?=some s->s.dep=true
 d1:∀s,n.ss[1]?=some s->s.dep=false
 d2:∀s,n.ss[2]?=some s->s.dep=false
 rb:n.rs≠[]
 rows:Rows n.nx
theorem EB.loose{n:Aa}(h:EB n):FE n:=⟨h.v,h.ln,h.d0,h.d1,h.d2,h.rb,h.rows⟩
theorem Nz(i m:Int):nxB [] i m=true:=by unfold nxB;simp[fnd]
theorem Ax.lane{n:Aa}(h:Ax n)(j:Nat):Ax {n with nx:=n.nx.set j []}:=by
 refine⟨h.nb,by simp[h.nx],h.ns,h.nr,?_,fun i b hb=>?_,fun i s hs=>?_,h.nod,h.dep,h.rob⟩
 .have:=h.cfg;unfold AZ at this ⊢;exact this
 .have g:=h.blk i b hb
  refine⟨g.nm,g.x,g.y,?_⟩
  show nxB ((n.nx.set j []).getD i []) i n.bs.length=true
  rw[Tl,Ue]
  split
  .split
   .exact Nz _ _
   .exact Nz _ _
  .rw[<-Tl];exact g.nx
 .have g:=h.spu i s hs
  exact⟨g.nm,g.hi,g.ho,g.hk,g.hb⟩
theorem Rows.lane{g:List (List Int)}(h:Rows g)(j:Nat):Rows (g.set j []):=by
 intro v hv
 have h1:=h v (by simpa using hv)
 rw[Tl,Ue]
 split
 .split<;>simp
 .rw[<-Tl];exact h1
theorem DE.add{n:Aa}{rs:List Int}(h:DE n rs){x:Int}(hd:AM n n.ss.length x)(hx:x∉rs):DE n (rs++[x]):=by
 intro i c hc
 rw[TW] at hc
 split at hc
 .rename_i hi
  obtain⟨h1,h2⟩:=h i c hc
  exact⟨h1,by rw[List.take_append_of_le_length (by omega)];exact h2⟩
 .rename_i hi
  have e:i=rs.length:=by
   have:=(Tm.1 hc).1;simp at this;omega
  subst e
  simp at hc;subst hc
  exact⟨hd,by rw[List.take_append_of_le_length (by omega),List.take_length];exact hx⟩
structure LoI(N n:Aa):Prop where
 ok:FE n
 bs:n.bs=N.bs
 ss:n.ss=N.ss
 q:n.q=N.q
 a:n.a=N.a
 d:n.d=N.d
 p:n.p=N.p
def Ek(L:List Int)(k:Nat)(n:Aa):Ret:=([some (Ae L k)],Ad n)
theorem lo_fill{L:List Int}{kk:Nat}{most:Int}{k:Nat}:∀(n:Aa),LoI (Aj L kk most) n->∀(m i:Nat),i+m=n.ss.length->
  ∃n',LoI (Aj L kk most) n'/\Al (Fj L kk most) (some (.inl (.l0 (i:Int) k n.nx n.rs))) (Ek L k n'):=by
 intro n hn m
 induction m generalizing n with
 | zero=>
  intro i hi
  refine⟨n,hn,.to ?_ (.ret _)⟩
  show F6 L kk most i k n.nx n.rs=_
  unfold F6
  rw[show (i:Int)=((Aj L kk most).ss.length:Nat) by rw[<-hn.ss];omega,Cf]
  unfold Ek Ad gL lI
  rw[hn.bs,hn.ss,hn.q,hn.a,hn.d,hn.p];rfl
 | succ m ih=>
  intro i hi
  have hil:i<n.ss.length:=by omega
  obtain⟨s,hs⟩:∃s,n.ss[i]?=some s:=⟨_,Tk hil⟩
  have hs':(Aj L kk most).ss[i]?=some s:=by rw[<-hn.ss];exact hs
  have sb:=hn.ok.v.sb hs
  have ns:=hn.ok.v.ns
  -- the slots of one spur
  have inner:∀(w j:Nat) (n1:Aa),LoI (Aj L kk most) n1->(j:Int)+w=s.k->∃n',LoI (Aj L kk most) n'/\Al (Fj L kk most) (some (.inl (.l1 (i:Int) (j:Int) k n1.nx n1.rs))) (Ek L k n'):=by
   intro w
   induction w with
   | zero=>
    intro j n1 h1 hj
    obtain⟨n',g1,g2⟩:=ih n1 h1 (i+1) (by rw[h1.ss,<-hn.ss];omega)
    refine⟨n',g1,.to ?_ g2⟩
    show FA L kk most i j k n1.nx n1.rs=_
    unfold FA
    rw[Ab (by omega),Tv,A4 hs',Af (Au (by omega)),zW i (by omega)]
   | succ w ihw=>
    intro j n1 h1 hj
    have out:∃n',LoI (Aj L kk most) n'/\Al (Fj L kk most) (some (.inl (.l0 (i64.wrap ((i:Int)+1)) k n1.nx n1.rs))) (Ek L k n'):=by
     rw[zW i (by omega)]
     exact ih n1 h1 (i+1) (by rw[h1.ss,<-hn.ss];omega)
    have go:∀{n'},Al (Fj L kk most) (FA L kk most i j k n1.nx n1.rs) (Ek L k n')->Al (Fj L kk most) (some (.inl (.l1 (i:Int) (j:Int) k n1.nx n1.rs))) (Ek L k n'):=fun h=>.go _ _ h
    have nr:=h1.ok.v.nr
    have e0:FA L kk most i j k n1.nx n1.rs=br s.dep (br (decide (iN n1.rs.length<8)) (gu (n1.rs.length<=9223372036854775807) (br (!Ak n1.rs (i64.wrap (s.b+(j:Int)))) (gu ((List.map (AV.int i64) n1.rs).length+[AV.int i64 (i64.wrap (s.b+(j:Int)))].length<=9223372036854775807) (gu (((List.map (AV.int i64) n1.rs).length+[AV.int i64 (i64.wrap (s.b+(j:Int)))].length) * 8<=140737488355328) (some (.inl (.l1 (i:Int) (i64.wrap ((j:Int)+1)) k n1.nx (n1.rs++[i64.wrap (s.b+(j:Int))])))))) (some (.inl (.l1 (i:Int) (i64.wrap ((j:Int)+1)) k n1.nx n1.rs))))) (some (.inl (.l0 (i64.wrap ((i:Int)+1)) k n1.nx n1.rs)))) (some (.inl (.l0 (i64.wrap ((i:Int)+1)) k n1.nx n1.rs))):=by
     unfold FA
     rw[Ab (by omega),Tv,A4 hs',Ah (AB (by omega)),A4 hs']
     cases s.dep with
     | false=>rfl
     | true=>
      rw[Ah rfl,Ah rfl,A4 hs']
    cases hd:s.dep with
    | false=>
     obtain⟨n',g1,g2⟩:=out
     exact⟨n',g1,go (by rw[e0,hd,Af rfl];exact g2)⟩
    | true=>
     by_cases h8:n1.rs.length<8
     .have wj:i64.wrap ((j:Int)+1)=((j+1:Nat):Int):=zW j (by omega)
      have wx:i64.wrap (s.b+(j:Int))=s.b+(j:Int):=AU _ (by omega) (by omega)
      rw[hd,Ah rfl,Ah (AB (by show(n1.rs.length:Int)<8;omega)),Ab (by omega),wj,wx] at e0
      cases hh:Ak n1.rs (s.b+(j:Int)) with
      | true=>
       obtain⟨n',g1,g2⟩:=ihw (j+1) n1 h1 (by omega)
       exact⟨n',g1,go (by rw[e0,hh];exact g2)⟩
      | false=>
       have hni:(s.b+(j:Int))∉n1.rs:=fun e=>by rw[Fz.2 e] at hh;cases hh
       have hdep:AM n1 n1.ss.length (s.b+(j:Int)):=⟨s,by rw[List.take_length,h1.ss];exact Tp hs',hd,by omega,by omega⟩
       have hr:DE n1 (n1.rs++[s.b+(j:Int)]):=DE.add h1.ok.v.rob hdep hni
       have hv2:=h1.ok.v.robots hr (by simp;omega)
       obtain⟨n',g1,g2⟩:=ihw (j+1) {n1 with rs:=n1.rs++[s.b+(j:Int)]} ⟨⟨hv2,h1.ok.ln,h1.ok.d0,h1.ok.d1,h1.ok.d2,by simp,h1.ok.rows⟩,h1.bs,h1.ss,h1.q,h1.a,h1.d,h1.p⟩ (by omega)
       exact⟨n',g1,go (by rw[e0,hh,Ah (by rfl),Ab (by simp;omega),Ab (by simp;omega)];exact g2)⟩
     .obtain⟨n',g1,g2⟩:=out
      exact⟨n',g1,go (by rw[e0,hd,Ah rfl,Af (Au (by show ¬(n1.rs.length:Int)<8;omega))];exact g2)⟩
  obtain⟨n',g1,g2⟩:=inner s.k.toNat 0 n hn (by omega)
  refine⟨n',g1,.to ?_ g2⟩
  show F6 L kk most i k n.nx n.rs=_
  unfold F6
  rw[Ah (rngB (by rw[<-hn.ss];exact hil))];rfl
theorem loose_ex(L:List Int)(kk:Nat)(most:Int)(hk:kk<=5000)(hm:1<=most/\most<=20):∃n k,FE n/\k<=kk+210/\CT Try.prog 13 [some (Ae L kk)] [.ptr 0 0 0,.int .i64 most] [some (Ae L k)] (Ad n):=by
 obtain⟨hN,hkk,_⟩:=Oo (L:=L) hk hm
 have key:∀(n:Aa) (k:Nat),Al (Fj L kk most) (G9 L kk most) (Ek L k n)->CT Try.prog 13 [some (Ae L kk)] [.ptr 0 0 0,.int .i64 most] [some (Ae L k)] (Ad n):=fun n k h=>lo_ct L kk most _ h
 have nb:=hN.v.nb24
 have hnx:=hN.v.nx
 have base:LoI (Aj L kk most) (Aj L kk most):=⟨hN.loose,rfl,rfl,rfl,rfl,rfl,rfl⟩
 -- with the depots filled or not
 have fin:∀(n:Aa) (k:Nat),LoI (Aj L kk most) n->k<=kk+205->Al (Fj L kk most) (G9 L kk most) (Ek L k n)->∃n k,FE n/\k<=kk+210/\CT Try.prog 13 [some (Ae L kk)] [.ptr 0 0 0,.int .i64 most] [some (Ae L k)] (Ad n):=
  fun n k h1 h2 h3=>⟨n,k,h1.ok,by omega,key n k h3⟩
 have fill:∀(n:Aa) (k:Nat),LoI (Aj L kk most) n->k<=kk+205->G9 L kk most=some (.inl (.l0 0 k n.nx n.rs))->∃n k,FE n/\k<=kk+210/\CT Try.prog 13 [some (Ae L kk)] [.ptr 0 0 0,.int .i64 most] [some (Ae L k)] (Ad n):=fun n k h1 h2 h3=>by
  obtain⟨n',g1,g2⟩:=lo_fill (k:=k) n h1 n.ss.length 0 (by omega)
  exact fin n' k g1 h2 (by rw[h3];exact g2)
 unfold G9 at fill fin
 rw[Ab hk,Ab hm,Ab (by omega)] at fill fin
 generalize AR L kk most=K at hkk fill fin
 have r0:∀k,0<=Ag L k (iN (List.map bA (Aj L kk most).bs).length)/\Ag L k (iN (List.map bA (Aj L kk most).bs).length)<(Aj L kk most).bs.length:=fun k=>by
  have:=AP L k (iN (List.map bA (Aj L kk most).bs).length) (by simp[iN];omega) (by simp[iN];omega)
  simp[iN] at this ⊢;omega
 by_cases h1:(Ag L K 3==0)=true
 .rw[Ah h1] at fill fin
  by_cases h2:1<iN (List.map bA (Aj L kk most).bs).length
  .have r1:=r0 (K+1)
   rw[Ah (AB h2),Ab (by omega),Ab (by omega),Ab (by rw[show iN (Aj L kk most).nx.length=((Aj L kk most).nx.length:Int) from rfl];omega),Ab (by show 0+Int.toNat _+1<=_;rw[Bt];omega),Ab (by omega)] at fill fin
   have hl:LoI (Aj L kk most) {Aj L kk most with nx:=(Aj L kk most).nx.set (0+(Ag L (K+1) (iN (List.map bA (Aj L kk most).bs).length)).toNat) []}:=
    ⟨⟨hN.v.lane _,hN.ln,hN.d0,hN.d1,hN.d2,hN.rb,hN.rows.lane _⟩,rfl,rfl,rfl,rfl,rfl,rfl⟩
   by_cases h3:(Ag L (K+1+1) 3==0)=true
   .rw[Ah h3] at fill
    exact fill _ (K+1+1+1) hl (by omega) rfl
   .rw[Af (by simpa using h3),Ab (by rw[TV,Bt])] at fin
    refine fin _ (K+1+1+1) hl (by omega) (.val ?_)
    unfold Ek Ad gL lI
    simp only[Ud];rfl
  .rw[Af (Au h2),Ab (by omega)] at fill fin
   by_cases h3:(Ag L (K+1) 3==0)=true
   .rw[Ah h3] at fill
    exact fill _ (K+1+1) base (by omega) rfl
   .rw[Af (by simpa using h3),Ab (by rw[Bt])] at fin
    exact fin _ (K+1+1) base (by omega) (.val rfl)
 .rw[Af (by simpa using h1),Ab (by omega)] at fill fin
  by_cases h3:(Ag L (K+1) 3==0)=true
  .rw[Ah h3] at fill
   exact fill _ (K+1+1) base (by omega) rfl
  .rw[Af (by simpa using h3),Ab (by rw[Bt])] at fin
   exact fin _ (K+1+1) base (by omega) (.val rfl)
theorem L9(L:List Int)(kk:Nat)(most:Int):∃p:Aa×Nat,kk<=5000->(1<=most/\most<=20)->FE p.1/\p.2<=kk+210/\CT Try.prog 13 [some (Ae L kk)] [.ptr 0 0 0,.int .i64 most] [some (Ae L p.2)] (Ad p.1):=by
 by_cases h:kk<=5000/\(1<=most/\most<=20)
 .obtain⟨n,k,a,b,c⟩:=loose_ex L kk most h.1 h.2
  exact⟨(n,k),fun _ _=>⟨a,b,c⟩⟩
 .exact⟨(⟨[],[],[],[],0,0,0,0⟩,0),fun a b=>absurd ⟨a,b⟩ h⟩
@[irreducible] def AD(L:List Int)(kk:Nat)(most:Int):Aa:=(Classical.choose (L9 L kk most)).1
@[irreducible] def AO(L:List Int)(kk:Nat)(most:Int):Nat:=(Classical.choose (L9 L kk most)).2
theorem Pj{L:List Int}{kk:Nat}{most:Int}(h:kk<=5000)(hm:1<=most/\most<=20):FE (AD L kk most)/\AO L kk most<=kk+210/\CT Try.prog 13 [some (Ae L kk)] [.ptr 0 0 0,.int .i64 most] [some (Ae L (AO L kk most))] (Ad (AD L kk most)):=
 by unfold AD AO;exact T0 (L9 L kk most) h hm
theorem loose_ct(L:List Int)(kk:Nat)(most:Int)(h:kk<=5000)(hm:1<=most/\most<=20):CT Try.prog 13 [some (Ae L kk)] [.ptr 0 0 0,.int .i64 most] [some (Ae L (AO L kk most))] (Ad (AD L kk most)):=(Pj h hm).2.2
def headS(s:Az):Int:=s.b+s.k-1
def nxtL(n:Aa)(c:Int):List Int:=match plF n c with
 | some i=>if c=headS (n.ss.getD i s0) then [(n.ss.getD i s0).o] else [c+1]
 | none=>n.nx.getD c.toNat []++(n.ss.filter fun s=>s.i==c).map fun s=>s.b
def nxO(n:Aa)(c:Int):List Int:=if ckE n c=0 then nxtL n c else []
def folB(n:Aa)(x y:Int):Bool:=Ak (nxO n x) y
theorem Ax.lanes{n:Aa}(hrw:Rows n.nx)(hv:Ax n){v:Nat}(h:v<n.bs.length):(∀w∈n.nx.getD v [],0<=w/\w<(n.bs.length:Int))/\(n.nx.getD v []).length<=24:=by
 obtain⟨hg,ha⟩:=Hs hrw hv.chk
 have hl:=hv.nx
 have:=hg.len
 have h2:=PQ hg ha (show v<n.nx.length by omega)
 exact⟨fun w hw=>by have:=(hg.row v (by omega)).2 w hw;omega,by omega⟩
end Go.Proofs.Ytedjkebooffjpaa
namespace Go.AX
variable {P:Program}
inductive BH (P:Program) (m:Nat):List Oper->St->St->Prop
 | nil (st:St):BH P m [] st st
 | cons {o:Oper} {r:List Oper} {st st':St} {R:OpR} (hg:o.guard=none) (hop:Ai P o st.ev (nth st.hp) st.hp.length R) (hf:R.fits (nth st.hp)) (hd:∀b,b∈R.dead->m<=b)
   (hdst:∀d,o.dst=some d->d<st.n) (h:BH P m r (st.app o.dst R) st'):BH P m (o::r) st st'
theorem RW{m:Nat}{ops:Array Oper}{Q:Exit->Act->World->Prop}{A0:Nat->Prop}{n0:Nat}:∀{l:List Oper} {st st':St},BH P m l st st'->
  ∀{φ:Phi} {a:Act} {w:World},m<=st.hp.length->Rel A0 n0 m φ st a w->
   (∀φ' a' w',m<=st'.hp.length->Rel A0 n0 m φ' st' a' w'->Tr m φ st.h w φ' st'.h w'->Q .normal a' w')->wpList P ops Q l a w:=by
 intro l st st' h
 induction h with
 | nil st=>intro φ a w hm hr k;exact k φ a w hm hr (.refl _ _ _ _)
 | @cons o r st st' R hg hop hf hd hdst h ih=>
  intro φ a w hm hr k
  have hm':m<=(st.app o.dst R).hp.length:=by simp[St.app,Eb,Fg];omega
  unfold wpList
  rw[Ti (JX (φ:=φ) (A:=Ok A0 n0 φ st.h w) (w:=w) fun k want hk=>by rw[hg] at hk;cases hk)]
  left
  refine hop φ (Ok A0 n0 φ st.h w) w a _ _ (fun r hA=>⟨hA.2.1,hA.2.2⟩) hr.ev hr.heap hr.out fun v' w' φ' he=>?_
  obtain⟨s1,s2⟩:=hr.step hm hd hdst hf he
  exact ih hm' s1 fun φ2 a2 w2 g1 g2 g3=>k φ2 a2 w2 g1 g2 (s2.trans g3)
set_option linter.unusedVariables false in
theorem T.ops{m id:Nat}{ops:Array Oper}{st st':St}{post:Exit->St->Prop}(h:BH P m ops.toList st st')(hpost:post .normal st'):T P m (.region id ops false) st post:=
 fun A0 n0 φ a w hm hr=>wp_region_list (RW h hm hr fun φ' a' w' g1 g2 g3=>⟨φ',_,hpost,g2,g1,g3⟩)
theorem GH:∀(l:List (Option Blk)) (i:Nat),B6 [] [] i l=l
 | [],_=>rfl
 | x::r,i=>by simp only[B6,B8,Bg];rw[GH r]
theorem KR(b:Nat):∀(l:List (Option Blk)) (i:Nat),i<=b->B6 [b] [] i l=l.set (b-i) none
 | [],_,_=>by simp[B6]
 | x::r,i,h=>by
  simp only[B6,B8,Bg]
  by_cases hb:b=i
  .subst hb
   rw[Nat.beq_refl,S4]
   have:∀(l:List (Option Blk)) (j:Nat),b<j->B6 [b] [] j l=l:=by
    intro l
    induction l with
    | nil=>intro j _;rfl
    | cons y r ih=>
     intro j hj
     have hne:Nat.beq b j=false:=by cases hq:Nat.beq b j with | false=>rfl | true=>exact absurd (Tt hq) (by omega)
     simp only[B6,B8,Bg,hne]
     rw[ih (j+1) (by omega)]
   rw[this r (b+1) (by omega)];rfl
  .have hne:Nat.beq b i=false:=by cases hq:Nat.beq b i with | false=>rfl | true=>exact absurd (Tt hq) hb
   rw[hne,KR b r (i+1) (by omega),show b-i=(b-(i+1))+1 by omega];rfl
theorem Om(b:Nat)(blk:Blk):∀(l:List (Option Blk)) (i:Nat),i<=b->B6 [] [(b,blk)] i l=l.set (b-i) (some blk)
 | [],_,_=>by simp[B6]
 | x::r,i,h=>by
  simp only[B6,B8,Bg]
  by_cases hb:b=i
  .subst hb
   rw[Nat.beq_refl,S4]
   have:∀(l:List (Option Blk)) (j:Nat),b<j->B6 [] [(b,blk)] j l=l:=by
    intro l
    induction l with
    | nil=>intro j _;rfl
    | cons y r ih=>
     intro j hj
     have hne:Nat.beq b j=false:=by cases hq:Nat.beq b j with | false=>rfl | true=>exact absurd (Tt hq) (by omega)
     simp only[B6,B8,Bg,hne]
     rw[ih (j+1) (by omega)]
   rw[this r (b+1) (by omega)];rfl
  .have hne:Nat.beq b i=false:=by cases hq:Nat.beq b i with | false=>rfl | true=>exact absurd (Tt hq) hb
   rw[hne,Om b blk r (i+1) (by omega),show b-i=(b-(i+1))+1 by omega];rfl
variable {m:Nat} {o:Oper} {r:List Oper} {n:Nat} {fr:List (Nat×AV)} {hp:List (Option Blk)} {st':St}
theorem BH.val{d:Nat}{v:AV}(hg:o.guard=none)(ho:o.dst=some d)(hd:d<n)(hop:Ai P o (St.ev ⟨n,fr,hp⟩) (nth hp) hp.length {v})(h:BH P m r ⟨n,(d,v)::fr,hp⟩ st'):BH P m (o::r) ⟨n,fr,hp⟩ st':=by
 refine .cons hg hop (OpR.fits_value _ _) (fun b hb=>by simp at hb) (fun d' h'=>by rw[ho] at h';cases h';exact hd) ?_
 have e:St.app ⟨n,fr,hp⟩ o.dst {v}=⟨n,(d,v)::fr,hp⟩:=by
  unfold St.app;rw[ho];simp only[put,GH,Bq,List.append_nil]
 rw[e];exact h
theorem BH.new{d:Nat}{v:AV}{blk:Blk}(hg:o.guard=none)(ho:o.dst=some d)(hd:d<n)(hop:Ai P o (St.ev ⟨n,fr,hp⟩) (nth hp) hp.length {v,new:=[blk]})(h:BH P m r ⟨n,(d,v)::fr,hp++[some blk]⟩ st'):BH P m (o::r) ⟨n,fr,hp⟩ st':=by
 refine .cons hg hop ⟨fun b blk hm=>by simp at hm,fun b hm=>by simp at hm⟩ (fun b hb=>by simp at hb) (fun d' h'=>by rw[ho] at h';cases h';exact hd) ?_
 have e:St.app ⟨n,fr,hp⟩ o.dst {v,new:=[blk]}=⟨n,(d,v)::fr,hp++[some blk]⟩:=by
  unfold St.app;rw[ho];simp only[put,GH,Bq]
 rw[e];exact h
theorem BH.move{d b:Nat}{v:AV}{blk blk0:Blk}(hg:o.guard=none)(ho:o.dst=some d)(hd:d<n)(hb:nth hp b=some blk0)(hw:blk0.wr=true)(hm:m<=b)(hop:Ai P o (St.ev ⟨n,fr,hp⟩) (nth hp) hp.length {v,dead:=[b],new:=[blk]})
  (h:BH P m r ⟨n,(d,v)::fr,hp.set b none++[some blk]⟩ st'):BH P m (o::r) ⟨n,fr,hp⟩ st':=by
 refine .cons hg hop ⟨fun b blk hm=>by simp at hm,fun b' hm'=>by simp at hm';subst hm';exact⟨⟨blk0,hb,hw⟩,rfl⟩⟩ (fun b' hb'=>by simp at hb';subst hb';exact hm) (fun d' h'=>by rw[ho] at h';cases h';exact hd) ?_
 have e:St.app ⟨n,fr,hp⟩ o.dst {v,dead:=[b],new:=[blk]}=⟨n,(d,v)::fr,hp.set b none++[some blk]⟩:=by
  unfold St.app;rw[ho];simp only[put,KR b hp 0 (Ty _),Bq,Nat.sub_zero]
 rw[e];exact h
theorem BH.chg{b:Nat}{v:AV}{blk blk0:Blk}(hg:o.guard=none)(ho:o.dst=none)(hb:nth hp b=some blk0)(hw:blk0.wr=true)(hop:Ai P o (St.ev ⟨n,fr,hp⟩) (nth hp) hp.length {v,chg:=[(b,blk)]})
  (h:BH P m r ⟨n,fr,hp.set b (some blk)⟩ st'):BH P m (o::r) ⟨n,fr,hp⟩ st':=by
 refine .cons hg hop (GV hb hw) (fun b' hb'=>by simp at hb') (fun d' h'=>by rw[ho] at h';cases h') ?_
 have e:St.app ⟨n,fr,hp⟩ o.dst {v,chg:=[(b,blk)]}=⟨n,fr,hp.set b (some blk)⟩:=by
  unfold St.app;rw[ho];simp only[put,Om b blk hp 0 (Ty _),Bq,Nat.sub_zero,List.append_nil]
 rw[e];exact h
theorem PD{ev:Operand->AV}{h:Hp}{nb:Nat}{t:TypeId}{x y:Operand}{b i j s:Nat}{ag flat:Bool}{blk:Blk}{e:AV}
  (ho:o.op = .store t x y) (hx:ev x = .ptr b i j) (hb:h b=some blk) (hw:blk.wr=true) (ht:tsz P t=some (s,ag)) (hk:(ev y).known=true)
  (hl:(ev y).cells.length=s) (h1:B2 (ev y).cells=true) (he:i<blk.es.length) (hj:j+s<=blk.z)
  (hnew:e.cells.length=blk.z) (hcell:∀(k:Nat) c,e.cells[k]?=some c->(j<=k/\k<j+s/\(ev y).cells[k-j]?=some c)\/((k<j\/j+s<=k)/\∃e0,blk.es[i]?=some e0/\e0.cells[k]?=some c))
  (hfl:(blk.flat&&A9 (ev y).cells)=flat):
  Ai P o ev h nb {v:=.unk,chg:=[(b,{blk with es:=blk.es.set i e,flat})]}:=hfl ▸ Il ho hx hb hw ht hk hl h1 he hj hnew hcell
theorem Ren.slots{m n:Nat}{fr fr':List (Nat×AV)}{hp:List (Option Blk)}(h:∀s,An fr' s = .unk\/An fr' s=An fr s):Ren m ⟨n,fr,hp⟩ ⟨n,fr',hp⟩:=by
 intro A0 n0 φ a w hm hr
 refine⟨φ,⟨hr.defs,hr.size,fun s=>?_,hr.heap,hr.out,hr.base,hr.own⟩,hm,.refl m φ _ w⟩
 show VR _ _ _ (An fr' s) _
 rcases h s with h | h
 .rw[h];exact .imm _ _ (.unk _)
 .rw[h];exact hr.slot s
end Go.AX
namespace Go.Proofs.Ytedjkebooffjpaa
theorem _root_.Go.AX.BH.av{P:Program}{m:Nat}{o:Oper}{r:List Oper}{n d:Nat}{fr:List (Nat×AV)}{hp:List (Option Blk)}{st':St}(v:AV)(hg:o.guard=none)(ho:o.dst=some d)(hd:Nat.ble (d+1) n=true)(h:aop P o (St.ev ⟨n,fr,hp⟩) hp .no=some ({v},True))(k:BH P m r ⟨n,(d,v)::fr,hp⟩ st'):BH P m (o::r) ⟨n,fr,hp⟩ st':=.val hg ho (TJ hd) (Cr h trivial).1 k
theorem _root_.Go.AX.BH.va{P:Program}{m:Nat}{o:Oper}{r:List Oper}{n d:Nat}{fr:List (Nat×AV)}{hp:List (Option Blk)}{st':St}(v:AV)(hg:o.guard=none)(ho:o.dst=some d)(hd:Nat.ble (d+1) n=true)(h:Ai P o (St.ev ⟨n,fr,hp⟩) (nth hp) hp.length {v})(k:BH P m r ⟨n,(d,v)::fr,hp⟩ st'):BH P m (o::r) ⟨n,fr,hp⟩ st':=.val hg ho (TJ hd) h k
theorem OL:BG Try.prog 28=some (none,1):=by kernel_rfl
theorem M4:BG Try.prog 22=some (none,1):=by kernel_rfl
theorem tsz22:tsz Try.prog 22=some (1,false):=by kernel_rfl
theorem tsz3:tsz Try.prog 3=some (1,false):=by kernel_rfl
theorem zEl22:CH Try.prog 22=some (.int .i64 0,1,8):=by kernel_rfl
theorem La{hp:List (Option Blk)}{b c:Nat}{x:Option Blk}:nth (hp.set b x) c=if b=c/\b<hp.length then x else nth hp c:=by
 rw[CW,Ue,CW]
 by_cases h:b=c
 .subst h
  by_cases hl:b<hp.length
  .rw[Ti rfl,Ti hl,Ti ⟨rfl,hl⟩];cases x<;>rfl
  .rw[Ti rfl,Tj hl,Tj (fun h=>hl h.2),TI (by omega)]
 .rw[Tj h,Tj (fun e=>h e.1)]
theorem H3{hp:List (Option Blk)}{c:Nat}{x:Blk}(h:nth hp c=some x):c<hp.length:=by
 rw[CW] at h
 rcases Uh c hp.length with h1 | h1
 .exact h1
 .rw[TI h1] at h;cases h
theorem Sx{k:Nat}{v:AV}{l:List (Nat×AV)}{s:Nat}(h:k≠s):AX.An ((k,v)::l) s=AX.An l s:=by
 have:Nat.beq k s=false:=by cases hq:Nat.beq k s with | false=>rfl | true=>exact absurd (Tt hq) h
 simp only[AX.An,this]
def K8(fr fr':List (Nat×AV)):List Nat->Prop
 | []=>True
 | k::ks=>AX.An fr' k=AX.An fr k/\K8 fr fr' ks
theorem PM:∀{l:List (Nat×AV)} {s:Nat},s∉l.map (·.1)->AX.An l s = .unk
 | [],_,_=>rfl
 | (k,v)::l,s,h=>by
  rw[Sx (fun e=>h (by simp[e])),PM (fun e=>h (TD _ e))]
theorem PO{fr fr':List (Nat×AV)}:∀{ks:List Nat},K8 fr fr' ks->∀s∈ks,AX.An fr' s=AX.An fr s
 | [],_,s,h=>by cases h
 | k::ks,h,s,hs=>(TQ.1 hs).elim (fun e=>by rw[e];exact h.1) (PO h.2 s)
theorem _root_.Go.AX.Ren.keys{m n:Nat}{fr fr':List (Nat×AV)}{hp:List (Option Blk)}(h:K8 fr fr' (fr'.map (·.1))):Ren m ⟨n,fr,hp⟩ ⟨n,fr',hp⟩:=
 Ren.slots fun s=>if hs:s∈fr'.map (·.1) then .inr (PO h s hs) else .inl (PM hs)
theorem val_ok{g:List (List Int)}(hrw:Rows g)(h:DP g=true):g.length<=24/\∀v,v<g.length->(g.getD v []).length<=24/\(∀w∈g.getD v [],0<=w/\w<(g.length:Int)):=by
 have hc:C9 g (List.replicate g.length false)=0:=by
  unfold DP at h
  simp only[Tu,T7,decide_eq_false_iff_not] at h
  unfold C9
  rw[Tj h.1,Tj (by rw[h.2];simp),Tj (by simp)]
 obtain⟨hg,ha⟩:=Hs hrw hc
 have hl:=hg.len
 exact⟨hl,fun v hv=>⟨by have:=PQ hg ha hv;omega,fun w hw=>by have:=(hg.row v hv).2 w hw;omega⟩⟩
inductive Rcv (g:List (List Int)) (s:List Bool) (v:Nat):Nat->Prop
 | refl (h:s.getD v true=false):Rcv g s v v
 | step {u w:Nat} (h:Rcv g s v u) (hw:(w:Int)∈g.getD u []) (ho:s.getD w true=false):Rcv g s v w
open Classical in
def mkB(g:List (List Int))(s:List Bool)(v k:Nat):Bool:=decide (Rcv g s v k)
theorem GX{g:List (List Int)}{s:List Bool}{v k:Nat}:mkB g s v k=true↔Rcv g s v k:=by unfold mkB;exact @decide_eq_true_iff _ (Classical.propDecidable _)
theorem Oc{g:List (List Int)}{s:List Bool}{v k:Nat}(h:¬Rcv g s v k):mkB g s v k=false:=T8.2 fun e=>h (GX.1 e)
structure GOk(g:List (List Int)):Prop where
 len:g.length<=24
 row:∀v,v<g.length->(g.getD v []).length<=100000/\∀w∈g.getD v [],0<=w/\w<(g.length:Int)
def cUn(m:Nat->Bool):Nat->Nat
 | 0=>0
 | n+1=>cUn m n+(if m n=true then 0 else 1)
def CN(m:Nat->Bool)(x:Nat):Nat->Bool:=fun k=>bif Nat.beq k (0+x * 1) then true else m k
theorem DD(m:Nat->Bool)(x k:Nat):CN m x k=if k=x then true else m k:=by
 unfold CN;rw[TB,Nat.mul_one]
 by_cases h:k=x
 .subst h;rw[Nat.beq_refl,Ti rfl];rfl
 .rw[Tj h]
  cases hb:Nat.beq k x with
  | true=>exact absurd (Tt hb) h
  | false=>rfl
theorem NX{m:Nat->Bool}{x:Nat}(hx:m x=false):∀n,cUn (CN m x) n+(if x<n then 1 else 0)=cUn m n:=by
 intro n
 induction n with
 | zero=>rfl
 | succ n ih=>
  unfold cUn
  rw[DD]
  by_cases h:n=x
  .subst h
   rw[Tj (Nat.lt_irrefl _)] at ih
   rw[Ti rfl,Ti (Nat.lt_succ_self _),hx];simp;omega
  .rw[Tj h]
   by_cases hl:x<n
   .rw[Ti hl] at ih;rw[Ti (show x<n+1 by omega)];split<;>omega
   .rw[Tj hl] at ih;rw[Tj (show ¬x<n+1 by omega)];split<;>omega
theorem cUn_le(m:Nat->Bool):∀n,cUn m n<=n:=by
 intro n
 induction n with
 | zero=>exact Tx _
 | succ n ih=>unfold cUn;split<;>omega
structure FdJ(g:List (List Int))(s:List Bool)(v:Nat)(m:Nat->Bool)(st:List Int)(ex:Nat->Prop):Prop where
 sound:∀k,m k=true->Rcv g s v k
 start:m v=true
 stk:∀x∈st,0<=x/\x<(g.length:Int)/\m x.toNat=true
 closed:∀u,m u=true->(u:Int)∉st->¬ex u->∀w:Nat,(w:Int)∈g.getD u []->s.getD w true=false->m w=true
 size:st.length+cUn m 24<=24
theorem fd_end{g:List (List Int)}{s:List Bool}{v:Nat}{m:Nat->Bool}(h:FdJ g s v m [] (fun _=>False)):(fun k=>m k)=mkB g s v:=by
 funext k
 cases hk:m k with
 | true=>exact(GX.2 (h.sound k hk)).symm
 | false=>
  refine(Oc fun hr=>?_).symm
  have:m k=true:=by
   induction hr with
   | refl _=>exact h.start
   | @step u w _ hw ho ih=>
    cases hu:m u with
    | true=>exact h.closed _ hu (by simp) (fun e=>e) _ hw ho
    | false=>exact absurd (ih hu) (by rw[hu];simp)
  rw[hk] at this;cases this
theorem Rcv.lt{g:List (List Int)}{s:List Bool}{v k:Nat}(hs:s.length=g.length)(h:Rcv g s v k):k<g.length:=by
 have key:∀x,s.getD x true=false->x<g.length:=fun x hx=>by
  rcases Uh x s.length with h | h
  .omega
  .rw[Tl,TI h] at hx;cases hx
 cases h with
 | refl h=>exact key _ h
 | step _ _ ho=>exact key _ ho
end Go.Proofs.Ytedjkebooffjpaa
namespace Go.AX
variable {P:Program}
def IA(P:Program)(o:Oper)(ev:Operand->AV)(h:Hp)(nb:Nat)(S:OpR->Prop):Prop:=
 ∀(φ:Phi) (A:Nat->Prop) (w:World) (a:Act) (K:Act->World->Prop) (Q:Exit->Act->World->Prop),
  (∀r,A r->r<w.heap.size/\¬Mut φ h r)->(∀x,VR φ A w (ev x) (a.eval x))->HR φ A w h->(∀b,nb<=b->φ b=none)->
  (∀R v' w' φ',S R->Eff φ A w h nb R v' w' φ'->K (a.put o.dst v') w')->o.wp P a w K Q
inductive BQ (P:Program) (m:Nat) (ops:Array Oper):List Oper->St->(St->Prop)->Prop
 | nil {st:St} {k:St->Prop} (h:k st):BQ P m ops [] st k
 | one {o:Oper} {r:List Oper} {st:St} {k:St->Prop} {S:OpR->Prop} (hg:∀kk want,o.guard=some (kk,want)->∃g,(ops[kk]?).bind (·.dst)=some g/\An st.fr g = .bool want) (hop:IA P o st.ev (nth st.hp) st.hp.length S)
   (hf:∀R,S R->R.fits (nth st.hp)/\(∀b,b∈R.dead->m<=b)/\∀d,o.dst=some d->d<st.n) (h:∀R,S R->BQ P m ops r (st.app o.dst R) k):BQ P m ops (o::r) st k
 | skip {o:Oper} {r:List Oper} {st:St} {k:St->Prop} {kk g:Nat} {want:Bool} (hg:o.guard=some (kk,want)) (hk:(ops[kk]?).bind (·.dst)=some g) (hv:An st.fr g = .bool (!want)) (hd:∀d,o.dst=some d->d<st.n)
   (h:BQ P m ops r (st.app o.dst {v:=.tup []}) k):BQ P m ops (o::r) st k
theorem QV{m:Nat}{ops:Array Oper}{Q:Exit->Act->World->Prop}{A0:Nat->Prop}{n0:Nat}:∀{l:List Oper} {st:St} {k:St->Prop},BQ P m ops l st k->
  ∀{φ:Phi} {a:Act} {w:World},m<=st.hp.length->Rel A0 n0 m φ st a w->
   (∀st' φ' a' w',k st'->m<=st'.hp.length->Rel A0 n0 m φ' st' a' w'->Tr m φ st.h w φ' st'.h w'->Q .normal a' w')->wpList P ops Q l a w:=by
 intro l st k h
 induction h with
 | nil h=>intro φ a w hm hr K;exact K _ φ a w h hm hr (.refl _ _ _ _)
 | @one o r st k S hg hop hf h ih=>
  intro φ a w hm hr K
  unfold wpList
  rw[Ti (JX (φ:=φ) (A:=Ok A0 n0 φ st.h w) (w:=w) fun kk want hk=>by
   obtain⟨g,g1,g2⟩:=hg kk want hk
   exact⟨g,g1,by rw[<-g2];exact hr.slot g⟩)]
  left
  refine hop φ (Ok A0 n0 φ st.h w) w a _ _ (fun r hA=>⟨hA.2.1,hA.2.2⟩) hr.ev hr.heap hr.out fun R v' w' φ' hS he=>?_
  obtain⟨f1,f2,f3⟩:=hf R hS
  have hm':m<=(st.app o.dst R).hp.length:=by simp[St.app,Eb,Fg];omega
  obtain⟨s1,s2⟩:=hr.step hm f2 f3 f1 he
  exact ih R hS hm' s1 fun st2 φ2 a2 w2 g0 g1 g2 g3=>K st2 φ2 a2 w2 g0 g1 g2 (s2.trans g3)
 | @skip o r st k kk g want hg hk hv hd h ih=>
  intro φ a w hm hr K
  unfold wpList
  rw[Tj (by rw[LP hg hk (.inl hv) (hr.slot g)];simp)]
  have he:Eff φ (Ok A0 n0 φ st.h w) w st.h st.hp.length {v:=.tup []} undef w φ:=Eff.skip hr.out
  have hm':m<=(st.app o.dst {v:=.tup []}).hp.length:=by simp[St.app,Eb,Fg];omega
  obtain⟨s1,s2⟩:=hr.step hm (fun b hb=>by simp at hb) hd (OpR.fits_value _ _) he
  exact ih hm' s1 fun st2 φ2 a2 w2 g0 g1 g2 g3=>K st2 φ2 a2 w2 g0 g1 g2 (s2.trans g3)
set_option linter.unusedVariables false in
theorem T.opsN{m id:Nat}{ops:Array Oper}{st:St}{post:Exit->St->Prop}(h:BQ P m ops ops.toList st (post .normal)):T P m (.region id ops false) st post:=
 fun A0 n0 φ a w hm hr=>wp_region_list (QV h hm hr fun st' φ' a' w' g0 g1 g2 g3=>⟨φ',_,g0,g2,g1,g3⟩)
theorem Ai.s{o:Oper}{ev:Operand->AV}{h:Hp}{nb:Nat}{R:OpR}(hop:Ai P o ev h nb R):IA P o ev h nb (fun R'=>R'=R):=
 fun φ A w a K Q h1 h2 h3 h4 h5=>hop φ A w a K Q h1 h2 h3 h4 fun v' w' φ' he=>h5 R v' w' φ' rfl he
theorem BQ.val{m:Nat}{ops:Array Oper}{o:Oper}{r:List Oper}{n:Nat}{fr:List (Nat×AV)}{hp:List (Option Blk)}{k:St->Prop}{d:Nat}{v:AV}(hg:∀kk want,o.guard=some (kk,want)->∃g,(ops[kk]?).bind (·.dst)=some g/\An fr g = .bool want)(ho:o.dst=some d)(hd:d<n)(hop:Ai P o (St.ev ⟨n,fr,hp⟩) (nth hp) hp.length {v})(h:BQ P m ops r ⟨n,(d,v)::fr,hp⟩ k):BQ P m ops (o::r) ⟨n,fr,hp⟩ k:=by
 refine .one hg hop.s (fun R' e=>by subst e;exact⟨OpR.fits_value _ _,fun b hb=>by simp at hb,fun d' h'=>by rw[ho] at h';cases h';exact hd⟩) (fun R' e=>?_)
 subst e
 have e:St.app ⟨n,fr,hp⟩ o.dst {v}=⟨n,(d,v)::fr,hp⟩:=by
  unfold St.app;rw[ho];simp only[put,GH,Bq,List.append_nil]
 rw[e];exact h
theorem BQ.skp{m:Nat}{ops:Array Oper}{o:Oper}{r:List Oper}{n:Nat}{fr:List (Nat×AV)}{hp:List (Option Blk)}{k:St->Prop}{d kk g:Nat}{want:Bool}(hg:o.guard=some (kk,want))(hk:(ops[kk]?).bind (·.dst)=some g)(hv:An fr g = .bool (!want))(ho:o.dst=some d)(hd:d<n)(h:BQ P m ops r ⟨n,(d,.tup [])::fr,hp⟩ k):BQ P m ops (o::r) ⟨n,fr,hp⟩ k:=by
 refine .skip hg hk hv (fun d' h'=>by rw[ho] at h';cases h';exact hd) ?_
 have e:St.app ⟨n,fr,hp⟩ o.dst {v:=.tup []}=⟨n,(d,.tup [])::fr,hp⟩:=by
  unfold St.app;rw[ho];simp only[put,GH,Bq,List.append_nil]
 rw[e];exact h
theorem BQ.new{m:Nat}{ops:Array Oper}{o:Oper}{r:List Oper}{n:Nat}{fr:List (Nat×AV)}{hp:List (Option Blk)}{k:St->Prop}{d:Nat}{v:AV}{blk:Blk}(hg:∀kk want,o.guard=some (kk,want)->∃g,(ops[kk]?).bind (·.dst)=some g/\An fr g = .bool want)(ho:o.dst=some d)(hd:d<n)(hop:Ai P o (St.ev ⟨n,fr,hp⟩) (nth hp) hp.length {v,new:=[blk]})(h:BQ P m ops r ⟨n,(d,v)::fr,hp++[some blk]⟩ k):BQ P m ops (o::r) ⟨n,fr,hp⟩ k:=by
 refine .one hg hop.s (fun R' e=>by subst e;exact⟨⟨fun b blk hm=>by simp at hm,fun b hm=>by simp at hm⟩,fun b hb=>by simp at hb,fun d' h'=>by rw[ho] at h';cases h';exact hd⟩) (fun R' e=>?_)
 subst e
 have e:St.app ⟨n,fr,hp⟩ o.dst {v,new:=[blk]}=⟨n,(d,v)::fr,hp++[some blk]⟩:=by
  unfold St.app;rw[ho];simp only[put,GH,Bq]
 rw[e];exact h
theorem noG{ops:Array Oper}{o:Oper}{fr:List (Nat×AV)}(h:o.guard=none):∀kk want,o.guard=some (kk,want)->∃g,(ops[kk]?).bind (·.dst)=some g/\An fr g = .bool want:=fun kk want e=>by rw[h] at e;cases e
theorem isG{ops:Array Oper}{o:Oper}{fr:List (Nat×AV)}{kk g:Nat}{want:Bool}(h:o.guard=some (kk,want))(hk:(ops[kk]?).bind (·.dst)=some g)(hv:An fr g = .bool want):∀kk want,o.guard=some (kk,want)->∃g,(ops[kk]?).bind (·.dst)=some g/\An fr g = .bool want:=fun kk' want' e=>by
 rw[h] at e;cases e;exact⟨g,hk,hv⟩
theorem R7{w:World}(t ty e:TypeId)(i:TypeInfo)(ht:P.underlying t=some (.slice e))(hi:P.info? e=some i)
  (g o sLen sCap:Nat) (cur:Array Value) (T:TypeId) (hg:w.heap[g]?=some (.cells cur T (0,0)))
  (ao:Option Addr) (m c:Nat) (news:List Value) (hl:news.length=m * i.size) (hao:ao=none->m=0/\c=0) (hnews:∀ad,ao=some ad->∀(j:Nat) u,news[j]?=some u->w.cell? (ad.add j)=some u)
  (h1:∀u∈news,u.oneCell'=true) (hroom:sLen+m<=sCap) (hfit:(o+sLen * i.size)+news.length<=cur.size):
  (Builtin.append_ #[t,t] ty #[.slice (some ⟨g,o,none⟩) sLen sCap,.slice ao m c]).run P w =
   .ok (.slice (some ⟨g,o,none⟩) (sLen+m) sCap) (w.setRow g (cur.toList.take (o+sLen * i.size)++news++cur.toList.drop ((o+sLen * i.size)+news.length)).toArray):=by
 have hst:=run_storeCells_at P g (o+sLen * i.size) T news 0 cur w hg (by simpa using hfit) h1
 simp only[S8] at hst
 have hf:(Builtin.firstCells i.size m (.slice ao m c)).run P w = .ok news.toArray w:=by
  cases ao with
  | none=>
   obtain⟨rfl,rfl⟩:=hao rfl
   have:news=[]:=List.eq_nil_of_length_eq_zero (by simpa using hl)
   subst this
   exact run_firstCells_none w i.size 0 0 0
  | some ad=>exact run_firstCells_some (P:=P) w i.size m ad m c news hl (hnews ad rfl)
 simp[Builtin.append_,run_underlying ht,sizeOf,typeInfo,hi,Builtin.lenOf,hroom,hf,Addr.add_lit,hst]
def JO(nb b i z:Nat)(es src:List AV)(flat:Bool)(R:OpR):Prop:=
 ∃es' i',i'<=es'.length/\es'.drop i'=es.drop i++src/\es'.length<=es.length+src.length/\R={v:=.sl nb i' (es'.length-i'),dead:=[b],new:=[{es:=es',z,flat}]}
theorem SL{o:Oper}{ev:Operand->AV}{h:Hp}{nb:Nat}{t:TypeId}{x y:Operand}{e:AV}{z by_ b i n:Nat}{src:List AV}{blk:Blk}{flat:Bool}
  (ho:o.op = .call {callee:=.builtin .append,args:=#[x,y],argTypes:=#[t,t]}) (ht:CH P t=some (e,z,by_))
  (hx:ev x = .sl b i n) (hbl:h b=some blk) (hbz:blk.z=z) (hwr:blk.wr=true) (hin:i+n=blk.es.length)
  (hy:C4 h (ev y)=some src) (hf:CE h z (ev y)) (hpl:0<src.length) (h63:blk.es.length+src.length<=9223372036854775807) (hb:(blk.es.length+src.length) * by_<=140737488355328) (hfl:(blk.flat&&BF h (ev y))=flat):
  IA P o ev h nb (JO nb b i z blk.es src flat):=by
 intro φ A w ac K Q hA hv hh hn k
 obtain⟨el,inf,zv,hu,hi,hz,rfl,hsz,hby,hkn,hzl,hone,hpos⟩:=FT ht
 obtain⟨ao,c,news,hvy,hrow,hao,hnews⟩:=Src.of hh hy hf (hv y) hpos
 have hnl:news.length=src.length * inf.size:=by rw[hrow.len,hsz]
 have h1s:=hrow.one hpos
 have hzs:zv.cells.size=z:=by
  have:=((VR.imm (φ:=φ) (A:=A) (w:=w) _ _ (RT.absV zv)).cr hkn).1
  simp at this;omega
 have hsf:=I1 hh hy (hv y)
 have wrap:∀(R:OpR) (r:Value) (w':World) (φ':Phi),JO nb b i z blk.es src flat R->(Builtin.append_ #[t,t] o.type #[ac.eval x,.slice ao src.length c]).run P w = .ok r w'->
   Eff φ A w h nb R r w' φ'->o.wp P ac w K Q:=by
  intro R r w' φ' hR hr he
  unfold Oper.wp
  have hex:(execOp ac.eval o).run P w = .ok (.value r) w':=by
   rw[<-hvy] at hr
   generalize ac.eval=ρ at *
   simp[execOp,ho,resolve,invoke,builtin,hr]
  rw[hex]
  exact k R r w' φ' hR he
 have hzero:∀n,(Builtin.zeroCells zv.cells n).toList.length=n * z:=by intro n;simp[size_zeroCells,hzs]
 have hne:ao≠none:=fun h0=>by have:=(hao h0).1;rw[this] at hpl;exact absurd hpl (Nat.lt_irrefl _)
 obtain⟨ad,rfl⟩:=Option.ne_none_iff_exists'.1 hne
 have hdt:(blk.es.drop i).take n=blk.es.drop i:=by rw[List.take_of_length_le];rw[S9];omega
 have hdl:(blk.es.drop i).length=n:=by rw[S9];omega
 have hfl2:flat=true->BL (blk.es++src):=by
  intro hf e' he'
  rw[<-hfl] at hf
  simp only[Tu] at hf
  rcases TR.1 he' with hm | hm
  .exact hh.flat b blk hbl hf.1 e' hm
  .exact hsf hf.2 e' hm
 have hfl3:flat=true->BL (blk.es.drop i++src):=fun hf e' he'=>hfl2 hf e' (by
  rcases TR.1 he' with hm | hm
  .exact List.mem_append_left _ (List.mem_of_mem_drop hm)
  .exact List.mem_append_right _ hm)
 have mkQ:JO nb b i z blk.es src flat {v:=.sl nb 0 ((blk.es.drop i++src).length),dead:=[b],new:=[{es:=blk.es.drop i++src,z,flat}]}:=
  ⟨blk.es.drop i++src,0,Ty _,rfl,by simp only[TF,S9];omega,rfl⟩
 have hql:(blk.es.drop i++src).length=n+src.length:=by rw[TF,hdl]
 -- a new row
 have grown:∀(a:Option Addr) (cap:Nat) (us:List Value),ac.eval x = .slice a n cap->Row φ A w z (blk.es.drop i) us->(a=none->n=0/\cap=0/\us=[])->(∀ad,a=some ad->∀(j:Nat) u,us[j]?=some u->w.cell? (ad.add j)=some u)->¬n+src.length<=cap->o.wp P ac w K Q:=by
  intro a cap us he hrx ha hus hroom
  have hboth:=hrx.append hrow
  have hge:=grownCap_ge w (n+src.length) cap el
  have hrun:(Builtin.append_ #[t,t] o.type #[ac.eval x,.slice (some ad) src.length c]).run P w = .ok (.slice (some ⟨w.heap.size,0,none⟩) (n+src.length) (grownCap w (n+src.length) cap el))
    (w.drew.alloc (.cells (us.toArray++news.toArray++Builtin.zeroCells zv.cells (grownCap w (n+src.length) cap el-(n+src.length))) el)):=by
   rw[he]
   cases a with
   | none=>
    obtain⟨rfl,rfl,rfl⟩:=ha rfl
    have:=run_append_nil w t o.type el inf zv hu hi hz ad src.length c news hnl (hnews ad rfl) (by omega) (by omega) (by rw[hby];have:=TC by_ (Nat.le_add_left src.length blk.es.length);omega)
    simpa using this
   | some a'=>
    exact run_append_grow (P:=P) w t o.type el inf zv hu hi hz a' n cap us (by rw[hrx.len,hdl,hsz]) (hus a' rfl) ad src.length c news hnl (hnews ad rfl) (by omega) (by omega) (growslice_fits (by omega) (by rw[hby];exact T4 (TC by_ (by omega)) hb))
  refine wrap _ _ _ (upd φ nb (w.heap.size,z)) mkQ hrun ?_
  have:=Eff.grow (dead:=[b]) (T:=el) (n:=n+src.length) (cap:=grownCap w (n+src.length) cap el) (flat:=flat) hfl3 (extra:=(Builtin.zeroCells zv.cells (grownCap w (n+src.length) cap el-(n+src.length))).toList) hA hn hboth
   hql.symm hge (by rw[hzero,hboth.len,hql,Nat.sub_mul];have:=TC z hge;omega)
  rw[List.append_toArray,Ie,hql]
  exact this
 have h0:=hv x;rw[hx] at h0
 rcases h0.sl_inv with ⟨hn0,a,he⟩ | ⟨r,z',cap,hφ,hnc,hrw,he⟩
 .subst hn0
  have hd0:blk.es.drop i=[]:=List.eq_nil_of_length_eq_zero hdl
  exact grown a 0 [] he (by rw[hd0];exact⟨by simp,fun i e he=>by simp at he⟩) (fun _=>⟨rfl,rfl,rfl⟩) (fun _ _ j u hu=>by simp at hu) (by omega)
 .obtain⟨hzz,hmpn,cs,T,hr,hsz',hrow'⟩:=hh.row hbl hφ (.inl (hh.zpos hbl hφ (by omega)))
  have hz':z'=z:=by omega
  subst hz'
  have hrc:(i+cap) * z'<=cs.size:=by have:=hrw;unfold Ba at this;rw[hr] at this;exact this
  by_cases hroom:n+src.length<=cap
  .have hboth:=hrow'.append hrow
   have hpos2:i * z'+n * inf.size=blk.es.length * z':=by rw[hsz,<-S3,hin]
   have hfit:(i * z'+n * inf.size)+news.length<=cs.size:=by
    rw[hpos2,hnl,hsz,<-S3];exact T4 (TC z' (by omega)) hrc
   have hrun:=R7 (P:=P) (w:=w) t o.type el inf hu hi r (i * z') n cap cs T hr (some ad) src.length c news hnl (fun h0=>by cases h0) hnews h1s hroom hfit
   rw[hpos2] at hrun hfit
   have hcs':cs.size=(cs.toList.take (blk.es.length * z')++news++cs.toList.drop (blk.es.length * z'+news.length)).toArray.size:=by simp;omega
   let φ':Phi:=fun b'=>if b'=nb then some (r,z') else φ b'
   have hbn:b<nb:=by
    rcases Uh b nb with h1 | h1
    .exact h1
    .rw[hn b h1] at hφ;cases hφ
   have hφ':∀b x,φ b=some x->φ' b=some x:=fun b' x hb'=>by
    simp only[φ'];split
    .rename_i he;subst he;rw[hn b' (Tx _)] at hb';cases hb'
    .exact hb'
   have hother:∀q,q≠r->(w.setRow r (cs.toList.take (blk.es.length * z')++news++cs.toList.drop (blk.es.length * z'+news.length)).toArray).heap[q]?=w.heap[q]?:=fun q hq=>setRow_other w r q _ hq
   have hAr:∀q,A q->q≠r:=fun q hq he'=>(hA q hq).2 ⟨b,blk,z',hbl,hwr,by rw[he'];exact hφ⟩
   have hrs:=IS w r cs _ T _ hr hcs'
   refine wrap {v:=.sl nb i ((blk.es++src).length-i),dead:=[b],new:=[{es:=blk.es++src,z:=z',flat}]} _ _ φ' ⟨blk.es++src,i,by simp only[TF];omega,by rw[List.drop_append_of_le_length (by omega)],by simp,rfl⟩ (by rw[he];exact hrun) ?_
   refine⟨⟨rfl,rfl,rfl,by simp,fun q _ hq=>hother q fun he'=>hq ⟨b,z',.inl (by simp),by rw[he'];exact hφ⟩,hrs⟩,fun b' hb'=>?_,fun b' hb'=>?_,fun b' q z1 hb' h1=>?_,fun b1 b2 q z1 z2 hb1 hb2 h1 h2=>?_,?_,fun b' blk' hm=>by simp at hm,fun blk' hm=>by simp at hm;subst hm;exact hfl2,fun b' blk' hm=>by simp at hm,fun k' blk' hk=>?_⟩
   .simp only[φ'];rw[Tj (by omega)]
   .simp at hb';simp only[φ'];rw[Tj (by omega)];exact hn b' (by omega)
   .simp only[φ'] at h1
    split at h1
    .simp at h1;right;exact⟨b,z',blk,by simp,hbl,hwr,by rw[<-h1.1];exact hφ⟩
    .rw[hn b' hb'] at h1;cases h1
   .simp only[φ'] at h1 h2
    by_cases e1:b1=nb
    .by_cases e2:b2=nb
     .omega
     .rw[Tj e2,hn b2 hb2] at h2;cases h2
    .rw[Tj e1,hn b1 hb1] at h1;cases h1
   .have:=VR.sl (φ:=φ') (A:=Bp A φ' nb w (w.setRow r (cs.toList.take (blk.es.length * z')++news++cs.toList.drop (blk.es.length * z'+news.length)).toArray))
     (w:=w.setRow r (cs.toList.take (blk.es.length * z')++news++cs.toList.drop (blk.es.length * z'+news.length)).toArray) nb i (n+src.length) r z' cap (by simp[φ']) hroom (T4 hrw (hrs r))
    rw[show (blk.es++src).length-i=n+src.length by simp only[TF];omega]
    exact this
   .match k',hk with
    | 0,hk=>
     simp at hk;subst hk
     refine .inr (.inl ⟨r,_,T,by simp[φ'],setRow_heap w r cs _ T _ hr,⟨?_,rfl⟩,fun q e' he'=>?_⟩)
     .rw[<-hcs'];simp only[TF];rw[S3,<-hrow.len];exact hfit
     .obtain⟨hl,hc⟩:=hboth.cell q e' he'
      refine⟨hl,fun j c' hj=>?_⟩
      obtain⟨g1,u,hu',hvr⟩:=hc j c' hj
      refine⟨g1,u,?_,hvr.mono hφ' (fun _ h=>.inl h) (fun q hq=>hother q (hAr q hq)) hrs⟩
      have hlt:=(Tm.1 hu').1
      rw[List.getElem?_toArray,List.getElem?_append_left hlt];exact hu'
  .obtain⟨a,c2,us,hvx,hrx,ha,hus⟩:=Src.sl hh hbl h0 hbz (Nat.le_of_eq hin) hpos
   rw[hdt] at hrx ha hvx
   rw[hdl] at hvx
   rw[he] at hvx
   cases hvx
   exact grown _ _ us he hrx (fun h=>by cases h) hus hroom
theorem BQ.q{m:Nat}{o:Oper}{r:List Oper}{n d b i z:Nat}{fr:List (Nat×AV)}{hp:List (Option Blk)}{es src:List AV}{flat:Bool}{blk0:Blk}{k:St->Prop}{ops:Array Oper}(hg:o.guard=none)(ho:o.dst=some d)(hd:d<n)
  (hb:nth hp b=some blk0) (hw:blk0.wr=true) (hm:m<=b) (hop:IA P o (St.ev ⟨n,fr,hp⟩) (nth hp) hp.length (JO hp.length b i z es src flat))
  (h:∀es' i',i'<=es'.length->es'.drop i'=es.drop i++src->es'.length<=es.length+src.length->BQ P m ops r ⟨n,(d,.sl hp.length i' (es'.length-i'))::fr,hp.set b none++[some {es:=es',z,flat}]⟩ k):BQ P m ops (o::r) ⟨n,fr,hp⟩ k:=by
 refine .one (noG hg) hop (fun R hR=>?_) fun R hR=>?_
 .obtain⟨es',i',h1,h2,h3,rfl⟩:=hR
  exact⟨⟨fun b blk hm=>by simp at hm,fun b' hm'=>by simp at hm';subst hm';exact⟨⟨blk0,hb,hw⟩,rfl⟩⟩,fun b' hb'=>by simp at hb';subst hb';exact hm,fun d' h'=>by rw[ho] at h';cases h';exact hd⟩
 .obtain⟨es',i',h1,h2,h3,rfl⟩:=hR
  have e:St.app ⟨n,fr,hp⟩ o.dst {v:=.sl hp.length i' (es'.length-i'),dead:=[b],new:=[{es:=es',z,flat}]}=⟨n,(d,.sl hp.length i' (es'.length-i'))::fr,hp.set b none++[some {es:=es',z,flat}]⟩:=by
   unfold St.app;rw[ho];simp only[put,KR b hp 0 (Ty _),Bq,Nat.sub_zero]
  rw[e];exact h es' i' h1 h2 h3
end Go.AX
namespace Go.Proofs.Ytedjkebooffjpaa
theorem _root_.Go.AX.BQ.av{P:Program}{m:Nat}{ops:Array Oper}{o:Oper}{r:List Oper}{n d:Nat}{fr:List (Nat×AV)}{hp:List (Option Blk)}{k:St->Prop}(v:AV)(hg:o.guard=none)(ho:o.dst=some d)(hd:Nat.ble (d+1) n=true)(h:aop P o (St.ev ⟨n,fr,hp⟩) hp .no=some ({v},True))(q:BQ P m ops r ⟨n,(d,v)::fr,hp⟩ k):BQ P m ops (o::r) ⟨n,fr,hp⟩ k:=.val (noG hg) ho (TJ hd) (Cr h trivial).1 q
def bsA(m:Nat->Bool)(n:Nat):List AV:=(List.range n).map fun k=>.bool (m k)
theorem GT(m:Nat->Bool)(n:Nat):(bsA m n).length=n:=by unfold bsA;simp
theorem L5(m:Nat->Bool){n k:Nat}(h:k<n):(bsA m n)[k]?=some (.bool (m k)):=by
 unfold bsA;rw[Tw,TH h];rfl
theorem Nw(n:Nat):List.replicate n (AV.bool false)=bsA (fun _=>false) n:=by
 unfold bsA;rw[List.map_const',T5]
theorem NU(m:Nat->Bool)(n x:Nat):(bsA m n).set (0+x) (.bool true)=bsA (CN m x) n:=by
 rw[TB]
 refine List.ext_getElem? fun k=>?_
 rw[Ue,GT]
 by_cases hk:k<n
 .rw[L5 _ hk,L5 _ hk,DD]
  by_cases hx:x=k
  .subst hx;rw[Ti rfl,Ti hk,Ti rfl]
  .rw[Tj hx,Tj (fun e=>hx e.symm)]
 .rw[TI (by rw[GT];omega),TI (by rw[GT];omega)]
  split
  .rw[Tj (by omega)]
  .rfl
theorem En:tsz Try.prog 4=some (1,false):=by kernel_rfl
theorem D7:BG Try.prog 35=some (none,1):=by kernel_rfl
def rqS(g:List (List Int))(s:List Bool)(i q b:Nat)(hp:List (Option Blk)):St:=⟨Try.f141.ntmps,[(0,.lst (gL g)),(1,.lst (boL s)),(7,.sl 0 0 (gL g).length),(8,.sl b i q)],hp⟩
def rqJ(g:List (List Int))(s:List Bool)(i q b:Nat)(x:Int)(k:Nat)(hp:List (Option Blk)):St:=⟨Try.f141.ntmps,[(0,.lst (gL g)),(1,.lst (boL s)),(7,.sl 0 0 (gL g).length),(8,.sl b i q),(9,.int .i64 x),(10,.int .i64 (k:Int))],hp⟩
structure RqI(g:List (List Int))(m:Nat->Bool)(es:List AV)(st:List Int)(i b:Nat)(hp:List (Option Blk)):Prop where
 top:nth hp 0=some (Blk.mk (bsA m g.length) 1 true true none)
 blk:nth hp b=some (Blk.mk es 1 true true none)
 pos:1<=b
 dr:es.drop i=st.map (AV.int .i64)
 siz:es.length+cUn m 24<=24
 le:i<=es.length
structure RqX where
 m:Nat->Bool
 es:List AV
 st:List Int
 i:Nat
 b:Nat
 hp:List (Option Blk)
theorem O7{n N:Nat}{es:List AV}{hp:List (Option Blk)}(h:nth hp 0=some (Blk.mk es 1 true true none))(hn:N=es.length):Ren 0 ⟨n,[(0,.sl 0 0 N)],hp⟩ ⟨n,[(0,.lst es)],[]⟩:=by
 refine Ren.of (p:=N=es.length/\True) [] [0] [0] ?_ ⟨hn,trivial⟩ rfl rfl rfl
 have e:Bc [] [0] hp 3 (.sl 0 0 N)=(.lst es,N=es.length):=by
  show(match DY [] [0] hp 0 0 N with | some x=>x | none=>(AV.unk,True))=_
  have:DY [] [0] hp 0 0 N=some (.lst es,N=es.length):=by
   unfold DY
   show(match Bg [0] 0,nth hp 0 with | true,some blk=>_ | _,_=>none)=_
   rw[h];rfl
  rw[this]
 show(match FD [] [0] hp with | some hp'=>_ | none=>none)=_
 show some _=_
 simp only[Tg,Th,AX.An,Nat.beq_refl,e,List.foldr]
theorem Pa{m:Nat->Bool}{g:List (List Int)}{es:List AV}{st:List Int}{i b:Nat}{hp:List (Option Blk)}(h:RqI g m es st i b hp):st.length=es.length-i:=by
 have:=congrArg List.length h.dr
 rw[S9,Tn] at this;exact this.symm
theorem reach_ct{g:List (List Int)}{s:List Bool}(hg:GOk g)(hs:s.length=g.length){v:Nat}(hv:v<g.length):CT Try.prog 141 [] [.lst (gL g),.lst (boL s),.int .i64 (v:Int)] [] (.lst (boL ((List.range g.length).map (mkB g s v)))):=by
 have h24:=hg.len
 have hlg:(gL g).length=g.length:=Bt g
 have hbo:boL ((List.range g.length).map (mkB g s v))=bsA (mkB g s v) g.length:=by unfold boL bsA;rw[List.map_map];rfl
 rw[hbo]
 have gsA:∀x:Nat,x<g.length->(boL s)[x]?=some (.bool (s.getD x true)):=fun x hx=>by
  unfold boL;rw[Tw,Be true (by omega)];rfl
 have hsv:=gsA v hv
 refine CT.of Try.func141 (show Try.f141.body=some (zB Try.f141) from by kernel_rfl) (nL rfl) ?_
 refine T.seq ?_
 refine T.ops (st':=?st1) ?steps1 ?post1
 case steps1=>
  refine .av (.nils) rfl rfl rfl (by kernel_rfl) ?_
  exact .nil _
 show T Try.prog 0 _ _ _
 refine T.seq ?_
 refine T.ops (st':=?st2) ?steps2 ?post2
 case steps2=>
  refine .av (.lst (gL g)) rfl rfl rfl (by kernel_rfl) ?_
  refine .av (.int .i64 (iN (gL g).length)) rfl rfl rfl (by kernel_rfl) ?_
  refine .new (v:=.sl 0 0 (gL g).length) (blk:=bK (List.replicate (gL g).length (.bool false)) 1) rfl rfl (nL rfl) (Cr (hint:=.no) (R:={v:=.sl 0 0 (gL g).length,new:=[bK (List.replicate (gL g).length (.bool false)) 1]}) (p:=0<=iN (gL g).length/\iN (gL g).length<=iN (gL g).length/\((1:Nat):Int) * iN (gL g).length<=281474976710656/\iN (gL g).length<=9223372036854775807) (by kernel_rfl) (by simp only[iN,hlg];omega)).1 ?_
  refine .av (.sl 0 0 (gL g).length) rfl rfl rfl (by kernel_rfl) ?_
  exact .nil _
 show T Try.prog 0 _ _ _
 refine T.seq (T.seq ?_)
 cases hsb:s.getD v true with
 | true=>
  refine T.ops (st':=?st3) ?steps3 ?post3
  case steps3=>
   refine .av (.lst (boL s)) rfl rfl rfl (by kernel_rfl) ?_
   refine .av (.int .i64 (v:Int)) rfl rfl rfl (by kernel_rfl) ?_
   refine .va (.iptr [.bool true]) rfl rfl rfl (DL (es:=boL s) (m:=(v:Int)) (e:=.bool true) rfl rfl rfl D7 (by omega) (by rw[Tv,hsv,hsb]) rfl) ?_
   refine .va (.bool true) rfl rfl rfl (Em rfl rfl En rfl rfl) ?_
   exact .nil _
  show T Try.prog 0 _ _ _
  refine T.cond_true rfl (T.seq ?_)
  refine T.ops (st':=?st4) ?steps4 ?post4
  case steps4=>
   refine .av (.sl 0 0 (gL g).length) rfl rfl rfl (by kernel_rfl) ?_
   refine .av (.sl 0 0 (gL g).length) rfl rfl rfl (by kernel_rfl) ?_
   exact .nil _
  show T Try.prog 0 _ _ _
  have hno:mkB g s v=fun _=>false:=by
   funext k
   refine Oc fun h=>?_
   have:s.getD v true=false:=by
    clear hsv
    induction h with
    | refl h=>exact h
    | step _ _ _ ih=>exact ih
   rw[hsb] at this;cases this
  rw[hno]
  refine T.ret ?_
  refine⟨.inr rfl,.sl 0 0 (gL g).length,⟨Try.f141.ntmps,[(0,.lst (bsA (fun _=>false) g.length))],[]⟩,rfl,O7 (by rw[<-Nw,<-hlg];rfl) (by rw[GT,hlg]),rfl,rfl,(nL rfl)⟩
 | false=>
  refine T.ops (st':=?st5) ?steps5 ?post5
  case steps5=>
   refine .av (.lst (boL s)) rfl rfl rfl (by kernel_rfl) ?_
   refine .av (.int .i64 (v:Int)) rfl rfl rfl (by kernel_rfl) ?_
   refine .va (.iptr [.bool false]) rfl rfl rfl (DL (es:=boL s) (m:=(v:Int)) (e:=.bool false) rfl rfl rfl D7 (by omega) (by rw[Tv,hsv,hsb]) rfl) ?_
   refine .va (.bool false) rfl rfl rfl (Em rfl rfl En rfl rfl) ?_
   exact .nil _
  show T Try.prog 0 _ _ _
  refine T.cond_false rfl (T.skip ?_)
  show T Try.prog 0 _ _ _
  refine T.seq ?_
  refine T.ops (st':=?st6) ?steps6 ?post6
  case steps6=>
   refine .av (.sl 0 0 (gL g).length) rfl rfl rfl (by kernel_rfl) ?_
   refine .av (.int .i64 (v:Int)) rfl rfl rfl (by kernel_rfl) ?_
   refine .va (.ptr 0 (0+v) 0) rfl rfl rfl (F1 (m:=(v:Int)) rfl rfl rfl D7 (h:=nth [some (bK (List.replicate (gL g).length (.bool false)) 1)]) rfl rfl ⟨by omega,by omega⟩) ?_
   refine .chg (v:=.unk) (blk:=bK ((List.replicate (gL g).length (bV false)).set (0+v) (.bool true)) 1) rfl rfl (b:=0) rfl rfl ?_ ?_
   rotate_left
   exact .nil _
   exact PD (x:=.tmp 22) (y:=.const (.bool true)) (e:=.bool true) (b:=0) (i:=0+v) (j:=0) (flat:=true) (blk:=bK (List.replicate (gL g).length (.bool false)) 1) rfl rfl rfl rfl En rfl rfl rfl (show 0+v<(List.replicate (gL g).length (bV false)).length by rw[TG];omega) (Tx _) rfl (fun kk c hc=>.inl (by
    match kk,hc with
    | 0,hc=>exact⟨Tx _,Nat.lt_add_one _,hc⟩)) rfl
  show T Try.prog 0 _ _ _
  refine T.seq ?_
  refine T.ops (st':=?st7) ?steps7 ?post7
  case steps7=>
   refine .av (.int .i64 (v:Int)) rfl rfl rfl (by kernel_rfl) ?_
   refine .new (v:=.sl 1 0 1) (blk:=bK [.int .i64 (v:Int)] 1) rfl rfl (nL rfl) (HM rfl (by kernel_rfl)) ?_
   refine .av (.sl 1 0 1) rfl rfl rfl (by kernel_rfl) ?_
   exact .nil _
  show T Try.prog 0 _ _ _
  refine T.seq ?_
  refine T.block ?_
  refine T.ren (st':=rqS g s 0 1 1 [some (bK ((List.replicate (gL g).length (bV false)).set (0+v) (.bool true)) 1),some (bK [.int .i64 (v:Int)] 1)]) (Ren.keys ⟨rfl,rfl,rfl,rfl,trivial⟩) ?_
  have hc0:=NX (m:=fun _=>false) (x:=v) rfl 24
  rw[Ti (by omega)] at hc0
  have h0:cUn (fun _=>false) 24=24:=by decide
  have hJ0:FdJ g s v (CN (fun _=>false) v) [(v:Int)] (fun _=>False):=by
   refine⟨fun k hk=>?_,by rw[DD,Ti rfl],fun x hx=>?_,fun u hu hn _ w hw ho=>?_,?_⟩
   .rw[DD] at hk
    split at hk
    .rename_i e;subst e;exact .refl hsb
    .cases hk
   .rw[Tb.1 hx];exact⟨by omega,by omega,by rw[Tv,DD,Ti rfl]⟩
   .rw[DD] at hu
    split at hu
    .rename_i e;subst e;exact absurd (Tb.2 rfl) hn
    .cases hu
   .show 1+cUn (CN (fun _=>false) v) 24<=24
    omega
  refine T.loop (fun X:RqX=>rqS g s X.i X.st.length X.b X.hp) (fun X=>RqI g X.m X.es X.st X.i X.b X.hp/\FdJ g s v X.m X.st (fun _=>False)) (fun X=>2 * cUn X.m 24+X.st.length) ⟨CN (fun _=>false) v,[.int .i64 (v:Int)],[(v:Int)],0,1,_⟩ ⟨⟨?_,rfl,Tx _,rfl,?_,Ty _⟩,hJ0⟩ ?_
  .show some _=_
   rw[Nw,NU,hlg]
  .show 1+cUn (CN (fun _=>false) v) 24<=24
   omega
  rintro⟨m,es,st,i,b,hp⟩ ⟨hI,hJ⟩
  simp only at hI hJ
  have hht:=Pa hI
  refine T.seq (T.seq ?_)
  refine T.ops (st':=?st8) ?steps8 ?post8
  case steps8=>
   refine .av (.sl b i st.length) rfl rfl rfl (by kernel_rfl) ?_
   refine .av (.int .i64 (iN st.length)) rfl rfl rfl (by kernel_rfl) ?_
   refine .av (.bool (decide ((0:Int)<iN st.length))) rfl rfl rfl (by kernel_rfl) ?_
   exact .nil _
  show T Try.prog 0 _ _ _
  refine T.cond_split (b:=decide ((0:Int)<iN st.length)) rfl (fun hlt=>T.skip ?_) (fun hge=>T.exit ?_)
  .have hpos:0<st.length:=by have:=of_decide_eq_true hlt;simp only[iN] at this;omega
   obtain⟨x,st1,rfl⟩:=List.exists_cons_of_length_pos hpos
   have hxe:es[i+(0:Int).toNat]?=some (.int .i64 x):=by
    have:=congrArg (fun l:List AV=>l[0]?) hI.dr
    simpa using this
   have hdr1:es.drop (i+1)=st1.map (AV.int .i64):=by
    have:=congrArg (List.drop 1) hI.dr
    rw[S6] at this
    simpa using this
   obtain⟨x0,x1,x2⟩:=hJ.stk x (List.mem_cons_self ..)
   have hxl:x.toNat<g.length:=by omega
   obtain⟨hr1,hr2⟩:=hg.row x.toNat hxl
   have hgl:=DX hxl
   generalize hrr:g.getD x.toNat []=r at hgl hr1 hr2
   show T Try.prog 0 _ _ _
   refine T.block ?_
   refine T.seq ?_
   refine T.ops (st':=?st9) ?steps9 ?post9
   case steps9=>
    refine .av (.sl b i (x::st1).length) rfl rfl rfl (by kernel_rfl) ?_
    refine .va (.ptr b (i+(0:Int).toNat) 0) rfl rfl rfl (F1 (m:=0) rfl rfl rfl M4 hI.blk rfl ⟨by omega,by omega⟩) ?_
    refine .va (.int .i64 x) rfl rfl rfl (Gw rfl rfl hI.blk hxe tsz3 rfl rfl) ?_
    refine .av (.int .i64 x) rfl rfl rfl (by kernel_rfl) ?_
    exact .nil _
   show T Try.prog 0 _ _ _
   refine T.seq ?_
   refine T.ops (st':=?st10) ?steps10 ?post10
   case steps10=>
    refine .av (.sl b i (x::st1).length) rfl rfl rfl (by kernel_rfl) ?_
    refine .va (.sl b (i+(1:Int).toNat) ((((x::st1).length:Nat):Int).toNat-(1:Int).toNat)) rfl rfl rfl (K2 (l:=1) (u:=(((x::st1).length:Nat):Int)) (m:=(((x::st1).length:Nat):Int)) rfl rfl M4 hI.blk rfl rfl rfl rfl (fun h=>by cases h) ⟨by omega,by omega,by omega,by omega⟩) ?_
    refine .av (.sl b (i+(1:Int).toNat) ((((x::st1).length:Nat):Int).toNat-(1:Int).toNat)) rfl rfl rfl (by kernel_rfl) ?_
    exact .nil _
   show T Try.prog 0 _ _ _
   refine T.seq ?_
   refine T.ops (st':=?st11) ?steps11 ?post11
   case steps11=>
    refine .av (.int .i64 0) rfl rfl rfl (by kernel_rfl) ?_
    exact .nil _
   show T Try.prog 0 _ _ _
   refine T.block ?_
   refine T.ren (st':=rqJ g s (i+1) st1.length b x 0 hp) (Ren.keys ⟨rfl,rfl,rfl,(by show AV.sl b (i+1) st1.length=AV.sl b (i+(1:Int).toNat) ((((x::st1).length:Nat):Int).toNat-(1:Int).toNat);rw[Tv,T2];rfl),rfl,rfl,trivial⟩) ?_
   refine T.loop (fun Y:Nat×RqX=>rqJ g s Y.2.i Y.2.st.length Y.2.b x Y.1 Y.2.hp) (fun Y=>Y.1<=r.length/\RqI g Y.2.m Y.2.es Y.2.st Y.2.i Y.2.b Y.2.hp/\FdJ g s v Y.2.m Y.2.st (fun u=>u=x.toNat)/\Y.2.m x.toNat=true/\(∀(j:Nat) (w:Int),j<Y.1->r[j]?=some w->s.getD w.toNat true=false->Y.2.m w.toNat=true)/\2 * cUn Y.2.m 24+Y.2.st.length<2 * cUn m 24+(x::st1).length) (fun Y=>r.length-Y.1) (0,⟨m,es,st1,i+1,b,hp⟩) ⟨Ty _,⟨hI.top,hI.blk,hI.pos,hdr1,hI.siz,by rw[T2] at hht;show i+1<=es.length;omega⟩,⟨hJ.sound,hJ.start,fun y hy=>hJ.stk y (TD _ hy),fun u hu hn hex w hw ho=>?_,?_⟩,x2,fun j w hj=>absurd hj (Ug _),?_⟩ ?_
   .refine hJ.closed u hu (fun h=>?_) (fun e=>e) w hw ho
    rcases TQ.1 h with h | h
    .exact hex (by omega)
    .exact hn h
   .have:=hJ.size;rw[T2] at this;show st1.length+cUn m 24<=24;omega
   .show 2 * cUn m 24+st1.length<2 * cUn m 24+(x::st1).length;rw[T2];omega
   rintro⟨k,⟨m2,es2,st2,i2,b2,hp2⟩⟩ ⟨hk,hI2,hJ2,hmx,hdone,hmu⟩
   simp only at hk hI2 hJ2 hmx hdone hmu
   have hht2:=Pa hI2
   refine T.seq (T.seq ?_)
   refine T.ops (st':=?st12) ?steps12 ?post12
   case steps12=>
    refine .av (.int .i64 (k:Int)) rfl rfl rfl (by kernel_rfl) ?_
    refine .av (.lst (gL g)) rfl rfl rfl (by kernel_rfl) ?_
    refine .av (.int .i64 x) rfl rfl rfl (by kernel_rfl) ?_
    refine .va (.iptr [lI r]) rfl rfl rfl (DL (es:=gL g) (m:=x) (e:=lI r) rfl rfl rfl OL (by omega) hgl rfl) ?_
    refine .va (lI r) rfl rfl rfl (Em rfl rfl tsz22 rfl rfl) ?_
    refine .av (.int .i64 (iN (r.map (AV.int .i64)).length)) rfl rfl rfl (by kernel_rfl) ?_
    refine .av (.bool (decide ((k:Int)<iN (r.map (AV.int .i64)).length))) rfl rfl rfl (by kernel_rfl) ?_
    exact .nil _
   show T Try.prog 0 _ _ _
   refine T.cond_split (b:=decide ((k:Int)<iN (r.map (AV.int .i64)).length)) rfl (fun hlt1=>T.skip ?_) (fun hge1=>T.exit ?_)
   .have hkl:k<r.length:=by have:=of_decide_eq_true hlt1;simp only[iN,Tn] at this;omega
    have hwk:r[k]?=some (r.getD k 0):=Be 0 hkl
    have hwm:r.getD k 0∈r:=Tp hwk
    generalize hwd:r.getD k 0=w at hwk hwm
    obtain⟨w0,w1⟩:=hr2 w hwm
    have hwl:w.toNat<g.length:=by omega
    have hsw:=gsA w.toNat hwl
    have hmw:=L5 m2 hwl
    show T Try.prog 0 _ _ _
    refine T.seq ?_
    refine T.block ?_
    refine T.seq ?_
    refine T.ops (st':=?st13) ?steps13 ?post13
    case steps13=>
     refine .av (.lst (gL g)) rfl rfl rfl (by kernel_rfl) ?_
     refine .av (.int .i64 x) rfl rfl rfl (by kernel_rfl) ?_
     refine .va (.iptr [lI r]) rfl rfl rfl (DL (es:=gL g) (m:=x) (e:=lI r) rfl rfl rfl OL (by omega) hgl rfl) ?_
     refine .va (lI r) rfl rfl rfl (Em rfl rfl tsz22 rfl rfl) ?_
     refine .av (.int .i64 (k:Int)) rfl rfl rfl (by kernel_rfl) ?_
     refine .va (.iptr [.int .i64 w]) rfl rfl rfl (DL (es:=r.map (AV.int .i64)) (m:=(k:Int)) (e:=.int .i64 w) rfl rfl rfl M4 (by omega) (by rw[Tv,Tw,hwk];rfl) rfl) ?_
     refine .va (.int .i64 w) rfl rfl rfl (Em rfl rfl tsz3 rfl rfl) ?_
     refine .av (.int .i64 w) rfl rfl rfl (by kernel_rfl) ?_
     exact .nil _
    show T Try.prog 0 _ _ _
    refine T.seq ?_
    cases hso:s.getD w.toNat true with
    | true=>
     refine T.opsN ?_
     refine .av (.lst (boL s)) rfl rfl rfl (by kernel_rfl) ?_
     refine .av (.int .i64 w) rfl rfl rfl (by kernel_rfl) ?_
     refine .val (v:=.iptr [.bool true]) (noG rfl) rfl (nL rfl) (DL (es:=boL s) (m:=w) (e:=.bool true) rfl rfl rfl D7 (by omega) (by rw[hsw,hso]) rfl) ?_
     refine .val (v:=.bool true) (noG rfl) rfl (nL rfl) (Em rfl rfl En rfl rfl) ?_
     refine .av (.bool false) rfl rfl rfl (by kernel_rfl) ?_
     refine .av (.bool false) rfl rfl rfl (by kernel_rfl) ?_
     refine .skp (kk:=5) (g:=54) (want:=true) rfl rfl rfl rfl (nL rfl) ?_
     refine .skp (kk:=5) (g:=54) (want:=true) rfl rfl rfl rfl (nL rfl) ?_
     refine .skp (kk:=5) (g:=54) (want:=true) rfl rfl rfl rfl (nL rfl) ?_
     refine .skp (kk:=5) (g:=54) (want:=true) rfl rfl rfl rfl (nL rfl) ?_
     refine .skp (kk:=5) (g:=54) (want:=true) rfl rfl rfl rfl (nL rfl) ?_
     refine .av (.bool false) rfl rfl rfl (by kernel_rfl) ?_
     refine .nil ?_
     show T Try.prog 0 _ _ _
     refine T.cond_false rfl (T.skip ?_)
     show T Try.prog 0 _ _ _
     refine T.ops (st':=?st14) ?steps14 ?post14
     case steps14=>
      refine .av (.int .i64 (k:Int)) rfl rfl rfl (by kernel_rfl) ?_
      refine .av (.int .i64 (i64.wrap ((k:Int)+1))) rfl rfl rfl (by kernel_rfl) ?_
      refine .av (.int .i64 (i64.wrap ((k:Int)+1))) rfl rfl rfl (by kernel_rfl) ?_
      exact .nil _
     show ∃j,_
     refine⟨(k+1,⟨m2,es2,st2,i2,b2,hp2⟩),Ren.keys ⟨rfl,rfl,rfl,rfl,rfl,(by show AV.int .i64 ((k+1:Nat):Int)=AV.int .i64 (i64.wrap ((k:Int)+1));rw[zW k (by omega)]),trivial⟩,⟨hkl,hI2,hJ2,hmx,fun j w' hj hw' ho=>?_,hmu⟩,by show r.length-(k+1)<r.length-k;omega⟩
     .by_cases hjk:j=k
      .subst hjk;rw[hwk] at hw';cases hw';rw[hso] at ho;cases ho
      .exact hdone j w' (by omega) hw' ho
    | false=>
     cases hmv:m2 w.toNat with
     | true=>
      rw[hmv] at hmw
      refine T.opsN ?_
      refine .av (.lst (boL s)) rfl rfl rfl (by kernel_rfl) ?_
      refine .av (.int .i64 w) rfl rfl rfl (by kernel_rfl) ?_
      refine .val (v:=.iptr [.bool false]) (noG rfl) rfl (nL rfl) (DL (es:=boL s) (m:=w) (e:=.bool false) rfl rfl rfl D7 (by omega) (by rw[hsw,hso]) rfl) ?_
      refine .val (v:=.bool false) (noG rfl) rfl (nL rfl) (Em rfl rfl En rfl rfl) ?_
      refine .av (.bool true) rfl rfl rfl (by kernel_rfl) ?_
      refine .av (.bool true) rfl rfl rfl (by kernel_rfl) ?_
      refine .val (v:=.sl 0 0 (gL g).length) (isG (kk:=5) (g:=54) rfl rfl rfl) rfl (nL rfl) (Cr (hint:=.no) (R:={v:=.sl 0 0 (gL g).length}) (p:=True) (by kernel_rfl) trivial).1 ?_
      refine .val (v:=.int .i64 w) (isG (kk:=5) (g:=54) rfl rfl rfl) rfl (nL rfl) (Cr (hint:=.no) (R:={v:=.int .i64 w}) (p:=True) (by kernel_rfl) trivial).1 ?_
      refine .val (v:=.ptr 0 (0+w.toNat) 0) (isG (kk:=5) (g:=54) rfl rfl rfl) rfl (nL rfl) (F1 (m:=w) rfl rfl rfl D7 hI2.top rfl ⟨by omega,by omega⟩) ?_
      refine .val (v:=.bool true) (isG (kk:=5) (g:=54) rfl rfl rfl) rfl (nL rfl) (Gw rfl rfl hI2.top (by rw[TB];exact hmw) En rfl rfl) ?_
      refine .val (v:=.bool false) (isG (kk:=5) (g:=54) rfl rfl rfl) rfl (nL rfl) (Cr (hint:=.no) (R:={v:=.bool false}) (p:=True) (by kernel_rfl) trivial).1 ?_
      refine .av (.bool false) rfl rfl rfl (by kernel_rfl) ?_
      refine .nil ?_
      show T Try.prog 0 _ _ _
      refine T.cond_false rfl (T.skip ?_)
      show T Try.prog 0 _ _ _
      refine T.ops (st':=?st15) ?steps15 ?post15
      case steps15=>
       refine .av (.int .i64 (k:Int)) rfl rfl rfl (by kernel_rfl) ?_
       refine .av (.int .i64 (i64.wrap ((k:Int)+1))) rfl rfl rfl (by kernel_rfl) ?_
       refine .av (.int .i64 (i64.wrap ((k:Int)+1))) rfl rfl rfl (by kernel_rfl) ?_
       exact .nil _
      show ∃j,_
      refine⟨(k+1,⟨m2,es2,st2,i2,b2,hp2⟩),Ren.keys ⟨rfl,rfl,rfl,rfl,rfl,(by show AV.int .i64 ((k+1:Nat):Int)=AV.int .i64 (i64.wrap ((k:Int)+1));rw[zW k (by omega)]),trivial⟩,⟨hkl,hI2,hJ2,hmx,fun j w' hj hw' ho=>?_,hmu⟩,by show r.length-(k+1)<r.length-k;omega⟩
      .by_cases hjk:j=k
       .subst hjk;rw[hwk] at hw';cases hw';exact hmv
       .exact hdone j w' (by omega) hw' ho
     | false=>
      rw[hmv] at hmw
      refine T.opsN ?_
      refine .av (.lst (boL s)) rfl rfl rfl (by kernel_rfl) ?_
      refine .av (.int .i64 w) rfl rfl rfl (by kernel_rfl) ?_
      refine .val (v:=.iptr [.bool false]) (noG rfl) rfl (nL rfl) (DL (es:=boL s) (m:=w) (e:=.bool false) rfl rfl rfl D7 (by omega) (by rw[hsw,hso]) rfl) ?_
      refine .val (v:=.bool false) (noG rfl) rfl (nL rfl) (Em rfl rfl En rfl rfl) ?_
      refine .av (.bool true) rfl rfl rfl (by kernel_rfl) ?_
      refine .av (.bool true) rfl rfl rfl (by kernel_rfl) ?_
      refine .val (v:=.sl 0 0 (gL g).length) (isG (kk:=5) (g:=54) rfl rfl rfl) rfl (nL rfl) (Cr (hint:=.no) (R:={v:=.sl 0 0 (gL g).length}) (p:=True) (by kernel_rfl) trivial).1 ?_
      refine .val (v:=.int .i64 w) (isG (kk:=5) (g:=54) rfl rfl rfl) rfl (nL rfl) (Cr (hint:=.no) (R:={v:=.int .i64 w}) (p:=True) (by kernel_rfl) trivial).1 ?_
      refine .val (v:=.ptr 0 (0+w.toNat) 0) (isG (kk:=5) (g:=54) rfl rfl rfl) rfl (nL rfl) (F1 (m:=w) rfl rfl rfl D7 hI2.top rfl ⟨by omega,by omega⟩) ?_
      refine .val (v:=.bool false) (isG (kk:=5) (g:=54) rfl rfl rfl) rfl (nL rfl) (Gw rfl rfl hI2.top (by rw[TB];exact hmw) En rfl rfl) ?_
      refine .val (v:=.bool true) (isG (kk:=5) (g:=54) rfl rfl rfl) rfl (nL rfl) (Cr (hint:=.no) (R:={v:=.bool true}) (p:=True) (by kernel_rfl) trivial).1 ?_
      refine .av (.bool true) rfl rfl rfl (by kernel_rfl) ?_
      refine .nil ?_
      show T Try.prog 0 _ _ _
      refine T.cond_true rfl (T.seq ?_)
      refine T.ops (st':=?st16) ?steps16 ?post16
      case steps16=>
       refine .av (.sl 0 0 (gL g).length) rfl rfl rfl (by kernel_rfl) ?_
       refine .av (.int .i64 w) rfl rfl rfl (by kernel_rfl) ?_
       refine .va (.ptr 0 (0+w.toNat) 0) rfl rfl rfl (F1 (m:=w) rfl rfl rfl D7 hI2.top rfl ⟨by omega,by omega⟩) ?_
       refine .chg (v:=.unk) (blk:=bK ((bsA m2 g.length).set (0+w.toNat) (.bool true)) 1) rfl rfl hI2.top rfl ?_ ?_
       rotate_left
       exact .nil _
       exact PD (x:=.tmp 63) (y:=.const (.bool true)) (e:=.bool true) rfl rfl hI2.top rfl En rfl rfl rfl (show 0+w.toNat<(bsA m2 g.length).length by rw[GT];omega) (Tx _) rfl (fun kk c hc=>.inl (by
        match kk,hc with
        | 0,hc=>exact⟨Tx _,Nat.lt_add_one _,hc⟩)) rfl
      show T Try.prog 0 _ _ _
      have hl2:=H3 hI2.blk
      have hln1:(hp2.set 0 (some (bK ((bsA m2 g.length).set (0+w.toNat) (.bool true)) 1))).length=hp2.length:=by simp
      have hln2:((hp2.set 0 (some (bK ((bsA m2 g.length).set (0+w.toNat) (.bool true)) 1)))++[some (bK [.int .i64 w] 1)]).length=hp2.length+1:=by simp
      have hb1:nth ((hp2.set 0 (some (bK ((bsA m2 g.length).set (0+w.toNat) (.bool true)) 1)))++[some (bK [.int .i64 w] 1)]) b2=some (bK es2 1):=by rw[GY,Ti (by simp;omega),La,Tj (fun e=>by have:=hI2.pos;omega)];exact hI2.blk
      have hb2:nth ((hp2.set 0 (some (bK ((bsA m2 g.length).set (0+w.toNat) (.bool true)) 1)))++[some (bK [.int .i64 w] 1)]) hp2.length=some (bK [.int .i64 w] 1):=by rw[GY,Tj (by simp),TV,S4];rfl
      have hsiz:=hI2.siz
      refine T.opsN ?_
      refine .av (.sl b2 i2 st2.length) rfl rfl rfl (by kernel_rfl) ?_
      refine .av (.int .i64 w) rfl rfl rfl (by kernel_rfl) ?_
      refine .new (v:=.sl (hp2.set 0 (some (bK ((bsA m2 g.length).set (0+w.toNat) (.bool true)) 1))).length 0 1) (blk:=bK [.int .i64 w] 1) (noG rfl) rfl (nL rfl) (HM rfl (by kernel_rfl)) ?_
      refine .q (b:=b2) (i:=i2) (z:=1) (es:=es2) (src:=[.int .i64 w]) (flat:=true) rfl rfl (nL rfl) hb1 rfl (Ty _) ?_ fun es3 i3 e1 e2 e3=>?_
      .have hy:C4 (nth ((hp2.set 0 (some (bK ((bsA m2 g.length).set (0+w.toNat) (.bool true)) 1)))++[some (bK [.int .i64 w] 1)])) (.sl (hp2.set 0 (some (bK ((bsA m2 g.length).set (0+w.toNat) (.bool true)) 1))).length 0 1)=some [.int .i64 w]:=by unfold C4;simp only[hln1,hb2];rfl
       have hf:CE (nth ((hp2.set 0 (some (bK ((bsA m2 g.length).set (0+w.toNat) (.bool true)) 1)))++[some (bK [.int .i64 w] 1)])) 1 (.sl (hp2.set 0 (some (bK ((bsA m2 g.length).set (0+w.toNat) (.bool true)) 1))).length 0 1):=by unfold CE;simp only[hln1,hb2];exact⟨trivial,Tx _⟩
       have hsf:BF (nth ((hp2.set 0 (some (bK ((bsA m2 g.length).set (0+w.toNat) (.bool true)) 1)))++[some (bK [.int .i64 w] 1)])) (.sl (hp2.set 0 (some (bK ((bsA m2 g.length).set (0+w.toNat) (.bool true)) 1))).length 0 1)=true:=by unfold BF;simp only[hln1,hb2]
       exact SL (x:=.tmp 64) (y:=.tmp 66) (n:=st2.length) rfl zEl22 rfl hb1 rfl rfl (show i2+st2.length=es2.length by have:=hI2.le;omega) hy hf (by simp) (by show es2.length+1<=_;omega) (by show(es2.length+1) * 8<=_;omega) (by show(true&&BF _ (.sl (hp2.set 0 (some (bK ((bsA m2 g.length).set (0+w.toNat) (.bool true)) 1))).length 0 1))=true;rw[hsf];rfl)
      refine .av (.sl ((hp2.set 0 (some (bK ((bsA m2 g.length).set (0+w.toNat) (.bool true)) 1)))++[some (bK [.int .i64 w] 1)]).length i3 (es3.length-i3)) rfl rfl rfl (by kernel_rfl) ?_
      refine .nil ?_
      have hln3:es3.length-i3=(st2++[w]).length:=by
       have:=congrArg List.length e2
       rw[S9,hI2.dr,TF,Tn] at this
       rw[TF];simpa using this
      have hcu:=NX hmv 24
      rw[Ti (by omega)] at hcu
      have hup:∀u,m2 u=true->CN m2 w.toNat u=true:=fun u hu=>by rw[DD];split<;>first | rfl | exact hu
      have hwx:w.toNat≠x.toNat:=fun e=>by rw[e,hmx] at hmv;cases hmv
      have hln4:(st2++[w]).length=st2.length+1:=by simp
      have hsz2:=hJ2.size
      have e3':es3.length<=es2.length+1:=e3
      have hJ3:FdJ g s v (CN m2 w.toNat) (st2++[w]) (fun u=>u=x.toNat):=by
       refine⟨fun u hu=>?_,hup _ hJ2.start,fun y hy=>?_,fun u hu hn hex z hz ho=>?_,by omega⟩
       .rw[DD] at hu
        split at hu
        .rename_i e
         subst e
         exact .step (hJ2.sound _ hmx) (by rw[hrr,TN w0];exact hwm) hso
        .exact hJ2.sound u hu
       .rcases TR.1 hy with h | h
        .obtain⟨a,b,c⟩:=hJ2.stk y h;exact⟨a,b,hup _ c⟩
        .rw[Tb.1 h];exact⟨w0,w1,by rw[DD,Ti rfl]⟩
       .have hne:u≠w.toNat:=fun e=>hn (by rw[e,TN w0];simp)
        rw[DD,Tj hne] at hu
        exact hup _ (hJ2.closed u hu (fun h=>hn (List.mem_append_left _ h)) hex z hz ho)
      show T Try.prog 0 _ _ _
      refine T.ops (st':=?st17) ?steps17 ?post17
      case steps17=>
       refine .av (.int .i64 (k:Int)) rfl rfl rfl (by kernel_rfl) ?_
       refine .av (.int .i64 (i64.wrap ((k:Int)+1))) rfl rfl rfl (by kernel_rfl) ?_
       refine .av (.int .i64 (i64.wrap ((k:Int)+1))) rfl rfl rfl (by kernel_rfl) ?_
       exact .nil _
      show ∃j,_
      refine⟨(k+1,⟨CN m2 w.toNat,es3,st2++[w],i3,((hp2.set 0 (some (bK ((bsA m2 g.length).set (0+w.toNat) (.bool true)) 1)))++[some (bK [.int .i64 w] 1)]).length,(((hp2.set 0 (some (bK ((bsA m2 g.length).set (0+w.toNat) (.bool true)) 1)))++[some (bK [.int .i64 w] 1)]).set b2 none++[some (bK es3 1)])⟩),Ren.keys ⟨rfl,rfl,rfl,(by show AV.sl ((hp2.set 0 (some (bK ((bsA m2 g.length).set (0+w.toNat) (.bool true)) 1)))++[some (bK [.int .i64 w] 1)]).length i3 (st2++[w]).length=AV.sl ((hp2.set 0 (some (bK ((bsA m2 g.length).set (0+w.toNat) (.bool true)) 1)))++[some (bK [.int .i64 w] 1)]).length i3 (es3.length-i3);rw[hln3]),rfl,(by show AV.int .i64 ((k+1:Nat):Int)=AV.int .i64 (i64.wrap ((k:Int)+1));rw[zW k (by omega)]),trivial⟩,⟨hkl,⟨?_,?_,?_,?_,?_,e1⟩,hJ3,hup _ hmx,fun j w' hj hw' ho=>?_,?_⟩,by show r.length-(k+1)<r.length-k;omega⟩
      .show nth (((hp2.set 0 (some (bK ((bsA m2 g.length).set (0+w.toNat) (.bool true)) 1)))++[some (bK [.int .i64 w] 1)]).set b2 none++[some (bK es3 1)]) 0=_
       rw[GY,Ti (by simp),La,Tj (fun e=>by have:=hI2.pos;omega),GY,Ti (by simp;omega),La,Ti ⟨rfl,by omega⟩,NU]
      .show nth (((hp2.set 0 (some (bK ((bsA m2 g.length).set (0+w.toNat) (.bool true)) 1)))++[some (bK [.int .i64 w] 1)]).set b2 none++[some (bK es3 1)]) ((hp2.set 0 (some (bK ((bsA m2 g.length).set (0+w.toNat) (.bool true)) 1)))++[some (bK [.int .i64 w] 1)]).length=_
       rw[GY,Tj (by simp),TV,S4];rfl
      .show 1<=((hp2.set 0 (some (bK ((bsA m2 g.length).set (0+w.toNat) (.bool true)) 1)))++[some (bK [.int .i64 w] 1)]).length
       rw[hln2];omega
      .show es3.drop i3=(st2++[w]).map (AV.int .i64)
       rw[e2,hI2.dr,Tz];rfl
      .show es3.length+cUn (CN m2 w.toNat) 24<=24
       omega
      .by_cases hjk:j=k
       .subst hjk;rw[hwk] at hw';cases hw';show CN m2 w.toNat w.toNat=true;rw[DD,Ti rfl]
       .exact hup _ (hdone j w' (by omega) hw' ho)
      .show 2 * cUn (CN m2 w.toNat) 24+(st2++[w]).length<_
       omega
   .have hke:k=r.length:=by have:=of_decide_eq_false hge1;simp only[iN,Tn] at this;omega
    simp only[andThen,Dd,↓reduceIte]
    show ∃j,_
    refine⟨⟨m2,es2,st2,i2,b2,hp2⟩,Ren.keys ⟨rfl,rfl,rfl,rfl,trivial⟩,⟨hI2,⟨hJ2.sound,hJ2.start,hJ2.stk,fun u hu hn _ w hw ho=>?_,hJ2.size⟩⟩,hmu⟩
    .by_cases hux:u=x.toNat
     .subst hux
      rw[hrr] at hw
      obtain⟨j,hj⟩:=List.getElem?_of_mem hw
      have hjl:=(Tm.1 hj).1
      have:=hdone j _ (by omega) hj (by simpa using ho)
      simpa using this
     .exact hJ2.closed u hu hn hux w hw ho
  .have h0:st=[]:=by
    refine List.eq_nil_of_length_eq_zero ?_
    have:=of_decide_eq_false hge;simp only[iN] at this;omega
   subst h0
   simp only[andThen,Dd,↓reduceIte]
   show T Try.prog 0 _ _ _
   refine T.seq ?_
   refine T.ops (st':=?st18) ?steps18 ?post18
   case steps18=>
    refine .av (.sl 0 0 (gL g).length) rfl rfl rfl (by kernel_rfl) ?_
    refine .av (.sl 0 0 (gL g).length) rfl rfl rfl (by kernel_rfl) ?_
    exact .nil _
   show T Try.prog 0 _ _ _
   refine T.ret ?_
   have hend:=fd_end hJ
   refine⟨.inr rfl,.sl 0 0 (gL g).length,⟨Try.f141.ntmps,[(0,.lst (bsA (mkB g s v) g.length))],[]⟩,rfl,O7 (by rw[<-hend];exact hI.top) (by rw[GT,hlg]),rfl,rfl,(nL rfl)⟩
def rcL(g:List (List Int))(s:List Bool)(q:Int):List Bool:=(List.range g.length).map (mkB g s q.toNat)
theorem LY{g:List (List Int)}{s:List Bool}{q:Int}(hg:GOk g)(hs:s.length=g.length)(hq:0<=q/\q<(g.length:Int)):CT Try.prog 141 [] [.lst (gL g),.lst (boL s),.int .i64 q] [] (.lst (boL (rcL g s q))):=by
 obtain⟨v,rfl⟩:∃v:Nat,q=v:=⟨q.toNat,by omega⟩
 have:=reach_ct hg hs (v:=v) (by omega)
 unfold rcL;rw[Tv];exact this
def cntSt(n:Aa):Empty->St
 | x=>x.elim
def cntHd:Empty->Nat
 | x=>x.elim
def Ln(n:Aa):Option (Empty⊕Ret):=
 gu (Rows n.nx) <|
 br (!AY n)
 (some (.inr ([],AV.tup [iV 0,iV 20])))
 (gu (Ax n) <|
  some (.inr ([],AV.tup [iV (iN (Ar n)),iV 0])))
def cntStep(n:Aa):Empty->Option (Empty⊕Ret)
 | x=>x.elim
theorem cntEn_ok(n:Aa)(o:Empty⊕Ret)(h:Ln n=some o):Arr Try.prog Try.f43 0 (cntSt n) cntHd (zB Try.f43) [] {n:=Try.f43.ntmps,fr:=AA 0 ([Ad n]),hp:=([])} o:=
 Scr.ok h mix (
 .rn 0 [] [] [] [] (al (u2 t3)) <|
 .gu fun a0=>
 have c0:=SX a0;
 .rn 0 [] [] [(5,hK c0 [] [])] [] (al (u2 (aj (ak (aj t9 (al (c0)))) s2))) <|
 .br (fun a1=>
 .rt [13] [] [] [] [] [] (aj (aj a1 (al t3)) (al t3)))
 (fun a1=>
 .gu fun a2=>
 have c1:=SF a2;
 .rt [12] [] [(8,hK c1 [] [])] [] [] [] (aj (aj a1 (al (u2 (aj (ak (aj t9 (al (c1)))) (u2 t2))))) (al t3)))) (by kernel_rfl)
theorem cnt_ct(n:Aa)(r:Ret)(h:Al (cntStep n) (Ln n) r):CT Try.prog 43 ([]) ([Ad n]) r.1 r.2:=
 CT.mach (fn:=Try.f43) (c:=zB Try.f43) (S:=cntSt n) (hd:=cntHd) Try.func43 (by kernel_rfl) (nL rfl)
  (fun s o ho=>match s,ho with
   | x,_=>x.elim)
  (fun o ho=>cntEn_ok n o ho) h
def BT(n:Aa):Int:=if AY n=true then (Ar n:Int) else 0
def FP(n:Aa):Int:=if AY n=true then 0 else 20
theorem cnt_c{n:Aa}(hrw:Rows n.nx):CT Try.prog 43 [] [Ad n] [] (.tup [.int .i64 (BT n),.int .i64 (FP n)]):=by
 refine cnt_ct n ([],_) (.val ?_)
 unfold Ln BT FP
 rw[Ab hrw]
 cases hv:AY n with
 | false=>rfl
 | true=>rw[Af (by rfl),Ab (CS.1 hv)];rfl
theorem Rcv.trans{g:List (List Int)}{s:List Bool}{a b c:Nat}(h:Rcv g s a b)(k:Rcv g s b c):Rcv g s a c:=by
 induction k with
 | refl _=>exact h
 | step _ hw ho ih=>exact .step ih hw ho
theorem val_gok{g:List (List Int)}(hrw:Rows g)(h:DP g=true):GOk g:=by
 obtain⟨h1,h2⟩:=val_ok hrw h
 exact⟨h1,fun v hv=>⟨by have:=(h2 v hv).1;omega,(h2 v hv).2⟩⟩
theorem opn_lt{s:List Bool}{v:Nat}(h:s.getD v true=false):v<s.length:=by
 rcases Uh v s.length with h1 | h1
 .exact h1
 .rw[Tl,TI h1] at h;cases h
def pr1(ok:Nat->Bool)(L:Nat->Nat->Bool)(b:Nat)(mk:List Bool)(c:Nat):List Bool:=if (mk.getD c false&&ok b&&L b c)=true then mk.set b true else mk
def prB(n:Nat)(ok:Nat->Bool)(L:Nat->Nat->Bool)(mk:List Bool)(b:Nat):List Bool:=(List.range n).foldl (pr1 ok L b) mk
def prR(n:Nat)(ok:Nat->Bool)(L:Nat->Nat->Bool)(mk:List Bool):List Bool:=(List.range n).foldl (prB n ok L) mk
def prI(n:Nat)(ok:Nat->Bool)(L:Nat->Nat->Bool)(mk:List Bool):Nat->List Bool
 | 0=>mk
 | k+1=>prR n ok L (prI n ok L mk k)
section
variable {n:Nat} {ok:Nat->Bool} {L:Nat->Nat->Bool}
theorem KI{l:List Bool}{b x:Nat}:(l.set b true).getD x false=if b=x/\b<l.length then true else l.getD x false:=by
 rw[Tl,Ue,Tl]
 by_cases h:b=x
 .subst h
  by_cases hl:b<l.length
  .rw[Ti rfl,Ti hl,Ti ⟨rfl,hl⟩];rfl
  .rw[Ti rfl,Tj hl,Tj (fun e=>hl e.2),TI (by omega)]
 .rw[Tj h,Tj (fun e=>h e.1)]
structure Da(n:Nat)(ok:Nat->Bool)(L:Nat->Nat->Bool)(mk mk':List Bool):Prop where
 len:mk'.length=mk.length
 mono:∀x,mk.getD x false=true->mk'.getD x false=true
 sound:∀P:Nat->Prop,(∀b c,b<n->c<n->P c->ok b=true->L b c=true->P b)->(∀x,mk.getD x false=true->P x)->∀x,mk'.getD x false=true->P x
theorem Da.refl(mk:List Bool):Da n ok L mk mk:=⟨rfl,fun _ h=>h,fun _ _ h=>h⟩
theorem Da.trans{a b c:List Bool}(h:Da n ok L a b)(k:Da n ok L b c):Da n ok L a c:=
 ⟨k.len.trans h.len,fun x hx=>k.mono x (h.mono x hx),fun P hP ha=>k.sound P hP (h.sound P hP ha)⟩
theorem Ht{b c:Nat}(hb:b<n)(hc:c<n)(mk:List Bool):Da n ok L mk (pr1 ok L b mk c):=by
 unfold pr1
 split
 .rename_i h
  simp only[Tu] at h
  refine⟨by simp,fun x hx=>?_,fun P hP hm x hx=>?_⟩
  .rw[KI];split
   .rfl
   .exact hx
  .rw[KI] at hx
   split at hx
   .rename_i e;rw[<-e.1];exact hP b c hb hc (hm c h.1.1) h.1.2 h.2
   .exact hm x hx
 .exact .refl mk
theorem Fs{f:List Bool->Nat->List Bool}(hf:∀mk x,x<n->Da n ok L mk (f mk x)):∀(l:List Nat) (mk:List Bool),(∀x∈l,x<n)->Da n ok L mk (l.foldl f mk):=by
 intro l
 induction l with
 | nil=>intro mk _;exact .refl mk
 | cons x l ih=>intro mk hl;exact(hf mk x (hl x (List.mem_cons_self ..))).trans (ih _ fun y hy=>hl y (TD _ hy))
theorem Ik{b:Nat}(hb:b<n)(mk:List Bool):Da n ok L mk (prB n ok L mk b):=Fs (fun mk c hc=>Ht hb hc mk) _ mk fun x hx=>Uc.1 hx
theorem Ni(mk:List Bool):Da n ok L mk (prR n ok L mk):=Fs (fun mk b hb=>Ik hb mk) _ mk fun x hx=>Uc.1 hx
theorem EG(mk:List Bool):∀k,Da n ok L mk (prI n ok L mk k):=by
 intro k
 induction k with
 | zero=>exact .refl mk
 | succ k ih=>exact ih.trans (Ni _)
theorem prB_full{b c:Nat}(hb:b<n){mk:List Bool}(hl:mk.length=n)(hm:mk.getD c false=true)(ho:ok b=true)(hL:L b c=true):∀(l:List Nat),(∀x∈l,x<n)->c∈l->(l.foldl (pr1 ok L b) mk).getD b false=true:=by
 intro l
 induction l generalizing mk with
 | nil=>intro _ h;cases h
 | cons x l ih=>
  intro hx hc
  have hxn:=hx x (List.mem_cons_self ..)
  have h1:=Ht (ok:=ok) (L:=L) hb hxn mk
  rcases TQ.1 hc with rfl | hc
  .refine(Fs (n:=n) (ok:=ok) (L:=L) (fun mk c hc=>Ht hb hc mk) l _ fun y hy=>hx y (TD _ hy)).mono b ?_
   unfold pr1
   rw[Ti (by rw[hm,ho,hL];rfl),KI,Ti ⟨rfl,by omega⟩]
  .exact ih (by rw[h1.len];exact hl) (h1.mono c hm) (fun y hy=>hx y (TD _ hy)) hc
theorem prR_full{b c:Nat}(hb:b<n)(hc:c<n)(ho:ok b=true)(hL:L b c=true):∀(l:List Nat) (mk:List Bool),(∀x∈l,x<n)->mk.length=n->mk.getD c false=true->b∈l->(l.foldl (prB n ok L) mk).getD b false=true:=by
 intro l
 induction l with
 | nil=>intro _ _ _ _ h;cases h
 | cons x l ih=>
  intro mk hx hl hm hbl
  have h1:=Ik (ok:=ok) (L:=L) (hx x (List.mem_cons_self ..)) mk
  rcases TQ.1 hbl with rfl | hbl
  .exact(Fs (n:=n) (ok:=ok) (L:=L) (fun mk b hb=>Ik hb mk) l _ fun y hy=>hx y (TD _ hy)).mono b (prB_full hb hl hm ho hL _ (fun y hy=>Uc.1 hy) (Uc.2 hc))
  .exact ih _ (fun y hy=>hx y (TD _ hy)) (by rw[h1.len];exact hl) (h1.mono c hm) hbl
def Clsd(n:Nat)(ok:Nat->Bool)(L:Nat->Nat->Bool)(mk:List Bool):Prop:=∀b c,b<n->c<n->mk.getD c false=true->ok b=true->L b c=true->mk.getD b false=true
theorem cUn_mono{m m':Nat->Bool}(h:∀x,m x=true->m' x=true):∀n,cUn m' n<=cUn m n/\(cUn m' n=cUn m n->∀x,x<n->m' x=true->m x=true):=by
 intro n
 induction n with
 | zero=>exact⟨Tx _,fun _ x hx=>absurd hx (Ug _)⟩
 | succ n ih=>
  unfold cUn
  have hn:=h n
  cases h1:m n with
  | true=>
   rw[hn h1]
   refine⟨by simpa using ih.1,fun e x hx hm=>?_⟩
   by_cases hxn:x=n
   .subst hxn;exact h1
   .exact ih.2 (by simpa using e) x (by omega) hm
  | false=>
   cases h2:m' n with
   | true=>
    refine⟨by have:=ih.1;simp;omega,fun e=>?_⟩
    have:=ih.1
    simp at e
    omega
   | false=>
    refine⟨by have:=ih.1;simp;omega,fun e x hx hm=>?_⟩
    by_cases hxn:x=n
    .subst hxn;rw[h2] at hm;cases hm
    .exact ih.2 (by simpa using e) x (by omega) hm
theorem prI_cls{mk:List Bool}(hl:mk.length=n):∀k,Clsd n ok L (prI n ok L mk k)\/cUn (fun x=>(prI n ok L mk k).getD x false) n+k<=n:=by
 intro k
 induction k with
 | zero=>right;exact cUn_le _ n
 | succ k ih=>
  have hlen:=(EG (n:=n) (ok:=ok) (L:=L) mk k).len
  have hs:=Ni (n:=n) (ok:=ok) (L:=L) (prI n ok L mk k)
  have hfull:∀b c,b<n->c<n->(prI n ok L mk k).getD c false=true->ok b=true->L b c=true->(prI n ok L mk (k+1)).getD b false=true:=fun b c hb hc hm ho hL=>
   prR_full hb hc ho hL _ _ (fun x hx=>Uc.1 hx) (by rw[hlen,hl]) hm (Uc.2 hb)
  by_cases hc:Clsd n ok L (prI n ok L mk k)
  .left
   have same:∀x,(prI n ok L mk (k+1)).getD x false=true->(prI n ok L mk k).getD x false=true:=
    hs.sound (fun x=>(prI n ok L mk k).getD x false=true) (fun b c hb hc' hp ho hL=>hc b c hb hc' hp ho hL) (fun x h=>h)
   intro b c hb hc' hm ho hL
   exact hfull b c hb hc' (same c hm) ho hL
  .right
   have hk:=ih.resolve_left hc
   obtain⟨h1,h2⟩:=cUn_mono (m:=fun x=>(prI n ok L mk k).getD x false) (m':=fun x=>(prI n ok L mk (k+1)).getD x false) hs.mono n
   have hne:cUn (fun x=>(prI n ok L mk (k+1)).getD x false) n≠cUn (fun x=>(prI n ok L mk k).getD x false) n:=fun e=>hc fun b c hb hc' hm ho hL=>h2 e b hb (hfull b c hb hc' hm ho hL)
   omega
theorem cUn_zero{m:Nat->Bool}:∀n,cUn m n=0->∀x,x<n->m x=true:=by
 intro n
 induction n with
 | zero=>intro _ x hx;exact absurd hx (Ug _)
 | succ n ih=>
  intro h x hx
  unfold cUn at h
  cases hm:m n with
  | false=>rw[hm] at h;simp at h
  | true=>
   by_cases hxn:x=n
   .subst hxn;exact hm
   .exact ih (by rw[hm] at h;simpa using h) x (by omega)
theorem NE{mk:List Bool}(hl:mk.length=n){b:Nat}:(prI n ok L mk n).getD b false=true↔∀P:Nat->Prop,(∀x,mk.getD x false=true->P x)->(∀b c,b<n->c<n->P c->ok b=true->L b c=true->P b)->P b:=by
 have hs:=EG (n:=n) (ok:=ok) (L:=L) mk n
 constructor
 .intro h P h1 h2;exact hs.sound P h2 h1 b h
 .intro h
  refine h (fun x=>(prI n ok L mk n).getD x false=true) hs.mono fun b c hb hc hp ho hL=>?_
  rcases prI_cls (ok:=ok) (L:=L) hl n with hcl | hcl
  .exact hcl b c hb hc hp ho hL
  .exact cUn_zero (m:=fun x=>(prI n ok L mk n).getD x false) n (by omega) b hb
end
theorem I9{cl:List Bool}{n x:Nat}(h:(cl.take n).getD x true=false):x<n/\cl.getD x true=false:=by
 have hl:=opn_lt h
 rw[TP] at hl
 refine⟨by omega,?_⟩
 rw[Tl,TE,Ti (by omega),<-Tl] at h
 exact h
theorem Jw{cl:List Bool}{n x:Nat}(hx:x<n)(h:cl.getD x true=false):(cl.take n).getD x true=false:=by
 rw[Tl,TE,Ti hx,<-Tl];exact h
def mk0(n:Nat)(sh:List Bool):List Bool:=(List.range n).map fun b=> !(sh.getD b true)
theorem Hi(n:Nat)(sh:List Bool):(mk0 n sh).length=n:=by unfold mk0;simp
theorem I4{n:Nat}{sh:List Bool}{x:Nat}:(mk0 n sh).getD x false=true↔x<n/\sh.getD x true=false:=by
 unfold mk0
 rw[Tl,Tw]
 by_cases h:x<n
 .rw[TH h]
  constructor
  .intro e;exact⟨h,by simpa using e⟩
  .intro e;simpa using e.2
 .rw[TI (by rw[T5];omega)]
  constructor
  .intro e;cases e
  .intro e;exact absurd e.1 h
def okC(cl:List Bool)(b:Nat):Bool:= !(cl.getD b true)
def Bx(g:List (List Int))(b c:Nat):Bool:=(g.getD b []).contains (c:Int)
def Bu(g:List (List Int))(b c:Nat):Bool:=(g.getD c []).contains (b:Int)
theorem RH{g:List (List Int)}{cl sh:List Bool}{n b:Nat}(hsub:∀x,x<n->sh.getD x true=false->cl.getD x true=false):
  (prI n (okC cl) (Bx g) (mk0 n sh) n).getD b false=true↔∃x,x<n/\sh.getD x true=false/\Rcv g (cl.take n) b x:=by
 rw[NE (Hi n sh)]
 constructor
 .intro h
  refine h (fun b=>∃x,x<n/\sh.getD x true=false/\Rcv g (cl.take n) b x) (fun x hx=>?_) fun b c hb hc hp ho hL=>?_
  .obtain⟨h1,h2⟩:=I4.1 hx
   exact⟨x,h1,h2,.refl (Jw h1 (hsub x h1 h2))⟩
  .obtain⟨x,h1,h2,h3⟩:=hp
   unfold okC at ho
   unfold Bx at hL
   refine⟨x,h1,h2,(Rcv.step (.refl (Jw hb (by simpa using ho))) (by simpa using hL) ?_).trans h3⟩
   clear hb ho hL
   have:∀{u w:Nat},Rcv g (cl.take n) u w->(cl.take n).getD u true=false:=fun h=>by
    induction h with
    | refl h=>exact h
    | step _ _ _ ih=>exact ih
   exact this h3
 .rintro⟨x,h1,h2,h3⟩ P hP hC
  have key:∀{u w:Nat},Rcv g (cl.take n) u w->P w->P u:=fun h=>by
   induction h with
   | refl h=>exact fun h=>h
   | @step u w hr hw ho ih=>
    intro hp
    have hu:(cl.take n).getD u true=false:=by
     cases hr with
     | refl h=>exact h
     | step _ _ h=>exact h
    obtain⟨a1,a2⟩:=I9 hu
    obtain⟨b1,_⟩:=I9 ho
    exact ih (hC u w a1 b1 hp (by unfold okC;rw[a2];rfl) (by unfold Bx;simpa using hw))
  exact key h3 (hP x (I4.2 ⟨h1,h2⟩))
theorem back_iff{g:List (List Int)}{cl sh:List Bool}{n b:Nat}(hsub:∀x,x<n->sh.getD x true=false->cl.getD x true=false):
  (prI n (okC cl) (Bu g) (mk0 n sh) n).getD b false=true↔∃x,x<n/\sh.getD x true=false/\Rcv g (cl.take n) x b:=by
 rw[NE (Hi n sh)]
 constructor
 .intro h
  refine h (fun b=>∃x,x<n/\sh.getD x true=false/\Rcv g (cl.take n) x b) (fun x hx=>?_) fun b c hb hc hp ho hL=>?_
  .obtain⟨h1,h2⟩:=I4.1 hx
   exact⟨x,h1,h2,.refl (Jw h1 (hsub x h1 h2))⟩
  .obtain⟨x,h1,h2,h3⟩:=hp
   unfold okC at ho
   unfold Bu at hL
   exact⟨x,h1,h2,.step h3 (by simpa using hL) (Jw hb (by simpa using ho))⟩
 .rintro⟨x,h1,h2,h3⟩ P hP hC
  induction h3 with
  | refl h=>exact hP x (I4.2 ⟨h1,h2⟩)
  | @step u w hr hw ho ih=>
   have hu:(cl.take n).getD u true=false:=by
    cases hr with
    | refl h=>exact h
    | step _ _ h=>exact h
   obtain⟨a1,_⟩:=I9 hu
   obtain⟨b1,b2⟩:=I9 ho
   exact hC w u b1 a1 ih (by unfold okC;rw[b2];rfl) (by unfold Bu;simpa using hw)
structure Ac where
 cl:List Bool
 bw:List Int
 pe:List Int
structure Ao where
 ow:List Int
 qu:List (List Int)
def sgA(s:Ac):AV:=.agg [.lst (boL s.cl),lI s.bw,lI s.pe]
def lkA(l:Ao):AV:=.agg [lI l.ow,.lst (gL l.qu)]
inductive Ez where
 | l0 (v0:Int)
def Kf(l:List Int)(q:Int):Ez->St
 | .l0 v0=>St.mk 19 [(0,AV.lst (List.map (iv) l)),(1,iv q),(7,iv (iN (List.map (iv) l).length)),(8,iv v0)] []
def Mi:Ez->Nat
 | .l0 _=>0
def idxEn(l:List Int)(q:Int):Option (Ez⊕Ret):=
 some (.inl (.l0 ((0:Int))))
def Fi(l:List Int)(q v0:Int):Option (Ez⊕Ret):=
 br (decide (v0<iN (List.map iV l).length))
 (gu (0<=v0) <|
  el l (v0.toNat) fun(x14:Int)=>
  br (q==x14)
  (some (.inr ([],iV v0)))
  (some (.inl (.l0 (i64.wrap (v0+1))))))
 (some (.inr ([],iV (-1))))
def idxStep(l:List Int)(q:Int):Ez->Option (Ez⊕Ret)
 | .l0 v0=>Fi l q v0
theorem idxEn_ok(l:List Int)(q:Int)(o:Ez⊕Ret)(h:idxEn l q=some o):Arr Try.prog Try.f96 0 (Kf l q) Mi (zB Try.f96) [] {n:=Try.f96.ntmps,fr:=AA 0 ([lI l,.int .i64 q]),hp:=([])} o:=
 Scr.ok h mix (
 .lp [] [] [] [] [] [] [0,1,7,8] (aj (u2 (al (u2 (u2 t2)))) t5)) (by kernel_rfl)
theorem idxS0_ok(l:List Int)(q v0:Int)(o:Ez⊕Ret)(h:Fi l q v0=some o):Arr Try.prog Try.f96 0 (Kf l q) Mi (Av Try.f96 0) (.rnd (Av Try.f96 0)::AG Try.f96 0) (Kf l q (.l0 v0)) o:=
 Scr.ok h mix (
 .rn 0 [] [] [] [] (al (al t3)) <|
 .br (fun a0=>
 .rn 0 [19] [] [] [] (aj a0 (al (u2 s2))) <|
 .gu fun a1=>
 .el fun x14 a2=>
 .rn 0 [] [(14,iv x14)] [] [] (al (u2 (u2 (u2 (aj (k2 (aj a1 (Aq (f:=iv) a2))) (u2 (al t3))))))) <|
 .br (fun a3=>
  .rt [33] [] [] [] [] [] (aj (aj a3 (al (u2 s2))) t2))
 (fun a3=>
  .lp [32] [] [] [] [] [] [0,1,7,8] (aj (aj a3 (al (u2 s2))) t5)))
 (fun a0=>
 .rt [18] [] [] [] [] [] (aj (aj a0 s2) t2))) (by kernel_rfl)
theorem idx_ct(l:List Int)(q:Int)(r:Ret)(h:Al (idxStep l q) (idxEn l q) r):CT Try.prog 96 ([]) ([lI l,.int .i64 q]) r.1 r.2:=
 CT.mach (fn:=Try.f96) (c:=zB Try.f96) (S:=Kf l q) (hd:=Mi) Try.func96 (by kernel_rfl) (nL rfl)
  (fun s o ho=>match s,ho with
   | .l0 v0,ho=>idxS0_ok l q v0 o ho
  )
  (fun o ho=>idxEn_ok l q o ho) h
def isrSt(q:Int):Empty->St
 | x=>x.elim
def isrHd:Empty->Nat
 | x=>x.elim
def Lw(q:Int):Option (Empty⊕Ret):=
 br (decide (0<=q))
 (some (.inr ([],bV (decide (q<8)))))
 (some (.inr ([],bV false)))
def isrStep(q:Int):Empty->Option (Empty⊕Ret)
 | x=>x.elim
theorem isrEn_ok(q:Int)(o:Empty⊕Ret)(h:Lw q=some o):Arr Try.prog Try.f98 0 (isrSt q) isrHd (zB Try.f98) [] {n:=Try.f98.ntmps,fr:=AA 0 ([.int .i64 q]),hp:=([])} o:=
 Scr.ok h mix (
 .rn 0 [] [] [] [] s2 <|
 .br (fun a0=>
 .rt [11] [] [] [] [] [] (aj (al (u2 (u2 (u2 (ag a0 (ag a0 (ag a0 s2))))))) t2))
 (fun a0=>
 .rt [10] [] [] [] [] [] (aj (al (u2 (u2 (u2 (aj a0 (aj a0 (ag a0 s2))))))) t2))) (by kernel_rfl)
theorem isr_ct(q:Int)(r:Ret)(h:Al (isrStep q) (Lw q) r):CT Try.prog 98 ([]) ([.int .i64 q]) r.1 r.2:=
 CT.mach (fn:=Try.f98) (c:=zB Try.f98) (S:=isrSt q) (hd:=isrHd) Try.func98 (by kernel_rfl) (nL rfl)
  (fun s o ho=>match s,ho with
   | x,_=>x.elim)
  (fun o ho=>isrEn_ok q o ho) h
inductive Eh where
 | l0 (v0:Int)
def J4(l w:List Int):Eh->St
 | .l0 v0=>St.mk 26 [(0,AV.lst (List.map (iv) l)),(1,AV.lst (List.map (iv) w)),(5,iv v0)] []
def LO:Eh->Nat
 | .l0 _=>0
def Mu(l w:List Int):Option (Eh⊕Ret):=
 br (iN (List.map iV l).length != iN (List.map iV w).length)
 (some (.inr ([],bV false)))
 (some (.inl (.l0 ((0:Int)))))
def Gz(l w:List Int)(v0:Int):Option (Eh⊕Ret):=
 br (decide (v0<iN (List.map iV l).length))
 (gu (0<=v0) <|
  el l (v0.toNat) fun(x19:Int)=>
  el w (v0.toNat) fun(x23:Int)=>
  br (x19 != x23)
  (some (.inr ([],bV false)))
  (some (.inl (.l0 (i64.wrap (v0+1))))))
 (some (.inr ([],bV true)))
def s19Step(l w:List Int):Eh->Option (Eh⊕Ret)
 | .l0 v0=>Gz l w v0
theorem s19En_ok(l w:List Int)(o:Eh⊕Ret)(h:Mu l w=some o):Arr Try.prog Try.f116 0 (J4 l w) LO (zB Try.f116) [] {n:=Try.f116.ntmps,fr:=AA 0 ([lI l,lI w]),hp:=([])} o:=
 Scr.ok h mix (
 .rn 1 [] [] [] [] (u2 (al (u2 (u2 (u2 (u2 (al t3))))))) <|
 .br (fun a0=>
 .rt [21] [] [] [] [] [] (aj (aj a0 s2) t2))
 (fun a0=>
 .lp [20] [] [] [] [] [] [0,1,5] (aj (aj a0 s2) t4))) (by kernel_rfl)
theorem s19S0_ok(l w:List Int)(v0:Int)(o:Eh⊕Ret)(h:Gz l w v0=some o):Arr Try.prog Try.f116 0 (J4 l w) LO (Av Try.f116 0) (.rnd (Av Try.f116 0)::AG Try.f116 0) (J4 l w (.l0 v0)) o:=
 Scr.ok h mix (
 .rn 0 [] [] [] [] (al (u2 (u2 (u2 (al t3))))) <|
 .br (fun a0=>
 .gu fun a1=>
 .el fun x19 a2=>
 .el fun x23 a3=>
 .rn 0 [29] [(19,iv x19),(23,iv x23)] [] [] (aj a0 (al (u2 (u2 (aj (k2 (aj a1 (Aq (f:=iv) a2))) (u2 (u2 (u2 (aj (k2 (aj a1 (Aq (f:=iv) a3))) (u2 (al t3))))))))))) <|
 .br (fun a4=>
  .rt [51] [] [] [] [] [] (aj (aj a4 s2) t2))
 (fun a4=>
  .lp [50] [] [] [] [] [] [0,1,5] (aj (aj a4 (al (u2 (u2 s2)))) t4)))
 (fun a0=>
 .rt [28] [] [] [] [] [] (aj (aj a0 s2) t2))) (by kernel_rfl)
theorem s19_ct(l w:List Int)(r:Ret)(h:Al (s19Step l w) (Mu l w) r):CT Try.prog 116 ([]) ([lI l,lI w]) r.1 r.2:=
 CT.mach (fn:=Try.f116) (c:=zB Try.f116) (S:=J4 l w) (hd:=LO) Try.func116 (by kernel_rfl) (nL rfl)
  (fun s o ho=>match s,ho with
   | .l0 v0,ho=>s19S0_ok l w v0 o ho
  )
  (fun o ho=>s19En_ok l w o ho) h
inductive Eg where
 | l0 (v0:Int)
def Jj(l w:List Bool):Eg->St
 | .l0 v0=>St.mk 26 [(0,AV.lst (boL l)),(1,AV.lst (boL w)),(5,iv v0)] []
def MX:Eg->Nat
 | .l0 _=>0
def Mr(l w:List Bool):Option (Eg⊕Ret):=
 br (iN (boL l).length != iN (boL w).length)
 (some (.inr ([],bV false)))
 (some (.inl (.l0 ((0:Int)))))
def GE(l w:List Bool)(v0:Int):Option (Eg⊕Ret):=
 br (decide (v0<iN (boL l).length))
 (gu (0<=v0) <|
  el l (v0.toNat) fun(x19:Bool)=>
  el w (v0.toNat) fun(x23:Bool)=>
  br (!x19==x23)
  (some (.inr ([],bV false)))
  (some (.inl (.l0 (i64.wrap (v0+1))))))
 (some (.inr ([],bV true)))
def sboStep(l w:List Bool):Eg->Option (Eg⊕Ret)
 | .l0 v0=>GE l w v0
theorem sboEn_ok(l w:List Bool)(o:Eg⊕Ret)(h:Mr l w=some o):Arr Try.prog Try.f74 0 (Jj l w) MX (zB Try.f74) [] {n:=Try.f74.ntmps,fr:=AA 0 ([.lst (boL l),.lst (boL w)]),hp:=([])} o:=
 Scr.ok h mix (
 .rn 1 [] [] [] [] (u2 (al (u2 (u2 (u2 (u2 (al t3))))))) <|
 .br (fun a0=>
 .rt [21] [] [] [] [] [] (aj (aj a0 s2) t2))
 (fun a0=>
 .lp [20] [] [] [] [] [] [0,1,5] (aj (aj a0 s2) t4))) (by kernel_rfl)
theorem sboS0_ok(l w:List Bool)(v0:Int)(o:Eg⊕Ret)(h:GE l w v0=some o):Arr Try.prog Try.f74 0 (Jj l w) MX (Av Try.f74 0) (.rnd (Av Try.f74 0)::AG Try.f74 0) (Jj l w (.l0 v0)) o:=
 Scr.ok h mix (
 .rn 0 [] [] [] [] (al (u2 (u2 (u2 (al t3))))) <|
 .br (fun a0=>
 .gu fun a1=>
 .el fun x19 a2=>
 .el fun x23 a3=>
 .rn 0 [29] [(19,bV x19),(23,bV x23)] [] [] (aj a0 (al (u2 (u2 (aj (k2 (aj a1 (Aq (f:=bV) a2))) (u2 (u2 (u2 (aj (k2 (aj a1 (Aq (f:=bV) a3))) (u2 (al t3))))))))))) <|
 .br (fun a4=>
  .rt [51] [] [] [] [] [] (aj (aj a4 s2) t2))
 (fun a4=>
  .lp [50] [] [] [] [] [] [0,1,5] (aj (aj a4 (al (u2 (u2 s2)))) t4)))
 (fun a0=>
 .rt [28] [] [] [] [] [] (aj (aj a0 s2) t2))) (by kernel_rfl)
theorem sbo_ct(l w:List Bool)(r:Ret)(h:Al (sboStep l w) (Mr l w) r):CT Try.prog 74 ([]) ([.lst (boL l),.lst (boL w)]) r.1 r.2:=
 CT.mach (fn:=Try.f74) (c:=zB Try.f74) (S:=Jj l w) (hd:=MX) Try.func74 (by kernel_rfl) (nL rfl)
  (fun s o ho=>match s,ho with
   | .l0 v0,ho=>sboS0_ok l w v0 o ho
  )
  (fun o ho=>sboEn_ok l w o ho) h
inductive Ej where
 | l0 (v0:Int) (v1:List Bool)
def F3(q:Ac):Ej->St
 | .l0 v0 v1=>St.mk 23 [(1,AV.ptr 0 0 0),(3,AV.sl 1 0 (boL q.cl).length),(4,iv v0)] [some (bK [AV.agg [AV.lst (boL q.cl),AV.lst (List.map (iv) q.bw),AV.lst (List.map (iv) q.pe)]] 3),some (bK (List.map bV v1) 1)]
def Ll:Ej->Nat
 | .l0 _ _=>0
def MU(q:Ac):Option (Ej⊕Ret):=
 gu (∀(e:AV),e∈boL q.cl->e.cells.length=1) <|
 gu ((boL q.cl).length<=9223372036854775807) <|
 gu ((boL q.cl).length * 1<=140737488355328) <|
 some (.inl (.l0 ((0:Int)) (q.cl)))
def GK(q:Ac)(v0:Int)(v1:List Bool):Option (Ej⊕Ret):=
 br (decide (v0<iN (List.map iV q.pe).length))
 (gu (0<=v0) <|
  el (q.pe) (v0.toNat) fun(x19:Int)=>
  gu (0<=x19) <|
  gu (x19<iN (boL q.cl).length) <|
  gu ((0+x19.toNat).succ.le (List.map bV v1).length) <|
  some (.inl (.l0 (i64.wrap (v0+1)) (v1.set (0+x19.toNat) true))))
 (gu ((boL q.cl).length=(List.map bV v1).length) <|
  some (.inr ([],AV.lst (List.map bV v1))))
def celStep(q:Ac):Ej->Option (Ej⊕Ret)
 | .l0 v0 v1=>GK q v0 v1
theorem celEn_ok(q:Ac)(o:Ej⊕Ret)(h:MU q=some o):Arr Try.prog Try.f105 0 (F3 q) Ll (zB Try.f105) [] {n:=Try.f105.ntmps,fr:=AA 0 ([sgA q]),hp:=([])} o:=
 Scr.ok h mix (
 .rn 0 [] [] [] [] (al (u2 t2)) <|
 .gu fun a0=>
 .gu fun a1=>
 .gu fun a2=>
 .lp [] [] [] [] [] [0,1] [1,3,4] (aj (aj (u2 (u2 (aj (ak (aj a0 (aj a1 a2))) s2))) s2) t6)) (by kernel_rfl)
theorem celS0_ok(q:Ac)(v0:Int)(v1:List Bool)(o:Ej⊕Ret)(h:GK q v0 v1=some o):Arr Try.prog Try.f105 0 (F3 q) Ll (Av Try.f105 0) (.rnd (Av Try.f105 0)::AG Try.f105 0) (F3 q (.l0 v0 v1)) o:=
 Scr.ok h mix (
 .rn 0 [] [] [] [] (al (u2 (u2 (u2 (u2 (al t3)))))) <|
 .br (fun a0=>
 .gu fun a1=>
 .el fun x19 a2=>
 .gu fun a3=>
 .gu fun a4=>
 .gu fun a5=>
 .lq [25] [(19,iv x19)] [] [] [] [0,1] [1,3,4] (up [] [(1,(List.map bV v1).set (0+x19.toNat) (bV true))] (F3 q (.l0 (i64.wrap (v0+1)) (v1.set (0+x19.toNat) true)))) (aj (aj a0 (aj (u2 (u2 (u2 (u2 (aj (k2 (aj a1 (Aq (f:=iv) a2))) (u2 (aj (k2 (aj a3 a4)) (al (ak a5))))))))) (al (u2 (u2 s2))))) t6) (by simp[up,upF,upV,upH,upB,F3,gL,boL,lI]))
 (fun a0=>
 .rn 0 [24] [] [] [] (aj a0 (al (u2 s2))) <|
 .gu fun a1=>
 .rt [] [] [] [] [] [1] (ak (al a1)))) (by kernel_rfl)
theorem cel_ct(q:Ac)(r:Ret)(h:Al (celStep q) (MU q) r):CT Try.prog 105 ([]) ([sgA q]) r.1 r.2:=
 CT.mach (fn:=Try.f105) (c:=zB Try.f105) (S:=F3 q) (hd:=Ll) Try.func105 (by kernel_rfl) (nL rfl)
  (fun s o ho=>match s,ho with
   | .l0 v0 v1,ho=>celS0_ok q v0 v1 o ho
  )
  (fun o ho=>celEn_ok q o ho) h
def wh1St(l w:Int):Empty->St
 | x=>x.elim
def wh1Hd:Empty->Nat
 | x=>x.elim
def wh1En(l w:Int):Option (Empty⊕Ret):=
 some (.inr ([some (bK [iV w] 1)],bV (l==w)))
def wh1Step(l w:Int):Empty->Option (Empty⊕Ret)
 | x=>x.elim
theorem wh1En_ok(l w:Int)(o:Empty⊕Ret)(h:wh1En l w=some o):Arr Try.prog Try.f101 1 (wh1St l w) wh1Hd (zB Try.f101) [] {n:=Try.f101.ntmps,fr:=AA 0 ([.int .i64 l,.ptr 0 0 0]),hp:=([some (bK [.int .i64 w] 1)])} o:=
 Scr.ok h mix (
 .rt [] [] [] [] [0] [] (aj (u2 (al (u2 (u2 (aj t3 s2))))) t3)) (by kernel_rfl)
theorem wh1_ct(l w:Int)(r:Ret)(h:Al (wh1Step l w) (wh1En l w) r):CT Try.prog 101 ([some (bK [.int .i64 w] 1)]) ([.int .i64 l,.ptr 0 0 0]) r.1 r.2:=
 CT.mach (fn:=Try.f101) (c:=zB Try.f101) (S:=wh1St l w) (hd:=wh1Hd) Try.func101 (by kernel_rfl) (nL rfl)
  (fun s o ho=>match s,ho with
   | x,_=>x.elim)
  (fun o ho=>wh1En_ok l w o ho) h
def wkA:AV->AV
 | .agg cs=>.agg (cs.map wk1)
 | a=>wk1 a
def wk2:AV->AV
 | .agg cs=>.agg (cs.map wk1)
 | .tup cs=>.tup (cs.map wkA)
 | a=>wk1 a
theorem VR.wkA{φ:Phi}{A:Nat->Prop}{w:World}{a:AV}{v:Value}(h:VR φ A w a v):VR φ A w (wkA a) v:=by
 unfold Proofs.Ytedjkebooffjpaa.wkA
 split
 .cases h with
  | imm _ _ h=>
   cases h with
   | agg _ vs hl h=>
    refine .agg _ vs (by simpa using hl) fun i c v hc hv=>?_
    rw[Tw] at hc
    obtain⟨c',hc',rfl⟩:=Option.map_eq_some_iff.1 hc
    exact(VR.imm _ _ (h i c' v hc' hv)).wk1
  | agg _ vs hl h=>
   refine .agg _ vs (by simpa using hl) fun i c v hc hv=>?_
   rw[Tw] at hc
   obtain⟨c',hc',rfl⟩:=Option.map_eq_some_iff.1 hc
   exact(h i c' v hc' hv).wk1
 .exact h.wk1
theorem VR.wk2{φ:Phi}{A:Nat->Prop}{w:World}{a:AV}{v:Value}(h:VR φ A w a v):VR φ A w (wk2 a) v:=by
 unfold Proofs.Ytedjkebooffjpaa.wk2
 split
 .exact VR.wkA h
 .cases h with
  | imm _ _ h=>cases h
  | tup _ vs hl h=>
   refine .tup _ vs (by simpa using hl) fun i c v hc hv=>?_
   rw[Tw] at hc
   obtain⟨c',hc',rfl⟩:=Option.map_eq_some_iff.1 hc
   exact VR.wkA (h i c' v hc' hv)
 .exact h.wk1
theorem CT.w2{f:FuncId}{hin hout:List (Option Blk)}{args:List AV}{res:AV}(h:CT Try.prog f hin args hout res):CT Try.prog f hin args hout (wk2 res):=h.less fun _ _ _ _ h=>VR.wk2 h
def CX(l:List Int)(x:Int):Int:=match fnd (fun i=>l.getD i 0==x) 0 l.length with | some i=>(i:Int) | none=> -1
theorem idxZ_has(l:List Int)(x:Int):decide (0<=CX l x)=Ak l x:=by
 unfold CX Ak
 cases fnd (fun i=>l.getD i 0==x) 0 l.length with
 | none=>rfl
 | some i=>simp
theorem idx_c(l:List Int)(x:Int)(hl:l.length<=9223372036854775807):CT Try.prog 96 [] [lI l,.int .i64 x] [] (.int .i64 (CX l x)):=by
 refine idx_ct l x ([],_) ?_
 refine(NS (fun i=>Ez.l0 (i:Int)) l.length (fun i=>l.getD i 0==x) (rF:=fun i=>([],.int .i64 (i:Int))) (r:=([],.int .i64 (-1))) (fun i hi hp=>?_) (fun i r hi hp hr=>?_) (fun _=>?_)).res (by unfold CX;split<;>simp_all)
 .refine .to (show Fi l x i=_ from ?_) (.ret _)
  unfold Fi
  rw[Cn 0 hi,Ah (by rw[<-hp];exact BEq.comm)]
 .refine .to (show Fi l x i=_ from ?_) hr
  unfold Fi
  rw[Cn 0 hi,Af (by rw[<-hp];exact BEq.comm),zW i (by omega)]
 .refine .to (show Fi l x l.length=_ from ?_) (.ret _)
  unfold Fi;rw[Cf]
def Ev(q:Int):Bool:=decide (0<=q)&&decide (q<8)
theorem JS(q:Int):CT Try.prog 98 [] [.int .i64 q] [] (.bool (Ev q)):=by
 refine isr_ct q ([],_) (.val ?_)
 unfold Lw Ev
 cases decide (0<=q)<;>rfl
theorem s19_c(l:List Int)(hl:l.length<=9223372036854775807):CT Try.prog 116 [] [lI l,lI l] [] (.bool true):=by
 refine s19_ct l l ([],_) ?_
 unfold Mu
 rw[Af (by simp)]
 refine Cb (fun i=>Eh.l0 (i:Int)) l.length (fun i hi h=>?_) ?_
 .refine .to (show Gz l l i=_ from ?_) h
  unfold Gz
  rw[Cn 0 hi,elG 0 hi,Af (by simp),zW i (by omega)]
 .refine .to (show Gz l l l.length=_ from ?_) (.ret _)
  unfold Gz;rw[Cf]
theorem sbo_c(l:List Bool)(hl:l.length<=9223372036854775807):CT Try.prog 74 [] [.lst (boL l),.lst (boL l)] [] (.bool true):=by
 refine sbo_ct l l ([],_) ?_
 unfold Mr
 rw[Af (by simp)]
 refine Cb (fun i=>Eg.l0 (i:Int)) l.length (fun i hi h=>?_) ?_
 .refine .to (show GE l l i=_ from ?_) h
  unfold GE boL
  rw[Cn true hi,elG true hi,Af (by cases l.getD i true<;>rfl),zW i (by omega)]
 .refine .to (show GE l l l.length=_ from ?_) (.ret _)
  unfold GE boL;rw[Cf]
def A5(s:Ac):List Bool:=s.pe.foldl (fun c b=>c.set b.toNat true) s.cl
theorem MZ:∀(l:List Int) (c:List Bool),(l.foldl (fun c b=>c.set b.toNat true) c).length=c.length:=by
 intro l
 induction l with
 | nil=>intro c;rfl
 | cons x l ih=>intro c;rw[List.foldl_cons,ih,TV]
theorem Gv(s:Ac):(A5 s).length=s.cl.length:=MZ _ _
theorem LM(l:List Bool):∀(e:AV),e∈boL l->e.cells.length=1:=fun e he=>by unfold boL at he;obtain⟨b,_,rfl⟩:=TT.1 he;rfl
theorem E2(l:List Int):∀(e:AV),e∈List.map (AV.int .i64) l->e.cells.length=1:=fun e he=>by obtain⟨b,_,rfl⟩:=TT.1 he;rfl
theorem Km(s:Ac)(hl:s.cl.length<=1000000)(hp:s.pe.length<=1000000)(hb:∀b∈s.pe,0<=b/\b<(s.cl.length:Int)):CT Try.prog 105 [] [sgA s] [] (.lst (boL (A5 s))):=by
 refine cel_ct s ([],_) ?_
 have hL:=BW s.cl
 unfold MU
 rw[Ab (LM _),Ab (by omega),Ab (by omega)]
 refine OE (L:=fun i b=>Ej.l0 (i:Int) b) (f:=fun c b=>c.set b.toNat true) (l:=s.pe) s.cl (fun i x hx h=>?_) ?_
 .have hlen:=MZ (s.pe.take i) s.cl
  have h2:=hb x (Tp hx)
  have hi:=(Tm.1 hx).1
  generalize (s.pe.take i).foldl (fun c b=>c.set b.toNat true) s.cl=c at *
  refine .to (show GK s i c=_ from ?_) h
  unfold GK
  rw[Gj hx,Ab h2.1,Ab (by simp only[iN];omega),Ab (show Nat.le _ _ from(by simp only[Tn];show 0+x.toNat+1<=_;omega)),zW i (by omega),TB]
 .refine .to (show GK s s.pe.length (A5 s)=_ from ?_) (.ret _)
  unfold GK
  rw[Cf,Ab (by rw[hL,Tn,Gv])];rfl
theorem wh1_c(x y:Int):CT Try.prog 101 [some (Blk.mk [.int .i64 y] 1 true true none)] [.int .i64 x,.ptr 0 0 0] [some (Blk.mk [.int .i64 y] 1 true true none)] (.bool (x==y)):=wh1_ct x y ([_],_) (.ret _)
def bdW(s:Ac)(i:Nat):Bool:=decide (s.bw.getD i 0 < -1)||(decide (8<=s.bw.getD i 0)||(decide (0<=s.bw.getD i 0)&&!(s.cl.getD i true)))
def bdP(nb:Nat)(s:Ac)(i:Nat):Bool:=decide (s.pe.getD i 0<0)||(decide ((nb:Int)<=s.pe.getD i 0)||(s.cl.getD (s.pe.getD i 0).toNat true||Ak (s.pe.take i) (s.pe.getD i 0)))
def FB(n:Aa)(s:Ac):Bool:=decide (s.cl.length=Ar n)&&(decide (s.bw.length=Ar n)&&((fnd (bdW s) 0 s.bw.length).isNone&&(fnd (bdP n.bs.length s) 0 s.pe.length).isNone))
def AK(n:Aa)(s:Ac):Bool:=AY n&&FB n s
structure A7(n:Aa)(s:Ac):Prop where
 lc:s.cl.length=Ar n
 lb:s.bw.length=Ar n
 bw:∀i,i<s.bw.length->-1<=s.bw.getD i 0/\s.bw.getD i 0<8/\(0<=s.bw.getD i 0->s.cl.getD i true=true)
 pb:∀b∈s.pe,0<=b/\b<(n.bs.length:Int)/\s.cl.getD b.toNat true=false
 nd:s.pe.Nodup
theorem Dy{l:List Int}{x:Int}:Ak l x=true↔x∈l:=by
 constructor
 .intro h
  unfold Ak at h
  cases hf:fnd (fun i=>l.getD i 0==x) 0 l.length with
  | none=>rw[hf] at h;cases h
  | some i=>
   obtain⟨h1,_,h2⟩:=D6 hf
   have:l.getD i 0=x:=by simpa using h1
   rw[<-this,Tl,Tk (show i<l.length by omega)]
   exact TU _
 .intro h
  cases hh:Ak l x with
  | true=>rfl
  | false=>exact absurd h (JG hh)
theorem Q7{l:List Int}{i j:Nat}(h:j<i)(hj:j<l.length):l.getD j 0∈l.take i:=by
 have hl:j<(l.take i).length:=by rw[TP];omega
 have:(l.take i)[j]=l.getD j 0:=by rw[List.getElem_take,Tl,Tk hj];rfl
 rw[<-this];exact TU _
theorem KJ{l:List Int}(h:∀i,i<l.length->Ak (l.take i) (l.getD i 0)=false):l.Nodup:=by
 refine List.pairwise_iff_getElem.2 fun i j hi hj hij e=>?_
 refine JG (h j hj) ?_
 have h2:l.getD j 0=l.getD i 0:=by rw[Tl,Tk hj,Tl,Tk hi];exact e.symm
 rw[h2];exact Q7 hij hi
theorem nd_has{l:List Int}(hn:l.Nodup){i:Nat}(hi:i<l.length):Ak (l.take i) (l.getD i 0)=false:=by
 cases h:Ak (l.take i) (l.getD i 0) with
 | false=>rfl
 | true=>
  obtain⟨j,hj,e⟩:=TZ.1 (Dy.1 h)
  rw[TP] at hj
  rw[List.getElem_take] at e
  have:=nd_inj hn (i:=j) (j:=i) (by omega) hi (by rw[Tl,Tk (show j<l.length by omega)];exact e)
  omega
theorem getD_mem{l:List Int}{i:Nat}(h:i<l.length):l.getD i 0∈l:=by
 rw[Tl,Tk h];exact TU _
theorem sigF_iff{n:Aa}{s:Ac}:FB n s=true↔A7 n s:=by
 unfold FB
 simp only[Tu,decide_eq_true_eq,Ub]
 constructor
 .rintro⟨h1,h2,h3,h4⟩
  have hp:∀i,i<s.pe.length->bdP n.bs.length s i=false:=fun i hi=>Dc h4 i (Ty _) (by omega)
  unfold bdP at hp
  simp only[Bool.or_eq_false_iff,decide_eq_false_iff_not] at hp
  refine⟨h1,h2,fun i hi=>?_,fun b hb=>?_,KJ fun i hi=>(hp i hi).2.2.2⟩
  .have:=Dc h3 i (Ty _) (by omega)
   unfold bdW at this
   simp only[Bool.or_eq_false_iff,decide_eq_false_iff_not,Bool.and_eq_false_iff] at this
   refine⟨by omega,by omega,fun h0=>?_⟩
   rcases this.2.2 with h | h
   .omega
   .simpa using h
  .obtain⟨i,hi,rfl⟩:=TZ.1 hb
   have:=hp i hi
   rw[Tl,Tk hi] at this
   simp only[Option.getD_some] at this
   exact⟨by omega,by omega,this.2.2.1⟩
 .intro h
  refine⟨h.lc,h.lb,HA fun i _ hi=>?_,HA fun i _ hi=>?_⟩
  .obtain⟨h1,h2,h3⟩:=h.bw i (by omega)
   unfold bdW
   rw[Au (show ¬s.bw.getD i 0 < -1 by omega),Au (show ¬8<=s.bw.getD i 0 by omega)]
   by_cases h0:0<=s.bw.getD i 0
   .rw[h3 h0];simp
   .rw[Au h0];rfl
  .obtain⟨h1,h2,h3⟩:=h.pb _ (getD_mem (show i<s.pe.length by omega))
   unfold bdP
   rw[Au (show ¬s.pe.getD i 0<0 by omega),Au (show ¬(n.bs.length:Int)<=s.pe.getD i 0 by omega),h3,nd_has h.nd (by omega)];rfl
theorem OC{n:Aa}{s:Ac}:AK n s=true↔Ax n/\A7 n s:=by
 unfold AK;rw[Tu,CS,sigF_iff]
theorem LH{n:Nat}{x:Int}(h0:0<=x)(h1:x<(n:Int)):x∈(List.range n).map (fun i:Nat=>(i:Int)):=TT.2 ⟨x.toNat,Uc.2 (by omega),by omega⟩
theorem A7.pl{n:Aa}{s:Ac}(h:A7 n s):s.pe.length<=n.bs.length:=by
 have:=HC h.nd (d:=(List.range n.bs.length).map fun i:Nat=>(i:Int)) fun x hx=>LH (h.pb x hx).1 (h.pb x hx).2.1
 rwa [Tn,T5] at this
theorem sht_get:∀{l:List Int} {c:List Bool},(∀b∈l,0<=b/\b<(c.length:Int))->∀(x:Nat),(l.foldl (fun c b=>c.set b.toNat true) c).getD x true=(c.getD x true||Ak l (x:Int)):=by
 intro l
 induction l with
 | nil=>intro c _ x;simp[Ak,fnd]
 | cons y l ih=>
  intro c h x
  have hy:=h y (by simp)
  rw[List.foldl_cons,ih (fun b hb=>by rw[TV];exact h b (TD _ hb)) x]
  have e:(c.set y.toNat true).getD x true=(c.getD x true||decide (y=(x:Int))):=by
   rw[Tl,Ue,Tl]
   by_cases hx:y=(x:Int)
   .rw[Ti (by omega),Ti (by omega),AB hx];simp
   .rw[Tj (by omega),Au hx,Bool.or_false]
  have e2:Ak (y::l) (x:Int)=(decide (y=(x:Int))||Ak l (x:Int)):=by
   rw[Bool.eq_iff_iff,TY,Dy,Dy,TQ,decide_eq_true_eq]
   exact or_congr eq_comm Iff.rfl
  rw[e,e2,Bool.or_assoc]
theorem Ka{n:Aa}{s:Ac}(hv:Ax n)(h:A7 n s)(x:Nat):(A5 s).getD x true=(s.cl.getD x true||Ak s.pe (x:Int)):=
 sht_get (fun b hb=>by have:=h.pb b hb;have:=h.lc;have:=hv.cel;omega) x
end Go.Proofs.Ytedjkebooffjpaa

/- Parts of the proof:NmO,NmP,NmQ,NmR,NmS,NmU,NmV,NmW,NmX,NmY,NmZ,NmZa,NmZb,NmZc,Pam,PaA,AxMl,UtA,LoA,St6m,StE,LoB,CeA,Ce1m,CeB,Ce2m,CeC,Ce3m,CeD,Ag1m,AgA,Ag2m,AgB,Ag3m,AgC,Ag4m,AgD. -/
import Derived.KernelRfl
import Derived.Test.YtifigemlifbkcaaProg
import Derived.Test.YtifigemlifbkcaaRadioLivesM5
noncomputable section
set_option linter.unusedVariables false
set_option linter.unusedSimpArgs false
open Go Go.AX Go.Proofs
set_option maxRecDepth 100000
set_option linter.unusedVariables false
set_option linter.unusedSimpArgs false
open Go.IntKind (i64 u64)
namespace Go.Proofs.Ytifigemlifbkcaa
def qA(L:List Int)(kk:Nat)(bs:List A3)(g g2:List (List Int))(ss:List Ar)(k base:Int)(u:ByteArray)(x y z w:Int)(t1 t2 t3 t4:Nat):QA:=⟨L,kk,t1,t2,t3,t4,bs,g,g2,ss,[],k,base,u,x,y,z,w,0,0,0,[],0,0,s0,false,0⟩
def GX(L:List Int)(kk i:Nat):A3:=⟨GO i,Ae L (kk+2 * i) 9-4,Ae L (kk+2 * i+1) 9-4⟩
def bsZ(L:List Int)(kk n:Nat):List A3:=(List.range n).map (GX L kk)
theorem Ha(L:List Int)(kk n:Nat):(bsZ L kk n).length=n:=by simp[bsZ]
theorem bsZ_succ(L:List Int)(kk n:Nat):bsZ L kk (n+1)=bsZ L kk n++[GX L kk n]:=by simp[bsZ,List.range_succ]
theorem LessB_zN:Cz zB8 (nA1 [] []):=by
 refine⟨rfl,fun _=>rfl,rfl,Rm _,fun i e' h=>?_,fun h=>(by cases h),fun h=>(by cases h)⟩
 match i,h with
 | 0,h=>
  simp[nA1] at h;subst h
  refine⟨_,rfl,rfl,fun j c' hj=>?_⟩
  match j,hj with
  | 0,hj=>simp[AV.cells] at hj;subst hj;exact⟨.nils,rfl,.nilS 3 0⟩
  | 1,hj=>simp[AV.cells] at hj;subst hj;exact⟨.nils,rfl,.nilS 4 0⟩
  | 2,hj=>simp[AV.cells] at hj;subst hj;exact⟨.nils,rfl,.refl _⟩
  | 3,hj=>simp[AV.cells] at hj;subst hj;exact⟨.nils,rfl,.refl _⟩
  | 4,hj=>simp[AV.cells] at hj;subst hj;exact⟨.int .i64 0,rfl,.refl _⟩
  | 5,hj=>simp[AV.cells] at hj;subst hj;exact⟨.int .i64 0,rfl,.refl _⟩
  | 6,hj=>simp[AV.cells] at hj;subst hj;exact⟨.int .i64 0,rfl,.refl _⟩
  | 7,hj=>simp[AV.cells] at hj;subst hj;exact⟨.int .i64 0,rfl,.refl _⟩
  | j+8,hj=>simp[AV.cells] at hj
 | i+1,h=>simp[nA1] at h
theorem ren_z(q:QA)(hb:q.bs=[])(hg:q.g=[]):Ren 1 (Ej q) (CM q):=by
 refine Ren.less rfl (by simp[Ej,CM]) (fun s=>.refl _) fun b blk' h=>?_
 match b,h with
 | 0,h=>exact .inl ⟨by simp[Ej],_,rfl,.inl (by simpa [CM,nth] using h.symm)⟩
 | 1,h=>exact .inl ⟨by simp[Ej],_,rfl,.inl (by simpa [CM,nth] using h.symm)⟩
 | 2,h=>
  simp only[CM,nth,Option.some.injEq] at h;subst h
  exact .inl ⟨by simp[Ej],_,rfl,.inr (by rw[hb,hg];exact LessB_zN)⟩
 | 3,h=>
  simp only[CM,nth,Option.some.injEq] at h;subst h
  exact .inr ⟨by simp[Ej],by simp[bsB,hb],rfl,rfl,rfl⟩
 | 4,h=>
  simp only[CM,nth,Option.some.injEq] at h;subst h
  exact .inr ⟨by simp[Ej],by simp[gB,hg,gL],rfl,rfl,rfl⟩
 | b+5,h=>simp[CM,nth] at h
theorem rng0_rep(b:Nat):List.replicate b []=Bd b 0:=by
 apply List.ext_getElem
 .simp[Bd]
 .intro i h1 h2;simp[Bd]
theorem Pv(i:Nat):gL (List.replicate i [])++[AV.lst []]=gL (List.replicate (i+1) []):=by
 unfold gL
 rw[List.replicate_succ',Ro];rfl
theorem OJ{L:List Int}{kk K:Nat}(hK:1<=K/\K<=24)(hkk:kk<=10000){post:Exit->St->Prop}
  (hT:∀B:Int,B=(K:Int)->T Try.prog 1 (.loop (zC (zB Try.f37) 1)) (DG (qA L ((Bh L K (kk+2 * K)).2+1) (bsZ L kk K) (Bh L K (kk+2 * K)).1 [] [] (3+Ae L (Bh L K (kk+2 * K)).2 3) B em 0 0 0 0 0 0 0 0)) (TK Try.prog 1 post (zK (zB Try.f37) 1))):
  T Try.prog 1 (.loop (zC (zB Try.f37) 0)) (CM (qA L kk [] [] [] [] (K:Int) 0 em 0 0 0 0 0 0 0 0)) (TK Try.prog 1 post (zK (zB Try.f37) 0)):=by
 suffices hh:T Try.prog 1 (.loop (zC (zB Try.f37) 0)) (CM (qA L (kk+2 * 0) (bsZ L kk 0) (List.replicate 0 []) [] [] ((K:Int)-((0:Nat):Int)) 0 em 0 0 0 0 0 0 0 0)) (TK Try.prog 1 post (zK (zB Try.f37) 0)) by
  simpa [bsZ] using hh
 refine T.loop (fun i:Nat=>CM (qA L (kk+2 * i) (bsZ L kk i) (List.replicate i []) [] [] ((K:Int)-(i:Int)) 0 em 0 0 0 0 0 0 0 0)) (fun i=>i<=K) (fun i=>K+1-i) 0 (Rn _) ?_
 intro i hi
 have hbl:=Ha L kk i
 have hbm:((bsZ L kk i).map bA).length=i:=by simp[bsZ]
 have hgl:=B5 (List.replicate i ([]:List Int))
 rw[Rv] at hgl
 by_cases h:i<K
 .have n1:=AA L (kk+2 * i) 9 (by omega)
  have n2:=AA L (kk+2 * i+1) 9 (by omega)
  have r1:=AY L (kk+2 * i) 9 (by omega) (by omega)
  have r2:=AY L (kk+2 * i+1) 9 (by omega) (by omega)
  have d1:=Nm i (by omega)
  have w1:i64.wrap (Ae L (kk+2 * i) 9-4)=Ae L (kk+2 * i) 9-4:=AU _ (by omega) (by omega)
  have w2:i64.wrap (Ae L (kk+2 * i+1) 9-4)=Ae L (kk+2 * i+1) 9-4:=AU _ (by omega) (by omega)
  have wk:i64.wrap ((K:Int)-(i:Int)-1)=(K:Int)-((i+1:Nat):Int):=by rw[AU _ (by omega) (by omega)];omega
  have hsz:(Cc i).size<=2:=by unfold Cc;split<;>exact nL rfl
  have dd:CT Try.prog 59 [] [.int .i64 (iN (bsZ L kk i).length)] [] (.str (Cc i)):=by rw[hbl];exact d1
  refine T.path mix (ntl_0 (qA L (kk+2 * i) (bsZ L kk i) (List.replicate i []) [] [] ((K:Int)-(i:Int)) 0 (Cc i) (Ae L (kk+2 * i) 9) (Ae L (kk+2 * i+1) 9) 0 0 (kk+2 * i+1) (kk+2 * i+2) 0 0)
   (Rh (by simp only[qA];omega)) dd (by show 1+(Cc i).size<=_;omega) n1 n2 (by simp only[qA,hbl,hbm]) (by simp) (by simp only[qA,hbm,RP];omega) (by simp only[qA,hbm,RP];omega)
   (by simp only[qA,hgl,Rv]) (by simp only[qA,hgl];omega) (by simp only[qA,hgl];omega) ?_)
  intro st hst
  refine⟨i+1,?_,h,by omega⟩
  simp only[qA,wk,w1,w2] at hst
  have e1:(bsZ L kk (i+1)).map bA=(bsZ L kk i).map bA++[AV.agg [AV.str (ByteArray.mk #[98]++Cc i),AV.int .i64 (Ae L (kk+2 * i) 9-4),AV.int .i64 (Ae L (kk+2 * i+1) 9-4)]]:=by rw[bsZ_succ,Ro];rfl
  have e2:(bsZ L kk (i+1)).length=((bsZ L kk i).map bA).length+[AV.agg [AV.str (ByteArray.mk #[98]++Cc i),AV.int .i64 (Ae L (kk+2 * i) 9-4),AV.int .i64 (Ae L (kk+2 * i+1) 9-4)]].length:=by rw[Ha,hbm];rfl
  have e3:(List.replicate (i+1) ([]:List Int)).length=(gL (List.replicate i [])).length+1:=by rw[hgl];simp
  unfold CM nA1 bsB gB
  simp only[qA]
  rw[e1,e2,e3,<-Pv]
  exact hst
 .obtain rfl:i=K:=by omega
  have hr:=ring_ct (L:=L) (bs:=bsZ L kk i) (by rw[hbl];exact hK) (kk+2 * i) (by omega)
  rw[hbl] at hr
  have hro:=L2 (L:=L) (kk:=kk+2 * i) hK
  have n1:=AA L (Bh L i (kk+2 * i)).2 3 (by omega)
  have r1:=AY L (Bh L i (kk+2 * i)).2 3 (by omega) (by omega)
  have w3:i64.wrap (3+Ae L (Bh L i (kk+2 * i)).2 3)=3+Ae L (Bh L i (kk+2 * i)).2 3:=AU _ (by omega) (by omega)
  rw[<-rng0_rep] at hr
  have k:=ntx_0 (post:=post) (qA L (kk+2 * i) (bsZ L kk i) (List.replicate i []) (Bh L i (kk+2 * i)).1 [] ((i:Int)-(i:Int)) 0 em (Ae L (Bh L i (kk+2 * i)).2 3) 0 0 0 (Bh L i (kk+2 * i)).2 ((Bh L i (kk+2 * i)).2+1) 0 0)
   (Rg (by simp only[qA];omega)) hr n1 (by have:=hT (iN (bsZ L kk i).length) (by simp[iN,hbl]);simp only[qA,w3];exact this)
  exact T.out mix k
def spZ(L:List Int)(b:Nat)(i kk:Nat)(base:Int)(dep:Bool):Ar:=⟨EI i,dep,Ae L kk b,Ae L (kk+1) b,1+Ae L (kk+2) 3,base⟩
structure SS where
 ss:List Ar
 kk:Nat
 base:Int
def stS(L:List Int)(b:Nat)(p:SS):SS:=
 if p.ss.length=0 then ⟨p.ss++[spZ L b p.ss.length p.kk p.base true],p.kk+3,p.base+(1+Ae L (p.kk+2) 3)⟩
 else if 2<p.ss.length then ⟨p.ss++[spZ L b p.ss.length (p.kk+1) p.base (Ae L p.kk 2==0)],p.kk+4,p.base+(1+Ae L (p.kk+3) 3)⟩
 else ⟨p.ss++[spZ L b p.ss.length p.kk p.base false],p.kk+3,p.base+(1+Ae L (p.kk+2) 3)⟩
def itS(L:List Int)(b:Nat)(p:SS):Nat->SS
 | 0=>p
 | n+1=>stS L b (itS L b p n)
theorem Kw{L:List Int}{b:Nat}{p:SS}:∀n,(itS L b p n).ss.length=p.ss.length+n/\(itS L b p n).kk<=p.kk+4 * n/\p.base<=(itS L b p n).base/\(itS L b p n).base<=p.base+3 * n:=by
 intro n
 induction n with
 | zero=>simp[itS]
 | succ n ih=>
  obtain⟨h1,h2,h3,h4⟩:=ih
  have r1:=AY L ((itS L b p n).kk+2) 3 (by omega) (by omega)
  have r2:=AY L ((itS L b p n).kk+3) 3 (by omega) (by omega)
  simp only[itS]
  unfold stS
  split
  .refine⟨by simp;omega,by simp only;omega,by simp only;omega,by simp only;omega⟩
  split
  .refine⟨by simp;omega,by simp only;omega,by simp only;omega,by simp only;omega⟩
  .refine⟨by simp;omega,by simp only;omega,by simp only;omega,by simp only;omega⟩
theorem ssl_eq(ss:List Ar)(s:Ar):(ss++[s]).map sA=ss.map sA++[sA s]/\(ss++[s]).length=(ss.map sA).length+1:=by simp
theorem n1_step{L:List Int}{bs:List A3}(hb:1<=bs.length/\bs.length<=24){g:List (List Int)}{p:SS}(hp:p.ss.length<6)(hkk:p.kk<=100000)(hba:0<=p.base/\p.base<=1000){k:Int}(hk:0<k/\k<=10){R:St->Prop}{post:Exit->St->Prop}
  (hR:∀st,Ren 1 st (BZ (qA L (stS L bs.length p).kk bs g [] (stS L bs.length p).ss (k-1) (stS L bs.length p).base em 0 0 0 0 0 0 0 0))->R st):
  T Try.prog 1 (zC (zB Try.f37) 1) (BZ (qA L p.kk bs g [] p.ss k p.base em 0 0 0 0 0 0 0 0)) (andThen R post):=by
 obtain⟨ss,kk,base⟩:=p
 simp only at hp hkk hba
 have hsm:(ss.map sA).length=ss.length:=by simp
 have dd:=Nm ss.length (by omega)
 have hsz:(Cc ss.length).size<=2:=by unfold Cc;split<;>exact nL rfl
 have dk:decide (0<k)=true:=Rh hk.1
 have wk:i64.wrap (k-1)=k-1:=AU _ (by omega) (by omega)
 have fsz:1+(Cc ss.length).size<=9223372036854775807:=by omega
 have n0:=AA L kk bs.length (by omega)
 have n1:=AA L (kk+1) bs.length (by omega)
 have n2:=AA L (kk+2) bs.length (by omega)
 have m2:=AA L (kk+2) 3 (by omega)
 have m3:=AA L (kk+3) 3 (by omega)
 have c0:=AA L kk 2 (by omega)
 have r2:=AY L (kk+2) 3 (by omega) (by omega)
 have r3:=AY L (kk+3) 3 (by omega) (by omega)
 have w2:i64.wrap (1+Ae L (kk+2) 3)=1+Ae L (kk+2) 3:=AU _ (by omega) (by omega)
 have w3:i64.wrap (1+Ae L (kk+3) 3)=1+Ae L (kk+3) 3:=AU _ (by omega) (by omega)
 have v2:i64.wrap (base+(1+Ae L (kk+2) 3))=base+(1+Ae L (kk+2) 3):=AU _ (by omega) (by omega)
 have v3:i64.wrap (base+(1+Ae L (kk+3) 3))=base+(1+Ae L (kk+3) 3):=AU _ (by omega) (by omega)
 have fin:∀(dep:Bool) (t:Nat) (bb:Int) (s:Ar) st,s.dep=dep->Ren 1 st (St.mk 191 [(0,AV.ptr 0 0 0),(4,AV.ptr 1 0 0),(5,AV.ptr 2 0 0),(8,AV.int i64 bb),(9,AV.int i64 (k-1))] [some (Ab L t),some zB8,
   some (Blk.mk [AV.agg [AV.sl 3 0 bs.length,AV.sl 4 0 g.length,AV.sl 5 0 ((ss.map sA).length+1),AV.nils,AV.int i64 0,AV.int i64 0,AV.int i64 0,AV.int i64 0]] 8 false true none),some (bsB bs),some (gB g),some (Blk.mk (ss.map sA++[sA s]) 6 true true none)])->
   Ren 1 st (BZ (qA L t bs g [] (ss++[s]) (k-1) bb em 0 0 0 0 0 0 0 0)):=fun dep t bb s st _ h=>by
  obtain⟨e1,e2⟩:=ssl_eq ss s
  unfold BZ nA2 ssB
  simp only[qA]
  rw[e1,e2]
  exact h
 unfold stS at hR
 simp only at hR
 by_cases h0:ss.length=0
 .rw[if_pos h0] at hR
  refine T.path mix (nul_0 (qA L kk bs g [] ss k base (Cc ss.length) 0 (Ae L kk bs.length) (Ae L (kk+1) bs.length) (Ae L (kk+2) 3) 0 (kk+1) (kk+2) (kk+3)) dk dd fsz (by simp[qA,iN,h0]) n0 n1 m2 (by simp only[qA,hsm]) (by simp) (by simp only[qA,hsm,RP];omega) (by simp only[qA,hsm,RP];omega) ?_)
  intro st hst
  simp only[qA,wk,w2,v2] at hst
  exact hR st (fin true _ _ (spZ L bs.length ss.length kk base true) st rfl hst)
 .rw[if_neg h0] at hR
  have hz:(iN ss.length==0)=false:=by simp only[iN,RL,ne_eq];omega
  by_cases h2:2<ss.length
  .rw[if_pos h2] at hR
   refine T.path mix (nul_1 (qA L kk bs g [] ss k base (Cc ss.length) (Ae L kk 2) (Ae L (kk+1) bs.length) (Ae L (kk+2) bs.length) (Ae L (kk+3) 3) (kk+1) (kk+2) (kk+3) (kk+4)) dk dd fsz hz (Rh (by simp only[qA,iN];omega)) c0 n1 n2 m3 (by simp only[qA,hsm]) (by simp) (by simp only[qA,hsm,RP];omega) (by simp only[qA,hsm,RP];omega) ?_)
   intro st hst
   simp only[qA,wk,w3,v3] at hst
   exact hR st (fin (Ae L kk 2==0) _ _ (spZ L bs.length ss.length (kk+1) base (Ae L kk 2==0)) st rfl hst)
  .rw[if_neg h2] at hR
   refine T.path mix (nul_2 (qA L kk bs g [] ss k base (Cc ss.length) 0 (Ae L kk bs.length) (Ae L (kk+1) bs.length) (Ae L (kk+2) 3) 0 (kk+1) (kk+2) (kk+3)) dk dd fsz hz (Rg (by simp only[qA,iN];omega)) n0 n1 m2 (by simp only[qA,hsm]) (by simp) (by simp only[qA,hsm,RP];omega) (by simp only[qA,hsm,RP];omega) ?_)
   intro st hst
   simp only[qA,wk,w2,v2] at hst
   exact hR st (fin false _ _ (spZ L bs.length ss.length kk base false) st rfl hst)
theorem LessB_zS{bs:List A3}{g:List (List Int)}:Cz (nA1 bs g) (nA2 bs g []):=by
 refine⟨rfl,fun _=>rfl,rfl,Rm _,fun i e' h=>?_,fun h=>(by cases h),fun h=>(by cases h)⟩
 match i,h with
 | 0,h=>
  simp[nA2] at h;subst h
  refine⟨_,rfl,rfl,fun j c' hj=>?_⟩
  match j,hj with
  | 0,hj=>simp[AV.cells] at hj;subst hj;exact⟨_,rfl,.refl _⟩
  | 1,hj=>simp[AV.cells] at hj;subst hj;exact⟨_,rfl,.refl _⟩
  | 2,hj=>simp[AV.cells] at hj;subst hj;exact⟨.nils,rfl,.nilS 5 0⟩
  | 3,hj=>simp[AV.cells] at hj;subst hj;exact⟨_,rfl,.refl _⟩
  | 4,hj=>simp[AV.cells] at hj;subst hj;exact⟨_,rfl,.refl _⟩
  | 5,hj=>simp[AV.cells] at hj;subst hj;exact⟨_,rfl,.refl _⟩
  | 6,hj=>simp[AV.cells] at hj;subst hj;exact⟨_,rfl,.refl _⟩
  | 7,hj=>simp[AV.cells] at hj;subst hj;exact⟨_,rfl,.refl _⟩
  | j+8,hj=>simp[AV.cells] at hj
 | i+1,h=>simp[nA2] at h
theorem ren_s(q:QA)(hs:q.ss=[]):Ren 1 (DG q) (BZ q):=by
 refine Ren.less rfl (by simp[DG,BZ]) (fun s=>.refl _) fun b blk' h=>?_
 match b,h with
 | 0,h=>exact .inl ⟨by simp[DG],_,rfl,.inl (by simpa [BZ,nth] using h.symm)⟩
 | 1,h=>exact .inl ⟨by simp[DG],_,rfl,.inl (by simpa [BZ,nth] using h.symm)⟩
 | 2,h=>
  simp only[BZ,nth,Option.some.injEq] at h;subst h
  exact .inl ⟨by simp[DG],_,rfl,.inr (by rw[hs];exact LessB_zS)⟩
 | 3,h=>exact .inl ⟨by simp[DG],_,rfl,.inl (by simpa [BZ,nth] using h.symm)⟩
 | 4,h=>exact .inl ⟨by simp[DG],_,rfl,.inl (by simpa [BZ,nth] using h.symm)⟩
 | 5,h=>
  simp only[BZ,nth,Option.some.injEq] at h;subst h
  exact .inr ⟨by simp[DG],by simp[ssB,hs],rfl,rfl,rfl⟩
 | b+6,h=>simp[BZ,nth] at h
theorem Na{L:List Int}{bs:List A3}(hb:1<=bs.length/\bs.length<=24){g:List (List Int)}{kk K:Nat}(hkk:kk<=90000)(hK:3<=K/\K<=5){base:Int}(hba:0<=base/\base<=900){post:Exit->St->Prop}
  (hX:T Try.prog 1 (zC (zB Try.f37) 1) (BZ (qA L (itS L bs.length ⟨[],kk,base⟩ K).kk bs g [] (itS L bs.length ⟨[],kk,base⟩ K).ss 0 (itS L bs.length ⟨[],kk,base⟩ K).base em 0 0 0 0 0 0 0 0)) (andThen (fun _=>False) (TK Try.prog 1 post (zK (zB Try.f37) 1)))):
  T Try.prog 1 (.loop (zC (zB Try.f37) 1)) (DG (qA L kk bs g [] [] (K:Int) base em 0 0 0 0 0 0 0 0)) (TK Try.prog 1 post (zK (zB Try.f37) 1)):=by
 refine T.less (ren_s _ rfl) ?_
 suffices hh:T Try.prog 1 (.loop (zC (zB Try.f37) 1)) (BZ (qA L (itS L bs.length ⟨[],kk,base⟩ 0).kk bs g [] (itS L bs.length ⟨[],kk,base⟩ 0).ss ((K:Int)-((0:Nat):Int)) (itS L bs.length ⟨[],kk,base⟩ 0).base em 0 0 0 0 0 0 0 0)) (TK Try.prog 1 post (zK (zB Try.f37) 1)) by
  simpa [itS] using hh
 refine T.loop (fun m:Nat=>BZ (qA L (itS L bs.length ⟨[],kk,base⟩ m).kk bs g [] (itS L bs.length ⟨[],kk,base⟩ m).ss ((K:Int)-(m:Int)) (itS L bs.length ⟨[],kk,base⟩ m).base em 0 0 0 0 0 0 0 0)) (fun m=>m<=K) (fun m=>K+1-m) 0 (Rn _) ?_
 intro m hm
 obtain⟨h1,h2,h3,h4⟩:=Kw (L:=L) (b:=bs.length) (p:=⟨[],kk,base⟩) m
 simp only[RS,Rq] at h1 h2 h3 h4
 by_cases h:m<K
 .refine n1_step hb (by omega) (by omega) (by omega) (by omega) fun st hst=>⟨m+1,?_,h,by omega⟩
  have e:(K:Int)-(m:Int)-1=(K:Int)-((m+1:Nat):Int):=by omega
  rw[e] at hst
  exact hst
 .obtain rfl:m=K:=by omega
  have e:(m:Int)-(m:Int)=0:=by omega
  rw[e]
  exact hX.mono fun ex st hp=>by
   cases ex with
   | normal=>exact hp.elim
   | _=>exact hp
def Dz(q:QF):St:={n:=Try.f37.ntmps,fr:=[(0,.ptr 0 0 0),(4,.ptr 1 0 0),(5,.ptr 2 0 0),(12,.ptr 6 0 0),(14,.int .i64 q.k)],hp:=[some (Ab q.L q.kk),some zB8,some (nA3 q.bs q.g q.ss q.cx q.cy q.cz q.cw),some (bsB q.bs),some (gB q.g),some (ssB q.ss),some (capB q.cg q.cs q.cc)]}
theorem LessB_zR{bs:List A3}{g:List (List Int)}{ss:List Ar}{x y z w:Int}:Cz (nA3 bs g ss x y z w) (nA5 bs g ss [] x y z w):=by
 refine⟨rfl,fun _=>rfl,rfl,Rm _,fun i e' h=>?_,fun h=>(by cases h),fun h=>(by cases h)⟩
 match i,h with
 | 0,h=>
  simp[nA5] at h;subst h
  refine⟨_,rfl,rfl,fun j c' hj=>?_⟩
  match j,hj with
  | 0,hj=>simp[AV.cells] at hj;subst hj;exact⟨_,rfl,.refl _⟩
  | 1,hj=>simp[AV.cells] at hj;subst hj;exact⟨_,rfl,.refl _⟩
  | 2,hj=>simp[AV.cells] at hj;subst hj;exact⟨_,rfl,.refl _⟩
  | 3,hj=>simp[AV.cells] at hj;subst hj;exact⟨.nils,rfl,.nilS 7 0⟩
  | 4,hj=>simp[AV.cells] at hj;subst hj;exact⟨_,rfl,.refl _⟩
  | 5,hj=>simp[AV.cells] at hj;subst hj;exact⟨_,rfl,.refl _⟩
  | 6,hj=>simp[AV.cells] at hj;subst hj;exact⟨_,rfl,.refl _⟩
  | 7,hj=>simp[AV.cells] at hj;subst hj;exact⟨_,rfl,.refl _⟩
  | j+8,hj=>simp[AV.cells] at hj
 | i+1,h=>simp[nA5] at h
theorem ren_r(q:QF)(hs:q.rs=[]):Ren 1 (Dz q) (BQ q):=by
 refine Ren.less rfl (by simp[Dz,BQ,hF]) (fun s=>.refl _) fun b blk' h=>?_
 match b,h with
 | 0,h=>exact .inl ⟨by simp[Dz],_,rfl,.inl (by simpa [BQ,hF,nth] using h.symm)⟩
 | 1,h=>exact .inl ⟨by simp[Dz],_,rfl,.inl (by simpa [BQ,hF,nth] using h.symm)⟩
 | 2,h=>
  simp only[BQ,hF,nth,Option.some.injEq] at h;subst h
  exact .inl ⟨by simp[Dz],_,rfl,.inr (by rw[hs];exact LessB_zR)⟩
 | 3,h=>exact .inl ⟨by simp[Dz],_,rfl,.inl (by simpa [BQ,hF,nth] using h.symm)⟩
 | 4,h=>exact .inl ⟨by simp[Dz],_,rfl,.inl (by simpa [BQ,hF,nth] using h.symm)⟩
 | 5,h=>exact .inl ⟨by simp[Dz],_,rfl,.inl (by simpa [BQ,hF,nth] using h.symm)⟩
 | 6,h=>exact .inl ⟨by simp[Dz],_,rfl,.inl (by simpa [BQ,hF,nth] using h.symm)⟩
 | 7,h=>
  simp only[BQ,hF,nth,Option.some.injEq] at h;subst h
  exact .inr ⟨by simp[Dz],by simp[dB,hs],rfl,rfl,rfl⟩
 | b+8,h=>simp[BQ,hF,nth] at h
theorem NB{n:Aa}(hrw:Rows n.nx)(hv:Aq n)(hrs:n.rs=[]):CT Try.prog 61 [] [AV.agg [AV.lst (List.map bA n.bs),AV.lst (gL n.nx),AV.lst (List.map sA n.ss),AV.nils,AV.int i64 n.q,AV.int i64 n.a,AV.int i64 n.d,AV.int i64 n.p]] []
  (AV.tup [AV.agg [AV.int i64 (iN (Br n).length),AV.any,AV.int i64 (BX n),AV.int i64 (C0 (Br n) (BX n))],AV.int i64 0]):=by
 have h:=fleet_ct hrw hv
 have h2:=h.less (res':=AV.tup [AV.agg [AV.int i64 (iN (Br n).length),AV.any,AV.int i64 (BX n),AV.int i64 (C0 (Br n) (BX n))],AV.int i64 0]) ?_
 .refine h2.lessArgs rfl fun i a' ha=>?_
  match i,ha with
  | 0,ha=>
   simp at ha;subst ha
   refine⟨_,rfl,BV.agg rfl fun j c' hj=>?_⟩
   match j,hj with
   | 0,hj=>simp at hj;subst hj;exact⟨_,rfl,.refl _⟩
   | 1,hj=>simp at hj;subst hj;exact⟨_,rfl,.refl _⟩
   | 2,hj=>simp at hj;subst hj;exact⟨_,rfl,.refl _⟩
   | 3,hj=>simp at hj;subst hj;rw[hrs];exact⟨.nils,rfl,.nilL⟩
   | 4,hj=>simp at hj;subst hj;exact⟨_,rfl,.refl _⟩
   | 5,hj=>simp at hj;subst hj;exact⟨_,rfl,.refl _⟩
   | 6,hj=>simp at hj;subst hj;exact⟨_,rfl,.refl _⟩
   | 7,hj=>simp at hj;subst hj;exact⟨_,rfl,.refl _⟩
   | j+8,hj=>simp at hj
  | i+1,ha=>simp at ha
 .intro φ A w v hv
  cases hv with
  | imm _ _ h=>cases h
  | tup cs vs hl hh=>
   refine .tup _ vs (by simpa using hl) fun i c u hc hu=>?_
   match i,hc with
   | 0,hc=>
    simp at hc;subst hc
    refine(BV.agg (cs':=[.int .i64 (iN (Br n).length),.any,.int .i64 (BX n),.int .i64 (C0 (Br n) (BX n))]) rfl fun j c' hj=>?_:BV (AV.agg [.int .i64 (iN (Br n).length),lI (Br n),.int .i64 (BX n),.int .i64 (C0 (Br n) (BX n))]) _).2 _ _ _ _ (hh 0 _ u rfl hu)
    match j,hj with
    | 0,hj=>simp at hj;subst hj;exact⟨_,rfl,.refl _⟩
    | 1,hj=>simp at hj;subst hj;exact⟨lI (Br n),rfl,.any rfl⟩
    | 2,hj=>simp at hj;subst hj;exact⟨_,rfl,.refl _⟩
    | 3,hj=>simp at hj;subst hj;exact⟨_,rfl,.refl _⟩
    | j+4,hj=>simp at hj
   | 1,hc=>exact hh 1 c u (by simpa using hc) hu
   | i+2,hc=>simp at hc
theorem NH{L:List Int}{bs:List A3}{g:List (List Int)}{ss:List Ar}{kk:Nat}{base:Int}{x y z w v cg cs cc:Int}(hx:0<=x/\x<=10)(hw:0<=w/\w<=10)(hv:0<=v/\v<=10)
  (n0:CT Try.prog 12 [some (Ab L kk)] [.ptr 0 0 0,.int .i64 4] [some (Ab L (kk+1))] (.int .i64 x)) (n1:CT Try.prog 12 [some (Ab L (kk+1))] [.ptr 0 0 0,.int .i64 3] [some (Ab L (kk+2))] (.int .i64 y))
  (n2:CT Try.prog 12 [some (Ab L (kk+2))] [.ptr 0 0 0,.int .i64 3] [some (Ab L (kk+3))] (.int .i64 z)) (n3:CT Try.prog 12 [some (Ab L (kk+3))] [.ptr 0 0 0,.int .i64 8] [some (Ab L (kk+4))] (.int .i64 w))
  (n4:CT Try.prog 12 [some (Ab L (kk+4))] [.ptr 0 0 0,.int .i64 3] [some (Ab L (kk+5))] (.int .i64 v))
  (fl:CT Try.prog 61 [] [AV.agg [AV.lst (List.map bA bs),AV.lst (gL g),AV.lst (List.map sA ss),AV.nils,AV.int i64 (1+x),AV.int i64 y,AV.int i64 z,AV.int i64 (1+w)]] [] (AV.tup [AV.agg [AV.int i64 cg,AV.any,AV.int i64 cs,AV.int i64 cc],AV.int i64 0]))
  {R:St->Prop} {post:Exit->St->Prop}
  (hT:T Try.prog 1 (.loop (zC (zB Try.f37) 2)) (BQ ⟨L,kk+5,bs,g,ss,[],1+x,y,z,1+w,cg,cs,cc,1+v,[],0,0,s0,false,0,0⟩) (TK Try.prog 1 post (zK (zB Try.f37) 2))):
  T Try.prog 1 (zC (zB Try.f37) 1) (BZ (qA L kk bs g [] ss 0 base em 0 0 0 0 0 0 0 0)) (andThen R (TK Try.prog 1 post (zK (zB Try.f37) 1))):=by
 have w0:i64.wrap (1+x)=1+x:=AU _ (by omega) (by omega)
 have w3:i64.wrap (1+w)=1+w:=AU _ (by omega) (by omega)
 have w4:i64.wrap (1+v)=1+v:=AU _ (by omega) (by omega)
 have hbl:bs.length=(bs.map bA).length:=by simp
 have hgl:g.length=(gL g).length:=(B5 g).symm
 have hsl:ss.length=(ss.map sA).length:=by simp
 have k:=nux_0 (post:=post) ⟨L,kk,kk+1,kk+2,kk+3,kk+4,bs,g,[],ss,[],0,base,em,x,y,z,w,cg,cs,cc,[],0,0,s0,false,v⟩ (by simp) n0 n1 n2 n3 hbl hgl hsl (by simp only[w0,w3];exact fl) n4
  (by simp only[w0,w3,w4];exact T.less (ren_r ⟨L,kk+5,bs,g,ss,[],1+x,y,z,1+w,cg,cs,cc,1+v,[],0,0,s0,false,0,0⟩ rfl) hT)
 exact T.out mix k
structure SpI(b:Nat)(b0:Int)(p:SS):Prop where
 base:p.base=b0+(p.ss.map (·.k)).sum
 el:∀(i:Nat) (s:Ar),p.ss[i]?=some s->s.nm=EI i/\(i=0->s.dep=true)/\(i=1\/i=2->s.dep=false)/\(0<=s.i/\s.i<(b:Int))/\(0<=s.o/\s.o<(b:Int))/\(1<=s.k/\s.k<=3)/\s.b=b0+((p.ss.take i).map (·.k)).sum
theorem SpI.push{b:Nat}{b0:Int}{p:SS}(h:SpI b b0 p){s:Ar}{kk:Nat}(h1:s.nm=EI p.ss.length)(h2:p.ss.length=0->s.dep=true)(h3:p.ss.length=1\/p.ss.length=2->s.dep=false)
  (h4:0<=s.i/\s.i<(b:Int)) (h5:0<=s.o/\s.o<(b:Int)) (h6:1<=s.k/\s.k<=3) (h7:s.b=p.base):SpI b b0 ⟨p.ss++[s],kk,p.base+s.k⟩:=by
 refine⟨by simp[h.base,List.sum_append];omega,fun i t ht=>?_⟩
 simp only at ht ⊢
 rw[RK] at ht
 split at ht
 .rename_i hi
  have:=h.el i t ht
  rw[List.take_append_of_le_length (by omega)]
  exact this
 .rename_i hi
  have hil:i=p.ss.length:=by
   by_cases e:i=p.ss.length
   .exact e
   .rw[Rx (by simp;omega)] at ht;cases ht
  subst hil
  simp at ht;subst ht
  refine⟨h1,h2,h3,h4,h5,h6,?_⟩
  rw[List.take_append_of_le_length (Rm _),List.take_length,h7,h.base]
theorem NG{L:List Int}{b:Nat}(hb:1<=b/\b<=24){kk:Nat}{b0:Int}:∀n,SpI b b0 (itS L b ⟨[],kk,b0⟩ n):=by
 intro n
 induction n with
 | zero=>exact⟨by simp[itS],fun i s h=>by simp[itS] at h⟩
 | succ n ih=>
  have r:=fun k=>AY L k (b:Int) (by omega) (by omega)
  have r3:=fun k=>AY L k 3 (by omega) (by omega)
  simp only[itS]
  unfold stS
  split
  .rename_i h0
   exact ih.push (s:=spZ L b _ _ _ true) rfl (fun _=>rfl) (fun h=>by omega) (r _) (r _) ⟨by have:=r3 ((itS L b ⟨[],kk,b0⟩ n).kk+2);simp only[spZ];omega,by have:=r3 ((itS L b ⟨[],kk,b0⟩ n).kk+2);simp only[spZ];omega⟩ rfl
  split
  .rename_i h0 h2
   exact ih.push (s:=spZ L b _ _ _ _) rfl (fun h=>by omega) (fun h=>by omega) (r _) (r _) ⟨by have:=r3 ((itS L b ⟨[],kk,b0⟩ n).kk+1+2);simp only[spZ];omega,by have:=r3 ((itS L b ⟨[],kk,b0⟩ n).kk+1+2);simp only[spZ];omega⟩ rfl
  .rename_i h0 h2
   exact ih.push (s:=spZ L b _ _ _ false) rfl (fun h=>by omega) (fun _=>rfl) (r _) (r _) ⟨by have:=r3 ((itS L b ⟨[],kk,b0⟩ n).kk+2);simp only[spZ];omega,by have:=r3 ((itS L b ⟨[],kk,b0⟩ n).kk+2);simp only[spZ];omega⟩ rfl
theorem I9{L:List Int}{kk K i:Nat}{b:A3}(h:(bsZ L kk K)[i]?=some b):i<K/\b=GX L kk i:=by
 unfold bsZ at h
 rw[Rl] at h
 cases hr:(List.range K)[i]? with
 | none=>rw[hr] at h;cases h
 | some j=>
  rw[hr] at h
  obtain⟨h1,h2⟩:=Rd.1 hr
  simp at h1 h2
  simp at h
  subst h2
  exact⟨h1,h.symm⟩
theorem row_ok{r:List Int}{n v:Nat}(hl:r.length<=4)(hp:r.Pairwise (· < ·))(hr:∀w∈r,0<=w/\w<(n:Int)/\w≠(v:Int)):nxB r v n=true:=by
 rw[ME]
 have:fnd (AP r n v) 0 r.length=none:=by
  cases he:fnd (AP r n v) 0 r.length with
  | none=>rfl
  | some i=>
   exfalso
   obtain⟨h1,_,h3⟩:=D8 he
   have hi:i<r.length:=by omega
   have hm:r.getD i 0∈r:=by rw[Rc,Rb hi];exact RG hi
   obtain⟨g1,g2,g3⟩:=hr _ hm
   unfold AP at h1
   simp only[RM,decide_eq_true_eq,Rj,beq_iff_eq] at h1
   rcases h1 with h1 | h1 | h1 | ⟨h1,h2⟩
   .omega
   .omega
   .exact g3 h1
   .have:=List.pairwise_iff_getElem.1 hp (i-1) i (by omega) hi (by omega)
    rw[Rc,Rc,Rb hi,Rb (by omega:i-1<r.length)] at h2
    simp at h2
    omega
 rw[this];simpa using hl
theorem MA{L:List Int}{kk K:Nat}(hK:1<=K/\K<=24){g:List (List Int)}(hg:GI K 4 g){p:SS}(hp:SpI K (K:Int) p)(hl:3<=p.ss.length/\p.ss.length<=5){x y z w:Int}(hx:0<=x/\x<4)(hy:0<=y/\y<3)(hz:0<=z/\z<3)(hw:0<=w/\w<8):
  Aq ⟨bsZ L kk K,g,p.ss,[],1+x,y,z,1+w⟩:=by
 have hbl:=Ha L kk K
 have hT:∀(i:Nat) (s:Ar),p.ss[i]?=some s->CN ⟨bsZ L kk K,g,p.ss,[],1+x,y,z,1+w⟩ i s:=fun i s h=>by
  obtain⟨_,_,_,h4,h5,h6,h7⟩:=hp.el i s h
  exact⟨by simp only[hbl];exact h4,by simp only[hbl];exact h5,by omega,by unfold Am;simp only[hbl];exact h7⟩
 have hnm:∀(i:Nat) (s:Ar),p.ss[i]?=some s->s.nm=EI i/\i<6:=fun i s h=>⟨(hp.el i s h).1,by have:=(Rd.1 h).1;omega⟩
 refine⟨Bl.2 (by simp only[hbl];omega),by simp only[hbl];exact hg.len,by simp only;omega,by simp,?_,fun i b h=>?_,fun i s h=>NA ?_ (hT i s h),?_,?_,fun i c h=>by simp at h⟩
 .unfold Bb
  simp only[Rj,Bl]
  omega
 .obtain⟨h1,rfl⟩:=I9 h
  have r1:=AY L (kk+2 * i) 9 (by omega) (by omega)
  have r2:=AY L (kk+2 * i+1) 9 (by omega) (by omega)
  obtain⟨g1,g2,g3⟩:=hg.row i h1
  exact⟨nmBk_ok i (by omega),Bl.2 (by simp only[GX];omega),Bl.2 (by simp only[GX];omega),by simp only[hbl];exact row_ok g1 g2 g3⟩
 .obtain⟨e,hi⟩:=hnm i s h
  rw[e];exact nmSp_ok i hi
 .unfold B1
  rw[List.nodup_append]
  refine⟨?_,?_,?_⟩
  .rw[List.nodup_iff_pairwise_ne,List.pairwise_iff_getElem]
   intro a b ha hb hab he
   simp only[List.getElem_map] at he
   have ga:=I9 (Rb (l:=bsZ L kk K) (i:=a) (by simpa using ha))
   have gb:=I9 (Rb (l:=bsZ L kk K) (i:=b) (by simpa using hb))
   rw[ga.2,gb.2] at he
   have:=nmBk_inj a (by omega) b (by omega) he
   omega
  .rw[List.nodup_iff_pairwise_ne,List.pairwise_iff_getElem]
   intro a b ha hb hab he
   simp only[List.getElem_map] at he
   obtain⟨ga,ha6⟩:=hnm a _ (Rb (by simpa using ha))
   obtain⟨gb,hb6⟩:=hnm b _ (Rb (by simpa using hb))
   rw[ga,gb] at he
   have:=nmSp_inj a ha6 b hb6 he
   omega
  .intro a ha b hb he
   obtain⟨s,hs,rfl⟩:=RF.1 ha
   obtain⟨t,ht,rfl⟩:=RF.1 hb
   obtain⟨i,hi⟩:=List.mem_iff_getElem?.1 hs
   obtain⟨j,hj⟩:=List.mem_iff_getElem?.1 ht
   obtain⟨h1,rfl⟩:=I9 hi
   obtain⟨e,hj6⟩:=hnm j t hj
   rw[e] at he
   exact nm_dis i (by omega) j hj6 he
 .obtain⟨s,hs⟩:∃s,p.ss[0]?=some s:=⟨_,Rb (by omega)⟩
  obtain⟨_,h2,_,_,_,h6,_⟩:=hp.el 0 s hs
  refine⟨s.b,s,?_,h2 rfl,by omega,by omega⟩
  rw[List.take_length]
  exact Rf hs
theorem Ly(c i:Nat):(List.replicate c false).getD i false=false:=by
 rw[Rc,Rz];split<;>rfl
theorem Py(c:Nat)(s:Ar):Fo (List.replicate c false) s=true:=by
 unfold Fo
 rw[Ly,Ly]
 have:fnd (fun j=>(List.replicate c false).getD (s.b+(j:Int)).toNat false) 0 s.k.toNat=none:=by
  cases he:fnd (fun j=>(List.replicate c false).getD (s.b+(j:Int)).toNat false) 0 s.k.toNat with
  | none=>rfl
  | some i=>have:=(D8 he).1;rw[Ly] at this;cases this
 rw[this];rfl
theorem hasZ_nil(x:Int):Bz [] x=false:=by
 cases h:Bz [] x with
 | false=>rfl
 | true=>have:=Dy.1 h;simp at this
theorem Pj{s:Ar}(hk:0<=s.k):((CA s []).length:Int)=if s.dep=true then s.k else 0:=by
 unfold CA BB
 split
 .rw[List.filter_eq_self.2 (fun x _=>by rw[hasZ_nil];rfl)]
  simp;omega
 .rfl
theorem NY{n:Aa}(hv:Aq n)(c:Nat):∀i,i<=n.ss.length->Bj n (List.replicate c false) i=((BC n.ss [] i).length:Int):=by
 intro i
 induction i with
 | zero=>intro _;simp[Bj,BC]
 | succ i ih=>
  intro h
  obtain⟨s,hs⟩:∃s,n.ss[i]?=some s:=⟨_,Rb h⟩
  rw[JU hs,Ix hs,Ru,ih (by omega),Py,Bool.and_true]
  have hk:=(hv.goodT i s hs).hk
  have:=Pj (s:=s) (by omega)
  omega
theorem Hl{ss:List Ar}{rs:List Int}{x:Int}:∀i,i<=ss.length->(x∈BC ss rs i↔(∃s∈ss.take i,s.dep=true/\s.b<=x/\x<s.b+s.k)/\x∉rs):=by
 intro i hi
 unfold BC
 rw[List.mem_flatMap]
 constructor
 .rintro⟨s,hs,hx⟩
  unfold CA at hx
  split at hx
  .rename_i hd
   unfold BB at hx
   rw[List.mem_filter] at hx
   obtain⟨h1,h2⟩:=hx
   obtain⟨t,ht,rfl⟩:=RF.1 h1
   have:=R0.1 ht
   refine⟨⟨s,hs,hd,by omega,by omega⟩,fun hm=>?_⟩
   rw[Dy.2 hm] at h2;cases h2
  .cases hx
 .rintro⟨⟨s,hs,hd,h1,h2⟩,hn⟩
  refine⟨s,hs,?_⟩
  unfold CA BB
  rw[if_pos hd,List.mem_filter]
  refine⟨RF.2 ⟨(x-s.b).toNat,R0.2 (by omega),by omega⟩,?_⟩
  cases hh:Bz rs x with
  | false=>rfl
  | true=>exact absurd (Dy.1 hh) hn
theorem nodup_le:∀{l m:List Int},l.Nodup->(∀x∈l,x∈m)->l.length<=m.length:=by
 intro l
 induction l with
 | nil=>intro m _ _;simp
 | cons a l ih=>
  intro m hn hs
  rw[List.nodup_cons] at hn
  have ha:=hs a (by simp)
  have:=ih (m:=m.erase a) hn.2 fun x hx=>(List.mem_erase_of_ne (a:=x) (b:=a) (fun e=>hn.1 (by rw[<-e];exact hx))).2 (hs x (Rs _ hx))
  rw[List.length_erase_of_mem ha] at this
  have:0<m.length:=R2 ha
  simp only[RR];omega
theorem PZ{n:Aa}(hv:Aq n):∀i,i<=n.ss.length->(BC n.ss [] i).Nodup:=by
 intro i
 induction i with
 | zero=>intro _;simp[BC]
 | succ i ih=>
  intro h
  obtain⟨s,hs⟩:∃s,n.ss[i]?=some s:=⟨_,Rb h⟩
  rw[Ix hs,List.nodup_append]
  refine⟨ih (by omega),?_,fun a ha b hb e=>?_⟩
  .unfold CA BB
   split
   .refine List.Pairwise.filter _ ?_
    rw[List.pairwise_map]
    refine List.Pairwise.imp ?_ (List.nodup_iff_pairwise_ne.1 List.nodup_range)
    intro x y hxy e
    omega
   .simp
  .subst e
   obtain⟨⟨t,ht,_,h1,h2⟩,_⟩:=(Hl i (by omega)).1 ha
   obtain⟨j,hj⟩:=List.mem_iff_getElem?.1 ht
   have hji:j<i:=by have:=(Rd.1 hj).1;simp at this;omega
   have hjt:n.ss[j]?=some t:=by rw[Rt,if_pos hji] at hj;exact hj
   have g1:=(hv.goodT j t hjt).hb
   have g2:=(hv.goodT i s hs).hb
   have hm:=J4 hv (i:=j+1) (j:=i) (by omega) (by omega)
   rw[C9 hjt] at hm
   unfold CA BB at hb
   split at hb
   .rw[List.mem_filter] at hb
    obtain⟨t',_,e'⟩:=RF.1 hb.1
    omega
   .cases hb
theorem JN{n:Aa}(hv:Aq n)(c:Nat){rs:List Int}(h:(rs.length:Int)<Bj n (List.replicate c false) n.ss.length):BC n.ss rs n.ss.length≠[]:=by
 intro he
 have h1:=NY hv c n.ss.length (Rm _)
 have h2:=nodup_le (PZ hv n.ss.length (Rm _)) (m:=rs) fun x hx=>by
  obtain⟨g1,_⟩:=(Hl _ (Rm _)).1 hx
  by_cases hm:x∈rs
  .exact hm
  .have:=(Hl (rs:=rs) _ (Rm _)).2 ⟨g1,hm⟩
   rw[he] at this;cases this
 omega
theorem OD{n:Aa}(hrw:Rows n.nx)(hv:Aq n):1<=C0 (Br n) (BX n)/\C0 (Br n) (BX n)<=BX n:=by
 have hs1:1<=BX n:=by
  unfold BX
  rw[NY hv _ _ (Rm _)]
  obtain⟨x,s,hs,hd,h1,h2⟩:=hv.dep
  have hm:x∈BC n.ss [] n.ss.length:=(Hl _ (Rm _)).2 ⟨⟨s,hs,hd,h1,h2⟩,by simp⟩
  have:=R2 hm
  omega
 have hg2:(Br n).length≠1:=by
  intro he
  unfold Br G3 at he
  rw[if_pos hv.chk] at he
  obtain⟨hg,_⟩:=Jh hrw hv.chk
  obtain⟨⟨_,h2,h3⟩,_⟩:=Pn hg (by intro e;rw[e] at he;simp at he)
  generalize Cj n.nx (List.replicate n.bs.length false) n.nx.length=o at he h2 h3
  have hm:o.getD 0 0∈o:=by rw[Rc,Rb (by omega:0<o.length)];exact RG (by omega)
  have h4:=h3 0 (by omega)
  rw[he] at h4
  obtain⟨g1,g2,_⟩:=h2 _ hm
  have:=(hg.row (o.getD 0 0).toNat (by omega)).2 (o.getD 0 0) (by simpa using h4)
  omega
 unfold C0
 split
 .split<;>omega
 .omega
def nxR(Q:QF):QF:={Q with kk:=Q.kk+1,rs:=Q.rs++[Eo Q],k:=Q.k-1}
def itR(Q:QF):Nat->QF
 | 0=>Q
 | n+1=>nxR (itR Q n)
def BH(Q:QF)(rs:List Int):Aa:=⟨Q.bs,Q.g,Q.ss,rs,Q.cx,Q.cy,Q.cz,Q.cw⟩
def DJ(n:Aa)(rs:List Int):Prop:=∀(i:Nat) (c:Int),rs[i]?=some c->AQ n n.ss.length c/\c∉rs.take i
theorem newR_ok{Q:QF}(hne:BC Q.ss Q.rs Q.ss.length≠[])(hl:(BC Q.ss Q.rs Q.ss.length).length<=1000):(∃s∈Q.ss,s.dep=true/\s.b<=Eo Q/\Eo Q<s.b+s.k)/\Eo Q∉Q.rs:=by
 have hp:=List.length_pos_iff.2 hne
 have r:=AY Q.L Q.kk ((BC Q.ss Q.rs Q.ss.length).length:Int) (by omega) (by omega)
 have hm:Eo Q∈BC Q.ss Q.rs Q.ss.length:=by
  unfold Eo
  rw[Rc,Rb (by omega)]
  exact RG _
 obtain⟨⟨s,hs,h⟩,h2⟩:=(Hl _ (Rm _)).1 hm
 rw[List.take_length] at hs
 exact⟨⟨s,hs,h⟩,h2⟩
theorem DJ.push{n:Aa}{rs:List Int}(h:DJ n rs){c:Int}(h1:AQ n n.ss.length c)(h2:c∉rs):DJ n (rs++[c]):=by
 intro i d hd
 rw[RK] at hd
 split at hd
 .rename_i hi
  rw[List.take_append_of_le_length (by omega)]
  exact h i d hd
 .rename_i hi
  have hil:i=rs.length:=by
   by_cases e:i=rs.length
   .exact e
   .rw[Rx (by simp;omega)] at hd;cases hd
  subst hil
  simp at hd;subst hd
  rw[List.take_append_of_le_length (Rm _),List.take_length]
  exact⟨h1,h2⟩
theorem Aq.robots{n:Aa}(h:Aq n){rs:List Int}(hr:DJ n rs)(hl:rs.length<=8):Aq {n with rs:=rs}:=
 ⟨h.nb,h.nx,h.ns,hl,(by have:=h.cfg;unfold Bb at this ⊢;exact this),fun i b hb=>⟨(h.blk i b hb).nm,(h.blk i b hb).x,(h.blk i b hb).y,(h.blk i b hb).nx⟩,fun i s hs=>⟨(h.spu i s hs).nm,(h.spu i s hs).hi,(h.spu i s hs).ho,(h.spu i s hs).hk,(h.spu i s hs).hb⟩,h.nod,h.dep,hr⟩
theorem JT(Q:QF):∀m,itR Q m={Q with kk:=Q.kk+m,rs:=(itR Q m).rs,k:=Q.k-(m:Int)}:=by
 intro m
 induction m with
 | zero=>simp[itR]
 | succ m ih=>
  have e:itR Q (m+1)=nxR (itR Q m):=rfl
  rw[e]
  generalize itR Q m=R at ih ⊢
  rw[ih]
  simp only[nxR]
  congr 1
  omega
theorem Js{Q:QF}(hv:Aq (BH Q []))(hrs:Q.rs=[]){c:Nat}{M:Nat}(hM:(M:Int)<=Bj (BH Q []) (List.replicate c false) Q.ss.length):∀m,m<=M->(itR Q m).rs.length=m/\DJ (BH Q []) (itR Q m).rs:=by
 intro m
 induction m with
 | zero=>intro _;simp only[itR];rw[hrs];exact⟨rfl,fun i c h=>by simp at h⟩
 | succ m ih=>
  intro hm
  obtain⟨h1,h2⟩:=ih (by omega)
  have hne:=JN hv c (rs:=(itR Q m).rs) (by rw[h1];exact Int.lt_of_lt_of_le (by omega) hM)
  have hfl:=NN (ss:=Q.ss) (rs:=(itR Q m).rs) (fun s hs=>by obtain⟨j,hj⟩:=List.mem_iff_getElem?.1 hs;exact(hv.goodT j s hj).hk.2) Q.ss.length (Rm _)
  have hns:=hv.ns
  simp only[BH] at hns hne
  have e:=JT Q m
  have hss:(itR Q m).ss=Q.ss:=by rw[e]
  have ok:=newR_ok (Q:=itR Q m) (by rw[hss];exact hne) (by rw[hss];omega)
  rw[hss] at ok
  refine⟨by simp only[itR,nxR,Ru,RP,h1],?_⟩
  simp only[itR,nxR]
  refine h2.push ?_ ok.2
  obtain⟨s,hs,hd,g1,g2⟩:=ok.1
  refine⟨s,?_,hd,g1,g2⟩
  simp only[BH]
  rw[List.take_length]
  exact hs
def l3n(q:QF):St:={n:=Try.f37.ntmps,fr:=[(0,.ptr 0 0 0),(4,.ptr 1 0 0),(5,.ptr 2 0 0),(12,.ptr 6 0 0),(14,.int .i64 q.k),(15,.nils),(16,.int .i64 0)],hp:=hF q}
theorem Fu{a b:AV}(h:BV a b)(k s:Nat){r r':List (Nat×AV)}(hr:BV (AX.Al r s) (AX.Al r' s)):BV (AX.Al ((k,a)::r) s) (AX.Al ((k,b)::r') s):=by
 simp only[AX.Al]
 cases Nat.beq k s with
 | true=>exact h
 | false=>exact hr
theorem ren_f(q:QF):Ren 1 (l3n q) (Cr (frU q [] 0 0 s0 false)):=by
 refine Ren.less rfl (by simp[l3n,Cr,hF]) (fun s=>?_) fun b blk' h=>?_
 .exact Fu (.refl _) _ _ (Fu (.refl _) _ _ (Fu (.refl _) _ _ (Fu (.refl _) _ _ (Fu (.refl _) _ _ (Fu (.nilS 8 0) _ _ (Fu (.refl _) _ _ (.refl _)))))))
 match b,h with
 | 0,h=>exact .inl ⟨by simp[l3n,hF],_,rfl,.inl (by simpa [Cr,frU,hF,nth] using h.symm)⟩
 | 1,h=>exact .inl ⟨by simp[l3n,hF],_,rfl,.inl (by simpa [Cr,frU,hF,nth] using h.symm)⟩
 | 2,h=>exact .inl ⟨by simp[l3n,hF],_,rfl,.inl (by simpa [Cr,frU,hF,nth] using h.symm)⟩
 | 3,h=>exact .inl ⟨by simp[l3n,hF],_,rfl,.inl (by simpa [Cr,frU,hF,nth] using h.symm)⟩
 | 4,h=>exact .inl ⟨by simp[l3n,hF],_,rfl,.inl (by simpa [Cr,frU,hF,nth] using h.symm)⟩
 | 5,h=>exact .inl ⟨by simp[l3n,hF],_,rfl,.inl (by simpa [Cr,frU,hF,nth] using h.symm)⟩
 | 6,h=>exact .inl ⟨by simp[l3n,hF],_,rfl,.inl (by simpa [Cr,frU,hF,nth] using h.symm)⟩
 | 7,h=>exact .inl ⟨by simp[l3n,hF],_,rfl,.inl (by simpa [Cr,frU,hF,nth] using h.symm)⟩
 | 8,h=>
  have h:some (dB [])=some blk':=h
  simp only[Option.some.injEq] at h;subst h
  exact .inr ⟨by simp[l3n,hF],rfl,rfl,rfl,rfl⟩
 | b+9,h=>simp[Cr,frU,hF,nth] at h
theorem n2_run{Q:QF}(hv:Aq (BH Q []))(hrs:Q.rs=[]){c:Nat}(hcc:1<=Q.cc/\Q.cc<=Bj (BH Q []) (List.replicate c false) Q.ss.length)(hk:1<=Q.k/\Q.k<=5)(hkk:Q.kk<=90000){M:Nat}(hM:(M:Int)=if Q.k<=Q.cc then Q.k else Q.cc):
  T Try.prog 1 (.loop (zC (zB Try.f37) 2)) (BQ Q) (TK Try.prog 1 (Fin Try.prog Try.f37 1 [some (Ab Q.L (Q.kk+M))] (Ad (BH Q (itR Q M).rs))) (zK (zB Try.f37) 2)):=by
 have hM1:(M:Int)<=Q.k/\(M:Int)<=Q.cc/\((M:Int)=Q.k\/(M:Int)=Q.cc):=by split at hM<;>omega
 have hok:=Js hv hrs (c:=c) (M:=M) (by omega)
 have hns:=hv.ns
 simp only[BH] at hns
 refine T.loop (fun m:Nat=>BQ (itR Q m)) (fun m=>m<=M) (fun m=>M+1-m) 0 (Rn _) ?_
 intro m hm
 obtain⟨h1,h2⟩:=hok m hm
 have e:=JT Q m
 by_cases h:m<M
 .have hss:(itR Q m).ss=Q.ss:=by rw[e]
  have hkm:(itR Q m).k=Q.k-(m:Int):=by rw[e]
  have hcm:(itR Q m).cc=Q.cc:=by rw[e]
  have hkkm:(itR Q m).kk=Q.kk+m:=by rw[e]
  have hne:=JN hv c (rs:=(itR Q m).rs) (by rw[h1];exact Int.lt_of_lt_of_le (by omega) hcc.2)
  simp only[BH] at hne
  have hsp:SpOk (itR Q m).ss:=by
   rw[hss]
   refine⟨hns,fun s hs=>?_,fun s hs=>?_⟩
   .obtain⟨j,hj⟩:=List.mem_iff_getElem?.1 hs;exact(hv.goodT j s hj).hk
   .obtain⟨j,hj⟩:=List.mem_iff_getElem?.1 hs
    have g:=(hv.goodT j s hj).hb
    have b:=hv.bd j
    have nb:=hv.nb24
    have hjl:=(Rd.1 hj).1
    omega
  refine T.path mix (nvl_0 (itR Q m) (Rh (by rw[hkm];omega)) (Rh (by simp only[iN];rw[h1,hcm];omega)) (T.less (ren_f (itR Q m)) (Mp hsp (by omega) (by omega) (by omega) (by rw[hss];exact hne) fun st hst=>⟨m+1,hst,h,by omega⟩)))
 .obtain rfl:m=M:=by omega
  have hb:(itR Q m).bs.length=((itR Q m).bs.map bA).length:=by simp
  have hg:(itR Q m).g.length=(gL (itR Q m).g).length:=(B5 _).symm
  have hs:(itR Q m).ss.length=((itR Q m).ss.map sA).length:=by simp
  have hr:(itR Q m).rs.length=((itR Q m).rs.map (AV.int .i64)).length:=by simp
  have hkm:(itR Q m).k=Q.k-(m:Int):=by rw[e]
  have hcm:(itR Q m).cc=Q.cc:=by rw[e]
  have ek:Q.L=(itR Q m).L/\Q.kk+m=(itR Q m).kk/\BH Q (itR Q m).rs=BH (itR Q m) (itR Q m).rs:=by rw[e];exact⟨rfl,rfl,rfl⟩
  rw[ek.1,ek.2.1,ek.2.2]
  by_cases h0:(m:Int)=Q.k
  .exact T.out mix (nvx_0 (itR Q m) (Rg (by rw[hkm];omega)) hb hg hs hr)
  .exact T.out mix (nvy_0 (itR Q m) (Rh (by rw[hkm];omega)) (Rg (by simp only[iN];rw[h1,hcm];omega)) hb hg hs hr)
structure DZ(n:Aa):Prop where
 v:Aq n
 ln:3<=n.ss.length/\n.ss.length<=5
 d0:∀s,n.ss[0]?=some s->s.dep=true
 d1:∀s,n.ss[1]?=some s->s.dep=false
 d2:∀s,n.ss[2]?=some s->s.dep=false
 rb:n.rs≠[]
 rows:Rows n.nx
 rng:Rng n.bs.length n.nx
theorem GI.rows{n m:Nat}{g:List (List Int)}(h:GI n m g)(hm:m<=1000):Rows g:=fun v hv=>by
 rw[h.len] at hv
 have:=(h.row v hv).1
 omega
theorem net_ex(L:List Int)(kk:Nat)(hkk:kk<=5000)(most:Int)(hmo:1<=most/\most<=20):
  ∃n kk',(DZ n/\(n.bs.length:Int)=1+Ae L kk most)/\kk'<=kk+200/\CT Try.prog 37 [some (Ab L kk)] [.ptr 0 0 0,.int .i64 most] [some (Ab L kk')] (Ad n):=by
 have hb:Try.f37.body=some (zB Try.f37):=by kernel_rfl
 have c0:=AA L kk most (by omega)
 have r0:=AY L kk most (by omega) (by omega)
 have w0:i64.wrap (1+Ae L kk most)=1+Ae L kk most:=AU _ (by omega) (by omega)
 obtain⟨K,hK⟩:∃K:Nat,(K:Int)=1+Ae L kk most:=⟨(1+Ae L kk most).toNat,by omega⟩
 have hK2:1<=K/\K<=24:=by omega
 have hro:=L2 (L:=L) (kk:=kk+1+2 * K) hK2
 have hbl:=Ha L (kk+1) K
 generalize hg:(Bh L K (kk+1+2 * K)).1=g at hro
 generalize hk1:(Bh L K (kk+1+2 * K)).2=k1 at hro
 have r1:=AY L k1 3 (by omega) (by omega)
 obtain⟨M,hM⟩:∃M:Nat,(M:Int)=3+Ae L k1 3:=⟨(3+Ae L k1 3).toNat,by omega⟩
 have hp:=NG (L:=L) hK2 (kk:=k1+1) (b0:=(K:Int)) M
 have hpb:=Kw (L:=L) (b:=K) (p:=⟨[],k1+1,(K:Int)⟩) M
 simp only[RS,Rq] at hpb
 generalize hpp:itS L K ⟨[],k1+1,(K:Int)⟩ M=p at hp hpb
 have q0:=AY L p.kk 4 (by omega) (by omega)
 have q1:=AY L (p.kk+1) 3 (by omega) (by omega)
 have q2:=AY L (p.kk+2) 3 (by omega) (by omega)
 have q3:=AY L (p.kk+3) 8 (by omega) (by omega)
 have q4:=AY L (p.kk+4) 3 (by omega) (by omega)
 have e0:=AA L p.kk 4 (by omega)
 have e1:=AA L (p.kk+1) 3 (by omega)
 have e2:=AA L (p.kk+2) 3 (by omega)
 have e3:=AA L (p.kk+3) 8 (by omega)
 have e4:=AA L (p.kk+4) 3 (by omega)
 generalize Ae L p.kk 4=x at q0 e0
 generalize Ae L (p.kk+1) 3=y at q1 e1
 generalize Ae L (p.kk+2) 3=z at q2 e2
 generalize Ae L (p.kk+3) 8=w at q3 e3
 generalize Ae L (p.kk+4) 3=v at q4 e4
 have hrw:Rows g:=hro.1.rows (by omega)
 have hv:=MA (L:=L) (kk:=kk+1) hK2 hro.1 hp (by omega) (x:=x) (y:=y) (z:=z) (w:=w) q0 q1 q2 q3
 have fl:=NB (n:=⟨bsZ L (kk+1) K,g,p.ss,[],1+x,y,z,1+w⟩) hrw hv rfl
 have hcap:=OD (n:=⟨bsZ L (kk+1) K,g,p.ss,[],1+x,y,z,1+w⟩) hrw hv
 have hslo:BX ⟨bsZ L (kk+1) K,g,p.ss,[],1+x,y,z,1+w⟩=Bj ⟨bsZ L (kk+1) K,g,p.ss,[],1+x,y,z,1+w⟩ (List.replicate (Az ⟨bsZ L (kk+1) K,g,p.ss,[],1+x,y,z,1+w⟩) false) p.ss.length:=rfl
 generalize Az ⟨bsZ L (kk+1) K,g,p.ss,[],1+x,y,z,1+w⟩=cel at hslo
 generalize BX ⟨bsZ L (kk+1) K,g,p.ss,[],1+x,y,z,1+w⟩=sl at fl hcap hslo
 generalize Br ⟨bsZ L (kk+1) K,g,p.ss,[],1+x,y,z,1+w⟩=gi at fl hcap
 generalize C0 gi sl=cc at fl hcap
 obtain⟨m,hm⟩:∃m:Nat,(m:Int)=if 1+v<=cc then 1+v else cc:=⟨(if 1+v<=cc then 1+v else cc).toNat,by split<;>omega⟩
 let Q:QF:=⟨L,p.kk+5,bsZ L (kk+1) K,g,p.ss,[],1+x,y,z,1+w,iN gi.length,sl,cc,1+v,[],0,0,s0,false,0,0⟩
 have hmb:1<=m/\m<=3:=by split at hm<;>omega
 have t2:=n2_run (Q:=Q) hv rfl (c:=cel) ⟨hcap.1,hslo ▸ hcap.2⟩ ⟨by show 1<=1+v;omega,by show 1+v<=5;omega⟩ (by show p.kk+5<=90000;omega) (M:=m) hm
 have rok:=Js (Q:=Q) hv rfl (c:=cel) (M:=m) (by have:(m:Int)<=cc:=by {split at hm<;>omega};exact Int.le_trans this (hslo ▸ hcap.2)) m (Rm _)
 refine⟨BH Q (itR Q m).rs,p.kk+5+m,⟨⟨hv.robots rok.2 (by omega),by show 3<=p.ss.length/\p.ss.length<=5;omega,fun s h=>(hp.el 0 s h).2.1 rfl,fun s h=>(hp.el 1 s h).2.2.1 (.inl rfl),fun s h=>(hp.el 2 s h).2.2.1 (.inr rfl),fun e=>by have:=rok.1;have e':(itR Q m).rs=[]:=e;rw[e'] at this;simp at this;omega,hrw,by have:=OH L K (kk+1+2 * K);rw[hg,<-hbl] at this;exact this⟩,by rw[<-hK];show((bsZ L (kk+1) K).length:Int)=_;rw[hbl]⟩,by omega,?_⟩
 refine CT.path mix Try.func37 hb (nL rfl) (nti_0 (qA L kk [] [] [] [] most 0 em (Ae L kk most) 0 0 0 (kk+1) 0 0 0) c0 ?_)
 have t0:=OJ (L:=L) (kk:=kk+1) hK2 (by omega) (post:=Fin Try.prog Try.f37 1 [some (Ab L (p.kk+5+m))] (Ad (BH Q (itR Q m).rs))) fun B hB=>by
  subst hB
  rw[hg,hk1,<-hM]
  have hbl':1<=(bsZ L (kk+1) K).length/\(bsZ L (kk+1) K).length<=24:=by rw[hbl];exact hK2
  refine Na hbl' (by omega) (by omega) (by omega) ?_
  rw[hbl,hpp]
  exact NH (by omega) (by omega) (by omega) e0 e1 e2 e3 e4 fl t2
 have t1:=T.less (ren_z (qA L (kk+1) [] [] [] [] (K:Int) 0 em 0 0 0 0 0 0 0 0) rfl rfl) t0
 have t1':T Try.prog 1 (.loop (zC (zB Try.f37) 0)) (Ej (qA L (kk+1) [] [] [] [] (i64.wrap (1+Ae L kk most)) 0 em 0 0 0 0 0 0 0 0)) (TK Try.prog 1 (Fin Try.prog Try.f37 1 [some (Ab L (p.kk+5+m))] (Ad (BH Q (itR Q m).rs))) (zK (zB Try.f37) 0)):=by
  rw[w0,<-hK];exact t1
 exact t1'
def Fm(n:Aa):AV:=.agg [.lst (n.bs.map bA),.sl 1 0 n.nx.length,.lst (n.ss.map sA),.sl 2 0 n.rs.length,.int .i64 n.q,.int .i64 n.a,.int .i64 n.d,.int .i64 n.p]
theorem n2_runL{Q:QF}(hv:Aq (BH Q []))(hrs:Q.rs=[]){c:Nat}(hcc:1<=Q.cc/\Q.cc<=Bj (BH Q []) (List.replicate c false) Q.ss.length)(hk:1<=Q.k/\Q.k<=5)(hkk:Q.kk<=90000){M:Nat}(hM:(M:Int)=if Q.k<=Q.cc then Q.k else Q.cc):
  T Try.prog 1 (.loop (zC (zB Try.f37) 2)) (BQ Q) (TK Try.prog 1 (Fin Try.prog Try.f37 1 [some (Ab Q.L (Q.kk+M)),some (gB Q.g),some (dB (itR Q M).rs)] (Fm (BH Q (itR Q M).rs))) (zK (zB Try.f37) 2)):=by
 have hM1:(M:Int)<=Q.k/\(M:Int)<=Q.cc/\((M:Int)=Q.k\/(M:Int)=Q.cc):=by split at hM<;>omega
 have hok:=Js hv hrs (c:=c) (M:=M) (by omega)
 have hns:=hv.ns
 simp only[BH] at hns
 refine T.loop (fun m:Nat=>BQ (itR Q m)) (fun m=>m<=M) (fun m=>M+1-m) 0 (Rn _) ?_
 intro m hm
 obtain⟨h1,h2⟩:=hok m hm
 have e:=JT Q m
 by_cases h:m<M
 .have hss:(itR Q m).ss=Q.ss:=by rw[e]
  have hkm:(itR Q m).k=Q.k-(m:Int):=by rw[e]
  have hcm:(itR Q m).cc=Q.cc:=by rw[e]
  have hkkm:(itR Q m).kk=Q.kk+m:=by rw[e]
  have hne:=JN hv c (rs:=(itR Q m).rs) (by rw[h1];exact Int.lt_of_lt_of_le (by omega) hcc.2)
  simp only[BH] at hne
  have hsp:SpOk (itR Q m).ss:=by
   rw[hss]
   refine⟨hns,fun s hs=>?_,fun s hs=>?_⟩
   .obtain⟨j,hj⟩:=List.mem_iff_getElem?.1 hs;exact(hv.goodT j s hj).hk
   .obtain⟨j,hj⟩:=List.mem_iff_getElem?.1 hs
    have g:=(hv.goodT j s hj).hb
    have b:=hv.bd j
    have nb:=hv.nb24
    have hjl:=(Rd.1 hj).1
    omega
  refine T.path mix (nvl_0 (itR Q m) (Rh (by rw[hkm];omega)) (Rh (by simp only[iN];rw[h1,hcm];omega)) (T.less (ren_f (itR Q m)) (Mp hsp (by omega) (by omega) (by omega) (by rw[hss];exact hne) fun st hst=>⟨m+1,hst,h,by omega⟩)))
 .obtain rfl:m=M:=by omega
  have hb:(itR Q m).bs.length=((itR Q m).bs.map bA).length:=by simp
  have hg:(itR Q m).g.length=(gL (itR Q m).g).length:=(B5 _).symm
  have hs:(itR Q m).ss.length=((itR Q m).ss.map sA).length:=by simp
  have hr:(itR Q m).rs.length=((itR Q m).rs.map (AV.int .i64)).length:=by simp
  have hkm:(itR Q m).k=Q.k-(m:Int):=by rw[e]
  have hcm:(itR Q m).cc=Q.cc:=by rw[e]
  have ek:Q.L=(itR Q m).L/\Q.kk+m=(itR Q m).kk/\Q.g=(itR Q m).g/\BH Q (itR Q m).rs=BH (itR Q m) (itR Q m).rs:=by rw[e];exact⟨rfl,rfl,rfl,rfl⟩
  rw[ek.1,ek.2.1,ek.2.2.1,ek.2.2.2]
  by_cases h0:(m:Int)=Q.k
  .exact T.out mix (nvxL_0 (itR Q m) (Rg (by rw[hkm];omega)) hb hs)
  .exact T.out mix (nvyL_0 (itR Q m) (Rh (by rw[hkm];omega)) (Rg (by simp only[iN];rw[h1,hcm];omega)) hb hs)
theorem net_exL(L:List Int)(kk:Nat)(hkk:kk<=5000)(most:Int)(hmo:1<=most/\most<=20):
  ∃n kk',(DZ n/\(n.bs.length:Int)=1+Ae L kk most)/\kk'<=kk+200/\CT Try.prog 37 [some (Ab L kk)] [.ptr 0 0 0,.int .i64 most] [some (Ab L kk'),some (gB n.nx),some (dB n.rs)] (Fm n):=by
 have hb:Try.f37.body=some (zB Try.f37):=by kernel_rfl
 have c0:=AA L kk most (by omega)
 have r0:=AY L kk most (by omega) (by omega)
 have w0:i64.wrap (1+Ae L kk most)=1+Ae L kk most:=AU _ (by omega) (by omega)
 obtain⟨K,hK⟩:∃K:Nat,(K:Int)=1+Ae L kk most:=⟨(1+Ae L kk most).toNat,by omega⟩
 have hK2:1<=K/\K<=24:=by omega
 have hro:=L2 (L:=L) (kk:=kk+1+2 * K) hK2
 have hbl:=Ha L (kk+1) K
 generalize hg:(Bh L K (kk+1+2 * K)).1=g at hro
 generalize hk1:(Bh L K (kk+1+2 * K)).2=k1 at hro
 have r1:=AY L k1 3 (by omega) (by omega)
 obtain⟨M,hM⟩:∃M:Nat,(M:Int)=3+Ae L k1 3:=⟨(3+Ae L k1 3).toNat,by omega⟩
 have hp:=NG (L:=L) hK2 (kk:=k1+1) (b0:=(K:Int)) M
 have hpb:=Kw (L:=L) (b:=K) (p:=⟨[],k1+1,(K:Int)⟩) M
 simp only[RS,Rq] at hpb
 generalize hpp:itS L K ⟨[],k1+1,(K:Int)⟩ M=p at hp hpb
 have q0:=AY L p.kk 4 (by omega) (by omega)
 have q1:=AY L (p.kk+1) 3 (by omega) (by omega)
 have q2:=AY L (p.kk+2) 3 (by omega) (by omega)
 have q3:=AY L (p.kk+3) 8 (by omega) (by omega)
 have q4:=AY L (p.kk+4) 3 (by omega) (by omega)
 have e0:=AA L p.kk 4 (by omega)
 have e1:=AA L (p.kk+1) 3 (by omega)
 have e2:=AA L (p.kk+2) 3 (by omega)
 have e3:=AA L (p.kk+3) 8 (by omega)
 have e4:=AA L (p.kk+4) 3 (by omega)
 generalize Ae L p.kk 4=x at q0 e0
 generalize Ae L (p.kk+1) 3=y at q1 e1
 generalize Ae L (p.kk+2) 3=z at q2 e2
 generalize Ae L (p.kk+3) 8=w at q3 e3
 generalize Ae L (p.kk+4) 3=v at q4 e4
 have hrw:Rows g:=hro.1.rows (by omega)
 have hv:=MA (L:=L) (kk:=kk+1) hK2 hro.1 hp (by omega) (x:=x) (y:=y) (z:=z) (w:=w) q0 q1 q2 q3
 have fl:=NB (n:=⟨bsZ L (kk+1) K,g,p.ss,[],1+x,y,z,1+w⟩) hrw hv rfl
 have hcap:=OD (n:=⟨bsZ L (kk+1) K,g,p.ss,[],1+x,y,z,1+w⟩) hrw hv
 have hslo:BX ⟨bsZ L (kk+1) K,g,p.ss,[],1+x,y,z,1+w⟩=Bj ⟨bsZ L (kk+1) K,g,p.ss,[],1+x,y,z,1+w⟩ (List.replicate (Az ⟨bsZ L (kk+1) K,g,p.ss,[],1+x,y,z,1+w⟩) false) p.ss.length:=rfl
 generalize Az ⟨bsZ L (kk+1) K,g,p.ss,[],1+x,y,z,1+w⟩=cel at hslo
 generalize BX ⟨bsZ L (kk+1) K,g,p.ss,[],1+x,y,z,1+w⟩=sl at fl hcap hslo
 generalize Br ⟨bsZ L (kk+1) K,g,p.ss,[],1+x,y,z,1+w⟩=gi at fl hcap
 generalize C0 gi sl=cc at fl hcap
 obtain⟨m,hm⟩:∃m:Nat,(m:Int)=if 1+v<=cc then 1+v else cc:=⟨(if 1+v<=cc then 1+v else cc).toNat,by split<;>omega⟩
 let Q:QF:=⟨L,p.kk+5,bsZ L (kk+1) K,g,p.ss,[],1+x,y,z,1+w,iN gi.length,sl,cc,1+v,[],0,0,s0,false,0,0⟩
 have hmb:1<=m/\m<=3:=by split at hm<;>omega
 have t2:=n2_runL (Q:=Q) hv rfl (c:=cel) ⟨hcap.1,hslo ▸ hcap.2⟩ ⟨by show 1<=1+v;omega,by show 1+v<=5;omega⟩ (by show p.kk+5<=90000;omega) (M:=m) hm
 have rok:=Js (Q:=Q) hv rfl (c:=cel) (M:=m) (by have:(m:Int)<=cc:=by {split at hm<;>omega};exact Int.le_trans this (hslo ▸ hcap.2)) m (Rm _)
 refine⟨BH Q (itR Q m).rs,p.kk+5+m,⟨⟨hv.robots rok.2 (by omega),by show 3<=p.ss.length/\p.ss.length<=5;omega,fun s h=>(hp.el 0 s h).2.1 rfl,fun s h=>(hp.el 1 s h).2.2.1 (.inl rfl),fun s h=>(hp.el 2 s h).2.2.1 (.inr rfl),fun e=>by have:=rok.1;have e':(itR Q m).rs=[]:=e;rw[e'] at this;simp at this;omega,hrw,by have:=OH L K (kk+1+2 * K);rw[hg,<-hbl] at this;exact this⟩,by rw[<-hK];show((bsZ L (kk+1) K).length:Int)=_;rw[hbl]⟩,by omega,?_⟩
 refine CT.path mix Try.func37 hb (nL rfl) (nti_0 (qA L kk [] [] [] [] most 0 em (Ae L kk most) 0 0 0 (kk+1) 0 0 0) c0 ?_)
 have t0:=OJ (L:=L) (kk:=kk+1) hK2 (by omega) (post:=Fin Try.prog Try.f37 1 [some (Ab L (p.kk+5+m)),some (gB g),some (dB (itR Q m).rs)] (Fm (BH Q (itR Q m).rs))) fun B hB=>by
  subst hB
  rw[hg,hk1,<-hM]
  have hbl':1<=(bsZ L (kk+1) K).length/\(bsZ L (kk+1) K).length<=24:=by rw[hbl];exact hK2
  refine Na hbl' (by omega) (by omega) (by omega) ?_
  rw[hbl,hpp]
  exact NH (by omega) (by omega) (by omega) e0 e1 e2 e3 e4 fl t2
 have t1:=T.less (ren_z (qA L (kk+1) [] [] [] [] (K:Int) 0 em 0 0 0 0 0 0 0 0) rfl rfl) t0
 have t1':T Try.prog 1 (.loop (zC (zB Try.f37) 0)) (Ej (qA L (kk+1) [] [] [] [] (i64.wrap (1+Ae L kk most)) 0 em 0 0 0 0 0 0 0 0)) (TK Try.prog 1 (Fin Try.prog Try.f37 1 [some (Ab L (p.kk+5+m)),some (gB g),some (dB (itR Q m).rs)] (Fm (BH Q (itR Q m).rs))) (zK (zB Try.f37) 0)):=by
  rw[w0,<-hK];exact t1
 exact t1'
end Go.Proofs.Ytifigemlifbkcaa
set_option maxHeartbeats 4000000
namespace Go.Proofs.Ytifigemlifbkcaa
inductive Dw where
 | l0 (v0:Int)
 | l1 (v0:Int) (v1:Ar) (v2:Int)
def FY(n:Aa)(c:Int):Dw->St
 | .l0 v0=>St.mk 37 [(1,iv c),(6,iv (-1)),(7,iv 0),(12,AV.lst (List.map sA n.ss)),(13,iv (iN (List.map sA n.ss).length)),(14,iv v0)] []
 | .l1 v0 v1 v2=>St.mk 37 [(1,iv c),(6,iv (-1)),(7,iv 0),(8,iv v0),(9,AV.ptr 0 0 0),(12,AV.lst (List.map sA n.ss)),(13,iv (iN (List.map sA n.ss).length)),(14,iv v0),(20,iv v1.k),(21,iv v2)] [some (bK [sA v1] 6)]
def HJ:Dw->Nat
 | .l0 _=>0
 | .l1 _ _ _=>1
def plEn(n:Aa)(c:Int):Option (Dw⊕Ret):=
 some (.inl (.l0 ((0:Int))))
def FQ(n:Aa)(c v0:Int):Option (Dw⊕Ret):=
 br (decide (v0<iN (List.map sA n.ss).length))
 (gu (0<=v0) <|
  el (n.ss) (v0.toNat) fun(x17:Ar)=>
  some (.inl (.l1 v0 x17 ((0:Int)))))
 (some (.inr ([],AV.tup [iV (-1),iV 0])))
def Gv(n:Aa)(c v0:Int)(v1:Ar)(v2:Int):Option (Dw⊕Ret):=
 br (decide (v2<v1.k))
 (br (i64.wrap (v1.b+v2)==c)
  (some (.inr ([],AV.tup [iV v0,iV (i64.wrap (v2+1))])))
  (some (.inl (.l1 v0 v1 (i64.wrap (v2+1))))))
 (some (.inl (.l0 (i64.wrap (v0+1)))))
def Kv(n:Aa)(c:Int):Dw->Option (Dw⊕Ret)
 | .l0 v0=>FQ n c v0
 | .l1 v0 v1 v2=>Gv n c v0 v1 v2
theorem plEn_ok(n:Aa)(c:Int)(o:Dw⊕Ret)(h:plEn n c=some o):Arr Try.prog Try.f40 0 (FY n c) HJ (zB Try.f40) [] {n:=Try.f40.ntmps,fr:=An 0 ([Ad n,.int .i64 c]),hp:=([])} o:=
 Scr.ok h mix (
 .lp [] [] [] [] [] [] [1,6,7,12,13,14] (aj (aj (u2 t3) (aj t3 (al (u2 (u2 (u2 t2)))))) t7)) (by kernel_rfl)
theorem plS0_ok(n:Aa)(c v0:Int)(o:Dw⊕Ret)(h:FQ n c v0=some o):Arr Try.prog Try.f40 0 (FY n c) HJ (AM Try.f40 0) (.rnd (AM Try.f40 0)::Bw Try.f40 0) (FY n c (.l0 v0)) o:=
 Scr.ok h mix (
 .rn 0 [] [] [] [] (al (al t3)) <|
 .br (fun a0=>
 .gu fun a1=>
 .el fun x17 a2=>
 .lp [31] [(17,sA x17)] [] [] [] [0] [1,6,7,8,9,12,13,14,20,21] (aj (aj a0 (aj (u2 (aj (k2 (aj a1 (A2 (f:=sA) a2))) (u2 (ak (u2 (al (k2 n11))))))) (al (u2 (u2 t2))))) (k3 t9)))
 (fun a0=>
 .rt [30] [] [] [] [] [] (aj (aj a0 (al (u2 (u2 (u2 s2))))) (al t3)))) (by kernel_rfl)
theorem plS1_ok(n:Aa)(c v0:Int)(v1:Ar)(v2:Int)(o:Dw⊕Ret)(h:Gv n c v0 v1 v2=some o):Arr Try.prog Try.f40 0 (FY n c) HJ (AM Try.f40 1) (.rnd (AM Try.f40 1)::Bw Try.f40 1) (FY n c (.l1 v0 v1 v2)) o:=
 Scr.ok h mix (
 .rn 0 [] [] [] [] (al (al t3)) <|
 .br (fun a0=>
 .rn 1 [45] [] [] [] (aj a0 (aj (u2 s2) (al (u2 (u2 (u2 (aj t3 (u2 (al t3))))))))) <|
 .br (fun a1=>
  .rt [59] [] [] [] [] [] (aj (aj a1 (aj (u2 (u2 (u2 (u2 s2)))) (al (u2 (u2 (u2 s2)))))) (al t3)))
 (fun a1=>
  .lp [58] [] [] [] [] [0] [1,6,7,8,9,12,13,14,20,21] (aj (aj a1 (al (u2 s2))) (k3 t9))))
 (fun a0=>
 .lp [44] [] [] [] [] [] [1,6,7,12,13,14] (aj (aj a0 (al (u2 s2))) t7))) (by kernel_rfl)
theorem pl_ct(n:Aa)(c:Int)(r:Ret)(h:Aj (Kv n c) (plEn n c) r):CT Try.prog 40 ([]) ([Ad n,.int .i64 c]) r.1 r.2:=
 CT.mach (fn:=Try.f40) (c:=zB Try.f40) (S:=FY n c) (hd:=HJ) Try.func40 (by kernel_rfl) (nL rfl)
  (fun s o ho=>match s,ho with
   | .l0 v0,ho=>plS0_ok n c v0 o ho
   | .l1 v0 v1 v2,ho=>plS1_ok n c v0 v1 v2 o ho
  )
  (fun o ho=>plEn_ok n c o ho) h
inductive Es where
 | l0 (v0:Int)
def HY(n:Aa)(c:Int):Es->St
 | .l0 v0=>St.mk 39 [(1,iv c),(2,AV.ptr 0 0 0),(6,iv v0)] [some (bK [Ad n] 8)]
def Kz:Es->Nat
 | .l0 _=>0
def rplEn(n:Aa)(c:Int):Option (Es⊕Ret):=
 some (.inl (.l0 ((0:Int))))
def Ge(n:Aa)(c v0:Int):Option (Es⊕Ret):=
 br (decide (v0<iN (List.map sA n.ss).length))
 (gu (0<=v0) <|
  el (n.ss) (v0.toNat) fun(x18:Ar)=>
  br (decide (x18.b<=c))
  (br (decide (c<i64.wrap (x18.b+x18.k)))
   (some (.inr ([],AV.tup [iV v0,iV (i64.wrap (i64.wrap (c-x18.b)+1))])))
   (some (.inl (.l0 (i64.wrap (v0+1))))))
  (some (.inl (.l0 (i64.wrap (v0+1))))))
 (some (.inr ([],AV.tup [iV (-1),iV 0])))
def Mk(n:Aa)(c:Int):Es->Option (Es⊕Ret)
 | .l0 v0=>Ge n c v0
theorem rplEn_ok(n:Aa)(c:Int)(o:Es⊕Ret)(h:rplEn n c=some o):Arr Try.prog Try.f85 0 (HY n c) Kz (zB Try.f85) [] {n:=Try.f85.ntmps,fr:=An 0 ([Ad n,.int .i64 c]),hp:=([])} o:=
 Scr.ok h mix (
 .lp [] [] [] [] [] [0] [1,2,6] (aj (aj (u2 t3) s2) t5)) (by kernel_rfl)
theorem rplS0_ok(n:Aa)(c v0:Int)(o:Es⊕Ret)(h:Ge n c v0=some o):Arr Try.prog Try.f85 0 (HY n c) Kz (AM Try.f85 0) (.rnd (AM Try.f85 0)::Bw Try.f85 0) (HY n c (.l0 v0)) o:=
 Scr.ok h mix (
 .rn 0 [] [] [] [] (al (u2 (u2 (u2 (u2 (al t3)))))) <|
 .br (fun a0=>
 .gu fun a1=>
 .el fun x18 a2=>
 .rn 0 [25] [(18,sA x18)] [] [] (aj a0 (al (u2 (u2 (u2 (aj (k2 (aj a1 (A2 (f:=sA) a2))) (u2 (ak (al (k2 n11)))))))))) <|
 .br (fun a3=>
  .rn 0 [49] [] [] [] (al (u2 (u2 (u2 (aj t3 (u2 (ag a3 (ag a3 (ag a3 (ag a3 (ag a3 (aj (aj a3 t3) (aj (aj a3 t3) (al (aj a3 t2))))))))))))))) <|
  .br (fun a4=>
  .rt [49,65] [] [] [] [] [] (aj (aj a4 (al (u2 (u2 (u2 (u2 (aj t3 (u2 (u2 s2))))))))) (al t3)))
  (fun a4=>
  .lp [49,64] [] [] [] [] [0] [1,2,6] (aj (aj a4 (al (u2 (u2 s2)))) t5)))
 (fun a3=>
  .lp [48] [] [] [] [] [0] [1,2,6] (aj (aj (u2 (u2 (u2 (aj t3 (u2 (aj a3 (aj a3 (aj a3 (aj a3 (aj a3 (aj a3 (aj a3 (al (aj a3 t2)))))))))))))) (ak (al (u2 (u2 s2))))) t5)))
 (fun a0=>
 .rt [24] [] [] [] [] [] (aj (aj a0 (al t3)) (al t3)))) (by kernel_rfl)
theorem rpl_ct(n:Aa)(c:Int)(r:Ret)(h:Aj (Mk n c) (rplEn n c) r):CT Try.prog 85 ([]) ([Ad n,.int .i64 c]) r.1 r.2:=
 CT.mach (fn:=Try.f85) (c:=zB Try.f85) (S:=HY n c) (hd:=Kz) Try.func85 (by kernel_rfl) (nL rfl)
  (fun s o ho=>match s,ho with
   | .l0 v0,ho=>rplS0_ok n c v0 o ho
  )
  (fun o ho=>rplEn_ok n c o ho) h
def inP(c:Int)(s:Ar):Bool:=decide (s.b<=c)&&decide (c<s.b+s.k)
def plB(n:Aa)(c:Int)(i:Nat):Bool:=match n.ss[i]? with | some s=>inP c s | none=>false
@[irreducible] def plF(n:Aa)(c:Int):Option Nat:=fnd (plB n c) 0 n.ss.length
def plI(n:Aa)(c:Int):Int:=match plF n c with | some i=>(i:Int) | none=> -1
def plJ(n:Aa)(c:Int):Int:=match plF n c with | some i=>c-(n.ss.getD i s0).b+1 | none=>0
theorem Aq.sb{n:Aa}(hv:Aq n){i:Nat}{s:Ar}(h:n.ss[i]?=some s):1<=s.k/\s.k<=4/\1<=s.b/\s.b<=44/\s.b=Am n i:=by
 have g:=hv.goodT i s h
 have b:=hv.bd i
 have nb:=hv.nb24
 have ns:=hv.ns
 have hl:=(Rd.1 h).1
 have k:=g.hk
 have e:=g.hb
 exact⟨k.1,k.2,by omega,by omega,e⟩
theorem AN{p:Prop}[Decidable p](h:p):decide p=true:=Rh h
theorem AF{p:Prop}[Decidable p](h:¬p):decide p=false:=Rg h
theorem rpl_run{n:Aa}(hv:Aq n)(c:Int)(hc : -1000<=c/\c<=1000):∀(k i:Nat),i+k=n.ss.length->
  Aj (Mk n c) (some (.inl (.l0 (i:Int)))) ([],.tup [.int .i64 (match fnd (plB n c) i k with | some i=>(i:Int) | none=> -1),.int .i64 (match fnd (plB n c) i k with | some i=>c-(n.ss.getD i s0).b+1 | none=>0)]):=by
 intro k
 have ns:=hv.ns
 induction k with
 | zero=>
  intro i hi
  refine .go _ _ ?_
  show Aj _ (Ge n c i) _
  unfold Ge
  rw[Ao (AF (by simp[iN];omega))]
  exact .ret _
 | succ k ih=>
  intro i hi
  refine .go _ _ ?_
  show Aj _ (Ge n c i) _
  unfold Ge
  obtain⟨s,hs⟩:∃s,n.ss[i]?=some s:=⟨_,Rb (by omega)⟩
  have sb:=hv.sb hs
  have hg:n.ss.getD i s0=s:=by rw[Rc,hs];rfl
  have ih':=ih (i+1) (by omega)
  rw[Au (AN (by simp[iN];omega)),Ac (by omega),Rk,Bi hs]
  rw[AU (s.b+s.k) (by omega) (by omega),zW i (by omega),AU (c-s.b) (by omega) (by omega),AU (c-s.b+1) (by omega) (by omega)]
  have hp:plB n c i=inP c s:=by unfold plB;rw[hs]
  simp only[fnd,hp]
  unfold inP
  by_cases h1:s.b<=c
  .rw[Au (AN h1)]
   by_cases h2:c<s.b+s.k
   .rw[Au (AN h2),AN h1,AN h2]
    simp only[Bool.and_self,hg]
    exact .ret _
   .rw[Ao (AF h2),AF h2,Bool.and_false]
    exact ih'
  .rw[Ao (AF h1),AF h1,Bool.false_and]
   exact ih'
theorem QV{n:Aa}(hv:Aq n)(c:Int)(hc : -1000<=c/\c<=1000):CT Try.prog 85 [] [Ad n,.int .i64 c] [] (.tup [.int .i64 (plI n c),.int .i64 (plJ n c)]):=by
 have h:=rpl_run hv c hc n.ss.length 0 (by omega)
 unfold plI plJ plF
 exact rpl_ct n c _ h
theorem pl_run{n:Aa}(hv:Aq n)(c:Int)(hc : -1000<=c/\c<=1000):∀(k i:Nat),i+k=n.ss.length->
  Aj (Kv n c) (some (.inl (.l0 (i:Int)))) ([],.tup [.int .i64 (match fnd (plB n c) i k with | some i=>(i:Int) | none=> -1),.int .i64 (match fnd (plB n c) i k with | some i=>c-(n.ss.getD i s0).b+1 | none=>0)]):=by
 intro k
 have ns:=hv.ns
 induction k with
 | zero=>
  intro i hi
  refine .go _ _ ?_
  show Aj _ (FQ n c i) _
  unfold FQ
  rw[Ao (AF (by simp[iN];omega))]
  exact .ret _
 | succ k ih=>
  intro i hi
  refine .go _ _ ?_
  show Aj _ (FQ n c i) _
  unfold FQ
  obtain⟨s,hs⟩:∃s,n.ss[i]?=some s:=⟨_,Rb (by omega)⟩
  have sb:=hv.sb hs
  have hg:n.ss.getD i s0=s:=by rw[Rc,hs];rfl
  have ih':=ih (i+1) (by omega)
  rw[Au (AN (by simp[iN];omega)),Ac (by omega),Rk,Bi hs]
  have hp:plB n c i=inP c s:=by unfold plB;rw[hs]
  simp only[fnd,hp]
  -- the inner loop
  have inner:∀(m j:Nat),(j:Int)+m=s.k->(c<s.b\/s.b+j<=c)->Aj (Kv n c) (some (.inl (.l1 (i:Int) s (j:Int)))) ([],.tup [.int .i64 (match (match inP c s with | true=>some i | false=>fnd (plB n c) (i+1) k) with | some i=>(i:Int) | none=> -1),.int .i64 (match (match inP c s with | true=>some i | false=>fnd (plB n c) (i+1) k) with | some i=>c-(n.ss.getD i s0).b+1 | none=>0)]):=by
   intro m
   induction m with
   | zero=>
    intro j hj hc'
    refine .go _ _ ?_
    show Aj _ (Gv n c i s j) _
    unfold Gv
    rw[Ao (AF (by omega)),zW i (by omega)]
    have:inP c s=false:=by unfold inP;simp;omega
    rw[this]
    exact ih'
   | succ m ihm=>
    intro j hj hc'
    refine .go _ _ ?_
    show Aj _ (Gv n c i s j) _
    unfold Gv
    rw[Au (AN (by omega)),AU (s.b+j) (by omega) (by omega),zW j (by omega)]
    by_cases he:s.b+(j:Int)=c
    .have:inP c s=true:=by unfold inP;simp;omega
     rw[Au (by simp[he]),this]
     simp only[hg]
     have e2:((j+1:Nat):Int)=c-s.b+1:=by omega
     rw[e2]
     exact .ret _
    .rw[Ao (by simp[he])]
     exact ihm (j+1) (by omega) (by omega)
  exact inner s.k.toNat 0 (by omega) (by omega)
theorem MV{n:Aa}(hv:Aq n)(c:Int)(hc : -1000<=c/\c<=1000):CT Try.prog 40 [] [Ad n,.int .i64 c] [] (.tup [.int .i64 (plI n c),.int .i64 (plJ n c)]):=by
 have h:=pl_run hv c hc n.ss.length 0 (by omega)
 unfold plI plJ plF
 exact pl_ct n c _ h
end Go.Proofs.Ytifigemlifbkcaa
namespace Go.AX
theorem brI{σ:Type}{b:Bool}{k:IntKind}{x y:Int}:br b (some (.inr ([],AV.int k x):σ⊕Ret)) (some (.inr ([],AV.int k y)))=some (.inr ([],.int k (match b with | true=>x | false=>y))):=by cases b<;>rfl
theorem Aj.to{σ ρ:Type}{step:σ->Option (σ⊕ρ)}{s:σ}{y:Option (σ⊕ρ)}{r:ρ}(h:step s=y)(k:Aj step y r):Aj step (some (.inl s)) r:=.go _ _ (h ▸ k)
theorem Aj.val{σ ρ:Type}{step:σ->Option (σ⊕ρ)}{x:Option (σ⊕ρ)}{r:ρ}(h:x=some (.inr r)):Aj step x r:=h ▸ .ret r
theorem Aj.res{σ ρ:Type}{step:σ->Option (σ⊕ρ)}{x:Option (σ⊕ρ)}{r r':ρ}(h:Aj step x r)(e:r=r'):Aj step x r':=e ▸ h
theorem rngS{α β:Type}{g:α->AV}{l:List α}{i:Nat}{x:α}(hx:l[i]?=some x){f:α->Option β}{y:Option β}:br (decide ((i:Int)<iN (List.map g l).length)) (gu (0<=(i:Int)) (el l (i:Int).toNat f)) y=f x:=by
 have hl:=(Rd.1 hx).1
 rw[Au (Rh (by simp[iN];omega)),Ac (by omega),Rk,Bi hx]
theorem Gi{α β:Type}{g:α->AV}{l:List α}{y z:Option β}:br (decide (((l.length:Nat):Int)<iN (List.map g l).length)) z y=y:=Ao (Rg (by simp[iN]))
theorem GG{σ ρ:Type}{step:σ->Option (σ⊕ρ)}(L:Nat->σ)(N:Nat){r:ρ}(h:∀i,i<N->Aj step (some (.inl (L (i+1)))) r->Aj step (some (.inl (L i))) r)(he:Aj step (some (.inl (L N))) r):
  Aj step (some (.inl (L 0))) r:=by
 have key:∀k i,i+k=N->Aj step (some (.inl (L i))) r:=by
  intro k
  induction k with
  | zero=>intro i hi;have e:i=N:=by omega
          subst e;exact he
  | succ k ih=>intro i hi;exact h i (by omega) (ih (i+1) (by omega))
 exact key N 0 (by omega)
theorem rngB{α:Type}{g:α->AV}{l:List α}{i:Nat}(hi:i<l.length):decide ((i:Int)<iN (List.map g l).length)=true:=Rh (by simp[iN];omega)
end Go.AX
namespace Go.Proofs.Ytifigemlifbkcaa
theorem loop_fnd{σ ρ:Type}{step:σ->Option (σ⊕ρ)}(L:Nat->σ)(N:Nat)(p:Nat->Bool){rF:Nat->ρ}{r:ρ}
  (hb:∀i,i<N->p i=true->Aj step (some (.inl (L i))) (rF i))
  (hg:∀i x,i<N->p i=false->Aj step (some (.inl (L (i+1)))) x->Aj step (some (.inl (L i))) x)
  (he:fnd p 0 N=none->Aj step (some (.inl (L N))) r):Aj step (some (.inl (L 0))) (match fnd p 0 N with | some i=>rF i | none=>r):=by
 have key:∀k i,i+k=N->fnd p 0 N=fnd p i (N-i)->Aj step (some (.inl (L i))) (match fnd p i (N-i) with | some i=>rF i | none=>r):=by
  intro k
  induction k with
  | zero=>intro i hi h0
          have e:i=N:=by omega
          subst e
          rw[D1 (by omega)] at h0 ⊢
          exact he h0
  | succ k ih=>
   intro i hi h0
   have hlt:i<N:=by omega
   rw[Dx hlt] at h0 ⊢
   cases hp:p i with
   | true=>exact hb i hlt hp
   | false=>rw[hp] at h0;exact hg i _ hlt hp (ih (i+1) (by omega) h0)
 exact key N 0 (by omega) rfl
theorem Cs{α:Type}{l:List α}{i:Nat}(d:α)(h:i<l.length):l[i]?=some (l.getD i d):=by
 rw[Rc,Rb h];rfl
theorem FM{α β:Type}{g:α->AV}{l:List α}{i:Nat}(d:α)(h:i<l.length){f:α->Option β}{y:Option β}:br (decide ((i:Int)<iN (List.map g l).length)) (gu (0<=(i:Int)) (el l (i:Int).toNat f)) y=f (l.getD i d):=rngS (Cs d h)
theorem elG{α β:Type}{l:List α}{i:Nat}(d:α)(h:i<l.length){f:α->Option β}:el l (i:Int).toNat f=f (l.getD i d):=by
 rw[Rk,Bi (Cs d h)]
theorem Dj{x:Int}(h1 : -9223372036854775808<=x)(h2:x<=9223372036854775807):i64.wrap x=x:=by simp only[IntKind.wrap,IntKind.bits,IntKind.signed];simp;omega
def ckE(n:Aa)(c:Int):Int:=if BK n=true then (if c<0\/(Az n:Int)<=c then 19 else 0) else 20
theorem Jk(L:List Int)(kk:Nat)(most:Int):∃p:Aa×Nat,kk<=5000->(1<=most/\most<=20)->(DZ p.1/\(p.1.bs.length:Int)=1+Ae L kk most)/\p.2<=kk+200/\CT Try.prog 37 [some (Ab L kk)] [.ptr 0 0 0,.int .i64 most] [some (Ab L p.2)] (Ad p.1):=by
 by_cases h:kk<=5000/\(1<=most/\most<=20)
 .obtain⟨n,k,a,b,c⟩:=net_ex L kk h.1 most h.2
  exact⟨(n,k),fun _ _=>⟨a,b,c⟩⟩
 .exact⟨(⟨[],[],[],[],0,0,0,0⟩,0),fun a b=>absurd ⟨a,b⟩ h⟩
@[irreducible] def AK(L:List Int)(kk:Nat)(most:Int):Aa:=(Classical.choose (Jk L kk most)).1
@[irreducible] def IZ(L:List Int)(kk:Nat)(most:Int):Nat:=(Classical.choose (Jk L kk most)).2
theorem Mc{L:List Int}{kk:Nat}{most:Int}(h:kk<=5000)(hm:1<=most/\most<=20):DZ (AK L kk most)/\IZ L kk most<=kk+200/\CT Try.prog 37 [some (Ab L kk)] [.ptr 0 0 0,.int .i64 most] [some (Ab L (IZ L kk most))] (Ad (AK L kk most)):=
 by unfold AK IZ;have hs:=RO (Jk L kk most) h hm;exact⟨hs.1.1,hs.2⟩
theorem net_nb{L:List Int}{kk:Nat}{most:Int}(h:kk<=5000)(hm:1<=most/\most<=20):((AK L kk most).bs.length:Int)=1+Ae L kk most:=by unfold AK;exact(RO (Jk L kk most) h hm).1.2
theorem net_ct(L:List Int)(kk:Nat)(most:Int)(h:kk<=5000)(hm:1<=most/\most<=20):CT Try.prog 37 [some (Ab L kk)] [.ptr 0 0 0,.int .i64 most] [some (Ab L (IZ L kk most))] (Ad (AK L kk most)):=(Mc h hm).2.2
theorem JI(L:List Int)(kk:Nat)(most:Int):∃p:Aa×Nat,kk<=5000->(1<=most/\most<=20)->DZ p.1/\p.2<=kk+200/\CT Try.prog 37 [some (Ab L kk)] [.ptr 0 0 0,.int .i64 most] [some (Ab L p.2),some (gB p.1.nx),some (dB p.1.rs)] (Fm p.1):=by
 by_cases h:kk<=5000/\(1<=most/\most<=20)
 .obtain⟨n,k,⟨a,_⟩,b,c⟩:=net_exL L kk h.1 most h.2
  exact⟨(n,k),fun _ _=>⟨a,b,c⟩⟩
 .exact⟨(⟨[],[],[],[],0,0,0,0⟩,0),fun a b=>absurd ⟨a,b⟩ h⟩
@[irreducible] def Ai(L:List Int)(kk:Nat)(most:Int):Aa:=(Classical.choose (JI L kk most)).1
@[irreducible] def A6(L:List Int)(kk:Nat)(most:Int):Nat:=(Classical.choose (JI L kk most)).2
theorem Mh{L:List Int}{kk:Nat}{most:Int}(h:kk<=5000)(hm:1<=most/\most<=20):DZ (Ai L kk most)/\A6 L kk most<=kk+200/\CT Try.prog 37 [some (Ab L kk)] [.ptr 0 0 0,.int .i64 most] [some (Ab L (A6 L kk most)),some (gB (Ai L kk most).nx),some (dB (Ai L kk most).rs)] (Fm (Ai L kk most)):=
 by unfold Ai A6;exact RO (JI L kk most) h hm
theorem netL_ct(L:List Int)(kk:Nat)(most:Int)(h:kk<=5000)(hm:1<=most/\most<=20):CT Try.prog 37 [some (Ab L kk)] [.ptr 0 0 0,.int .i64 most] [some (Ab L (A6 L kk most)),some (gB (Ai L kk most).nx),some (dB (Ai L kk most).rs)] (Fm (Ai L kk most)):=(Mh h hm).2.2
inductive DE where
 | l0 (v0:Int) (v1:Nat) (v2:List (List Int)) (v3:List Int)
 | l1 (v0 v1:Int) (v2:Nat) (v3:List (List Int)) (v4:List Int)
def DA(L:List Int)(kk:Nat)(most:Int):DE->St
 | .l0 v0 v1 v2 v3=>St.mk 83 [(4,AV.ptr 1 0 0),(5,AV.ptr 2 0 0),(6,iv v0)] [some (Ab L v1),some (bK [AV.agg [AV.nils,AV.nils,AV.nils,AV.nils,iv 0,iv 0,iv 0,iv 0]] 8),some (Blk.mk [AV.agg [AV.lst (List.map bA (Ai L kk most).bs),AV.sl 3 0 v2.length,AV.lst (List.map sA (Ai L kk most).ss),AV.sl 4 0 v3.length,iv (Ai L kk most).q,iv (Ai L kk most).a,iv (Ai L kk most).d,iv (Ai L kk most).p]] 8 false true none),some (bK (List.map lI v2) 1),some (bK (List.map (iv) v3) 1)]
 | .l1 v0 v1 v2 v3 v4=>St.mk 83 [(4,AV.ptr 1 0 0),(5,AV.ptr 2 0 0),(6,iv v0),(7,iv v1)] [some (Ab L v2),some (bK [AV.agg [AV.nils,AV.nils,AV.nils,AV.nils,iv 0,iv 0,iv 0,iv 0]] 8),some (Blk.mk [AV.agg [AV.lst (List.map bA (Ai L kk most).bs),AV.sl 3 0 v3.length,AV.lst (List.map sA (Ai L kk most).ss),AV.sl 4 0 v4.length,iv (Ai L kk most).q,iv (Ai L kk most).a,iv (Ai L kk most).d,iv (Ai L kk most).p]] 8 false true none),some (bK (List.map lI v3) 1),some (bK (List.map (iv) v4) 1)]
def HS:DE->Nat
 | .l0 _ _ _ _=>0
 | .l1 _ _ _ _ _=>1
def FP(L:List Int)(kk:Nat)(most:Int):Option (DE⊕Ret):=
 gu (kk<=5000) <|
 gu (1<=most/\most<=20) <|
 gu (A6 L kk most<9223372036854775807) <|
 br (Ae L (A6 L kk most) 3==0)
 (br (decide (1<iN (List.map bA (Ai L kk most).bs).length))
  (gu (A6 L kk most+1<9223372036854775807) <|
   gu (0<=Ae L (A6 L kk most+1) (iN (List.map bA (Ai L kk most).bs).length)) <|
   gu (Ae L (A6 L kk most+1) (iN (List.map bA (Ai L kk most).bs).length)<iN (Ai L kk most).nx.length) <|
   gu ((0+(Ae L (A6 L kk most+1) (iN (List.map bA (Ai L kk most).bs).length)).toNat).succ.le (gL (Ai L kk most).nx).length) <|
   gu (A6 L kk most+1+1<9223372036854775807) <|
   br (Ae L (A6 L kk most+1+1) 3==0)
   (some (.inl (.l0 ((0:Int)) (A6 L kk most+1+1+1) ((Ai L kk most).nx.set (0+(Ae L (A6 L kk most+1) (iN (List.map bA (Ai L kk most).bs).length)).toNat) []) ((Ai L kk most).rs))))
   (gu ((Ai L kk most).nx.length=((gL (Ai L kk most).nx).set (0+(Ae L (A6 L kk most+1) (iN (List.map bA (Ai L kk most).bs).length)).toNat) (AV.lst [])).length) <|
    some (.inr ([some (bK [AV.agg [AV.lst (List.map iV L),iV (iN (A6 L kk most+1+1+1))]] 2)],AV.agg [AV.lst (List.map bA (Ai L kk most).bs),AV.lst ((gL (Ai L kk most).nx).set (0+(Ae L (A6 L kk most+1) (iN (List.map bA (Ai L kk most).bs).length)).toNat) (AV.lst [])),AV.lst (List.map sA (Ai L kk most).ss),AV.lst (List.map iV (Ai L kk most).rs),iV (Ai L kk most).q,iV (Ai L kk most).a,iV (Ai L kk most).d,iV (Ai L kk most).p]))))
  (gu (A6 L kk most+1<9223372036854775807) <|
   br (Ae L (A6 L kk most+1) 3==0)
   (some (.inl (.l0 ((0:Int)) (A6 L kk most+1+1) ((Ai L kk most).nx) ((Ai L kk most).rs))))
   (gu ((Ai L kk most).nx.length=(gL (Ai L kk most).nx).length) <|
    some (.inr ([some (bK [AV.agg [AV.lst (List.map iV L),iV (iN (A6 L kk most+1+1))]] 2)],AV.agg [AV.lst (List.map bA (Ai L kk most).bs),AV.lst (gL (Ai L kk most).nx),AV.lst (List.map sA (Ai L kk most).ss),AV.lst (List.map iV (Ai L kk most).rs),iV (Ai L kk most).q,iV (Ai L kk most).a,iV (Ai L kk most).d,iV (Ai L kk most).p])))))
 (gu (A6 L kk most+1<9223372036854775807) <|
  br (Ae L (A6 L kk most+1) 3==0)
  (some (.inl (.l0 ((0:Int)) (A6 L kk most+1+1) ((Ai L kk most).nx) ((Ai L kk most).rs))))
  (gu ((Ai L kk most).nx.length=(gL (Ai L kk most).nx).length) <|
   some (.inr ([some (bK [AV.agg [AV.lst (List.map iV L),iV (iN (A6 L kk most+1+1))]] 2)],AV.agg [AV.lst (List.map bA (Ai L kk most).bs),AV.lst (gL (Ai L kk most).nx),AV.lst (List.map sA (Ai L kk most).ss),AV.lst (List.map iV (Ai L kk most).rs),iV (Ai L kk most).q,iV (Ai L kk most).a,iV (Ai L kk most).d,iV (Ai L kk most).p]))))
def FO(L:List Int)(kk:Nat)(most v0:Int)(v1:Nat)(v2:List (List Int))(v3:List Int):Option (DE⊕Ret):=
 br (decide (v0<iN (List.map sA (Ai L kk most).ss).length))
 (some (.inl (.l1 v0 ((0:Int)) v1 v2 v3)))
 (some (.inr ([some (bK [AV.agg [AV.lst (List.map iV L),iV (iN v1)]] 2)],AV.agg [AV.lst (List.map bA (Ai L kk most).bs),AV.lst (List.map lI v2),AV.lst (List.map sA (Ai L kk most).ss),AV.lst (List.map iV v3),iV (Ai L kk most).q,iV (Ai L kk most).a,iV (Ai L kk most).d,iV (Ai L kk most).p])))
def FB(L:List Int)(kk:Nat)(most v0 v1:Int)(v2:Nat)(v3:List (List Int))(v4:List Int):Option (DE⊕Ret):=
 gu (0<=v0) <|
 el ((Ai L kk most).ss) (v0.toNat) fun(x43:Ar)=>
 br (decide (v1<x43.k))
 (el ((Ai L kk most).ss) (v0.toNat) fun(x51:Ar)=>
  br (x51.dep)
  (br (decide (iN v4.length<8))
   (el ((Ai L kk most).ss) (v0.toNat) fun(x66:Ar)=>
    gu (v4.length<=9000000000000000000) <|
    br (!Bz v4 (i64.wrap (x66.b+v1)))
    (gu ((List.map iV v4).length+[iV (i64.wrap (x66.b+v1))].length<=9223372036854775807) <|
     gu (((List.map iV v4).length+[iV (i64.wrap (x66.b+v1))].length) * 8<=140737488355328) <|
     some (.inl (.l1 v0 (i64.wrap (v1+1)) v2 v3 (v4++[i64.wrap (x66.b+v1)]))))
    (some (.inl (.l1 v0 (i64.wrap (v1+1)) v2 v3 v4))))
   (some (.inl (.l0 (i64.wrap (v0+1)) v2 v3 v4))))
  (some (.inl (.l0 (i64.wrap (v0+1)) v2 v3 v4))))
 (some (.inl (.l0 (i64.wrap (v0+1)) v2 v3 v4)))
def EH(L:List Int)(kk:Nat)(most:Int):DE->Option (DE⊕Ret)
 | .l0 v0 v1 v2 v3=>FO L kk most v0 v1 v2 v3
 | .l1 v0 v1 v2 v3 v4=>FB L kk most v0 v1 v2 v3 v4
theorem loEn_ok(L:List Int)(kk:Nat)(most:Int)(o:DE⊕Ret)(h:FP L kk most=some o):Arr Try.prog Try.f10 1 (DA L kk most) HS (zB Try.f10) [] {n:=Try.f10.ntmps,fr:=An 0 ([.ptr 0 0 0,.int .i64 most]),hp:=([some (Ab L kk)])} o:=
 Scr.ok h mix (
 .rn 0 [] [] [] [] s2 <|
 .gu fun a0=>
 .gu fun a1=>
 have c0:=netL_ct (L) (kk) (most) a0 a1;
 .rn 0 [] [] [(11,hK c0 [0] [])] [] (al (u2 (u2 (aj (k5 (al (c0))) (ak (al (k2 n11))))))) <|
 .gu fun a2=>
 .br (fun a3=>
 have c1:=AA (L) (A6 L kk most) (3) a2;
 .rn 0 [31] [] [(13,hK c1 [0] [])] [] (al (u2 (aj (ak (k3 (al (c1)))) (u2 (u2 (ag a3 (ag a3 (ag a3 (ag a3 (al (aj a3 t2))))))))))) <|
 .br (fun a4=>
  .gu fun a5=>
  .gu fun a6=>
  .gu fun a7=>
  .gu fun a8=>
  have c2:=AA (L) (A6 L kk most+1) (iN (List.map bA (Ai L kk most).bs).length) a5;
  .rn 0 [31,41] [(28,AV.lst [])] [(27,hK c2 [0] [])] [] (aj a4 (al (u2 (u2 (u2 (u2 (u2 (u2 (aj (k5 (al (c2))) (aj (k2 (aj a6 a7)) (al (ak a8)))))))))))) <|
  .gu fun a9=>
  have c3:=AA (L) (A6 L kk most+1+1) (3) a9;
  .rn 0 [31] [] [(30,hK c3 [0] [])] [] (al (u2 (aj (ak (k3 (al (c3)))) s2))) <|
  .br (fun a10=>
  .lq [31,63] [] [] [] [] [0,1,4,2,3] [4,5,6] (up [] [(2,[AV.agg [AV.lst (List.map bA (Ai L kk most).bs),AV.sl 3 0 (Ai L kk most).nx.length,AV.lst (List.map sA (Ai L kk most).ss),AV.sl 4 0 (Ai L kk most).rs.length,iv (Ai L kk most).q,iv (Ai L kk most).a,iv (Ai L kk most).d,iv (Ai L kk most).p]]),(3,(gL (Ai L kk most).nx).set (0+(Ae L (A6 L kk most+1) (iN (List.map bA (Ai L kk most).bs).length)).toNat) (AV.lst []))] (DA L kk most (.l0 ((0:Int)) (A6 L kk most+1+1+1) ((Ai L kk most).nx.set (0+(Ae L (A6 L kk most+1) (iN (List.map bA (Ai L kk most).bs).length)).toNat) []) ((Ai L kk most).rs)))) (aj (aj a10 s2) (k5 (aj (al t9) t3))) (by simp[up,upF,upV,upH,upB,DA,gL,boL,lI,sA,bA]))
  (fun a10=>
  .rn 0 [31,62] [] [] [] (aj a10 (al (u2 (al (k2 n11))))) <|
  .gu fun a11=>
  .rt [31] [] [] [] [0] [2,3] (ak (aj (ak (aj a11 (ak (aj (show(Ai L kk most).rs.length=(List.map (iv) (Ai L kk most).rs).length by simp) t5)))) t2))))
 (fun a4=>
  .gu fun a5=>
  have c2:=AA (L) (A6 L kk most+1) (3) a5;
  .rn 0 [31,40] [] [(30,hK c2 [0] [])] [] (aj a4 (al (u2 (aj (ak (k3 (al (c2)))) s2)))) <|
  .br (fun a6=>
  .lp [31,63] [] [] [] [] [0,1,4,2,3] [4,5,6] (aj (aj a6 s2) (k5 (aj (al t9) t3))))
  (fun a6=>
  .rn 0 [31,62] [] [] [] (aj a6 (al (u2 (al (k2 n11))))) <|
  .gu fun a7=>
  .rt [31] [] [] [] [0] [2,3] (ak (aj (ak (aj a7 (ak (aj (show(Ai L kk most).rs.length=(List.map (iv) (Ai L kk most).rs).length by simp) t5)))) t2)))))
 (fun a3=>
 have c1:=AA (L) (A6 L kk most) (3) a2;
 .rn 0 [30] [] [(13,hK c1 [0] [])] [] (al (u2 (aj (ak (k3 (al (c1)))) (u2 (u2 (aj a3 (aj a3 (aj a3 (aj a3 (al (aj a3 t2))))))))))) <|
 .gu fun a4=>
 have c2:=AA (L) (A6 L kk most+1) (3) a4;
 .rn 0 [30] [] [(30,hK c2 [0] [])] [] (ak (al (u2 (aj (ak (k3 (al (c2)))) s2)))) <|
 .br (fun a5=>
  .lp [30,63] [] [] [] [] [0,1,4,2,3] [4,5,6] (aj (aj a5 s2) (k5 (aj (al t9) t3))))
 (fun a5=>
  .rn 0 [30,62] [] [] [] (aj a5 (al (u2 (al (k2 n11))))) <|
  .gu fun a6=>
  .rt [30] [] [] [] [0] [2,3] (ak (aj (ak (aj a6 (ak (aj (show(Ai L kk most).rs.length=(List.map (iv) (Ai L kk most).rs).length by simp) t5)))) t2))))) (by kernel_rfl)
theorem loS0_ok(L:List Int)(kk:Nat)(most v0:Int)(v1:Nat)(v2:List (List Int))(v3:List Int)(o:DE⊕Ret)(h:FO L kk most v0 v1 v2 v3=some o):Arr Try.prog Try.f10 1 (DA L kk most) HS (AM Try.f10 0) (.rnd (AM Try.f10 0)::Bw Try.f10 0) (DA L kk most (.l0 v0 v1 v2 v3)) o:=
 Scr.ok h mix (
 .rn 0 [] [] [] [] (al (u2 (u2 (u2 (u2 (al t3)))))) <|
 .br (fun a0=>
 .lp [73] [] [] [] [] [0,1,2,3,4] [4,5,6,7] (aj (aj a0 s2) (ak (k5 (aj (al t9) t3)))))
 (fun a0=>
 .rt [72] [] [] [] [0] [3,4] (aj (aj a0 (al (u2 (al (k2 n11))))) (aj (ak (aj (show v2.length=(List.map lI v2).length by simp) (ak (aj (show v3.length=(List.map (iv) v3).length by simp) t5)))) t2)))) (by kernel_rfl)
theorem loS1_ok(L:List Int)(kk:Nat)(most v0 v1:Int)(v2:Nat)(v3:List (List Int))(v4:List Int)(o:DE⊕Ret)(h:FB L kk most v0 v1 v2 v3 v4=some o):Arr Try.prog Try.f10 1 (DA L kk most) HS (AM Try.f10 1) (.rnd (AM Try.f10 1)::Bw Try.f10 1) (DA L kk most (.l1 v0 v1 v2 v3 v4)) o:=
 Scr.ok h mix (
 .gu fun a0=>
 .el fun x43 a1=>
 .br (fun a2=>
 .el fun x51 a3=>
 .br (fun a4=>
  .rn 0 [95,111] [(43,sA x43),(51,sA x51)] [] [] (al (u2 (u2 (u2 (u2 (aj (k2 (aj a0 (A2 (f:=sA) a1))) (u2 (u2 (aj t3 (u2 (ag a2 (ag a2 (ag a2 (aj (aj a2 (k2 (aj a0 (A2 (f:=sA) a3)))) (ag a2 (ag a2 (ag a2 (u2 (ag a4 (ag a4 (ag a4 (ag a4 (al (aj a4 t2)))))))))))))))))))))))) <|
  .br (fun a5=>
  .el fun x66 a6=>
  .rn 0 [95,111,121] [(66,sA x66)] [] [] (aj a5 (al (u2 (u2 (u2 (aj (k2 (aj a0 (A2 (f:=sA) a6))) (u2 (u2 (u2 (aj t3 s2)))))))))) <|
  .gu fun a7=>
  have c0:=Hw v4 (i64.wrap (x66.b+v1)) a7;
  .rn 0 [95,111] [] [(74,hK c0 [] [4])] [] (al (u2 (u2 (u2 (aj (k2 (aj (show v4.length=(List.map (iv) v4).length by simp) (ak (aj (c0) (show ∀(blk:Blk),blk∈[]->AZ blk from(by intro _ h;cases h)))))) s2))))) <|
  .br (fun a8=>
   .gu fun a9=>
   .gu fun a10=>
   .lq [95,111,151] [] [] [] [] [0,1,2,3,6] [4,5,6,7] (up [] [(2,[AV.agg [AV.lst (List.map bA (Ai L kk most).bs),AV.sl 3 0 v3.length,AV.lst (List.map sA (Ai L kk most).ss),AV.sl 4 0 ((List.map (iv) v4).length+[iv (i64.wrap (x66.b+v1))].length),iv (Ai L kk most).q,iv (Ai L kk most).a,iv (Ai L kk most).d,iv (Ai L kk most).p]]),(4,List.map (iv) v4++[iv (i64.wrap (x66.b+v1))])] (DA L kk most (.l1 v0 (i64.wrap (v1+1)) v2 v3 (v4++[i64.wrap (x66.b+v1)])))) (aj (aj a8 (aj (u2 (u2 (u2 (u2 (aj (k2 (aj (show(List.map (iv) v4).length=v4.length by simp) (aj (aj (show nat_lit 1=nat_lit 1 from rfl) (show 1<=[iv (i64.wrap (x66.b+v1))].length by simp)) (aj a9 a10)))) (u2 (al t3))))))) (al (u2 (u2 s2))))) (ak (k5 (aj (al t9) t3)))) (by simp[up,upF,upV,upH,upB,DA,gL,boL,lI,sA,bA]))
  (fun a8=>
   .lp [95,111,150] [] [] [] [] [0,1,2,3,4] [4,5,6,7] (aj (aj a8 (al (u2 (u2 s2)))) (ak (k5 (aj (al t9) t3))))))
  (fun a5=>
  .lp [95,111,120] [] [] [] [] [0,1,2,3,4] [4,5,6] (aj (aj a5 (al (u2 (u2 s2)))) (k5 (aj (al t9) t3)))))
 (fun a4=>
  .lp [95,110] [(43,sA x43),(51,sA x51)] [] [] [] [0,1,2,3,4] [4,5,6] (aj (aj (u2 (u2 (u2 (u2 (aj (k2 (aj a0 (A2 (f:=sA) a1))) (u2 (u2 (aj t3 (u2 (ag a2 (ag a2 (ag a2 (aj (aj a2 (k2 (aj a0 (A2 (f:=sA) a3)))) (ag a2 (ag a2 (ag a2 (u2 (aj a4 (aj a4 (aj a4 (aj a4 (al (aj a4 t2))))))))))))))))))))))) (ak (al (u2 (u2 s2))))) (k5 (aj (al t9) t3)))))
 (fun a2=>
 .lp [94] [(43,sA x43)] [] [] [] [0,1,2,3,4] [4,5,6] (aj (aj (u2 (u2 (u2 (u2 (aj (k2 (aj a0 (A2 (f:=sA) a1))) (u2 (u2 (aj t3 (u2 (aj a2 (aj a2 (aj a2 (aj a2 (aj a2 (aj a2 (ag a2 (u2 (ak (k3 (al t3)))))))))))))))))))) (ak (al (u2 (u2 s2))))) (k5 (aj (al t9) t3))))) (by kernel_rfl)
theorem lo_ct(L:List Int)(kk:Nat)(most:Int)(r:Ret)(h:Aj (EH L kk most) (FP L kk most) r):CT Try.prog 10 ([some (Ab L kk)]) ([.ptr 0 0 0,.int .i64 most]) r.1 r.2:=
 CT.mach (fn:=Try.f10) (c:=zB Try.f10) (S:=DA L kk most) (hd:=HS) Try.func10 (by kernel_rfl) (nL rfl)
  (fun s o ho=>match s,ho with
   | .l0 v0 v1 v2 v3,ho=>loS0_ok L kk most v0 v1 v2 v3 o ho
   | .l1 v0 v1 v2 v3 v4,ho=>loS1_ok L kk most v0 v1 v2 v3 v4 o ho
  )
  (fun o ho=>loEn_ok L kk most o ho) h
structure Fp(n:Aa):Prop where
 v:Aq n
 ln:3<=n.ss.length/\n.ss.length<=5
 d0:∀s,n.ss[0]?=some s->s.dep=true
 d1:∀s,n.ss[1]?=some s->s.dep=false
 d2:∀s,n.ss[2]?=some s->s.dep=false
 rb:n.rs≠[]
 rows:Rows n.nx
theorem DZ.loose{n:Aa}(h:DZ n):Fp n:=⟨h.v,h.ln,h.d0,h.d1,h.d2,h.rb,h.rows⟩
theorem Oa(i m:Int):nxB [] i m=true:=by unfold nxB;simp[fnd]
theorem Aq.lane{n:Aa}(h:Aq n)(j:Nat):Aq {n with nx:=n.nx.set j []}:=by
 refine⟨h.nb,by simp[h.nx],h.ns,h.nr,?_,fun i b hb=>?_,fun i s hs=>?_,h.nod,h.dep,h.rob⟩
 .have:=h.cfg;unfold Bb at this ⊢;exact this
 .have g:=h.blk i b hb
  refine⟨g.nm,g.x,g.y,?_⟩
  show nxB ((n.nx.set j []).getD i []) i n.bs.length=true
  rw[Rc,R1]
  split
  .split
   .exact Oa _ _
   .exact Oa _ _
  .rw[<-Rc];exact g.nx
 .have g:=h.spu i s hs
  exact⟨g.nm,g.hi,g.ho,g.hk,g.hb⟩
theorem Rows.lane{g:List (List Int)}(h:Rows g)(j:Nat):Rows (g.set j []):=by
 intro v hv
 have h1:=h v (by simpa using hv)
 rw[Rc,R1]
 split
 .split<;>simp
 .rw[<-Rc];exact h1
theorem DJ.add{n:Aa}{rs:List Int}(h:DJ n rs){x:Int}(hd:AQ n n.ss.length x)(hx:x∉rs):DJ n (rs++[x]):=by
 intro i c hc
 rw[RK] at hc
 split at hc
 .rename_i hi
  obtain⟨h1,h2⟩:=h i c hc
  exact⟨h1,by rw[List.take_append_of_le_length (by omega)];exact h2⟩
 .rename_i hi
  have e:i=rs.length:=by
   have:=(Rd.1 hc).1;simp at this;omega
  subst e
  simp at hc;subst hc
  exact⟨hd,by rw[List.take_append_of_le_length (by omega),List.take_length];exact hx⟩
structure LoI(N n:Aa):Prop where
 ok:Fp n
 bs:n.bs=N.bs
 ss:n.ss=N.ss
 q:n.q=N.q
 a:n.a=N.a
 d:n.d=N.d
 p:n.p=N.p
def DW(L:List Int)(k:Nat)(n:Aa):Ret:=([some (Ab L k)],Ad n)
theorem lo_fill{L:List Int}{kk:Nat}{most:Int}{k:Nat}:∀(n:Aa),LoI (Ai L kk most) n->∀(m i:Nat),i+m=n.ss.length->
  ∃n',LoI (Ai L kk most) n'/\Aj (EH L kk most) (some (.inl (.l0 (i:Int) k n.nx n.rs))) (DW L k n'):=by
 intro n hn m
 induction m generalizing n with
 | zero=>
  intro i hi
  refine⟨n,hn,.to ?_ (.ret _)⟩
  show FO L kk most i k n.nx n.rs=_
  unfold FO
  rw[show (i:Int)=((Ai L kk most).ss.length:Nat) by rw[<-hn.ss];omega,Gi]
  unfold DW Ad gL lI
  rw[hn.bs,hn.ss,hn.q,hn.a,hn.d,hn.p];rfl
 | succ m ih=>
  intro i hi
  have hil:i<n.ss.length:=by omega
  obtain⟨s,hs⟩:∃s,n.ss[i]?=some s:=⟨_,Rb hil⟩
  have hs':(Ai L kk most).ss[i]?=some s:=by rw[<-hn.ss];exact hs
  have sb:=hn.ok.v.sb hs
  have ns:=hn.ok.v.ns
  -- the slots of one spur
  have inner:∀(w j:Nat) (n1:Aa),LoI (Ai L kk most) n1->(j:Int)+w=s.k->∃n',LoI (Ai L kk most) n'/\Aj (EH L kk most) (some (.inl (.l1 (i:Int) (j:Int) k n1.nx n1.rs))) (DW L k n'):=by
   intro w
   induction w with
   | zero=>
    intro j n1 h1 hj
    obtain⟨n',g1,g2⟩:=ih n1 h1 (i+1) (by rw[h1.ss,<-hn.ss];omega)
    refine⟨n',g1,.to ?_ g2⟩
    show FB L kk most i j k n1.nx n1.rs=_
    unfold FB
    rw[Ac (by omega),Rk,Bi hs',Ao (AF (by omega)),zW i (by omega)]
   | succ w ihw=>
    intro j n1 h1 hj
    have out:∃n',LoI (Ai L kk most) n'/\Aj (EH L kk most) (some (.inl (.l0 (i64.wrap ((i:Int)+1)) k n1.nx n1.rs))) (DW L k n'):=by
     rw[zW i (by omega)]
     exact ih n1 h1 (i+1) (by rw[h1.ss,<-hn.ss];omega)
    have go:∀{n'},Aj (EH L kk most) (FB L kk most i j k n1.nx n1.rs) (DW L k n')->Aj (EH L kk most) (some (.inl (.l1 (i:Int) (j:Int) k n1.nx n1.rs))) (DW L k n'):=fun h=>.go _ _ h
    have nr:=h1.ok.v.nr
    have e0:FB L kk most i j k n1.nx n1.rs=br s.dep (br (decide (iN n1.rs.length<8)) (gu (n1.rs.length<=9000000000000000000) (br (!Bz n1.rs (i64.wrap (s.b+(j:Int)))) (gu ((List.map (AV.int i64) n1.rs).length+[AV.int i64 (i64.wrap (s.b+(j:Int)))].length<=9223372036854775807) (gu (((List.map (AV.int i64) n1.rs).length+[AV.int i64 (i64.wrap (s.b+(j:Int)))].length) * 8<=140737488355328) (some (.inl (.l1 (i:Int) (i64.wrap ((j:Int)+1)) k n1.nx (n1.rs++[i64.wrap (s.b+(j:Int))])))))) (some (.inl (.l1 (i:Int) (i64.wrap ((j:Int)+1)) k n1.nx n1.rs))))) (some (.inl (.l0 (i64.wrap ((i:Int)+1)) k n1.nx n1.rs)))) (some (.inl (.l0 (i64.wrap ((i:Int)+1)) k n1.nx n1.rs))):=by
     unfold FB
     rw[Ac (by omega),Rk,Bi hs',Au (AN (by omega)),Bi hs']
     cases s.dep with
     | false=>rfl
     | true=>
      rw[Au rfl,Au rfl,Bi hs']
    cases hd:s.dep with
    | false=>
     obtain⟨n',g1,g2⟩:=out
     exact⟨n',g1,go (by rw[e0,hd,Ao rfl];exact g2)⟩
    | true=>
     by_cases h8:n1.rs.length<8
     .have wj:i64.wrap ((j:Int)+1)=((j+1:Nat):Int):=zW j (by omega)
      have wx:i64.wrap (s.b+(j:Int))=s.b+(j:Int):=AU _ (by omega) (by omega)
      rw[hd,Au rfl,Au (AN (by show(n1.rs.length:Int)<8;omega)),Ac (by omega),wj,wx] at e0
      cases hh:Bz n1.rs (s.b+(j:Int)) with
      | true=>
       obtain⟨n',g1,g2⟩:=ihw (j+1) n1 h1 (by omega)
       exact⟨n',g1,go (by rw[e0,hh];exact g2)⟩
      | false=>
       have hni:(s.b+(j:Int))∉n1.rs:=fun e=>by rw[Dy.2 e] at hh;cases hh
       have hdep:AQ n1 n1.ss.length (s.b+(j:Int)):=⟨s,by rw[List.take_length,h1.ss];exact Rf hs',hd,by omega,by omega⟩
       have hr:DJ n1 (n1.rs++[s.b+(j:Int)]):=DJ.add h1.ok.v.rob hdep hni
       have hv2:=h1.ok.v.robots hr (by simp;omega)
       obtain⟨n',g1,g2⟩:=ihw (j+1) {n1 with rs:=n1.rs++[s.b+(j:Int)]} ⟨⟨hv2,h1.ok.ln,h1.ok.d0,h1.ok.d1,h1.ok.d2,by simp,h1.ok.rows⟩,h1.bs,h1.ss,h1.q,h1.a,h1.d,h1.p⟩ (by omega)
       exact⟨n',g1,go (by rw[e0,hh,Au (by rfl),Ac (by simp;omega),Ac (by simp;omega)];exact g2)⟩
     .obtain⟨n',g1,g2⟩:=out
      exact⟨n',g1,go (by rw[e0,hd,Au rfl,Ao (AF (by show ¬(n1.rs.length:Int)<8;omega))];exact g2)⟩
  obtain⟨n',g1,g2⟩:=inner s.k.toNat 0 n hn (by omega)
  refine⟨n',g1,.to ?_ g2⟩
  show FO L kk most i k n.nx n.rs=_
  unfold FO
  rw[Au (rngB (by rw[<-hn.ss];exact hil))];rfl
theorem loose_ex(L:List Int)(kk:Nat)(most:Int)(hk:kk<=5000)(hm:1<=most/\most<=20):∃n k,Fp n/\k<=kk+210/\CT Try.prog 10 [some (Ab L kk)] [.ptr 0 0 0,.int .i64 most] [some (Ab L k)] (Ad n):=by
 obtain⟨hN,hkk,_⟩:=Mh (L:=L) hk hm
 have key:∀(n:Aa) (k:Nat),Aj (EH L kk most) (FP L kk most) (DW L k n)->CT Try.prog 10 [some (Ab L kk)] [.ptr 0 0 0,.int .i64 most] [some (Ab L k)] (Ad n):=fun n k h=>lo_ct L kk most _ h
 have nb:=hN.v.nb24
 have hnx:=hN.v.nx
 have base:LoI (Ai L kk most) (Ai L kk most):=⟨hN.loose,rfl,rfl,rfl,rfl,rfl,rfl⟩
 -- with the depots filled or not
 have fin:∀(n:Aa) (k:Nat),LoI (Ai L kk most) n->k<=kk+205->Aj (EH L kk most) (FP L kk most) (DW L k n)->∃n k,Fp n/\k<=kk+210/\CT Try.prog 10 [some (Ab L kk)] [.ptr 0 0 0,.int .i64 most] [some (Ab L k)] (Ad n):=
  fun n k h1 h2 h3=>⟨n,k,h1.ok,by omega,key n k h3⟩
 have fill:∀(n:Aa) (k:Nat),LoI (Ai L kk most) n->k<=kk+205->FP L kk most=some (.inl (.l0 0 k n.nx n.rs))->∃n k,Fp n/\k<=kk+210/\CT Try.prog 10 [some (Ab L kk)] [.ptr 0 0 0,.int .i64 most] [some (Ab L k)] (Ad n):=fun n k h1 h2 h3=>by
  obtain⟨n',g1,g2⟩:=lo_fill (k:=k) n h1 n.ss.length 0 (by omega)
  exact fin n' k g1 h2 (by rw[h3];exact g2)
 unfold FP at fill fin
 rw[Ac hk,Ac hm,Ac (by omega)] at fill fin
 generalize A6 L kk most=K at hkk fill fin
 have r0:∀k,0<=Ae L k (iN (List.map bA (Ai L kk most).bs).length)/\Ae L k (iN (List.map bA (Ai L kk most).bs).length)<(Ai L kk most).bs.length:=fun k=>by
  have:=AY L k (iN (List.map bA (Ai L kk most).bs).length) (by simp[iN];omega) (by simp[iN];omega)
  simp[iN] at this ⊢;omega
 by_cases h1:(Ae L K 3==0)=true
 .rw[Au h1] at fill fin
  by_cases h2:1<iN (List.map bA (Ai L kk most).bs).length
  .have r1:=r0 (K+1)
   rw[Au (AN h2),Ac (by omega),Ac (by omega),Ac (by rw[show iN (Ai L kk most).nx.length=((Ai L kk most).nx.length:Int) from rfl];omega),Ac (by show 0+Int.toNat _+1<=_;rw[B5];omega),Ac (by omega)] at fill fin
   have hl:LoI (Ai L kk most) {Ai L kk most with nx:=(Ai L kk most).nx.set (0+(Ae L (K+1) (iN (List.map bA (Ai L kk most).bs).length)).toNat) []}:=
    ⟨⟨hN.v.lane _,hN.ln,hN.d0,hN.d1,hN.d2,hN.rb,hN.rows.lane _⟩,rfl,rfl,rfl,rfl,rfl,rfl⟩
   by_cases h3:(Ae L (K+1+1) 3==0)=true
   .rw[Au h3] at fill
    exact fill _ (K+1+1+1) hl (by omega) rfl
   .rw[Ao (by simpa using h3),Ac (by rw[RJ,B5])] at fin
    refine fin _ (K+1+1+1) hl (by omega) (.val ?_)
    unfold DW Ad gL lI
    simp only[List.map_set];rfl
  .rw[Ao (AF h2),Ac (by omega)] at fill fin
   by_cases h3:(Ae L (K+1) 3==0)=true
   .rw[Au h3] at fill
    exact fill _ (K+1+1) base (by omega) rfl
   .rw[Ao (by simpa using h3),Ac (by rw[B5])] at fin
    exact fin _ (K+1+1) base (by omega) (.val rfl)
 .rw[Ao (by simpa using h1),Ac (by omega)] at fill fin
  by_cases h3:(Ae L (K+1) 3==0)=true
  .rw[Au h3] at fill
   exact fill _ (K+1+1) base (by omega) rfl
  .rw[Ao (by simpa using h3),Ac (by rw[B5])] at fin
   exact fin _ (K+1+1) base (by omega) (.val rfl)
theorem Lr(L:List Int)(kk:Nat)(most:Int):∃p:Aa×Nat,kk<=5000->(1<=most/\most<=20)->Fp p.1/\p.2<=kk+210/\CT Try.prog 10 [some (Ab L kk)] [.ptr 0 0 0,.int .i64 most] [some (Ab L p.2)] (Ad p.1):=by
 by_cases h:kk<=5000/\(1<=most/\most<=20)
 .obtain⟨n,k,a,b,c⟩:=loose_ex L kk most h.1 h.2
  exact⟨(n,k),fun _ _=>⟨a,b,c⟩⟩
 .exact⟨(⟨[],[],[],[],0,0,0,0⟩,0),fun a b=>absurd ⟨a,b⟩ h⟩
@[irreducible] def AJ(L:List Int)(kk:Nat)(most:Int):Aa:=(Classical.choose (Lr L kk most)).1
@[irreducible] def CF(L:List Int)(kk:Nat)(most:Int):Nat:=(Classical.choose (Lr L kk most)).2
theorem JG{L:List Int}{kk:Nat}{most:Int}(h:kk<=5000)(hm:1<=most/\most<=20):Fp (AJ L kk most)/\CF L kk most<=kk+210/\CT Try.prog 10 [some (Ab L kk)] [.ptr 0 0 0,.int .i64 most] [some (Ab L (CF L kk most))] (Ad (AJ L kk most)):=
 by unfold AJ CF;exact RO (Lr L kk most) h hm
theorem loose_ct(L:List Int)(kk:Nat)(most:Int)(h:kk<=5000)(hm:1<=most/\most<=20):CT Try.prog 10 [some (Ab L kk)] [.ptr 0 0 0,.int .i64 most] [some (Ab L (CF L kk most))] (Ad (AJ L kk most)):=(JG h hm).2.2
theorem Aq.ends{n:Aa}(hv:Aq n){i:Nat}{s:Ar}(hs:n.ss[i]?=some s):0<=s.i/\s.i<Az n/\0<=s.o/\s.o<Az n/\s.b+s.k<=Az n:=by
 have g:=hv.goodT i s hs
 have hc:=hv.cel
 have hi:=g.hi
 have ho:=g.ho
 have hil:=(Rd.1 hs).1
 have hm:=J4 hv (i:=i+1) (j:=n.ss.length) (by omega) (Rm _)
 rw[C9 hs,<-g.hb] at hm
 exact⟨by omega,by omega,by omega,by omega,by omega⟩
def FA(s:Ar):Int:=s.b+s.k-1
def Cu(n:Aa)(c:Int):List Int:=match plF n c with
 | some i=>if c=FA (n.ss.getD i s0) then [(n.ss.getD i s0).o] else [c+1]
 | none=>n.nx.getD c.toNat []++(n.ss.filter fun s=>s.i==c).map fun s=>s.b
def nxO(n:Aa)(c:Int):List Int:=if ckE n c=0 then Cu n c else []
def A8(n:Aa)(x y:Int):Bool:=Bz (nxO n x) y
theorem HI{n:Aa}{c:Int}(h:ckE n c=0):Aq n/\0<=c/\c<(Az n:Int):=by
 unfold ckE at h
 split at h
 .rename_i hv
  split at h
  .cases h
  .exact⟨C2.1 hv,by omega,by omega⟩
 .cases h
theorem Jl{n:Aa}{c:Int}(hv:Aq n)(h0:0<=c)(h1:c<(Az n:Int)):ckE n c=0:=by
 unfold ckE;rw[if_pos (C2.2 hv),if_neg (by omega)]
theorem IW{n:Aa}{c:Int}{i:Nat}(h:plF n c=some i):∃s,n.ss[i]?=some s/\n.ss.getD i s0=s/\s.b<=c/\c<s.b+s.k/\i<n.ss.length:=by
 unfold plF at h
 obtain⟨h1,_,h2⟩:=D8 h
 have hl:i<n.ss.length:=by omega
 refine⟨n.ss[i],Rb hl,by rw[Rc,Rb hl];rfl,?_⟩
 unfold plB at h1
 rw[Rb hl] at h1
 unfold inP at h1
 simp only[Rj,decide_eq_true_eq] at h1
 exact⟨h1.1,h1.2,hl⟩
theorem plF_none{n:Aa}{c:Int}(h:plF n c=none){i:Nat}{s:Ar}(hs:n.ss[i]?=some s):¬(s.b<=c/\c<s.b+s.k):=by
 unfold plF at h
 have hl:=(Rd.1 hs).1
 have:=Fj h i (Rn _) (by omega)
 unfold plB at this
 rw[hs] at this
 unfold inP at this
 simp only[Bool.and_eq_false_iff,decide_eq_false_iff_not] at this
 omega
theorem Qf{n:Aa}(hv:Aq n){c:Int}(h0:(n.bs.length:Int)<=c):∀i,i<=n.ss.length->c<Am n i->∃(j:Nat) (s:Ar),n.ss[j]?=some s/\s.b<=c/\c<s.b+s.k:=by
 intro i
 induction i with
 | zero=>intro _ h;unfold Am at h;simp at h;omega
 | succ i ih=>
  intro hi h
  by_cases hc:c<Am n i
  .exact ih (by omega) hc
  .have hs:n.ss[i]?=some n.ss[i]:=Rb (by omega)
   have:=C9 hs
   have:=(hv.sb hs).2.2.2.2
   exact⟨i,_,hs,by omega,by omega⟩
theorem Ij{n:Aa}(hv:Aq n){c:Int}(h0:0<=c)(h1:c<(Az n:Int))(h:plF n c=none):c<(n.bs.length:Int):=by
 have hce:=hv.cel
 refine Int.not_le.1 fun hb=>?_
 obtain⟨j,s,hs,g1,g2⟩:=Qf hv hb n.ss.length (Rm _) (by omega)
 exact plF_none h hs ⟨g1,g2⟩
theorem Aq.lanes{n:Aa}(hrw:Rows n.nx)(hv:Aq n){v:Nat}(h:v<n.bs.length):(∀w∈n.nx.getD v [],0<=w/\w<(n.bs.length:Int))/\(n.nx.getD v []).length<=24:=by
 obtain⟨hg,ha⟩:=Jh hrw hv.chk
 have hl:=hv.nx
 have:=hg.len
 have h2:=asc_len hg ha (show v<n.nx.length by omega)
 exact⟨fun w hw=>by have:=(hg.row v (by omega)).2 w hw;omega,by omega⟩
theorem Ot{n:Aa}(hrw:Rows n.nx)(hv:Aq n){c:Int}(h0:0<=c)(h1:c<(Az n:Int)):∀x∈Cu n c,0<=x/\x<(Az n:Int):=by
 intro x hx
 have hce:=hv.cel
 unfold Cu at hx
 cases hp:plF n c with
 | some i=>
  rw[hp] at hx
  obtain⟨s,hs,hg,g1,g2,hl⟩:=IW hp
  have he:=hv.ends hs
  simp only[hg] at hx
  split at hx
  .rw[List.mem_singleton.1 hx];exact⟨he.2.2.1,he.2.2.2.1⟩
  .rename_i hne
   unfold FA at hne
   rw[List.mem_singleton.1 hx];omega
 | none=>
  rw[hp] at hx
  have hb:=Ij hv h0 h1 hp
  rcases RE.1 hx with h | h
  .have:=(hv.lanes hrw (show c.toNat<n.bs.length by omega)).1 x h
   omega
  .obtain⟨s,hs,rfl⟩:=RF.1 h
   obtain⟨i,hi⟩:=List.getElem?_of_mem (List.mem_filter.1 hs).1
   have he:=hv.ends hi
   have hb:=hv.sb hi
   omega
theorem nxtL_len{n:Aa}(hrw:Rows n.nx)(hv:Aq n){c:Int}(h0:0<=c)(h1:c<(Az n:Int)):(Cu n c).length<=100:=by
 unfold Cu
 cases hp:plF n c with
 | some i=>simp only;split<;>simp
 | none=>
  have hb:=Ij hv h0 h1 hp
  have h2:=(hv.lanes hrw (show c.toNat<n.bs.length by omega)).2
  have h3:=List.length_filter_le (fun s:Ar=>s.i==c) n.ss
  have ns:=hv.ns
  simp only[Ru,Re];omega
theorem JP{n:Aa}(hrw:Rows n.nx)(c:Int):(nxO n c).length<=100:=by
 unfold nxO
 split
 .rename_i h
  obtain⟨hv,h0,h1⟩:=HI h
  exact nxtL_len hrw hv h0 h1
 .simp
theorem Ml{n:Aa}(hrw:Rows n.nx){x y:Int}(h:A8 n x y=true):ckE n x=0/\ckE n y=0:=by
 unfold A8 nxO at h
 split at h
 .rename_i hx
  obtain⟨hv,h0,h1⟩:=HI hx
  have:=Ot hrw hv h0 h1 y (Dy.1 h)
  exact⟨hx,Jl hv this.1 this.2⟩
 .exact absurd (Dy.1 h) (by simp)
def ckSt(n:Aa)(c:Int):Empty->St
 | x=>x.elim
def ckHd:Empty->Nat
 | x=>x.elim
def ckEn(n:Aa)(c:Int):Option (Empty⊕Ret):=
 gu (Rows n.nx) <|
 br (!BK n)
 (some (.inr ([],iV 20)))
 (br (decide (c<0))
  (some (.inr ([],iV 19)))
  (gu (Aq n) <|
   br (decide (iN (Az n)<=c))
   (some (.inr ([],iV 19)))
   (some (.inr ([],iV 0)))))
def ckStep(n:Aa)(c:Int):Empty->Option (Empty⊕Ret)
 | x=>x.elim
theorem ckEn_ok(n:Aa)(c:Int)(o:Empty⊕Ret)(h:ckEn n c=some o):Arr Try.prog Try.f39 0 (ckSt n c) ckHd (zB Try.f39) [] {n:=Try.f39.ntmps,fr:=An 0 ([Ad n,.int .i64 c]),hp:=([])} o:=
 Scr.ok h mix (
 .rn 0 [] [] [] [] (al (u2 t2)) <|
 .gu fun a0=>
 have c0:=Pw a0;
 .rn 0 [] [] [(7,hK c0 [] [])] [] (al (u2 (aj (ak (aj t9 (al (c0)))) (u2 s2)))) <|
 .br (fun a1=>
 .rt [11] [] [] [] [] [] (aj (aj a1 s2) t2))
 (fun a1=>
 .br (fun a2=>
  .rt [10,25] [] [] [] [] [] (aj (aj a1 (aj (u2 (u2 (u2 (aj a2 (aj a2 (aj a2 (aj a2 (ag a2 s2)))))))) (ak s2))) t2))
 (fun a2=>
  .gu fun a3=>
  have c1:=Q9 a3;
  .rn 0 [10,24] [] [(15,hK c1 [] [])] [] (aj a1 (al (u2 (u2 (u2 (ag a2 (ag a2 (aj (aj a2 (ak (aj t9 (al (c1))))) (aj (aj a2 t3) (ag a2 s2)))))))))) <|
  .br (fun a4=>
  .rt [24,19] [] [] [] [] [] (aj (aj a4 s2) t2))
  (fun a4=>
  .rt [24,18] [] [] [] [] [] (aj (aj a4 s2) t2))))) (by kernel_rfl)
theorem ck_ct(n:Aa)(c:Int)(r:Ret)(h:Aj (ckStep n c) (ckEn n c) r):CT Try.prog 39 ([]) ([Ad n,.int .i64 c]) r.1 r.2:=
 CT.mach (fn:=Try.f39) (c:=zB Try.f39) (S:=ckSt n c) (hd:=ckHd) Try.func39 (by kernel_rfl) (nL rfl)
  (fun s o ho=>match s,ho with
   | x,_=>x.elim)
  (fun o ho=>ckEn_ok n c o ho) h
def rckSt(n:Aa)(c:Int):Empty->St
 | x=>x.elim
def rckHd:Empty->Nat
 | x=>x.elim
def Ln(n:Aa)(c:Int):Option (Empty⊕Ret):=
 gu (Rows n.nx) <|
 br (!BK n)
 (some (.inr ([],iV 20)))
 (br (decide (c<0))
  (some (.inr ([],iV 19)))
  (gu (Aq n) <|
   br (decide (iN (Az n)<=c))
   (some (.inr ([],iV 19)))
   (some (.inr ([],iV 0)))))
def rckStep(n:Aa)(c:Int):Empty->Option (Empty⊕Ret)
 | x=>x.elim
theorem rckEn_ok(n:Aa)(c:Int)(o:Empty⊕Ret)(h:Ln n c=some o):Arr Try.prog Try.f67 0 (rckSt n c) rckHd (zB Try.f67) [] {n:=Try.f67.ntmps,fr:=An 0 ([Ad n,.int .i64 c]),hp:=([])} o:=
 Scr.ok h mix (
 .rn 0 [] [] [] [] (al (u2 t2)) <|
 .gu fun a0=>
 have c0:=LN a0;
 .rn 0 [] [] [(6,hK c0 [] [])] [] (al (u2 (aj (ak (aj t9 (al (c0)))) s2))) <|
 .br (fun a1=>
 .rt [15] [] [] [] [] [] (aj (aj a1 s2) t2))
 (fun a1=>
 .br (fun a2=>
  .rt [14,21] [] [] [] [] [] (aj (aj a1 (aj (u2 (u2 (u2 (aj a2 (aj a2 (aj a2 (aj a2 (al (aj a2 t2))))))))) (ak s2))) t2))
 (fun a2=>
  .gu fun a3=>
  have c1:=DB a3;
  .rn 0 [14,20] [] [(13,hK c1 [] [])] [] (aj a1 (al (u2 (u2 (u2 (ag a2 (ag a2 (aj (aj a2 (ak (aj t9 (al (c1))))) (aj (aj a2 t3) (al (aj a2 t2))))))))))) <|
  .br (fun a4=>
  .rt [20,31] [] [] [] [] [] (aj (aj a4 s2) t2))
  (fun a4=>
  .rt [20,30] [] [] [] [] [] (aj (aj a4 s2) t2))))) (by kernel_rfl)
theorem rck_ct(n:Aa)(c:Int)(r:Ret)(h:Aj (rckStep n c) (Ln n c) r):CT Try.prog 67 ([]) ([Ad n,.int .i64 c]) r.1 r.2:=
 CT.mach (fn:=Try.f67) (c:=zB Try.f67) (S:=rckSt n c) (hd:=rckHd) Try.func67 (by kernel_rfl) (nL rfl)
  (fun s o ho=>match s,ho with
   | x,_=>x.elim)
  (fun o ho=>rckEn_ok n c o ho) h
def hdSt(n:Aa)(q:Int):Empty->St
 | x=>x.elim
def hdHd:Empty->Nat
 | x=>x.elim
def hdEn(n:Aa)(q:Int):Option (Empty⊕Ret):=
 gu (0<=q) <|
 el (n.ss) (q.toNat) fun(x8:Ar)=>
 el (n.ss) (q.toNat) fun(x14:Ar)=>
 some (.inr ([],iV (i64.wrap (i64.wrap (x8.b+x14.k)-1))))
def hdStep(n:Aa)(q:Int):Empty->Option (Empty⊕Ret)
 | x=>x.elim
theorem hdEn_ok(n:Aa)(q:Int)(o:Empty⊕Ret)(h:hdEn n q=some o):Arr Try.prog Try.f86 0 (hdSt n q) hdHd (zB Try.f86) [] {n:=Try.f86.ntmps,fr:=An 0 ([Ad n,.int .i64 q]),hp:=([])} o:=
 Scr.ok h mix (
 .rn 0 [] [] [] [] (al (u2 t2)) <|
 .gu fun a0=>
 .el fun x8 a1=>
 .el fun x14 a2=>
 .rt [] [(8,sA x8),(14,sA x14)] [] [] [] [] (aj (al (u2 (u2 (u2 (aj (k2 (aj a0 (A2 (f:=sA) a1))) (u2 (u2 (u2 (u2 (u2 (aj (k2 (aj a0 (A2 (f:=sA) a2))) (u2 (u2 (aj t3 (u2 s2))))))))))))))) t2)) (by kernel_rfl)
theorem hd_ct(n:Aa)(q:Int)(r:Ret)(h:Aj (hdStep n q) (hdEn n q) r):CT Try.prog 86 ([]) ([Ad n,.int .i64 q]) r.1 r.2:=
 CT.mach (fn:=Try.f86) (c:=zB Try.f86) (S:=hdSt n q) (hd:=hdHd) Try.func86 (by kernel_rfl) (nL rfl)
  (fun s o ho=>match s,ho with
   | x,_=>x.elim)
  (fun o ho=>hdEn_ok n q o ho) h
theorem ck_c(n:Aa)(c:Int)(hrw:Rows n.nx):CT Try.prog 39 [] [Ad n,.int .i64 c] [] (.int .i64 (ckE n c)):=by
 refine ck_ct n c ([],_) (.val ?_)
 unfold ckEn ckE
 rw[Ac hrw]
 by_cases hv:Aq n
 .rw[C2.2 hv,if_pos rfl,Ao (by rfl)]
  by_cases h0:c<0
  .rw[Au (AN h0),if_pos (.inl h0)]
  .rw[Ao (AF h0),Ac hv]
   by_cases h1:(Az n:Int)<=c
   .rw[Au (AN h1),if_pos (.inr h1)]
   .rw[Ao (AF h1),if_neg (by omega)]
 .rw[B8 hv,if_neg (by simp),Au (by rfl)]
theorem GC(n:Aa)(c:Int)(hrw:Rows n.nx):CT Try.prog 67 [] [Ad n,.int .i64 c] [] (.int .i64 (ckE n c)):=by
 refine rck_ct n c ([],_) (.val ?_)
 unfold Ln ckE
 rw[Ac hrw]
 by_cases hv:Aq n
 .rw[C2.2 hv,if_pos rfl,Ao (by rfl)]
  by_cases h0:c<0
  .rw[Au (AN h0),if_pos (.inl h0)]
  .rw[Ao (AF h0),Ac hv]
   by_cases h1:(Az n:Int)<=c
   .rw[Au (AN h1),if_pos (.inr h1)]
   .rw[Ao (AF h1),if_neg (by omega)]
 .rw[B8 hv,if_neg (by simp),Au (by rfl)]
theorem hd_c(n:Aa)(q:Int)(hv:Aq n)(hq:0<=q/\q<(n.ss.length:Int)):CT Try.prog 86 [] [Ad n,.int .i64 q] [] (.int .i64 (FA (n.ss.getD q.toNat s0))):=by
 refine hd_ct n q ([],_) (.val ?_)
 have hs:=Cs s0 (show q.toNat<n.ss.length by omega)
 have hb:=hv.sb hs
 unfold hdEn FA
 have w1:i64.wrap ((n.ss.getD q.toNat s0).b+(n.ss.getD q.toNat s0).k)=(n.ss.getD q.toNat s0).b+(n.ss.getD q.toNat s0).k:=Dj (by omega) (by omega)
 have w2:i64.wrap ((n.ss.getD q.toNat s0).b+(n.ss.getD q.toNat s0).k-1)=(n.ss.getD q.toNat s0).b+(n.ss.getD q.toNat s0).k-1:=Dj (by omega) (by omega)
 rw[Ac hq.1,Bi hs,Bi hs,w1,w2]
inductive DV where
 | l0 (v0:List Int) (v1:Int)
def ED(n:Aa)(c:Int):DV->St
 | .l0 v0 v1=>St.mk 68 [(1,iv c),(9,AV.sl 0 0 v0.length),(51,AV.lst (List.map sA n.ss)),(52,iv (iN (List.map sA n.ss).length)),(53,iv v1)] [some (bK (List.map (iv) v0) 1)]
def K3:DV->Nat
 | .l0 _ _=>0
def HD(n:Aa)(c:Int):Option (DV⊕Ret):=
 gu (Rows n.nx) <|
 br (ckE n c != 0)
 (some (.inr ([],AV.tup [AV.nils,iV (ckE n c)])))
 (gu (Aq n) <|
  gu (-1000<=c/\c<=1000) <|
  br (decide (0<=plI n c))
  (gu (0<=plI n c) <|
   el (n.ss) ((plI n c).toNat) fun(x30:Ar)=>
   br (decide (plJ n c<x30.k))
   (some (.inr ([],AV.tup [AV.lst [iV (i64.wrap (c+1))],iV 0])))
   (el (n.ss) ((plI n c).toNat) fun(x40:Ar)=>
    some (.inr ([],AV.tup [AV.lst [iV x40.o],iV 0]))))
  (gu (0<=c) <|
   el (n.nx) (c.toNat) fun(x47:List Int)=>
   gu (∀(e:AV),e∈List.map iV x47->e.cells.length=1) <|
   gu ((List.map iV x47).length<=9223372036854775807) <|
   gu ((List.map iV x47).length * 8<=140737488355328) <|
   some (.inl (.l0 x47 ((0:Int))))))
def Ga(n:Aa)(c:Int)(v0:List Int)(v1:Int):Option (DV⊕Ret):=
 br (decide (v1<iN (List.map sA n.ss).length))
 (gu (0<=v1) <|
  el (n.ss) (v1.toNat) fun(x55:Ar)=>
  br (x55.i==c)
  (gu ((List.map iV v0).length+[iV x55.b].length<=9223372036854775807) <|
   gu (((List.map iV v0).length+[iV x55.b].length) * 8<=140737488355328) <|
   some (.inl (.l0 (v0++[x55.b]) (i64.wrap (v1+1)))))
  (some (.inl (.l0 v0 (i64.wrap (v1+1))))))
 (some (.inr ([],AV.tup [AV.lst (List.map iV v0),iV 0])))
def cnxStep(n:Aa)(c:Int):DV->Option (DV⊕Ret)
 | .l0 v0 v1=>Ga n c v0 v1
theorem cnxEn_ok(n:Aa)(c:Int)(o:DV⊕Ret)(h:HD n c=some o):Arr Try.prog Try.f14 0 (ED n c) K3 (zB Try.f14) [] {n:=Try.f14.ntmps,fr:=An 0 ([Ad n,.int .i64 c]),hp:=([])} o:=
 Scr.ok h mix (
 .rn 0 [] [] [] [] (al (u2 t3)) <|
 .gu fun a0=>
 have c0:=ck_c n c a0;
 .rn 1 [] [] [(14,hK c0 [] [])] [] (aj (u2 (u2 (aj (k2 (aj t9 (ak (al (c0))))) s2))) (al (u2 s2))) <|
 .br (fun a1=>
 .rt [33] [] [] [] [] [] (aj (aj a1 (al (u2 (ak s2)))) (al t3)))
 (fun a1=>
 .gu fun a2=>
 .gu fun a3=>
 have c1:=MV a2 c a3;
 .rn 1 [32] [] [(21,hK c1 [] [])] [] (aj a1 (aj (u2 (u2 (aj (k2 (aj t9 (ak (al (c1))))) (u2 (u2 (u2 (u2 s2))))))) (al (u2 s2)))) <|
 .br (fun a4=>
  .gu fun a5=>
  .el fun x30 a6=>
  .rn 0 [51] [(30,sA x30)] [] [] (aj a4 (al (u2 (u2 (u2 (u2 (aj (k2 (aj a5 (A2 (f:=sA) a6))) (u2 (u2 (al t3)))))))))) <|
  .br (fun a7=>
  .rt [67] [] [] [] [] [1] (aj (aj a7 (al (u2 (u2 (u2 (u2 t2)))))) (al (aj (show 1=[iv (i64.wrap (c+1))].length by simp) t2))))
  (fun a7=>
  .el fun x40 a8=>
  .rt [66] [(40,sA x40)] [] [] [] [1] (aj (aj a7 (al (u2 (u2 (u2 (aj (k2 (aj a5 (A2 (f:=sA) a8))) (u2 (u2 (u2 (u2 t2)))))))))) (al (aj (show 1=[iv x40.o].length by simp) t2)))))
 (fun a4=>
  .gu fun a5=>
  .el fun x47 a6=>
  .gu fun a7=>
  .gu fun a8=>
  .gu fun a9=>
  .lq [50] [(47,lI x47)] [] [] [] [1] [1,9,51,52,53] (up [(9,AV.sl 0 0 (List.map (iv) x47).length)] [] (ED n c (.l0 x47 ((0:Int))))) (aj (aj a4 (aj (u2 (u2 (u2 (aj (k2 (aj a5 (A2 (f:=lI) a6))) (u2 (aj (ak (aj a7 (aj a8 a9))) s2)))))) (al (u2 (u2 (u2 t2)))))) t7) (by simp[up,upF,upV,upH,upB,ED,gL,boL,lI,sA,bA])))) (by kernel_rfl)
theorem cnxS0_ok(n:Aa)(c:Int)(v0:List Int)(v1:Int)(o:DV⊕Ret)(h:Ga n c v0 v1=some o):Arr Try.prog Try.f14 0 (ED n c) K3 (AM Try.f14 0) (.rnd (AM Try.f14 0)::Bw Try.f14 0) (ED n c (.l0 v0 v1)) o:=
 Scr.ok h mix (
 .rn 0 [] [] [] [] (al (al t3)) <|
 .br (fun a0=>
 .gu fun a1=>
 .el fun x55 a2=>
 .rn 1 [109] [(55,sA x55)] [] [] (aj a0 (aj (aj (k2 (aj a1 (A2 (f:=sA) a2))) (u2 (ak (al (k2 n11))))) (al (u2 (u2 (u2 (al t3))))))) <|
 .br (fun a3=>
  .gu fun a4=>
  .gu fun a5=>
  .lq [121] [] [] [] [] [3] [1,9,51,52,53] (up [(9,AV.sl 0 0 ((List.map (iv) v0).length+[iv x55.b].length))] [(0,List.map (iv) v0++[iv x55.b])] (ED n c (.l0 (v0++[x55.b]) (i64.wrap (v1+1))))) (aj (aj a3 (aj (u2 (u2 (u2 (u2 (aj (k2 (aj (show(List.map (iv) v0).length=v0.length by simp) (aj (aj (show nat_lit 1=nat_lit 1 from rfl) (show 1<=[iv x55.b].length by simp)) (aj a4 a5)))) s2))))) (al (u2 s2)))) t7) (by simp[up,upF,upV,upH,upB,ED,gL,boL,lI,sA,bA]))
 (fun a3=>
  .lp [120] [] [] [] [] [0] [1,9,51,52,53] (aj (aj a3 (al (u2 s2))) t7)))
 (fun a0=>
 .rt [108] [] [] [] [] [0] (aj (aj a0 (al (u2 (u2 t2)))) (al (aj (show v0.length=(List.map (iv) v0).length by simp) t2))))) (by kernel_rfl)
theorem Nv(n:Aa)(c:Int)(r:Ret)(h:Aj (cnxStep n c) (HD n c) r):CT Try.prog 14 ([]) ([Ad n,.int .i64 c]) r.1 r.2:=
 CT.mach (fn:=Try.f14) (c:=zB Try.f14) (S:=ED n c) (hd:=K3) Try.func14 (by kernel_rfl) (nL rfl)
  (fun s o ho=>match s,ho with
   | .l0 v0 v1,ho=>cnxS0_ok n c v0 v1 o ho
  )
  (fun o ho=>cnxEn_ok n c o ho) h
inductive Ei where
 | l0 (v0:List Int) (v1:Int)
def Eu(n:Aa)(c:Int):Ei->St
 | .l0 v0 v1=>St.mk 63 [(1,iv c),(2,AV.ptr 0 0 0),(7,AV.sl 1 0 v0.length),(8,iv v1)] [some (bK [Ad n] 8),some (bK (List.map (iv) v0) 1)]
def Lm:Ei->Nat
 | .l0 _ _=>0
def Lu(n:Aa)(c:Int):Option (Ei⊕Ret):=
 gu (Aq n) <|
 gu (-1000<=c/\c<=1000) <|
 br (decide (0<=plI n c))
 (gu (0<=plI n c/\plI n c<iN n.ss.length) <|
  br (c==FA (n.ss.getD (plI n c).toNat s0))
  (gu (0<=plI n c) <|
   el (n.ss) ((plI n c).toNat) fun(x25:Ar)=>
   some (.inr ([],AV.lst [iV x25.o])))
  (some (.inr ([],AV.lst [iV (i64.wrap (c+1))]))))
 (gu (0<=c) <|
  el (n.nx) (c.toNat) fun(x35:List Int)=>
  gu (∀(e:AV),e∈List.map iV x35->e.cells.length=1) <|
  gu ((List.map iV x35).length<=9223372036854775807) <|
  gu ((List.map iV x35).length * 8<=140737488355328) <|
  some (.inl (.l0 x35 ((0:Int)))))
def Gj(n:Aa)(c:Int)(v0:List Int)(v1:Int):Option (Ei⊕Ret):=
 br (decide (v1<iN (List.map sA n.ss).length))
 (gu (0<=v1) <|
  el (n.ss) (v1.toNat) fun(x48:Ar)=>
  br (x48.i==c)
  (el (n.ss) (v1.toNat) fun(x57:Ar)=>
   gu ((List.map iV v0).length+[iV x57.b].length<=9223372036854775807) <|
   gu (((List.map iV v0).length+[iV x57.b].length) * 8<=140737488355328) <|
   some (.inl (.l0 (v0++[x57.b]) (i64.wrap (v1+1)))))
  (some (.inl (.l0 v0 (i64.wrap (v1+1))))))
 (some (.inr ([],AV.lst (List.map iV v0))))
def rnxStep(n:Aa)(c:Int):Ei->Option (Ei⊕Ret)
 | .l0 v0 v1=>Gj n c v0 v1
theorem rnxEn_ok(n:Aa)(c:Int)(o:Ei⊕Ret)(h:Lu n c=some o):Arr Try.prog Try.f68 0 (Eu n c) Lm (zB Try.f68) [] {n:=Try.f68.ntmps,fr:=An 0 ([Ad n,.int .i64 c]),hp:=([])} o:=
 Scr.ok h mix (
 .rn 0 [] [] [] [] (al (u2 t2)) <|
 .gu fun a0=>
 .gu fun a1=>
 have c0:=QV a0 c a1;
 .rn 1 [] [] [(12,hK c0 [] [])] [] (aj (u2 (u2 (aj (k2 (aj t9 (ak (al (c0))))) (u2 (u2 (u2 (u2 s2))))))) (al (u2 s2))) <|
 .br (fun a2=>
 .gu fun a3=>
 have c1:=hd_c n (plI n c) a0 a3;
 .rn 0 [33] [] [(20,hK c1 [] [])] [] (aj a2 (al (u2 (u2 (u2 (aj (k2 (aj t9 (ak (al (c1))))) (al t3))))))) <|
 .br (fun a4=>
  .gu fun a5=>
  .el fun x25 a6=>
  .rt [43] [(25,sA x25)] [] [] [] [1] (aj (aj a4 (al (u2 (u2 (u2 (aj (k2 (aj a5 (A2 (f:=sA) a6))) (u2 (u2 (u2 s2))))))))) (al (show 1=[iv x25.o].length by simp))))
 (fun a4=>
  .rt [42] [] [] [] [] [1] (aj (aj a4 (al (u2 (u2 (u2 s2))))) (al (show 1=[iv (i64.wrap (c+1))].length by simp)))))
 (fun a2=>
 .gu fun a3=>
 .el fun x35 a4=>
 .gu fun a5=>
 .gu fun a6=>
 .gu fun a7=>
 .lq [32] [(35,lI x35)] [] [] [] [0,1] [1,2,7,8] (up [(7,AV.sl 1 0 (List.map (iv) x35).length)] [] (Eu n c (.l0 x35 ((0:Int))))) (aj (aj a2 (aj (u2 (u2 (u2 (aj (k2 (aj a3 (A2 (f:=lI) a4))) (u2 (aj (ak (aj a5 (aj a6 a7))) s2)))))) s2)) t7) (by simp[up,upF,upV,upH,upB,Eu,gL,boL,lI,sA,bA]))) (by kernel_rfl)
theorem rnxS0_ok(n:Aa)(c:Int)(v0:List Int)(v1:Int)(o:Ei⊕Ret)(h:Gj n c v0 v1=some o):Arr Try.prog Try.f68 0 (Eu n c) Lm (AM Try.f68 0) (.rnd (AM Try.f68 0)::Bw Try.f68 0) (Eu n c (.l0 v0 v1)) o:=
 Scr.ok h mix (
 .rn 0 [] [] [] [] (al (u2 (u2 (u2 (u2 (al t3)))))) <|
 .br (fun a0=>
 .gu fun a1=>
 .el fun x48 a2=>
 .rn 0 [85] [(48,sA x48)] [] [] (aj a0 (al (u2 (u2 (u2 (aj (k2 (aj a1 (A2 (f:=sA) a2))) (u2 (u2 (u2 (al t3)))))))))) <|
 .br (fun a3=>
  .el fun x57 a4=>
  .gu fun a5=>
  .gu fun a6=>
  .lq [105] [(57,sA x57)] [] [] [] [0,3] [1,2,7,8] (up [(7,AV.sl 1 0 ((List.map (iv) v0).length+[iv x57.b].length))] [(1,List.map (iv) v0++[iv x57.b])] (Eu n c (.l0 (v0++[x57.b]) (i64.wrap (v1+1))))) (aj (aj a3 (aj (u2 (u2 (u2 (u2 (aj (k2 (aj a1 (A2 (f:=sA) a4))) (u2 (u2 (u2 (aj (k2 (aj (show(List.map (iv) v0).length=v0.length by simp) (aj (aj (show nat_lit 1=nat_lit 1 from rfl) (show 1<=[iv x57.b].length by simp)) (aj a5 a6)))) s2))))))))) (al (u2 (u2 s2))))) t7) (by simp[up,upF,upV,upH,upB,Eu,gL,boL,lI,sA,bA]))
 (fun a3=>
  .lp [104] [] [] [] [] [0,1] [1,2,7,8] (aj (aj a3 (al (u2 (u2 s2)))) t7)))
 (fun a0=>
 .rt [84] [] [] [] [] [1] (aj (aj a0 (al (u2 s2))) (al (show v0.length=(List.map (iv) v0).length by simp))))) (by kernel_rfl)
theorem rnx_ct(n:Aa)(c:Int)(r:Ret)(h:Aj (rnxStep n c) (Lu n c) r):CT Try.prog 68 ([]) ([Ad n,.int .i64 c]) r.1 r.2:=
 CT.mach (fn:=Try.f68) (c:=zB Try.f68) (S:=Eu n c) (hd:=Lm) Try.func68 (by kernel_rfl) (nL rfl)
  (fun s o ho=>match s,ho with
   | .l0 v0 v1,ho=>rnxS0_ok n c v0 v1 o ho
  )
  (fun o ho=>rnxEn_ok n c o ho) h
def nxS(n:Aa)(c:Int)(i:Nat):List Int:=n.nx.getD c.toNat []++((n.ss.take i).filter fun s=>s.i==c).map fun s=>s.b
theorem MW{n:Aa}{c:Int}{i:Nat}(hi:i<n.ss.length):nxS n c (i+1)=if ((n.ss.getD i s0).i==c)=true then nxS n c i++[(n.ss.getD i s0).b] else nxS n c i:=by
 unfold nxS
 rw[List.take_add_one,Cs s0 hi,Option.toList_some,List.filter_append,Ro]
 by_cases h:((n.ss.getD i s0).i==c)=true
 .rw[if_pos h,List.filter_cons,if_pos h,<-List.append_assoc];rfl
 .rw[if_neg h,List.filter_cons,if_neg h];simp
theorem NQ{n:Aa}(hrw:Rows n.nx)(hv:Aq n){c:Int}(h0:0<=c)(h1:c<(n.bs.length:Int))(i:Nat):(nxS n c i).length<=100:=by
 have h2:=(hv.lanes hrw (show c.toNat<n.bs.length by omega)).2
 have h3:=List.length_filter_le (fun s:Ar=>s.i==c) (n.ss.take i)
 have h4:(n.ss.take i).length<=n.ss.length:=by rw[RB];omega
 have ns:=hv.ns
 unfold nxS
 rw[Ru,Re];omega
theorem M6{n:Aa}{c:Int}(h:plF n c=none):nxS n c n.ss.length=Cu n c:=by
 unfold nxS Cu;rw[h,List.take_length]
theorem On{n:Aa}{c:Int}{i:Nat}(h:plF n c=some i):plI n c=(i:Int)/\plJ n c=c-(n.ss.getD i s0).b+1:=by
 unfold plI plJ;rw[h];exact⟨rfl,rfl⟩
theorem Mr{n:Aa}{c:Int}(h:plF n c=none):plI n c = -1:=by unfold plI;rw[h]
theorem Ib(n:Aa)(c:Int)(hrw:Rows n.nx):CT Try.prog 14 [] [Ad n,.int .i64 c] [] (.tup [lI (nxO n c),.int .i64 (ckE n c)]):=by
 unfold nxO
 by_cases h:ckE n c=0
 .obtain⟨hv,h0,h1⟩:=HI h
  have hce:=hv.cel
  rw[if_pos h,h]
  refine Nv n c ([],_) ?_
  unfold HD
  rw[Ac hrw,Ao (by rw[h];rfl),Ac hv,Ac (by omega)]
  cases hp:plF n c with
  | some i=>
   obtain⟨s,hs,hg,g1,g2,hl⟩:=IW hp
   obtain⟨e1,e2⟩:=On hp
   unfold Cu
   rw[hp,e1,e2]
   simp only[hg]
   rw[Au (AN (by omega)),Ac (by omega),Rk,Bi hs]
   unfold FA
   by_cases hh:c=s.b+s.k-1
   .rw[Ao (AF (by omega)),Bi hs,if_pos hh];exact .ret _
   .rw[Au (AN (by omega)),if_neg hh,Dj (by omega) (by omega)];exact .ret _
  | none=>
   have hb:=Ij hv h0 h1 hp
   have hnl:=hv.nx
   have hrl:=(hv.lanes hrw (show c.toNat<n.bs.length by omega)).2
   rw[Mr hp,Ao (by rfl),Ac h0,Bi (Cs [] (show c.toNat<n.nx.length by omega)),Ac (fun e he=>by obtain⟨x,_,rfl⟩:=RF.1 he;rfl),Ac (by simp only[Re];omega),Ac (by simp only[Re];omega),<-M6 hp]
   have e0:n.nx.getD c.toNat []=nxS n c 0:=by unfold nxS;simp
   rw[e0]
   refine GG (fun i=>DV.l0 (nxS n c i) (i:Int)) n.ss.length (fun i hi h=>?_) ?_
   .refine .to (show Ga n c (nxS n c i) i=_ from ?_) h
    have hsl:=NQ hrw hv h0 hb i
    have ns:=hv.ns
    unfold Ga
    rw[FM s0 hi,MW hi,zW i (by omega)]
    by_cases hc:((n.ss.getD i s0).i==c)=true
    .rw[Au hc,if_pos hc,Ac (by simp only[Re,RP];omega),Ac (by simp only[Re,RP];omega)]
    .rw[Ao (RY.2 hc),if_neg hc]
   .refine .to (show Ga n c _ n.ss.length=_ from ?_) (.ret _)
    unfold Ga
    rw[Gi];rfl
 .rw[if_neg h]
  exact(Nv n c ([],_) (.val (show HD n c=_ by unfold HD;rw[Ac hrw,Au (RZ.2 h)]))).to rfl rfl
theorem rnext_c(n:Aa)(c:Int)(hrw:Rows n.nx)(hk:ckE n c=0):CT Try.prog 68 [] [Ad n,.int .i64 c] [] (lI (Cu n c)):=by
 obtain⟨hv,h0,h1⟩:=HI hk
 have hce:=hv.cel
 refine rnx_ct n c ([],_) ?_
 unfold Lu
 rw[Ac hv,Ac (by omega)]
 cases hp:plF n c with
 | some i=>
  obtain⟨s,hs,hg,g1,g2,hl⟩:=IW hp
  obtain⟨e1,e2⟩:=On hp
  unfold Cu
  rw[hp,e1]
  simp only[hg]
  rw[Au (AN (by omega)),Ac ⟨by omega,by simp only[iN];omega⟩,Rk,hg]
  by_cases hh:c=FA s
  .rw[Au (beq_iff_eq.2 hh),Ac (by omega),Bi hs,if_pos hh];exact .ret _
  .rw[Ao (RL.2 hh),if_neg hh,Dj (by omega) (by omega)];exact .ret _
 | none=>
  have hb:=Ij hv h0 h1 hp
  have hnl:=hv.nx
  have hrl:=(hv.lanes hrw (show c.toNat<n.bs.length by omega)).2
  rw[Mr hp,Ao (by rfl),Ac h0,Bi (Cs [] (show c.toNat<n.nx.length by omega)),Ac (fun e he=>by obtain⟨x,_,rfl⟩:=RF.1 he;rfl),Ac (by simp only[Re];omega),Ac (by simp only[Re];omega),<-M6 hp]
  have e0:n.nx.getD c.toNat []=nxS n c 0:=by unfold nxS;simp
  rw[e0]
  refine GG (fun i=>Ei.l0 (nxS n c i) (i:Int)) n.ss.length (fun i hi h=>?_) ?_
  .refine .to (show Gj n c (nxS n c i) i=_ from ?_) h
   have hsl:=NQ hrw hv h0 hb i
   have ns:=hv.ns
   unfold Gj
   rw[FM s0 hi,MW hi,zW i (by omega)]
   by_cases hc:((n.ss.getD i s0).i==c)=true
   .rw[Au hc,if_pos hc,elG s0 hi,Ac (by simp only[Re,RP];omega),Ac (by simp only[Re,RP];omega)]
   .rw[Ao (RY.2 hc),if_neg hc]
  .refine .to (show Gj n c _ n.ss.length=_ from ?_) (.ret _)
   unfold Gj
   rw[Gi]
inductive D2 where
 | l0 (v0:Int)
def Iv(n:Aa)(q w:Int):D2->St
 | .l0 v0=>St.mk 27 [(2,iv w),(17,AV.lst (List.map (iv) (nxO n q))),(18,iv (iN (List.map (iv) (nxO n q)).length)),(19,iv v0)] []
def Lw:D2->Nat
 | .l0 _=>0
def LC(n:Aa)(q w:Int):Option (D2⊕Ret):=
 gu (Rows n.nx) <|
 some (.inl (.l0 ((0:Int))))
def EY(n:Aa)(q w:Int)(v0:Int):Option (D2⊕Ret):=
 br (decide (v0<iN (List.map iV (nxO n q)).length))
 (gu (0<=v0) <|
  el (nxO n q) (v0.toNat) fun(x21:Int)=>
  br (x21==w)
  (some (.inr ([],bV true)))
  (some (.inl (.l0 (i64.wrap (v0+1))))))
 (some (.inr ([],bV false)))
def folStep(n:Aa)(q w:Int):D2->Option (D2⊕Ret)
 | .l0 v0=>EY n q w v0
theorem folEn_ok(n:Aa)(q w:Int)(o:D2⊕Ret)(h:LC n q w=some o):Arr Try.prog Try.f17 0 (Iv n q w) Lw (zB Try.f17) [] {n:=Try.f17.ntmps,fr:=An 0 ([Ad n,.int .i64 q,.int .i64 w]),hp:=([])} o:=
 Scr.ok h mix (
 .rn 0 [] [] [] [] (al (u2 t2)) <|
 .gu fun a0=>
 have c0:=Ib n q a0;
 .lp [] [] [(14,hK c0 [] [])] [] [] [] [2,17,18,19] (aj (aj (u2 (u2 (aj (k2 (aj t9 (ak (al (c0))))) (u2 (u2 (u2 (u2 s2))))))) (al (u2 (u2 t2)))) t5)) (by kernel_rfl)
theorem folS0_ok(n:Aa)(q w:Int)(v0:Int)(o:D2⊕Ret)(h:EY n q w v0=some o):Arr Try.prog Try.f17 0 (Iv n q w) Lw (AM Try.f17 0) (.rnd (AM Try.f17 0)::Bw Try.f17 0) (Iv n q w (.l0 v0)) o:=
 Scr.ok h mix (
 .rn 0 [] [] [] [] (al (al t3)) <|
 .br (fun a0=>
 .gu fun a1=>
 .el fun x21 a2=>
 .rn 1 [41] [(21,iv x21)] [] [] (aj a0 (aj (aj (k2 (aj a1 (A2 (f:=iv) a2))) (u2 s2)) (al (u2 (u2 (al t3)))))) <|
 .br (fun a3=>
  .rt [51] [] [] [] [] [] (aj (aj a3 s2) t2))
 (fun a3=>
  .lp [50] [] [] [] [] [] [2,17,18,19] (aj (aj a3 (al (u2 s2))) t5)))
 (fun a0=>
 .rt [40] [] [] [] [] [] (aj (aj a0 s2) t2))) (by kernel_rfl)
theorem fol_ct(n:Aa)(q w:Int)(r:Ret)(h:Aj (folStep n q w) (LC n q w) r):CT Try.prog 17 ([]) ([Ad n,.int .i64 q,.int .i64 w]) r.1 r.2:=
 CT.mach (fn:=Try.f17) (c:=zB Try.f17) (S:=Iv n q w) (hd:=Lw) Try.func17 (by kernel_rfl) (nL rfl)
  (fun s o ho=>match s,ho with
   | .l0 v0,ho=>folS0_ok n q w v0 o ho
  )
  (fun o ho=>folEn_ok n q w o ho) h
def rfoSt(n:Aa)(q w:Int):Empty->St
 | x=>x.elim
def rfoHd:Empty->Nat
 | x=>x.elim
def Lb(n:Aa)(q w:Int):Option (Empty⊕Ret):=
 gu (Rows n.nx) <|
 br (ckE n q==0)
 (br (ckE n w==0)
  (gu (ckE n q=0) <|
   gu ((Cu n q).length<=9000000000000000000) <|
   some (.inr ([],bV (Bz (Cu n q) w))))
  (some (.inr ([],bV false))))
 (some (.inr ([],bV false)))
def rfoStep(n:Aa)(q w:Int):Empty->Option (Empty⊕Ret)
 | x=>x.elim
theorem rfoEn_ok(n:Aa)(q w:Int)(o:Empty⊕Ret)(h:Lb n q w=some o):Arr Try.prog Try.f49 0 (rfoSt n q w) rfoHd (zB Try.f49) [] {n:=Try.f49.ntmps,fr:=An 0 ([Ad n,.int .i64 q,.int .i64 w]),hp:=([])} o:=
 Scr.ok h mix (
 .rn 0 [] [] [] [] (al (u2 t2)) <|
 .gu fun a0=>
 .br (fun a1=>
 .br (fun a2=>
  .gu fun a3=>
  .gu fun a4=>
  have c0:=GC n q a0;
  have c1:=GC n w a0;
  have c2:=rnext_c n q a0 a3;
  have c3:=Hw (Cu n q) w a4;
  .rt [23,35] [] [(9,hK c0 [] []),(14,hK c1 [] []),(20,hK c2 [] []),(22,hK c3 [] [])] [] [] [] (aj (al (u2 (u2 (aj (k2 (aj t9 (ak (al (c0))))) (u2 (u2 (ag a1 (ag a1 (aj (aj a1 (k2 (aj t9 (ak (al (c1)))))) (ag a1 (ag a1 (u2 (ag a2 (ag a2 (aj (aj a2 (k2 (aj t9 (ak (al (c2)))))) (ag a2 (aj (aj a2 (ak (k3 (al (c3))))) (ag a2 s2)))))))))))))))))) t2))
 (fun a2=>
  have c0:=GC n q a0;
  have c1:=GC n w a0;
  .rt [23,34] [] [(9,hK c0 [] []),(14,hK c1 [] [])] [] [] [] (aj (al (u2 (u2 (aj (k2 (aj t9 (ak (al (c0))))) (u2 (u2 (ag a1 (ag a1 (aj (aj a1 (k2 (aj t9 (ak (al (c1)))))) (ag a1 (ag a1 (u2 (aj a2 (aj a2 (aj a2 (aj a2 (aj a2 (ag a2 s2)))))))))))))))))) t2)))
 (fun a1=>
 have c0:=GC n q a0;
 .rt [22] [] [(9,hK c0 [] [])] [] [] [] (aj (al (u2 (u2 (aj (k2 (aj t9 (ak (al (c0))))) (u2 (u2 (aj a1 (aj a1 (aj a1 (aj a1 (ag a1 (u2 (k5 (aj t3 s2)))))))))))))) t2))) (by kernel_rfl)
theorem rfo_ct(n:Aa)(q w:Int)(r:Ret)(h:Aj (rfoStep n q w) (Lb n q w) r):CT Try.prog 49 ([]) ([Ad n,.int .i64 q,.int .i64 w]) r.1 r.2:=
 CT.mach (fn:=Try.f49) (c:=zB Try.f49) (S:=rfoSt n q w) (hd:=rfoHd) Try.func49 (by kernel_rfl) (nL rfl)
  (fun s o ho=>match s,ho with
   | x,_=>x.elim)
  (fun o ho=>rfoEn_ok n q w o ho) h
theorem Lp(n:Aa)(q w:Int)(hrw:Rows n.nx):CT Try.prog 17 [] [Ad n,.int .i64 q,.int .i64 w] [] (.bool (A8 n q w)):=by
 refine fol_ct n q w ([],_) ?_
 have hl:=JP hrw q
 unfold LC
 rw[Ac hrw]
 refine(loop_fnd (fun i=>D2.l0 (i:Int)) (nxO n q).length (fun i=>(nxO n q).getD i 0==w) (rF:=fun _=>([],.bool true)) (r:=([],.bool false)) (fun i hi hp=>?_) (fun i r hi hp hr=>?_) (fun _=>?_)).res ?_
 .refine .to (show EY n q w i=_ from ?_) (.ret _)
  unfold EY
  rw[FM 0 hi,Au hp]
 .refine .to (show EY n q w i=_ from ?_) hr
  unfold EY
  rw[FM 0 hi,Ao hp,zW i (by omega)]
 .refine .to (show EY n q w (nxO n q).length=_ from ?_) (.ret _)
  unfold EY;rw[Gi]
 .unfold A8 Bz
  cases fnd (fun i=>(nxO n q).getD i 0==w) 0 (nxO n q).length<;>rfl
theorem Ls(n:Aa)(q w:Int)(hrw:Rows n.nx):CT Try.prog 49 [] [Ad n,.int .i64 q,.int .i64 w] [] (.bool (A8 n q w)):=by
 refine rfo_ct n q w ([],_) (.val ?_)
 unfold Lb
 rw[Ac hrw]
 by_cases h1:ckE n q=0
 .rw[Au (beq_iff_eq.2 h1)]
  by_cases h2:ckE n w=0
  .have hl:=JP hrw q
   have e:nxO n q=Cu n q:=by unfold nxO;rw[if_pos h1]
   rw[e] at hl
   rw[Au (beq_iff_eq.2 h2),Ac h1,Ac (by omega)]
   unfold A8;rw[e]
  .rw[Ao (RL.2 h2)]
   cases hf:A8 n q w with
   | true=>exact absurd (Ml hrw hf).2 h2
   | false=>rfl
 .rw[Ao (RL.2 h1)]
  cases hf:A8 n q w with
  | true=>exact absurd (Ml hrw hf).1 h1
  | false=>rfl
structure FrD where
 k:Int
 r:Int
 q:Int
 c:Int
 f:Int
deriving DecidableEq
def frA(x:FrD):AV:=.agg [.int .i64 x.k,.int .i64 x.r,.int .u64 x.q,.int .i64 x.c,.int .i64 x.f]
def fr0:FrD:=⟨0,0,0,0,0⟩
structure AgD where
 l:Int
 t:Int
 s:Bool
 r:Int
 c:Int
deriving DecidableEq
def agA(x:AgD):AV:=.agg [.int .u64 x.l,.int .i64 x.t,.bool x.s,.int .i64 x.r,.int .i64 x.c]
structure BdD where
 c:Int
 t:Int
 s:Bool
 f:Bool
deriving DecidableEq
def bdA(x:BdD):AV:=.agg [.int .i64 x.c,.int .i64 x.t,.bool x.s,.bool x.f]
def fknSt(k:Int):Empty->St
 | x=>x.elim
def fknHd:Empty->Nat
 | x=>x.elim
def LQ(k:Int):Option (Empty⊕Ret):=
 br (k==1)
 (some (.inr ([],bV true)))
 (br (k==2)
  (some (.inr ([],bV true)))
  (some (.inr ([],bV (k==3)))))
def fknStep(k:Int):Empty->Option (Empty⊕Ret)
 | x=>x.elim
theorem fknEn_ok(k:Int)(o:Empty⊕Ret)(h:LQ k=some o):Arr Try.prog Try.f64 0 (fknSt k) fknHd (zB Try.f64) [] {n:=Try.f64.ntmps,fr:=An 0 ([.int .i64 k]),hp:=([])} o:=
 Scr.ok h mix (
 .rn 0 [] [] [] [] s2 <|
 .br (fun a0=>
 .rt [11] [] [] [] [] [] (aj (al (u2 (u2 (u2 (aj a0 (aj a0 (ag a0 (u2 (k2 (aj t3 s2)))))))))) t2))
 (fun a0=>
 .br (fun a1=>
  .rt [10,19] [] [] [] [] [] (aj (al (u2 (u2 (u2 (ag a0 (ag a0 (ag a0 (u2 (aj a1 (aj a1 (ag a1 s2))))))))))) t2))
 (fun a1=>
  .rt [10,18] [] [] [] [] [] (aj (al (u2 (u2 (u2 (ag a0 (ag a0 (ag a0 (u2 (ag a1 (ag a1 (ag a1 s2))))))))))) t2)))) (by kernel_rfl)
theorem fkn_ct(k:Int)(r:Ret)(h:Aj (fknStep k) (LQ k) r):CT Try.prog 64 ([]) ([.int .i64 k]) r.1 r.2:=
 CT.mach (fn:=Try.f64) (c:=zB Try.f64) (S:=fknSt k) (hd:=fknHd) Try.func64 (by kernel_rfl) (nL rfl)
  (fun s o ho=>match s,ho with
   | x,_=>x.elim)
  (fun o ho=>fknEn_ok k o ho) h
def rknSt(k:Int):Empty->St
 | x=>x.elim
def rknHd:Empty->Nat
 | x=>x.elim
def Kj(k:Int):Option (Empty⊕Ret):=
 br (k==1)
 (some (.inr ([],bV true)))
 (br (k==2)
  (some (.inr ([],bV true)))
  (some (.inr ([],bV (k==3)))))
def rknStep(k:Int):Empty->Option (Empty⊕Ret)
 | x=>x.elim
theorem rknEn_ok(k:Int)(o:Empty⊕Ret)(h:Kj k=some o):Arr Try.prog Try.f66 0 (rknSt k) rknHd (zB Try.f66) [] {n:=Try.f66.ntmps,fr:=An 0 ([.int .i64 k]),hp:=([])} o:=
 Scr.ok h mix (
 .rn 0 [] [] [] [] s2 <|
 .br (fun a0=>
 .rt [11] [] [] [] [] [] (aj (al (u2 (u2 (u2 (aj a0 (aj a0 (ag a0 (u2 (k2 (aj t3 s2)))))))))) t2))
 (fun a0=>
 .br (fun a1=>
  .rt [10,19] [] [] [] [] [] (aj (al (u2 (u2 (u2 (ag a0 (ag a0 (ag a0 (u2 (aj a1 (aj a1 (ag a1 s2))))))))))) t2))
 (fun a1=>
  .rt [10,18] [] [] [] [] [] (aj (al (u2 (u2 (u2 (ag a0 (ag a0 (ag a0 (u2 (ag a1 (ag a1 (ag a1 s2))))))))))) t2)))) (by kernel_rfl)
theorem rkn_ct(k:Int)(r:Ret)(h:Aj (rknStep k) (Kj k) r):CT Try.prog 66 ([]) ([.int .i64 k]) r.1 r.2:=
 CT.mach (fn:=Try.f66) (c:=zB Try.f66) (S:=rknSt k) (hd:=rknHd) Try.func66 (by kernel_rfl) (nL rfl)
  (fun s o ho=>match s,ho with
   | x,_=>x.elim)
  (fun o ho=>rknEn_ok k o ho) h
def fshSt(l q:Int):Empty->St
 | x=>x.elim
def fshHd:Empty->Nat
 | x=>x.elim
def fshEn(l q:Int):Option (Empty⊕Ret):=
 some (.inr ([],bV (decide (l<q))))
def fshStep(l q:Int):Empty->Option (Empty⊕Ret)
 | x=>x.elim
theorem fshEn_ok(l q:Int)(o:Empty⊕Ret)(h:fshEn l q=some o):Arr Try.prog Try.f65 0 (fshSt l q) fshHd (zB Try.f65) [] {n:=Try.f65.ntmps,fr:=An 0 ([.int .u64 l,.int .u64 q]),hp:=([])} o:=
 Scr.ok h mix (
 .rt [] [] [] [] [] [] (aj (u2 (al (u2 (u2 (aj t3 s2))))) t2)) (by kernel_rfl)
theorem fsh_ct(l q:Int)(r:Ret)(h:Aj (fshStep l q) (fshEn l q) r):CT Try.prog 65 ([]) ([.int .u64 l,.int .u64 q]) r.1 r.2:=
 CT.mach (fn:=Try.f65) (c:=zB Try.f65) (S:=fshSt l q) (hd:=fshHd) Try.func65 (by kernel_rfl) (nL rfl)
  (fun s o ho=>match s,ho with
   | x,_=>x.elim)
  (fun o ho=>fshEn_ok l q o ho) h
def rfsSt(l q:Int):Empty->St
 | x=>x.elim
def rfsHd:Empty->Nat
 | x=>x.elim
def rfsEn(l q:Int):Option (Empty⊕Ret):=
 some (.inr ([],bV (decide (l<q))))
def rfsStep(l q:Int):Empty->Option (Empty⊕Ret)
 | x=>x.elim
theorem rfsEn_ok(l q:Int)(o:Empty⊕Ret)(h:rfsEn l q=some o):Arr Try.prog Try.f46 0 (rfsSt l q) rfsHd (zB Try.f46) [] {n:=Try.f46.ntmps,fr:=An 0 ([.int .u64 l,.int .u64 q]),hp:=([])} o:=
 Scr.ok h mix (
 .rt [] [] [] [] [] [] (aj (u2 (al (u2 (u2 (aj t3 s2))))) t2)) (by kernel_rfl)
theorem rfs_ct(l q:Int)(r:Ret)(h:Aj (rfsStep l q) (rfsEn l q) r):CT Try.prog 46 ([]) ([.int .u64 l,.int .u64 q]) r.1 r.2:=
 CT.mach (fn:=Try.f46) (c:=zB Try.f46) (S:=rfsSt l q) (hd:=rfsHd) Try.func46 (by kernel_rfl) (nL rfl)
  (fun s o ho=>match s,ho with
   | x,_=>x.elim)
  (fun o ho=>rfsEn_ok l q o ho) h
def repSt(x:AgD)(q:Int):Empty->St
 | x=>x.elim
def repHd:Empty->Nat
 | x=>x.elim
def repEn(x:AgD)(q:Int):Option (Empty⊕Ret):=
 some (.inr ([],AV.agg [iV 2,iV q,uV x.l,iV x.c,iV x.r]))
def repStep(x:AgD)(q:Int):Empty->Option (Empty⊕Ret)
 | x=>x.elim
theorem repEn_ok(x:AgD)(q:Int)(o:Empty⊕Ret)(h:repEn x q=some o):Arr Try.prog Try.f44 0 (repSt x q) repHd (zB Try.f44) [] {n:=Try.f44.ntmps,fr:=An 0 ([agA x,.int .i64 q]),hp:=([])} o:=
 Scr.ok h mix (
 .rt [] [] [] [] [] [] (aj (ag t2 (al (u2 (u2 (u2 (u2 (u2 (u2 (u2 (aj t5 (al (k2 n11)))))))))))) (al t6))) (by kernel_rfl)
theorem rep_ct(x:AgD)(q:Int)(r:Ret)(h:Aj (repStep x q) (repEn x q) r):CT Try.prog 44 ([]) ([agA x,.int .i64 q]) r.1 r.2:=
 CT.mach (fn:=Try.f44) (c:=zB Try.f44) (S:=repSt x q) (hd:=repHd) Try.func44 (by kernel_rfl) (nL rfl)
  (fun s o ho=>match s,ho with
   | x,_=>x.elim)
  (fun o ho=>repEn_ok x q o ho) h
def rreSt(x:AgD)(q:Int):Empty->St
 | x=>x.elim
def rreHd:Empty->Nat
 | x=>x.elim
def rreEn(x:AgD)(q:Int):Option (Empty⊕Ret):=
 some (.inr ([],AV.lst [AV.agg [iV 2,iV q,uV x.l,iV x.c,iV x.r]]))
def rreStep(x:AgD)(q:Int):Empty->Option (Empty⊕Ret)
 | x=>x.elim
theorem rreEn_ok(x:AgD)(q:Int)(o:Empty⊕Ret)(h:rreEn x q=some o):Arr Try.prog Try.f47 0 (rreSt x q) rreHd (zB Try.f47) [] {n:=Try.f47.ntmps,fr:=An 0 ([agA x,.int .i64 q]),hp:=([])} o:=
 Scr.ok h mix (
 .rt [] [(13,AV.lst [])] [] [] [] [] (aj (ag t2 (al (u2 (u2 (u2 (u2 (u2 (u2 (u2 (aj t5 (u2 s2))))))))))) t2)) (by kernel_rfl)
theorem rre_ct(x:AgD)(q:Int)(r:Ret)(h:Aj (rreStep x q) (rreEn x q) r):CT Try.prog 47 ([]) ([agA x,.int .i64 q]) r.1 r.2:=
 CT.mach (fn:=Try.f47) (c:=zB Try.f47) (S:=rreSt x q) (hd:=rreHd) Try.func47 (by kernel_rfl) (nL rfl)
  (fun s o ho=>match s,ho with
   | x,_=>x.elim)
  (fun o ho=>rreEn_ok x q o ho) h
def atrSt(x:BdD):Empty->St
 | x=>x.elim
def atrHd:Empty->Nat
 | x=>x.elim
def Ke(x:BdD):Option (Empty⊕Ret):=
 br (x.c != -1)
 (br (x.t == -1)
  (br (!x.s)
   (some (.inr ([],bV !x.f)))
   (some (.inr ([],bV false))))
  (some (.inr ([],bV false))))
 (some (.inr ([],bV false)))
def atrStep(x:BdD):Empty->Option (Empty⊕Ret)
 | x=>x.elim
theorem atrEn_ok(x:BdD)(o:Empty⊕Ret)(h:Ke x=some o):Arr Try.prog Try.f48 0 (atrSt x) atrHd (zB Try.f48) [] {n:=Try.f48.ntmps,fr:=An 0 ([bdA x]),hp:=([])} o:=
 Scr.ok h mix (
 .rn 0 [] [] [] [] (al (u2 t2)) <|
 .br (fun a0=>
 .br (fun a1=>
  .br (fun a2=>
  .rt [13,23,33] [] [] [] [] [] (aj (al (u2 (u2 (u2 (u2 (ag a0 (ag a0 (ag a0 (ag a0 (u2 (ag a1 (ag a1 (ag a1 (ag a1 (u2 (ag a2 (ag a2 (ag a2 (ag a2 s2))))))))))))))))))) t2))
  (fun a2=>
  .rt [13,23,32] [] [] [] [] [] (aj (al (u2 (u2 (u2 (u2 (ag a0 (ag a0 (ag a0 (ag a0 (u2 (ag a1 (ag a1 (ag a1 (ag a1 (u2 (aj a2 (aj a2 (aj a2 (ag a2 s2))))))))))))))))))) t2)))
 (fun a1=>
  .rt [13,22] [] [] [] [] [] (aj (al (u2 (u2 (u2 (u2 (ag a0 (ag a0 (ag a0 (ag a0 (u2 (aj a1 (aj a1 (aj a1 (ag a1 (u2 (k3 (aj t3 s2))))))))))))))))) t2)))
 (fun a0=>
 .rt [12] [] [] [] [] [] (aj (al (u2 (u2 (u2 (u2 (aj a0 (aj a0 (aj a0 (ag a0 (u2 (k3 (aj t3 (u2 (k3 (aj t3 s2))))))))))))))) t2))) (by kernel_rfl)
theorem atr_ct(x:BdD)(r:Ret)(h:Aj (atrStep x) (Ke x) r):CT Try.prog 48 ([]) ([bdA x]) r.1 r.2:=
 CT.mach (fn:=Try.f48) (c:=zB Try.f48) (S:=atrSt x) (hd:=atrHd) Try.func48 (by kernel_rfl) (nL rfl)
  (fun s o ho=>match s,ho with
   | x,_=>x.elim)
  (fun o ho=>atrEn_ok x o ho) h
def agnSt:Empty->St
 | x=>x.elim
def agnHd:Empty->Nat
 | x=>x.elim
def agnEn:Option (Empty⊕Ret):=
 some (.inr ([],AV.agg [uV 0,iV (-1),bV false,iV 0,iV 0]))
def agnStep:Empty->Option (Empty⊕Ret)
 | x=>x.elim
theorem agnEn_ok(o:Empty⊕Ret)(h:agnEn=some o):Arr Try.prog Try.f11 0 (agnSt) agnHd (zB Try.f11) [] {n:=Try.f11.ntmps,fr:=An 0 ([]),hp:=([])} o:=
 Scr.ok h mix (
 .rt [] [] [] [] [] [] (aj (u2 (al (ak (al (k2 n11))))) (al t6))) (by kernel_rfl)
theorem agn_ct(r:Ret)(h:Aj (agnStep) (agnEn) r):CT Try.prog 11 ([]) ([]) r.1 r.2:=
 CT.mach (fn:=Try.f11) (c:=zB Try.f11) (S:=agnSt) (hd:=agnHd) Try.func11 (by kernel_rfl) (nL rfl)
  (fun s o ho=>match s,ho with
   | x,_=>x.elim)
  (fun o ho=>agnEn_ok o ho) h
def ranSt:Empty->St
 | x=>x.elim
def ranHd:Empty->Nat
 | x=>x.elim
def ranEn:Option (Empty⊕Ret):=
 some (.inr ([],AV.agg [uV 0,iV (-1),bV false,iV 0,iV 0]))
def ranStep:Empty->Option (Empty⊕Ret)
 | x=>x.elim
theorem ranEn_ok(o:Empty⊕Ret)(h:ranEn=some o):Arr Try.prog Try.f27 0 (ranSt) ranHd (zB Try.f27) [] {n:=Try.f27.ntmps,fr:=An 0 ([]),hp:=([])} o:=
 Scr.ok h mix (
 .rt [] [] [] [] [] [] (aj (u2 (al (ak (al (k2 n11))))) (al t6))) (by kernel_rfl)
theorem ran_ct(r:Ret)(h:Aj (ranStep) (ranEn) r):CT Try.prog 27 ([]) ([]) r.1 r.2:=
 CT.mach (fn:=Try.f27) (c:=zB Try.f27) (S:=ranSt) (hd:=ranHd) Try.func27 (by kernel_rfl) (nL rfl)
  (fun s o ho=>match s,ho with
   | x,_=>x.elim)
  (fun o ho=>ranEn_ok o ho) h
def sndSt(x:FrD):Empty->St
 | x=>x.elim
def sndHd:Empty->Nat
 | x=>x.elim
def sndEn(x:FrD):Option (Empty⊕Ret):=
 some (.inr ([some (bK [AV.lst [AV.agg [iV x.k,iV x.r,uV x.q,iV x.c,iV x.f]]] 1)],AV.tup []))
def sndStep(x:FrD):Empty->Option (Empty⊕Ret)
 | x=>x.elim
theorem sndEn_ok(x:FrD)(o:Empty⊕Ret)(h:sndEn x=some o):Arr Try.prog Try.f43 1 (sndSt x) sndHd (zB Try.f43) [] {n:=Try.f43.ntmps,fr:=An 0 ([.ptr 0 0 0,frA x]),hp:=([some {es:=[.agg [.nils]],z:=1}])} o:=
 Scr.ok h mix (
 .rt [] [(11,AV.lst [])] [] [] [0] [] (aj (aj s2 (al (u2 (u2 (u2 (u2 (u2 (u2 (u2 (aj (k2 (aj (aj (aj (show nat_lit 5=nat_lit 5 from rfl) (show 1<=[AV.agg [iv x.k,iv x.r,uV x.q,iv x.c,iv x.f]].length by simp)) (aj (show [AV.agg [iv x.k,iv x.r,uV x.q,iv x.c,iv x.f]].length<=9223372036854775807 by simp) (show [AV.agg [iv x.k,iv x.r,uV x.q,iv x.c,iv x.f]].length * 40<=140737488355328 by simp))) (show [AV.agg [iv x.k,iv x.r,uV x.q,iv x.c,iv x.f]].length=[AV.agg [iv x.k,iv x.r,uV x.q,iv x.c,iv x.f]].length from rfl))) (u2 (u2 (al (k2 n11)))))))))))))) t3)) (by kernel_rfl)
theorem snd_ct(x:FrD)(r:Ret)(h:Aj (sndStep x) (sndEn x) r):CT Try.prog 43 ([some {es:=[.agg [.nils]],z:=1}]) ([.ptr 0 0 0,frA x]) r.1 r.2:=
 CT.mach (fn:=Try.f43) (c:=zB Try.f43) (S:=sndSt x) (hd:=sndHd) Try.func43 (by kernel_rfl) (nL rfl)
  (fun s o ho=>match s,ho with
   | x,_=>x.elim)
  (fun o ho=>sndEn_ok x o ho) h
def knK(k:Int):Bool:=k==1||(k==2||k==3)
theorem EQ(k:Int):CT Try.prog 64 [] [.int .i64 k] [] (.bool (knK k)):=by
 refine fkn_ct k ([],_) (.val ?_)
 unfold LQ knK
 cases k==1<;>cases k==2<;>rfl
theorem EX(k:Int):CT Try.prog 66 [] [.int .i64 k] [] (.bool (knK k)):=by
 refine rkn_ct k ([],_) (.val ?_)
 unfold Kj knK
 cases k==1<;>cases k==2<;>rfl
theorem fsh_c(l q:Int):CT Try.prog 65 [] [.int .u64 l,.int .u64 q] [] (.bool (decide (l<q))):=fsh_ct l q ([],_) (.ret _)
theorem rfs_c(l q:Int):CT Try.prog 46 [] [.int .u64 l,.int .u64 q] [] (.bool (decide (l<q))):=rfs_ct l q ([],_) (.ret _)
def Ay(x:AgD)(q:Int):FrD:=⟨2,q,x.l,x.c,x.r⟩
theorem HO(x:AgD)(q:Int):CT Try.prog 44 [] [agA x,.int .i64 q] [] (frA (Ay x q)):=rep_ct x q ([],_) (.ret _)
theorem Ik(x:AgD)(q:Int):CT Try.prog 47 [] [agA x,.int .i64 q] [] (.lst ([Ay x q].map frA)):=rre_ct x q ([],_) (.ret _)
def atR(x:BdD):Bool:=x.c != -1&&(x.t == -1&&(!x.s&&!x.f))
theorem KA(x:BdD):CT Try.prog 48 [] [bdA x] [] (.bool (atR x)):=by
 refine atr_ct x ([],_) (.val ?_)
 unfold Ke atR
 cases x.c != -1<;>cases x.t == -1<;>cases x.s<;>cases x.f<;>rfl
def ag0:AgD:=⟨0,-1,false,0,0⟩
theorem agn_c:CT Try.prog 11 [] [] [] (agA ag0):=agn_ct ([],_) (.ret _)
theorem ran_c:CT Try.prog 27 [] [] [] (agA ag0):=ran_ct ([],_) (.ret _)
def IA:Blk:={es:=[.agg [.nils]],z:=1}
def Gg(l:List FrD):Blk:=Blk.mk [.lst (l.map frA)] 1 true true none
theorem G2(x:FrD):CT Try.prog 43 [some IA] [.ptr 0 0 0,frA x] [some (Gg [x])] (.tup []):=snd_ct x ([_],_) (.ret _)
def fvaSt(x:FrD):Empty->St
 | x=>x.elim
def fvaHd:Empty->Nat
 | x=>x.elim
def Lq(x:FrD):Option (Empty⊕Ret):=
 br (!knK x.k)
 (some (.inr ([],bV false)))
 (br (decide (x.r<0))
  (some (.inr ([],bV false)))
  (br (decide (8<=x.r))
   (some (.inr ([],bV false)))
   (br (x.q==0)
    (some (.inr ([],bV false)))
    (br (decide (x.c<0))
     (some (.inr ([],bV false)))
     (br (decide (48<=x.c))
      (some (.inr ([],bV false)))
      (br (decide (x.f<0))
       (some (.inr ([],bV false)))
       (br (decide (2<x.f))
        (some (.inr ([],bV false)))
        (br (x.k==1)
         (some (.inr ([],bV (decide (x.f<2)))))
         (br (x.k==2)
          (some (.inr ([],bV (decide (0<x.f)))))
          (some (.inr ([],bV (x.c==0)))))))))))))
def fvaStep(x:FrD):Empty->Option (Empty⊕Ret)
 | x=>x.elim
theorem fvaEn_ok(x:FrD)(o:Empty⊕Ret)(h:Lq x=some o):Arr Try.prog Try.f41 0 (fvaSt x) fvaHd (zB Try.f41) [] {n:=Try.f41.ntmps,fr:=An 0 ([frA x]),hp:=([])} o:=
 Scr.ok h mix (
 .rn 0 [] [] [] [] (al (u2 t2)) <|
 .br (fun a0=>
 have c0:=EQ (x.k);
 .rt [15] [] [(5,hK c0 [] [])] [] [] [] (aj (aj (u2 (u2 (aj (k2 (al (c0))) (u2 (u2 (aj a0 (aj a0 (aj a0 (ag a0 (u2 (k3 (aj t3 (u2 (k3 (aj t3 (u2 (k3 (aj t3 (u2 (k3 (aj t3 (u2 (k3 (aj t3 (u2 (k3 (al t3))))))))))))))))))))))))))) (ak s2)) t2))
 (fun a0=>
 .br (fun a1=>
  have c0:=EQ (x.k);
  .rt [14,25] [] [(5,hK c0 [] [])] [] [] [] (aj (aj (u2 (u2 (aj (k2 (al (c0))) (u2 (u2 (ag a0 (ag a0 (ag a0 (ag a0 (u2 (aj a1 (aj a1 (aj a1 (ag a1 (u2 (k3 (aj t3 (u2 (k3 (aj t3 (u2 (k3 (aj t3 (u2 (k3 (aj t3 (u2 (k3 (al t3))))))))))))))))))))))))))))) (ak s2)) t2))
 (fun a1=>
  .br (fun a2=>
  have c0:=EQ (x.k);
  .rt [14,24,35] [] [(5,hK c0 [] [])] [] [] [] (aj (aj (u2 (u2 (aj (k2 (al (c0))) (u2 (u2 (ag a0 (ag a0 (ag a0 (ag a0 (u2 (ag a1 (ag a1 (ag a1 (ag a1 (u2 (aj a2 (aj a2 (aj a2 (ag a2 (u2 (k3 (aj t3 (u2 (k3 (aj t3 (u2 (k3 (aj t3 (u2 (k3 (al t3))))))))))))))))))))))))))))))) (ak s2)) t2))
  (fun a2=>
  .br (fun a3=>
   have c0:=EQ (x.k);
   .rt [14,24,34,45] [] [(5,hK c0 [] [])] [] [] [] (aj (aj (u2 (u2 (aj (k2 (al (c0))) (u2 (u2 (ag a0 (ag a0 (ag a0 (ag a0 (u2 (ag a1 (ag a1 (ag a1 (ag a1 (u2 (ag a2 (ag a2 (ag a2 (ag a2 (u2 (aj a3 (aj a3 (aj a3 (ag a3 (u2 (k3 (aj t3 (u2 (k3 (aj t3 (u2 (k3 (al t3))))))))))))))))))))))))))))))))) (ak s2)) t2))
  (fun a3=>
   .br (fun a4=>
   have c0:=EQ (x.k);
   .rt [14,24,34,44,55] [] [(5,hK c0 [] [])] [] [] [] (aj (aj (u2 (u2 (aj (k2 (al (c0))) (u2 (u2 (ag a0 (ag a0 (ag a0 (ag a0 (u2 (ag a1 (ag a1 (ag a1 (ag a1 (u2 (ag a2 (ag a2 (ag a2 (ag a2 (u2 (ag a3 (ag a3 (ag a3 (ag a3 (u2 (aj a4 (aj a4 (aj a4 (ag a4 (u2 (k3 (aj t3 (u2 (k3 (al t3))))))))))))))))))))))))))))))))))) (ak s2)) t2))
   (fun a4=>
   .br (fun a5=>
    have c0:=EQ (x.k);
    .rt [14,24,34,44,54,65] [] [(5,hK c0 [] [])] [] [] [] (aj (aj (u2 (u2 (aj (k2 (al (c0))) (u2 (u2 (ag a0 (ag a0 (ag a0 (ag a0 (u2 (ag a1 (ag a1 (ag a1 (ag a1 (u2 (ag a2 (ag a2 (ag a2 (ag a2 (u2 (ag a3 (ag a3 (ag a3 (ag a3 (u2 (ag a4 (ag a4 (ag a4 (ag a4 (u2 (aj a5 (aj a5 (aj a5 (ag a5 (u2 (k3 (al t3))))))))))))))))))))))))))))))))))))) (ak s2)) t2))
   (fun a5=>
    .br (fun a6=>
    have c0:=EQ (x.k);
    .rt [14,24,34,44,54,64,75] [] [(5,hK c0 [] [])] [] [] [] (aj (aj (u2 (u2 (aj (k2 (al (c0))) (u2 (u2 (ag a0 (ag a0 (ag a0 (ag a0 (u2 (ag a1 (ag a1 (ag a1 (ag a1 (u2 (ag a2 (ag a2 (ag a2 (ag a2 (u2 (ag a3 (ag a3 (ag a3 (ag a3 (u2 (ag a4 (ag a4 (ag a4 (ag a4 (u2 (ag a5 (ag a5 (ag a5 (ag a5 (u2 (aj a6 (aj a6 (aj a6 (al (aj a6 t2)))))))))))))))))))))))))))))))))))))))) (ak s2)) t2))
    (fun a6=>
    have c0:=EQ (x.k);
    .rn 0 [14,24,34,44,54,64,74] [] [(5,hK c0 [] [])] [] (al (u2 (u2 (aj (k2 (al (c0))) (u2 (u2 (ag a0 (ag a0 (ag a0 (ag a0 (u2 (ag a1 (ag a1 (ag a1 (ag a1 (u2 (ag a2 (ag a2 (ag a2 (ag a2 (u2 (ag a3 (ag a3 (ag a3 (ag a3 (u2 (ag a4 (ag a4 (ag a4 (ag a4 (u2 (ag a5 (ag a5 (ag a5 (ag a5 (u2 (ag a6 (ag a6 (ag a6 (al (aj a6 t2))))))))))))))))))))))))))))))))))))))))) <|
    .br (fun a7=>
     .rt [14,24,34,44,54,64,74,83] [] [] [] [] [] (aj (aj a7 s2) t2))
    (fun a7=>
     .rn 1 [14,24,34,44,54,64,74,82] [] [] [] (aj a7 (aj (u2 s2) (al (u2 s2)))) <|
     .br (fun a8=>
     .rt [14,24,34,44,54,64,74,89] [] [] [] [] [] (aj (aj a8 (al (u2 (u2 (u2 s2))))) t2))
     (fun a8=>
     .rn 0 [14,24,34,44,54,64,74,88] [] [] [] (aj a8 (al (u2 s2))) <|
     .br (fun a9=>
      .rt [14,24,34,44,54,64,74,99] [] [] [] [] [] (aj (aj a9 (al (u2 (u2 (u2 s2))))) t2))
     (fun a9=>
      .rt [14,24,34,44,54,64,74,98] [] [] [] [] [] (aj (aj a9 (al (u2 (u2 (u2 s2))))) t2)))))))))))) (by kernel_rfl)
theorem fva_ct(x:FrD)(r:Ret)(h:Aj (fvaStep x) (Lq x) r):CT Try.prog 41 ([]) ([frA x]) r.1 r.2:=
 CT.mach (fn:=Try.f41) (c:=zB Try.f41) (S:=fvaSt x) (hd:=fvaHd) Try.func41 (by kernel_rfl) (nL rfl)
  (fun s o ho=>match s,ho with
   | x,_=>x.elim)
  (fun o ho=>fvaEn_ok x o ho) h
def rvaSt(x:FrD):Empty->St
 | x=>x.elim
def rvaHd:Empty->Nat
 | x=>x.elim
def JY(x:FrD):Option (Empty⊕Ret):=
 br (!knK x.k)
 (some (.inr ([],bV false)))
 (br (decide (x.r<0))
  (some (.inr ([],bV false)))
  (br (decide (8<=x.r))
   (some (.inr ([],bV false)))
   (br (decide (x.q<1))
    (some (.inr ([],bV false)))
    (br (decide (x.c<0))
     (some (.inr ([],bV false)))
     (br (decide (48<=x.c))
      (some (.inr ([],bV false)))
      (br (decide (x.f<0))
       (some (.inr ([],bV false)))
       (br (decide (2<x.f))
        (some (.inr ([],bV false)))
        (br (x.k==1)
         (some (.inr ([],bV (decide (x.f<=1)))))
         (br (x.k==2)
          (some (.inr ([],bV (decide (1<=x.f)))))
          (some (.inr ([],bV (x.c==0)))))))))))))
def rvaStep(x:FrD):Empty->Option (Empty⊕Ret)
 | x=>x.elim
theorem rvaEn_ok(x:FrD)(o:Empty⊕Ret)(h:JY x=some o):Arr Try.prog Try.f45 0 (rvaSt x) rvaHd (zB Try.f45) [] {n:=Try.f45.ntmps,fr:=An 0 ([frA x]),hp:=([])} o:=
 Scr.ok h mix (
 .rn 0 [] [] [] [] (al (u2 t2)) <|
 .br (fun a0=>
 have c0:=EX (x.k);
 .rt [15] [] [(5,hK c0 [] [])] [] [] [] (aj (aj (u2 (u2 (aj (k2 (al (c0))) (u2 (u2 (aj a0 (aj a0 (aj a0 (ag a0 (u2 (k3 (aj t3 (u2 (k3 (aj t3 (u2 (k3 (aj t3 (u2 (k3 (aj t3 (u2 (k3 (aj t3 (u2 (k3 (al t3))))))))))))))))))))))))))) (ak s2)) t2))
 (fun a0=>
 .br (fun a1=>
  have c0:=EX (x.k);
  .rt [14,25] [] [(5,hK c0 [] [])] [] [] [] (aj (aj (u2 (u2 (aj (k2 (al (c0))) (u2 (u2 (ag a0 (ag a0 (ag a0 (ag a0 (u2 (aj a1 (aj a1 (aj a1 (ag a1 (u2 (k3 (aj t3 (u2 (k3 (aj t3 (u2 (k3 (aj t3 (u2 (k3 (aj t3 (u2 (k3 (al t3))))))))))))))))))))))))))))) (ak s2)) t2))
 (fun a1=>
  .br (fun a2=>
  have c0:=EX (x.k);
  .rt [14,24,35] [] [(5,hK c0 [] [])] [] [] [] (aj (aj (u2 (u2 (aj (k2 (al (c0))) (u2 (u2 (ag a0 (ag a0 (ag a0 (ag a0 (u2 (ag a1 (ag a1 (ag a1 (ag a1 (u2 (aj a2 (aj a2 (aj a2 (ag a2 (u2 (k3 (aj t3 (u2 (k3 (aj t3 (u2 (k3 (aj t3 (u2 (k3 (al t3))))))))))))))))))))))))))))))) (ak s2)) t2))
  (fun a2=>
  .br (fun a3=>
   have c0:=EX (x.k);
   .rt [14,24,34,45] [] [(5,hK c0 [] [])] [] [] [] (aj (aj (u2 (u2 (aj (k2 (al (c0))) (u2 (u2 (ag a0 (ag a0 (ag a0 (ag a0 (u2 (ag a1 (ag a1 (ag a1 (ag a1 (u2 (ag a2 (ag a2 (ag a2 (ag a2 (u2 (aj a3 (aj a3 (aj a3 (ag a3 (u2 (k3 (aj t3 (u2 (k3 (aj t3 (u2 (k3 (al t3))))))))))))))))))))))))))))))))) (ak s2)) t2))
  (fun a3=>
   .br (fun a4=>
   have c0:=EX (x.k);
   .rt [14,24,34,44,55] [] [(5,hK c0 [] [])] [] [] [] (aj (aj (u2 (u2 (aj (k2 (al (c0))) (u2 (u2 (ag a0 (ag a0 (ag a0 (ag a0 (u2 (ag a1 (ag a1 (ag a1 (ag a1 (u2 (ag a2 (ag a2 (ag a2 (ag a2 (u2 (ag a3 (ag a3 (ag a3 (ag a3 (u2 (aj a4 (aj a4 (aj a4 (ag a4 (u2 (k3 (aj t3 (u2 (k3 (al t3))))))))))))))))))))))))))))))))))) (ak s2)) t2))
   (fun a4=>
   .br (fun a5=>
    have c0:=EX (x.k);
    .rt [14,24,34,44,54,65] [] [(5,hK c0 [] [])] [] [] [] (aj (aj (u2 (u2 (aj (k2 (al (c0))) (u2 (u2 (ag a0 (ag a0 (ag a0 (ag a0 (u2 (ag a1 (ag a1 (ag a1 (ag a1 (u2 (ag a2 (ag a2 (ag a2 (ag a2 (u2 (ag a3 (ag a3 (ag a3 (ag a3 (u2 (ag a4 (ag a4 (ag a4 (ag a4 (u2 (aj a5 (aj a5 (aj a5 (ag a5 (u2 (k3 (al t3))))))))))))))))))))))))))))))))))))) (ak s2)) t2))
   (fun a5=>
    .br (fun a6=>
    have c0:=EX (x.k);
    .rt [14,24,34,44,54,64,75] [] [(5,hK c0 [] [])] [] [] [] (aj (aj (u2 (u2 (aj (k2 (al (c0))) (u2 (u2 (ag a0 (ag a0 (ag a0 (ag a0 (u2 (ag a1 (ag a1 (ag a1 (ag a1 (u2 (ag a2 (ag a2 (ag a2 (ag a2 (u2 (ag a3 (ag a3 (ag a3 (ag a3 (u2 (ag a4 (ag a4 (ag a4 (ag a4 (u2 (ag a5 (ag a5 (ag a5 (ag a5 (u2 (aj a6 (aj a6 (aj a6 (al (aj a6 t2)))))))))))))))))))))))))))))))))))))))) (ak s2)) t2))
    (fun a6=>
    have c0:=EX (x.k);
    .rn 0 [14,24,34,44,54,64,74] [] [(5,hK c0 [] [])] [] (al (u2 (u2 (aj (k2 (al (c0))) (u2 (u2 (ag a0 (ag a0 (ag a0 (ag a0 (u2 (ag a1 (ag a1 (ag a1 (ag a1 (u2 (ag a2 (ag a2 (ag a2 (ag a2 (u2 (ag a3 (ag a3 (ag a3 (ag a3 (u2 (ag a4 (ag a4 (ag a4 (ag a4 (u2 (ag a5 (ag a5 (ag a5 (ag a5 (u2 (ag a6 (ag a6 (ag a6 (al (aj a6 t2))))))))))))))))))))))))))))))))))))))))) <|
    .br (fun a7=>
     .rt [14,24,34,44,54,64,74,83] [] [] [] [] [] (aj (aj a7 s2) t2))
    (fun a7=>
     .rn 1 [14,24,34,44,54,64,74,82] [] [] [] (aj a7 (aj (u2 s2) (al (u2 s2)))) <|
     .br (fun a8=>
     .rt [14,24,34,44,54,64,74,89] [] [] [] [] [] (aj (aj a8 (al (u2 (u2 (u2 s2))))) t2))
     (fun a8=>
     .rn 0 [14,24,34,44,54,64,74,88] [] [] [] (aj a8 (al (u2 s2))) <|
     .br (fun a9=>
      .rt [14,24,34,44,54,64,74,99] [] [] [] [] [] (aj (aj a9 (al (u2 (u2 (u2 s2))))) t2))
     (fun a9=>
      .rt [14,24,34,44,54,64,74,98] [] [] [] [] [] (aj (aj a9 (al (u2 (u2 (u2 s2))))) t2)))))))))))) (by kernel_rfl)
theorem rva_ct(x:FrD)(r:Ret)(h:Aj (rvaStep x) (JY x) r):CT Try.prog 45 ([]) ([frA x]) r.1 r.2:=
 CT.mach (fn:=Try.f45) (c:=zB Try.f45) (S:=rvaSt x) (hd:=rvaHd) Try.func45 (by kernel_rfl) (nL rfl)
  (fun s o ho=>match s,ho with
   | x,_=>x.elim)
  (fun o ho=>rvaEn_ok x o ho) h
def agaSt(x:AgD)(q:Int)(y:BdD):Empty->St
 | x=>x.elim
def agaHd:Empty->Nat
 | x=>x.elim
def Jv(x:AgD)(q:Int)(y:BdD):Option (Empty⊕Ret):=
 br (x.r==0)
 (some (.inr ([],AV.nils)))
 (br (y.f)
  (some (.inr ([],AV.nils)))
  (some (.inr ([],AV.lst [AV.agg [iV (Ay x q).k,iV (Ay x q).r,uV (Ay x q).q,iV (Ay x q).c,iV (Ay x q).f]]))))
def agaStep(x:AgD)(q:Int)(y:BdD):Empty->Option (Empty⊕Ret)
 | x=>x.elim
theorem agaEn_ok(x:AgD)(q:Int)(y:BdD)(o:Empty⊕Ret)(h:Jv x q y=some o):Arr Try.prog Try.f23 0 (agaSt x q y) agaHd (zB Try.f23) [] {n:=Try.f23.ntmps,fr:=An 0 ([agA x,.int .i64 q,bdA y]),hp:=([])} o:=
 Scr.ok h mix (
 .rn 0 [] [] [] [] (al (u2 (u2 t2))) <|
 .br (fun a0=>
 .rt [21] [] [] [] [] [] (aj (aj (u2 (u2 (u2 (u2 (aj a0 (aj a0 (al (aj a0 t2)))))))) (ak s2)) t2))
 (fun a0=>
 .rn 0 [20] [] [] [] (al (u2 (u2 (u2 (u2 (ag a0 (ag a0 (al (aj a0 t2))))))))) <|
 .br (fun a1=>
  .rt [20,27] [] [] [] [] [] (aj (aj a1 s2) t2))
 (fun a1=>
  have c0:=HO x (q);
  .rt [20,26] [(17,AV.lst [])] [(16,hK c0 [] [])] [] [] [] (aj (aj a1 (al (u2 (u2 (aj (k2 (aj t6 (ak (al (c0))))) (u2 s2)))))) t2)))) (by kernel_rfl)
theorem aga_ct(x:AgD)(q:Int)(y:BdD)(r:Ret)(h:Aj (agaStep x q y) (Jv x q y) r):CT Try.prog 23 ([]) ([agA x,.int .i64 q,bdA y]) r.1 r.2:=
 CT.mach (fn:=Try.f23) (c:=zB Try.f23) (S:=agaSt x q y) (hd:=agaHd) Try.func23 (by kernel_rfl) (nL rfl)
  (fun s o ho=>match s,ho with
   | x,_=>x.elim)
  (fun o ho=>agaEn_ok x q y o ho) h
def rgaSt(x:AgD)(q:Int)(y:BdD):Empty->St
 | x=>x.elim
def rgaHd:Empty->Nat
 | x=>x.elim
def Jc(x:AgD)(q:Int)(y:BdD):Option (Empty⊕Ret):=
 br (x.r==0)
 (some (.inr ([],AV.nils)))
 (br (y.f)
  (some (.inr ([],AV.nils)))
  (some (.inr ([],AV.lst [AV.agg [iV (Ay x q).k,iV (Ay x q).r,uV (Ay x q).q,iV (Ay x q).c,iV (Ay x q).f]]))))
def rgaStep(x:AgD)(q:Int)(y:BdD):Empty->Option (Empty⊕Ret)
 | x=>x.elim
theorem rgaEn_ok(x:AgD)(q:Int)(y:BdD)(o:Empty⊕Ret)(h:Jc x q y=some o):Arr Try.prog Try.f24 0 (rgaSt x q y) rgaHd (zB Try.f24) [] {n:=Try.f24.ntmps,fr:=An 0 ([agA x,.int .i64 q,bdA y]),hp:=([])} o:=
 Scr.ok h mix (
 .rn 0 [] [] [] [] (al (u2 (u2 t2))) <|
 .br (fun a0=>
 .rt [21] [] [] [] [] [] (aj (aj (u2 (u2 (u2 (u2 (aj a0 (aj a0 (al (aj a0 t2)))))))) (ak s2)) t2))
 (fun a0=>
 .rn 0 [20] [] [] [] (al (u2 (u2 (u2 (u2 (ag a0 (ag a0 (al (aj a0 t2))))))))) <|
 .br (fun a1=>
  .rt [20,27] [] [] [] [] [] (aj (aj a1 s2) t2))
 (fun a1=>
  have c0:=Ik x (q);
  .rt [20,26] [] [(16,hK c0 [] [])] [] [] [] (aj (aj a1 (al (u2 (u2 (aj (k2 (aj t6 (ak (al (c0))))) s2))))) t2)))) (by kernel_rfl)
theorem rga_ct(x:AgD)(q:Int)(y:BdD)(r:Ret)(h:Aj (rgaStep x q y) (Jc x q y) r):CT Try.prog 24 ([]) ([agA x,.int .i64 q,bdA y]) r.1 r.2:=
 CT.mach (fn:=Try.f24) (c:=zB Try.f24) (S:=rgaSt x q y) (hd:=rgaHd) Try.func24 (by kernel_rfl) (nL rfl)
  (fun s o ho=>match s,ho with
   | x,_=>x.elim)
  (fun o ho=>rgaEn_ok x q y o ho) h
def finSt(x:AgD)(q:Int)(y:BdD):Empty->St
 | x=>x.elim
def finHd:Empty->Nat
 | x=>x.elim
def IK(x:AgD)(q:Int)(y:BdD):Option (Empty⊕Ret):=
 br (y.c != -1)
 (br (y.s)
  (br (!y.f)
   (some (.inr ([],AV.tup [AV.agg [uV x.l,iV x.t,bV x.s,iV 2,iV y.c],AV.agg [iV y.c,iV y.t,bV false,bV y.f],AV.lst [AV.agg [iV (Ay (AgD.mk x.l x.t x.s 2 y.c) q).k,iV (Ay (AgD.mk x.l x.t x.s 2 y.c) q).r,uV (Ay (AgD.mk x.l x.t x.s 2 y.c) q).q,iV (Ay (AgD.mk x.l x.t x.s 2 y.c) q).c,iV (Ay (AgD.mk x.l x.t x.s 2 y.c) q).f]]])))
   (some (.inr ([],AV.tup [AV.agg [uV x.l,iV x.t,bV x.s,iV x.r,iV x.c],AV.agg [iV y.c,iV y.t,bV y.s,bV y.f],AV.nils]))))
  (some (.inr ([],AV.tup [AV.agg [uV x.l,iV x.t,bV x.s,iV x.r,iV x.c],AV.agg [iV y.c,iV y.t,bV y.s,bV y.f],AV.nils]))))
 (some (.inr ([],AV.tup [AV.agg [uV x.l,iV x.t,bV x.s,iV x.r,iV x.c],AV.agg [iV y.c,iV y.t,bV y.s,bV y.f],AV.nils])))
def finStep(x:AgD)(q:Int)(y:BdD):Empty->Option (Empty⊕Ret)
 | x=>x.elim
theorem finEn_ok(x:AgD)(q:Int)(y:BdD)(o:Empty⊕Ret)(h:IK x q y=some o):Arr Try.prog Try.f18 0 (finSt x q y) finHd (zB Try.f18) [] {n:=Try.f18.ntmps,fr:=An 0 ([agA x,.int .i64 q,bdA y]),hp:=([])} o:=
 Scr.ok h mix (
 .rn 1 [] [] [] [] (aj (u2 (u2 t4)) (al (ak (u2 s2)))) <|
 .br (fun a0=>
 .br (fun a1=>
  .rn 0 [31,39] [] [] [] (al (u2 (u2 (u2 (u2 (ag a0 (ag a0 (ag a0 (u2 (ag a1 (ag a1 (ag a1 (al (aj a1 t2)))))))))))))) <|
  .br (fun a2=>
  have c0:=HO (AgD.mk x.l x.t x.s 2 y.c) (q);
  have c1:=G2 (Ay (AgD.mk x.l x.t x.s 2 y.c) q);
  .rt [31,39,47] [] [(32,hK c0 [] []),(33,hK c1 [4] [])] [] [] [] (aj (aj a2 (aj (u2 s2) (aj (u2 (u2 (u2 (u2 (u2 (al t3)))))) (aj (u2 (u2 (u2 (aj (k2 (aj t6 (ak (al (c0))))) (al (k3 (aj t6 (ak (al (c1)))))))))) (al (u2 (u2 (u2 (u2 (u2 (u2 (aj (k2 n11) (aj (k2 n11) s2))))))))))))) (al (aj t6 (aj t5 t2)))))
  (fun a2=>
  .rt [31,39,46] [] [] [] [] [] (aj (aj a2 (al (u2 (u2 (u2 (u2 (u2 (u2 (aj (k2 n11) (aj (k2 n11) s2)))))))))) (al (aj t6 (aj t5 t2))))))
 (fun a1=>
  .rt [31,38] [] [] [] [] [] (aj (aj (u2 (u2 (u2 (u2 (ag a0 (ag a0 (ag a0 (u2 (aj a1 (aj a1 (aj a1 (al (aj a1 t2))))))))))))) (ak (al (u2 (u2 (u2 (u2 (u2 (u2 (aj (k2 n11) (aj (k2 n11) s2))))))))))) (al (aj t6 (aj t5 t2))))))
 (fun a0=>
 .rt [30] [] [] [] [] [] (aj (aj (u2 (u2 (u2 (u2 (aj a0 (aj a0 (ag a0 (u2 (k3 (al t3)))))))))) (ak (al (u2 (u2 (u2 (u2 (u2 (u2 (aj (k2 n11) (aj (k2 n11) s2))))))))))) (al (aj t6 (aj t5 t2)))))) (by kernel_rfl)
theorem fin_ct(x:AgD)(q:Int)(y:BdD)(r:Ret)(h:Aj (finStep x q y) (IK x q y) r):CT Try.prog 18 ([]) ([agA x,.int .i64 q,bdA y]) r.1 r.2:=
 CT.mach (fn:=Try.f18) (c:=zB Try.f18) (S:=finSt x q y) (hd:=finHd) Try.func18 (by kernel_rfl) (nL rfl)
  (fun s o ho=>match s,ho with
   | x,_=>x.elim)
  (fun o ho=>finEn_ok x q y o ho) h
def rfiSt(x:AgD)(q:Int)(y:BdD):Empty->St
 | x=>x.elim
def rfiHd:Empty->Nat
 | x=>x.elim
def HK(x:AgD)(q:Int)(y:BdD):Option (Empty⊕Ret):=
 br (y.c == -1)
 (some (.inr ([],AV.tup [AV.agg [uV x.l,iV x.t,bV x.s,iV x.r,iV x.c],AV.agg [iV y.c,iV y.t,bV y.s,bV y.f],AV.nils])))
 (br (!y.s)
  (some (.inr ([],AV.tup [AV.agg [uV x.l,iV x.t,bV x.s,iV x.r,iV x.c],AV.agg [iV y.c,iV y.t,bV y.s,bV y.f],AV.nils])))
  (br (y.f)
   (some (.inr ([],AV.tup [AV.agg [uV x.l,iV x.t,bV x.s,iV x.r,iV x.c],AV.agg [iV y.c,iV y.t,bV y.s,bV y.f],AV.nils])))
   (some (.inr ([],AV.tup [AV.agg [uV x.l,iV x.t,bV x.s,iV 2,iV y.c],AV.agg [iV y.c,iV y.t,bV false,bV y.f],AV.lst [AV.agg [iV (Ay (AgD.mk x.l x.t x.s 2 y.c) q).k,iV (Ay (AgD.mk x.l x.t x.s 2 y.c) q).r,uV (Ay (AgD.mk x.l x.t x.s 2 y.c) q).q,iV (Ay (AgD.mk x.l x.t x.s 2 y.c) q).c,iV (Ay (AgD.mk x.l x.t x.s 2 y.c) q).f]]])))))
def rfiStep(x:AgD)(q:Int)(y:BdD):Empty->Option (Empty⊕Ret)
 | x=>x.elim
theorem rfiEn_ok(x:AgD)(q:Int)(y:BdD)(o:Empty⊕Ret)(h:HK x q y=some o):Arr Try.prog Try.f26 0 (rfiSt x q y) rfiHd (zB Try.f26) [] {n:=Try.f26.ntmps,fr:=An 0 ([agA x,.int .i64 q,bdA y]),hp:=([])} o:=
 Scr.ok h mix (
 .rn 0 [] [] [] [] (al (u2 (u2 t4))) <|
 .br (fun a0=>
 .rt [25] [] [] [] [] [] (aj (aj (u2 (u2 (u2 (u2 (aj a0 (aj a0 (aj a0 (ag a0 (u2 (k2 (al t3))))))))))) (ak (al (u2 (u2 (aj (k2 n11) (aj (k2 n11) t2))))))) (al (aj t6 (aj t5 t2)))))
 (fun a0=>
 .br (fun a1=>
  .rt [24,35] [] [] [] [] [] (aj (aj (u2 (u2 (u2 (u2 (ag a0 (ag a0 (ag a0 (ag a0 (u2 (aj a1 (aj a1 (al (aj a1 t2))))))))))))) (ak (al (u2 (u2 (aj (k2 n11) (aj (k2 n11) t2))))))) (al (aj t6 (aj t5 t2)))))
 (fun a1=>
  .rn 0 [24,34] [] [] [] (al (u2 (u2 (u2 (u2 (ag a0 (ag a0 (ag a0 (ag a0 (u2 (ag a1 (ag a1 (al (aj a1 t2)))))))))))))) <|
  .br (fun a2=>
  .rt [24,34,41] [] [] [] [] [] (aj (aj a2 (al (u2 (u2 (aj (k2 n11) (aj (k2 n11) t2)))))) (al (aj t6 (aj t5 t2)))))
  (fun a2=>
  have c0:=Ik (AgD.mk x.l x.t x.s 2 y.c) (q);
  .rt [24,34,40] [] [(32,hK c0 [] [])] [] [] [] (aj (aj a2 (aj (u2 s2) (aj (u2 (u2 (u2 (u2 (u2 (al t3)))))) (al (u2 (u2 (u2 (u2 (aj (k2 (aj t6 (ak (al (c0))))) (aj (k2 n11) (aj (k2 n11) s2))))))))))) (al (aj t6 (aj t5 t2)))))))) (by kernel_rfl)
theorem rfi_ct(x:AgD)(q:Int)(y:BdD)(r:Ret)(h:Aj (rfiStep x q y) (HK x q y) r):CT Try.prog 26 ([]) ([agA x,.int .i64 q,bdA y]) r.1 r.2:=
 CT.mach (fn:=Try.f26) (c:=zB Try.f26) (S:=rfiSt x q y) (hd:=rfiHd) Try.func26 (by kernel_rfl) (nL rfl)
  (fun s o ho=>match s,ho with
   | x,_=>x.elim)
  (fun o ho=>rfiEn_ok x q y o ho) h
def driSt(n:Aa)(x:AgD)(q:Int)(y:BdD):Empty->St
 | x=>x.elim
def driHd:Empty->Nat
 | x=>x.elim
def IG(n:Aa)(x:AgD)(q:Int)(y:BdD):Option (Empty⊕Ret):=
 br (y.c == -1)
 (some (.inr ([],AV.tup [AV.agg [uV x.l,iV x.t,bV x.s,iV x.r,iV x.c],AV.agg [iV y.c,iV y.t,bV y.s,bV y.f],AV.nils])))
 (br (y.f)
  (some (.inr ([],AV.tup [AV.agg [uV x.l,iV x.t,bV x.s,iV x.r,iV x.c],AV.agg [iV y.c,iV y.t,bV y.s,bV y.f],AV.nils])))
  (br (y.t != -1)
   (br (y.s)
    (some (.inr ([],AV.tup [AV.agg [uV x.l,iV (-1),bV x.s,iV 1,iV y.t],AV.agg [iV y.t,iV (-1),bV true,bV y.f],AV.lst [AV.agg [iV (Ay (AgD.mk x.l (-1) x.s 1 y.t) q).k,iV (Ay (AgD.mk x.l (-1) x.s 1 y.t) q).r,uV (Ay (AgD.mk x.l (-1) x.s 1 y.t) q).q,iV (Ay (AgD.mk x.l (-1) x.s 1 y.t) q).c,iV (Ay (AgD.mk x.l (-1) x.s 1 y.t) q).f]]])))
    (some (.inr ([],AV.tup [AV.agg [uV x.l,iV (-1),bV x.s,iV 1,iV y.t],AV.agg [iV y.t,iV (-1),bV x.s,bV y.f],AV.lst [AV.agg [iV (Ay (AgD.mk x.l (-1) x.s 1 y.t) q).k,iV (Ay (AgD.mk x.l (-1) x.s 1 y.t) q).r,uV (Ay (AgD.mk x.l (-1) x.s 1 y.t) q).q,iV (Ay (AgD.mk x.l (-1) x.s 1 y.t) q).c,iV (Ay (AgD.mk x.l (-1) x.s 1 y.t) q).f]]]))))
   (br (!y.s)
    (br (x.t != -1)
     (gu (Rows n.nx) <|
      br (A8 n y.c x.t)
      (some (.inr ([],AV.tup [AV.agg [uV x.l,iV x.t,bV x.s,iV x.r,iV x.c],AV.agg [iV y.c,iV x.t,bV y.s,bV y.f],AV.nils])))
      (some (.inr ([],AV.tup [AV.agg [uV x.l,iV x.t,bV x.s,iV x.r,iV x.c],AV.agg [iV y.c,iV y.t,bV y.s,bV y.f],AV.nils]))))
     (some (.inr ([],AV.tup [AV.agg [uV x.l,iV x.t,bV x.s,iV x.r,iV x.c],AV.agg [iV y.c,iV y.t,bV y.s,bV y.f],AV.nils]))))
    (some (.inr ([],AV.tup [AV.agg [uV x.l,iV x.t,bV x.s,iV x.r,iV x.c],AV.agg [iV y.c,iV y.t,bV y.s,bV y.f],AV.nils]))))))
def driStep(n:Aa)(x:AgD)(q:Int)(y:BdD):Empty->Option (Empty⊕Ret)
 | x=>x.elim
theorem driEn_ok(n:Aa)(x:AgD)(q:Int)(y:BdD)(o:Empty⊕Ret)(h:IG n x q y=some o):Arr Try.prog Try.f16 0 (driSt n x q y) driHd (zB Try.f16) [] {n:=Try.f16.ntmps,fr:=An 0 ([Ad n,agA x,.int .i64 q,bdA y]),hp:=([])} o:=
 Scr.ok h mix (
 .rn 1 [] [] [] [] (aj (u2 (u2 (u2 t4))) (al (ak (u2 s2)))) <|
 .br (fun a0=>
 .rt [37] [] [] [] [] [] (aj (aj (u2 (u2 (u2 (u2 (aj a0 (aj a0 (ag a0 s2))))))) (ak (al (u2 (u2 (u2 (u2 (u2 (u2 (aj (k2 n11) (aj (k2 n11) s2))))))))))) (al (aj t6 (aj t5 t2)))))
 (fun a0=>
 .rn 0 [36] [] [] [] (al (u2 (u2 (u2 (u2 (ag a0 (ag a0 (ag a0 s2)))))))) <|
 .br (fun a1=>
  .rt [36,29] [] [] [] [] [] (aj (aj a1 (al (u2 (u2 (u2 (u2 (u2 (u2 (aj (k2 n11) (aj (k2 n11) s2)))))))))) (al (aj t6 (aj t5 t2)))))
 (fun a1=>
  .rn 0 [36,28] [] [] [] (aj a1 (al (u2 (u2 (u2 s2))))) <|
  .br (fun a2=>
  .rn 0 [36,45] [] [] [] (aj a2 (al (u2 (u2 (u2 (aj t3 (u2 s2))))))) <|
  .br (fun a3=>
   have c0:=HO (AgD.mk x.l (-1) x.s 1 y.t) (q);
   have c1:=G2 (Ay (AgD.mk x.l (-1) x.s 1 y.t) q);
   .rt [36,65] [] [(45,hK c0 [] []),(46,hK c1 [5] [])] [] [] [] (aj (aj (u2 (u2 (u2 (aj a3 (aj a3 (ag a3 (u2 (al t3)))))))) (aj (u2 (u2 (u2 (u2 (u2 (u2 (u2 (al t3)))))))) (aj (u2 (u2 (u2 (aj (k2 (aj t6 (ak (al (c0))))) (al (k3 (aj t6 (ak (al (c1)))))))))) (al (u2 (u2 (u2 (u2 (u2 (u2 (aj (k2 n11) (aj (k2 n11) s2)))))))))))) (al (aj t6 (aj t5 t2)))))
  (fun a3=>
   have c0:=HO (AgD.mk x.l (-1) x.s 1 y.t) (q);
   have c1:=G2 (Ay (AgD.mk x.l (-1) x.s 1 y.t) q);
   .rt [36,64] [] [(45,hK c0 [] []),(46,hK c1 [5] [])] [] [] [] (aj (aj (u2 (u2 (u2 (ag a3 (ag a3 (ag a3 (u2 (al t3)))))))) (aj (u2 (u2 (u2 (u2 (u2 (u2 (u2 (al t3)))))))) (aj (u2 (u2 (u2 (aj (k2 (aj t6 (ak (al (c0))))) (al (k3 (aj t6 (ak (al (c1)))))))))) (al (u2 (u2 (u2 (u2 (u2 (u2 (aj (k2 n11) (aj (k2 n11) s2)))))))))))) (al (aj t6 (aj t5 t2))))))
  (fun a2=>
  .br (fun a3=>
   .br (fun a4=>
   .gu fun a5=>
   have c0:=Lp n (y.c) (x.t) a5;
   .rn 0 [36,44,103,113] [] [(62,hK c0 [] [])] [] (aj a2 (al (u2 (u2 (u2 (u2 (ag a3 (ag a3 (ag a3 (ag a3 (u2 (ag a4 (ag a4 (ag a4 (ag a4 (ag a4 (aj (aj a4 (k3 (aj t9 (k2 (al (c0)))))) (ag a4 s2)))))))))))))))))) <|
   .br (fun a6=>
    .rt [36,103,113,95] [] [] [] [] [] (aj (aj a6 (aj (u2 (u2 (u2 (al t3)))) (al (u2 (u2 (u2 (u2 (u2 (u2 (aj (k2 n11) (aj (k2 n11) s2))))))))))) (al (aj t6 (aj t5 t2)))))
   (fun a6=>
    .rt [36,103,113,94] [] [] [] [] [] (aj (aj a6 (al (u2 (u2 (u2 (u2 (u2 (u2 (aj (k2 n11) (aj (k2 n11) s2)))))))))) (al (aj t6 (aj t5 t2))))))
   (fun a4=>
   .rt [36,44,103,112] [] [] [] [] [] (aj (aj a2 (aj (u2 (u2 (u2 (u2 (ag a3 (ag a3 (ag a3 (ag a3 (u2 (aj a4 (aj a4 (aj a4 (aj a4 (aj a4 (aj a4 (ag a4 s2)))))))))))))))) (ak (al (u2 (u2 (u2 (u2 (u2 (u2 (aj (k2 n11) (aj (k2 n11) s2)))))))))))) (al (aj t6 (aj t5 t2))))))
  (fun a3=>
   .rt [36,44,102] [] [] [] [] [] (aj (aj a2 (aj (u2 (u2 (u2 (u2 (aj a3 (aj a3 (aj a3 (ag a3 (u2 (ak (k5 (aj t3 s2)))))))))))) (ak (al (u2 (u2 (u2 (u2 (u2 (u2 (aj (k2 n11) (aj (k2 n11) s2)))))))))))) (al (aj t6 (aj t5 t2))))))))) (by kernel_rfl)
theorem dri_ct(n:Aa)(x:AgD)(q:Int)(y:BdD)(r:Ret)(h:Aj (driStep n x q y) (IG n x q y) r):CT Try.prog 16 ([]) ([Ad n,agA x,.int .i64 q,bdA y]) r.1 r.2:=
 CT.mach (fn:=Try.f16) (c:=zB Try.f16) (S:=driSt n x q y) (hd:=driHd) Try.func16 (by kernel_rfl) (nL rfl)
  (fun s o ho=>match s,ho with
   | x,_=>x.elim)
  (fun o ho=>driEn_ok n x q y o ho) h
def rdrSt(n:Aa)(x:AgD)(q:Int)(y:BdD):Empty->St
 | x=>x.elim
def rdrHd:Empty->Nat
 | x=>x.elim
def IB(n:Aa)(x:AgD)(q:Int)(y:BdD):Option (Empty⊕Ret):=
 br (y.c == -1)
 (some (.inr ([],AV.tup [AV.agg [uV x.l,iV x.t,bV x.s,iV x.r,iV x.c],AV.agg [iV y.c,iV y.t,bV y.s,bV y.f],AV.nils])))
 (br (y.f)
  (some (.inr ([],AV.tup [AV.agg [uV x.l,iV x.t,bV x.s,iV x.r,iV x.c],AV.agg [iV y.c,iV y.t,bV y.s,bV y.f],AV.nils])))
  (br (y.t != -1)
   (br (y.s)
    (some (.inr ([],AV.tup [AV.agg [uV x.l,iV (-1),bV x.s,iV 1,iV y.t],AV.agg [iV y.t,iV (-1),bV true,bV y.f],AV.lst [AV.agg [iV (Ay (AgD.mk x.l (-1) x.s 1 y.t) q).k,iV (Ay (AgD.mk x.l (-1) x.s 1 y.t) q).r,uV (Ay (AgD.mk x.l (-1) x.s 1 y.t) q).q,iV (Ay (AgD.mk x.l (-1) x.s 1 y.t) q).c,iV (Ay (AgD.mk x.l (-1) x.s 1 y.t) q).f]]])))
    (some (.inr ([],AV.tup [AV.agg [uV x.l,iV (-1),bV x.s,iV 1,iV y.t],AV.agg [iV y.t,iV (-1),bV x.s,bV y.f],AV.lst [AV.agg [iV (Ay (AgD.mk x.l (-1) x.s 1 y.t) q).k,iV (Ay (AgD.mk x.l (-1) x.s 1 y.t) q).r,uV (Ay (AgD.mk x.l (-1) x.s 1 y.t) q).q,iV (Ay (AgD.mk x.l (-1) x.s 1 y.t) q).c,iV (Ay (AgD.mk x.l (-1) x.s 1 y.t) q).f]]]))))
   (br (atR y)
    (br (x.t != -1)
     (gu (Rows n.nx) <|
      br (A8 n y.c x.t)
      (some (.inr ([],AV.tup [AV.agg [uV x.l,iV x.t,bV x.s,iV x.r,iV x.c],AV.agg [iV y.c,iV x.t,bV y.s,bV y.f],AV.nils])))
      (some (.inr ([],AV.tup [AV.agg [uV x.l,iV x.t,bV x.s,iV x.r,iV x.c],AV.agg [iV y.c,iV y.t,bV y.s,bV y.f],AV.nils]))))
     (some (.inr ([],AV.tup [AV.agg [uV x.l,iV x.t,bV x.s,iV x.r,iV x.c],AV.agg [iV y.c,iV y.t,bV y.s,bV y.f],AV.nils]))))
    (some (.inr ([],AV.tup [AV.agg [uV x.l,iV x.t,bV x.s,iV x.r,iV x.c],AV.agg [iV y.c,iV y.t,bV y.s,bV y.f],AV.nils]))))))
def rdrStep(n:Aa)(x:AgD)(q:Int)(y:BdD):Empty->Option (Empty⊕Ret)
 | x=>x.elim
theorem rdrEn_ok(n:Aa)(x:AgD)(q:Int)(y:BdD)(o:Empty⊕Ret)(h:IB n x q y=some o):Arr Try.prog Try.f25 0 (rdrSt n x q y) rdrHd (zB Try.f25) [] {n:=Try.f25.ntmps,fr:=An 0 ([Ad n,agA x,.int .i64 q,bdA y]),hp:=([])} o:=
 Scr.ok h mix (
 .rn 0 [] [] [] [] (al (u2 (u2 (u2 t4)))) <|
 .br (fun a0=>
 .rt [31] [] [] [] [] [] (aj (aj (u2 (u2 (u2 (u2 (aj a0 (aj a0 (ag a0 s2))))))) (ak (al (u2 (u2 (aj (k2 n11) (aj (k2 n11) t2))))))) (al (aj t6 (aj t5 t2)))))
 (fun a0=>
 .rn 0 [30] [] [] [] (al (u2 (u2 (u2 (u2 (ag a0 (ag a0 (ag a0 s2)))))))) <|
 .br (fun a1=>
  .rt [30,23] [] [] [] [] [] (aj (aj a1 (al (u2 (u2 (aj (k2 n11) (aj (k2 n11) t2)))))) (al (aj t6 (aj t5 t2)))))
 (fun a1=>
  .rn 0 [30,22] [] [] [] (aj a1 (al (u2 (u2 (u2 s2))))) <|
  .br (fun a2=>
  .rn 1 [30,43] [] [] [] (aj a2 (aj (u2 (u2 (u2 (aj t3 (u2 s2))))) (al (u2 s2)))) <|
  .br (fun a3=>
   have c0:=Ik (AgD.mk x.l (-1) x.s 1 y.t) (q);
   .rt [30,65] [] [(45,hK c0 [] [])] [] [] [] (aj (aj (u2 (u2 (u2 (aj a3 (aj a3 (ag a3 (u2 (al t3)))))))) (aj (u2 (u2 (u2 (u2 (u2 (al t3)))))) (al (u2 (u2 (u2 (u2 (aj (k2 (aj t6 (ak (al (c0))))) (aj (k2 n11) (aj (k2 n11) s2)))))))))) (al (aj t6 (aj t5 t2)))))
  (fun a3=>
   have c0:=Ik (AgD.mk x.l (-1) x.s 1 y.t) (q);
   .rt [30,64] [] [(45,hK c0 [] [])] [] [] [] (aj (aj (u2 (u2 (u2 (ag a3 (ag a3 (ag a3 (u2 (al t3)))))))) (aj (u2 (u2 (u2 (u2 (u2 (al t3)))))) (al (u2 (u2 (u2 (u2 (aj (k2 (aj t6 (ak (al (c0))))) (aj (k2 n11) (aj (k2 n11) s2)))))))))) (al (aj t6 (aj t5 t2))))))
  (fun a2=>
  .br (fun a3=>
   .br (fun a4=>
   .gu fun a5=>
   have c0:=KA (y);
   have c1:=Ls n (y.c) (x.t) a5;
   .rn 0 [30,42,99,109] [] [(48,hK c0 [] []),(60,hK c1 [] [])] [] (aj a2 (al (u2 (aj (ak (aj t5 (al (c0)))) (u2 (ag a3 (ag a3 (ag a3 (ag a3 (u2 (ag a4 (ag a4 (ag a4 (ag a4 (ag a4 (aj (aj a4 (k3 (aj t9 (k2 (al (c1)))))) (ag a4 s2))))))))))))))))) <|
   .br (fun a6=>
    .rt [30,99,109,93] [] [] [] [] [] (aj (aj a6 (aj (u2 (u2 (u2 (al t3)))) (al (u2 (u2 (aj (k2 n11) (aj (k2 n11) t2))))))) (al (aj t6 (aj t5 t2)))))
   (fun a6=>
    .rt [30,99,109,92] [] [] [] [] [] (aj (aj a6 (al (u2 (u2 (aj (k2 n11) (aj (k2 n11) t2)))))) (al (aj t6 (aj t5 t2))))))
   (fun a4=>
   have c0:=KA (y);
   .rt [30,42,99,108] [] [(48,hK c0 [] [])] [] [] [] (aj (aj a2 (aj (u2 (aj (ak (aj t5 (al (c0)))) (u2 (ag a3 (ag a3 (ag a3 (ag a3 (u2 (aj a4 (aj a4 (aj a4 (aj a4 (aj a4 (aj a4 (ag a4 s2))))))))))))))) (ak (al (u2 (u2 (aj (k2 n11) (aj (k2 n11) t2)))))))) (al (aj t6 (aj t5 t2))))))
  (fun a3=>
   have c0:=KA (y);
   .rt [30,42,98] [] [(48,hK c0 [] [])] [] [] [] (aj (aj a2 (aj (u2 (aj (ak (aj t5 (al (c0)))) (u2 (aj a3 (aj a3 (aj a3 (ag a3 (u2 (ak (k5 (aj t3 s2))))))))))) (ak (al (u2 (u2 (aj (k2 n11) (aj (k2 n11) t2)))))))) (al (aj t6 (aj t5 t2))))))))) (by kernel_rfl)
theorem rdr_ct(n:Aa)(x:AgD)(q:Int)(y:BdD)(r:Ret)(h:Aj (rdrStep n x q y) (IB n x q y) r):CT Try.prog 25 ([]) ([Ad n,agA x,.int .i64 q,bdA y]) r.1 r.2:=
 CT.mach (fn:=Try.f25) (c:=zB Try.f25) (S:=rdrSt n x q y) (hd:=rdrHd) Try.func25 (by kernel_rfl) (nL rfl)
  (fun s o ho=>match s,ho with
   | x,_=>x.elim)
  (fun o ho=>rdrEn_ok n x q y o ho) h
def heaSt(x:AgD)(y:FrD):Empty->St
 | x=>x.elim
def heaHd:Empty->Nat
 | x=>x.elim
def Da(x:AgD)(y:FrD):Option (Empty⊕Ret):=
 br (y.k==1)
 (br (decide (x.l<y.q))
  (some (.inr ([some (bK [AV.lst [AV.agg [iV 3,iV y.r,uV y.q,iV 0,iV 0]]] 1)],AV.agg [uV y.q,iV y.c,bV (y.f==1),iV 0,iV 0])))
  (some (.inr ([some (bK [AV.lst [AV.agg [iV 3,iV y.r,uV y.q,iV 0,iV 0]]] 1)],AV.agg [uV x.l,iV x.t,bV x.s,iV x.r,iV x.c]))))
 (br (y.k==3)
  (br (x.r != 0)
   (br (y.q==x.l)
    (br (y.f==x.r)
     (some (.inr ([some (bK [AV.agg [AV.nils]] 1)],AV.agg [uV x.l,iV x.t,bV x.s,iV 0,iV 0])))
     (some (.inr ([some (bK [AV.agg [AV.nils]] 1)],AV.agg [uV x.l,iV x.t,bV x.s,iV x.r,iV x.c]))))
    (some (.inr ([some (bK [AV.agg [AV.nils]] 1)],AV.agg [uV x.l,iV x.t,bV x.s,iV x.r,iV x.c]))))
   (some (.inr ([some (bK [AV.agg [AV.nils]] 1)],AV.agg [uV x.l,iV x.t,bV x.s,iV x.r,iV x.c]))))
  (some (.inr ([some (bK [AV.agg [AV.nils]] 1)],AV.agg [uV x.l,iV x.t,bV x.s,iV x.r,iV x.c]))))
def heaStep(x:AgD)(y:FrD):Empty->Option (Empty⊕Ret)
 | x=>x.elim
theorem heaEn_ok(x:AgD)(y:FrD)(o:Empty⊕Ret)(h:Da x y=some o):Arr Try.prog Try.f42 1 (heaSt x y) heaHd (zB Try.f42) [] {n:=Try.f42.ntmps,fr:=An 0 ([agA x,frA y,.ifc 88 [.ptr 0 0 0]]),hp:=([some {es:=[.agg [.nils]],z:=1}])} o:=
 Scr.ok h mix (
 .rn 2 [] [] [] [] (aj (u2 (u2 t2)) (aj (u2 s2) (al (u2 s2)))) <|
 .br (fun a0=>
 have c0:=fsh_c (x.l) (y.q);
 .rn 0 [19] [] [(15,hK c0 [] [])] [] (aj a0 (al (u2 (u2 (u2 (u2 (al (ak (k3 (al (c0))))))))))) <|
 .br (fun a1=>
  have c1:=G2 (FrD.mk 3 y.r y.q 0 0);
  .rt [31] [] [(30,hK c1 [0] [])] [] [0] [] (aj (aj a1 (aj (u2 (u2 (u2 (u2 (u2 (u2 (u2 (aj t4 (al (k2 (show Nat.le 1 [AV.agg [uV x.l,iv x.t,bV x.s,iv x.r,iv x.c]].length from(nL rfl)))))))))))) (aj (u2 (u2 (u2 (u2 (u2 (aj t3 (al (k3 (aj t6 (ak (al (c1)))))))))))) (al (u2 (al (k2 n11))))))) (aj t6 t2)))
 (fun a1=>
  have c1:=G2 (FrD.mk 3 y.r y.q 0 0);
  .rt [30] [] [(30,hK c1 [0] [])] [] [0] [] (aj (aj a1 (aj (u2 (u2 (u2 (u2 (u2 (aj t3 (al (k3 (aj t6 (ak (al (c1)))))))))))) (al (u2 (al (k2 n11)))))) (aj t6 t2))))
 (fun a0=>
 .rn 0 [18] [] [] [] (aj a0 (al (u2 s2))) <|
 .br (fun a1=>
  .br (fun a2=>
  .br (fun a3=>
   .rn 0 [63,73,87] [] [] [] (aj a1 (al (u2 (u2 (u2 (u2 (ag a2 (ag a2 (ag a2 (ag a2 (aj (aj a2 t3) (ag a2 (u2 (ag a3 (ag a3 (ag a3 (ag a3 (aj (aj a3 t3) (al (aj a3 t2)))))))))))))))))))) <|
   .br (fun a4=>
   .rt [73,87,99] [] [] [] [0] [] (aj (aj a4 (aj (u2 (u2 (u2 s2))) (al (u2 (al (k2 n11)))))) (aj t6 t2)))
   (fun a4=>
   .rt [73,87,98] [] [] [] [0] [] (aj (aj a4 (al (u2 (al (k2 n11))))) (aj t6 t2))))
  (fun a3=>
   .rt [63,73,86] [] [] [] [0] [] (aj (aj a1 (aj (u2 (u2 (u2 (u2 (ag a2 (ag a2 (ag a2 (ag a2 (aj (aj a2 t3) (ag a2 (u2 (aj a3 (aj a3 (aj a3 (aj a3 (aj a3 (al (aj a3 t2)))))))))))))))))) (ak (al (u2 (al (k2 n11))))))) (aj t6 t2))))
  (fun a2=>
  .rt [63,72] [] [] [] [0] [] (aj (aj a1 (aj (u2 (u2 (u2 (u2 (aj a2 (aj a2 (aj a2 (aj a2 (aj a2 (ag a2 (u2 (k5 (al t3))))))))))))) (ak (al (u2 (al (k2 n11))))))) (aj t6 t2))))
 (fun a1=>
  .rt [62] [] [] [] [0] [] (aj (aj a1 (al (u2 (al (k2 n11))))) (aj t6 t2))))) (by kernel_rfl)
theorem Nb(x:AgD)(y:FrD)(r:Ret)(h:Aj (heaStep x y) (Da x y) r):CT Try.prog 42 ([some {es:=[.agg [.nils]],z:=1}]) ([agA x,frA y,.ifc 88 [.ptr 0 0 0]]) r.1 r.2:=
 CT.mach (fn:=Try.f42) (c:=zB Try.f42) (S:=heaSt x y) (hd:=heaHd) Try.func42 (by kernel_rfl) (nL rfl)
  (fun s o ho=>match s,ho with
   | x,_=>x.elim)
  (fun o ho=>heaEn_ok x y o ho) h
theorem brF{α:Type}{b c:Bool}{X:Option (α⊕Ret)}(h:X=some (.inr ([],AV.bool c))):br b (some (.inr ([],AV.bool false))) X=some (.inr ([],AV.bool (!b&&c))):=by subst h;cases b<;>rfl
theorem brI{α:Type}{b a c:Bool}{X:Option (α⊕Ret)}(h:X=some (.inr ([],AV.bool c))):br b (some (.inr ([],AV.bool a))) X=some (.inr ([],AV.bool (cond b a c))):=by subst h;cases b<;>rfl
def frV(x:FrD):Bool:= !(!knK x.k)&&(!(decide (x.r<0))&&(!(decide (8<=x.r))&&(!(x.q==0)&&(!(decide (x.c<0))&&(!(decide (48<=x.c))&&(!(decide (x.f<0))&&(!(decide (2<x.f))&&cond (x.k==1) (decide (x.f<2)) (cond (x.k==2) (decide (0<x.f)) (x.c==0)))))))))
theorem fva_c(x:FrD):CT Try.prog 41 [] [frA x] [] (.bool (frV x)):=
 fva_ct x ([],_) (.val (show Lq x=_ from brF (brF (brF (brF (brF (brF (brF (brF (brI (brI rfl)))))))))))
theorem rva_c(x:FrD)(hq:0<=x.q):CT Try.prog 45 [] [frA x] [] (.bool (frV x)):=by
 refine(rva_ct x ([],_) (.val (show JY x=_ from brF (brF (brF (brF (brF (brF (brF (brF (brI (brI rfl)))))))))))).tos rfl (congrArg AV.bool ?_)
 unfold frV
 have e1:decide (x.q<1)=(x.q==0):=by rw[Bool.eq_iff_iff];simp;omega
 have e2:decide (x.f<=1)=decide (x.f<2):=by rw[Bool.eq_iff_iff];simp;omega
 have e3:decide (1<=x.f)=decide (0<x.f):=by rw[Bool.eq_iff_iff];simp;omega
 rw[e1,e2,e3]
def Bp(x:AgD)(q:Int)(y:BdD):List FrD:=bif x.r==0 then [] else bif y.f then [] else [Ay x q]
theorem aga_c(x:AgD)(q:Int)(y:BdD):CT Try.prog 23 [] [agA x,.int .i64 q,bdA y] [] (.lst ((Bp x q y).map frA)):=by
 obtain⟨o,h1,h2⟩:∃o,Jv x q y=some (.inr ([],o))/\wkV o = .lst ((Bp x q y).map frA):=by
  unfold Jv Bp
  obtain⟨c,t,s,f⟩:=y
  cases x.r==0<;>cases f<;>exact⟨_,rfl,rfl⟩
 exact(aga_ct x q y ([],o) (.val h1)).to rfl h2
theorem rga_c(x:AgD)(q:Int)(y:BdD):CT Try.prog 24 [] [agA x,.int .i64 q,bdA y] [] (.lst ((Bp x q y).map frA)):=by
 obtain⟨o,h1,h2⟩:∃o,Jc x q y=some (.inr ([],o))/\wkV o = .lst ((Bp x q y).map frA):=by
  unfold Jc Bp
  obtain⟨c,t,s,f⟩:=y
  cases x.r==0<;>cases f<;>exact⟨_,rfl,rfl⟩
 exact(rga_ct x q y ([],o) (.val h1)).to rfl h2
structure TrD where
 a:AgD
 b:BdD
 l:List FrD
def trA(x:TrD):AV:=.tup [agA x.a,bdA x.b,.lst (x.l.map frA)]
def Aw(x:AgD)(q:Int)(y:BdD):TrD:=bif y.c == -1 then ⟨x,y,[]⟩ else bif y.s&&!y.f then ⟨⟨x.l,x.t,x.s,2,y.c⟩,⟨y.c,y.t,false,y.f⟩,[Ay ⟨x.l,x.t,x.s,2,y.c⟩ q]⟩ else ⟨x,y,[]⟩
theorem fin_c(x:AgD)(q:Int)(y:BdD):CT Try.prog 18 [] [agA x,.int .i64 q,bdA y] [] (trA (Aw x q y)):=by
 obtain⟨o,h1,h2⟩:∃o,IK x q y=some (.inr ([],o))/\wkV o=trA (Aw x q y):=by
  unfold IK Aw
  obtain⟨c,t,s,f⟩:=y
  simp only[bne]
  cases c == -1<;>cases s<;>cases f<;>exact⟨_,rfl,rfl⟩
 exact(fin_ct x q y ([],o) (.val h1)).to rfl h2
theorem Kn(x:AgD)(q:Int)(y:BdD):CT Try.prog 26 [] [agA x,.int .i64 q,bdA y] [] (trA (Aw x q y)):=by
 obtain⟨o,h1,h2⟩:∃o,HK x q y=some (.inr ([],o))/\wkV o=trA (Aw x q y):=by
  unfold HK Aw
  obtain⟨c,t,s,f⟩:=y
  simp only[bne]
  cases c == -1<;>cases s<;>cases f<;>exact⟨_,rfl,rfl⟩
 exact(rfi_ct x q y ([],o) (.val h1)).to rfl h2
def Af(n:Aa)(x:AgD)(q:Int)(y:BdD):TrD:=bif y.c == -1 then ⟨x,y,[]⟩ else bif y.f then ⟨x,y,[]⟩ else bif y.t == -1 then
  (bif !y.s&&(!(x.t == -1)&&A8 n y.c x.t) then ⟨x,⟨y.c,x.t,y.s,y.f⟩,[]⟩ else ⟨x,y,[]⟩)
 else ⟨⟨x.l,-1,x.s,1,y.t⟩,⟨y.t,-1,y.s||x.s,y.f⟩,[Ay ⟨x.l,-1,x.s,1,y.t⟩ q]⟩
theorem dri_c(n:Aa)(x:AgD)(q:Int)(y:BdD)(hrw:Rows n.nx):CT Try.prog 16 [] [Ad n,agA x,.int .i64 q,bdA y] [] (trA (Af n x q y)):=by
 obtain⟨o,h1,h2⟩:∃o,IG n x q y=some (.inr ([],o))/\wkV o=trA (Af n x q y):=by
  unfold IG Af
  rw[Ac hrw]
  obtain⟨c,t,s,f⟩:=y
  simp only[bne]
  generalize A8 n c x.t=b
  cases c == -1<;>cases t == -1<;>cases s<;>cases f<;>cases x.t == -1<;>cases b<;>exact⟨_,rfl,rfl⟩
 exact(dri_ct n x q y ([],o) (.val h1)).to rfl h2
theorem rdr_c(n:Aa)(x:AgD)(q:Int)(y:BdD)(hrw:Rows n.nx):CT Try.prog 25 [] [Ad n,agA x,.int .i64 q,bdA y] [] (trA (Af n x q y)):=by
 obtain⟨o,h1,h2⟩:∃o,IB n x q y=some (.inr ([],o))/\wkV o=trA (Af n x q y):=by
  unfold IB Af atR
  rw[Ac hrw]
  obtain⟨c,t,s,f⟩:=y
  simp only[bne]
  generalize A8 n c x.t=b
  cases c == -1<;>cases t == -1<;>cases s<;>cases f<;>cases x.t == -1<;>cases b<;>exact⟨_,rfl,rfl⟩
 exact(rdr_ct n x q y ([],o) (.val h1)).to rfl h2
structure HeD where
 a:AgD
 l:List FrD
def heA(x:HeD):AV:=.tup [agA x.a,.lst (x.l.map frA)]
def B9(x:AgD)(y:FrD):HeD:=bif y.k==1 then ⟨bif decide (x.l<y.q) then ⟨y.q,y.c,y.f==1,0,0⟩ else x,[⟨3,y.r,y.q,0,0⟩]⟩ else
 bif y.k==3&&(!(x.r==0)&&(y.q==x.l&&y.f==x.r)) then ⟨⟨x.l,x.t,x.s,0,0⟩,[]⟩ else ⟨x,[]⟩
theorem colL:Cz (Blk.mk [.agg [.nils]] 1 true true none) (Gg []):=by
 refine⟨rfl,id,rfl,Rm _,fun i e h=>?_,fun _ e he c hc=>?_,fun h=>rfl⟩
 .match i,h with
  | 0,h=>
   cases h
   refine⟨_,rfl,rfl,fun j c hc=>?_⟩
   match j,hc with
   | 0,hc=>cases hc;exact⟨_,rfl,.nilL⟩
 .have e1:=List.mem_singleton.1 he
  subst e1
  have e2:=List.mem_singleton.1 hc
  subst e2;rfl
theorem hea_c(x:AgD)(y:FrD):CT Try.prog 42 [some IA] [agA x,frA y,.ifc 88 [.ptr 0 0 0]] [some (Gg (B9 x y).l)] (agA (B9 x y).a):=by
 have key:∀(a:AgD),Da x y=some (.inr ([some (Blk.mk [.agg [.nils]] 1 true true none)],agA a))->CT Try.prog 42 [some IA] [agA x,frA y,.ifc 88 [.ptr 0 0 0]] [some (Gg [])] (agA a):=by
  intro a h
  refine CT.lessOut (hout:=[some (Blk.mk [.agg [.nils]] 1 true true none)]) (Nb x y ([_],_) (.val h)) rfl fun b blk' hb=>?_
  match b,hb with
  | 0,hb=>cases hb;exact⟨_,rfl,colL,rfl⟩
 have key1:∀(a:AgD) (l:List FrD),Da x y=some (.inr ([some (Gg l)],agA a))->CT Try.prog 42 [some IA] [agA x,frA y,.ifc 88 [.ptr 0 0 0]] [some (Gg l)] (agA a):=fun a l h=>Nb x y ([_],_) (.val h)
 unfold B9
 cases h1:y.k==1
 .cases h3:y.k==3
  .exact key _ (by unfold Da;rw[h1,h3];rfl)
  .cases h4:x.r==0
   .cases h5:y.q==x.l
    .exact key _ (by unfold Da;rw[h1,h3];simp only[bne];rw[h4,h5];rfl)
    .cases h6:y.f==x.r
     .exact key _ (by unfold Da;rw[h1,h3];simp only[bne];rw[h4,h5,h6];rfl)
     .exact key _ (by unfold Da;rw[h1,h3];simp only[bne];rw[h4,h5,h6];rfl)
   .exact key _ (by unfold Da;rw[h1,h3];simp only[bne];rw[h4];rfl)
 .cases h2:decide (x.l<y.q)
  .exact key1 _ _ (by unfold Da;rw[h1,h2];rfl)
  .exact key1 _ _ (by unfold Da;rw[h1,h2];rfl)
def heO(x:AgD)(q:Int)(y:FrD):HeD:=bif frV y&&y.r==q then B9 x y else ⟨x,[]⟩
def aHeSt(x:AgD)(q:Int)(y:FrD):Empty->St
 | x=>x.elim
def aHeHd:Empty->Nat
 | x=>x.elim
def Je(x:AgD)(q:Int)(y:FrD):Option (Empty⊕Ret):=
 br (frV y)
 (br (y.r==q)
  (some (.inr ([],AV.tup [AV.agg [uV (B9 x y).a.l,iV (B9 x y).a.t,bV (B9 x y).a.s,iV (B9 x y).a.r,iV (B9 x y).a.c],AV.lst (List.map frA (B9 x y).l)])))
  (some (.inr ([],AV.tup [AV.agg [uV x.l,iV x.t,bV x.s,iV x.r,iV x.c],AV.nils]))))
 (some (.inr ([],AV.tup [AV.agg [uV x.l,iV x.t,bV x.s,iV x.r,iV x.c],AV.nils])))
def aHeStep(x:AgD)(q:Int)(y:FrD):Empty->Option (Empty⊕Ret)
 | x=>x.elim
theorem aHeEn_ok(x:AgD)(q:Int)(y:FrD)(o:Empty⊕Ret)(h:Je x q y=some o):Arr Try.prog Try.f15 0 (aHeSt x q y) aHeHd (zB Try.f15) [] {n:=Try.f15.ntmps,fr:=An 0 ([agA x,.int .i64 q,frA y]),hp:=([])} o:=
 Scr.ok h mix (
 .rn 1 [] [] [] [] (aj (u2 (u2 t3)) (al (ak (u2 s2)))) <|
 .br (fun a0=>
 have c0:=fva_c (y);
 .rn 0 [27] [] [(12,hK c0 [] [])] [] (al (u2 (aj (ak (aj t6 (al (c0)))) (u2 (ag a0 (ag a0 (ag a0 (aj (aj a0 t3) (al (aj a0 t2)))))))))) <|
 .br (fun a1=>
  have c1:=hea_c x (y);
  .rt [27,37] [] [(23,hK c1 [3] [])] [] [] [] (aj (aj a1 (aj (u2 (u2 (u2 (u2 (aj (k3 (aj t6 (aj t6 (u2 (ak (al (c1))))))) (al (k2 (show Nat.le 1 [AV.agg [uV x.l,iv x.t,bV x.s,iv x.r,iv x.c]].length from(nL rfl))))))))) (al (u2 (u2 (u2 (u2 (u2 (aj (k2 n11) s2))))))))) (al (aj t6 t2))))
 (fun a1=>
  .rt [27,36] [] [] [] [] [] (aj (aj a1 (al (u2 (u2 (u2 (u2 (u2 (aj (k2 n11) s2)))))))) (al (aj t6 t2)))))
 (fun a0=>
 have c0:=fva_c (y);
 .rt [26] [] [(12,hK c0 [] [])] [] [] [] (aj (aj (u2 (aj (ak (aj t6 (al (c0)))) (u2 (aj a0 (aj a0 (aj a0 (aj a0 (al (aj a0 t2))))))))) (ak (al (u2 (u2 (u2 (u2 (u2 (aj (k2 n11) s2))))))))) (al (aj t6 t2))))) (by kernel_rfl)
theorem aHe_ct(x:AgD)(q:Int)(y:FrD)(r:Ret)(h:Aj (aHeStep x q y) (Je x q y) r):CT Try.prog 15 ([]) ([agA x,.int .i64 q,frA y]) r.1 r.2:=
 CT.mach (fn:=Try.f15) (c:=zB Try.f15) (S:=aHeSt x q y) (hd:=aHeHd) Try.func15 (by kernel_rfl) (nL rfl)
  (fun s o ho=>match s,ho with
   | x,_=>x.elim)
  (fun o ho=>aHeEn_ok x q y o ho) h
def rHeSt(x:AgD)(q:Int)(y:FrD):Empty->St
 | x=>x.elim
def rHeHd:Empty->Nat
 | x=>x.elim
def Ii(x:AgD)(q:Int)(y:FrD):Option (Empty⊕Ret):=
 gu (0<=y.q) <|
 br (!frV y)
 (some (.inr ([],AV.tup [AV.agg [uV x.l,iV x.t,bV x.s,iV x.r,iV x.c],AV.nils])))
 (br (y.r != q)
  (some (.inr ([],AV.tup [AV.agg [uV x.l,iV x.t,bV x.s,iV x.r,iV x.c],AV.nils])))
  (br (y.k==1)
   (br (decide (x.l<y.q))
    (some (.inr ([],AV.tup [AV.agg [uV y.q,iV y.c,bV (y.f==1),iV 0,iV 0],AV.lst [AV.agg [iV 3,iV q,uV y.q,iV 0,iV 0]]])))
    (some (.inr ([],AV.tup [AV.agg [uV x.l,iV x.t,bV x.s,iV x.r,iV x.c],AV.lst [AV.agg [iV 3,iV q,uV y.q,iV 0,iV 0]]]))))
   (br (y.k==3)
    (br (x.r != 0)
     (br (y.q==x.l)
      (br (y.f==x.r)
       (some (.inr ([],AV.tup [AV.agg [uV x.l,iV x.t,bV x.s,iV 0,iV 0],AV.nils])))
       (some (.inr ([],AV.tup [AV.agg [uV x.l,iV x.t,bV x.s,iV x.r,iV x.c],AV.nils]))))
      (some (.inr ([],AV.tup [AV.agg [uV x.l,iV x.t,bV x.s,iV x.r,iV x.c],AV.nils]))))
     (some (.inr ([],AV.tup [AV.agg [uV x.l,iV x.t,bV x.s,iV x.r,iV x.c],AV.nils]))))
    (some (.inr ([],AV.tup [AV.agg [uV x.l,iV x.t,bV x.s,iV x.r,iV x.c],AV.nils]))))))
def rHeStep(x:AgD)(q:Int)(y:FrD):Empty->Option (Empty⊕Ret)
 | x=>x.elim
theorem rHeEn_ok(x:AgD)(q:Int)(y:FrD)(o:Empty⊕Ret)(h:Ii x q y=some o):Arr Try.prog Try.f21 0 (rHeSt x q y) rHeHd (zB Try.f21) [] {n:=Try.f21.ntmps,fr:=An 0 ([agA x,.int .i64 q,frA y]),hp:=([])} o:=
 Scr.ok h mix (
 .rn 0 [] [] [] [] (al (u2 (u2 t3))) <|
 .gu fun a0=>
 .br (fun a1=>
 have c0:=rva_c y a0;
 .rt [23] [] [(9,hK c0 [] [])] [] [] [] (aj (aj (u2 (aj (ak (aj t6 (al (c0)))) (u2 (u2 (aj a1 (aj a1 (aj a1 (aj a1 (al (aj a1 t2)))))))))) (ak (al (u2 (aj (k2 n11) t2))))) (al (aj t6 t2))))
 (fun a1=>
 have c0:=rva_c y a0;
 .rn 0 [22] [] [(9,hK c0 [] [])] [] (al (u2 (aj (ak (aj t6 (al (c0)))) (u2 (u2 (ag a1 (ag a1 (ag a1 (aj (aj a1 t3) (al (aj a1 t2))))))))))) <|
 .br (fun a2=>
  .rt [22,33] [] [] [] [] [] (aj (aj a2 (al (u2 (aj (k2 n11) t2)))) (al (aj t6 t2))))
 (fun a2=>
  .rn 1 [22,32] [] [] [] (aj a2 (aj (u2 s2) (al (u2 s2)))) <|
  .br (fun a3=>
  have c1:=rfs_c (x.l) (y.q);
  .rn 0 [22,41] [] [(26,hK c1 [] [])] [] (aj a3 (al (u2 (u2 (u2 (u2 (al (ak (k3 (al (c1))))))))))) <|
  .br (fun a4=>
   .rt [22,53] [(40,AV.lst [])] [] [] [] [] (aj (aj a4 (aj (u2 (u2 (u2 (u2 (u2 (u2 (u2 (aj t4 (al (k2 (show Nat.le 1 [AV.agg [uV x.l,iv x.t,bV x.s,iv x.r,iv x.c]].length from(nL rfl)))))))))))) (al (u2 (u2 (u2 (u2 (aj t3 (u2 (aj (k2 n11) s2)))))))))) (al (aj t6 t2))))
  (fun a4=>
   .rt [22,52] [(40,AV.lst [])] [] [] [] [] (aj (aj a4 (al (u2 (u2 (u2 (u2 (aj t3 (u2 (aj (k2 n11) s2))))))))) (al (aj t6 t2)))))
  (fun a3=>
  .rn 0 [22,40] [] [] [] (aj a3 (al (u2 s2))) <|
  .br (fun a4=>
   .br (fun a5=>
   .br (fun a6=>
    .rn 0 [22,83,93,107] [] [] [] (aj a4 (al (u2 (u2 (u2 (u2 (ag a5 (ag a5 (ag a5 (ag a5 (aj (aj a5 t3) (ag a5 (u2 (ag a6 (ag a6 (ag a6 (ag a6 (aj (aj a6 t3) (al (aj a6 t2)))))))))))))))))))) <|
    .br (fun a7=>
    .rt [22,93,107,119] [] [] [] [] [] (aj (aj a7 (aj (u2 (u2 (u2 s2))) (al (u2 (aj (k2 n11) t2))))) (al (aj t6 t2))))
    (fun a7=>
    .rt [22,93,107,118] [] [] [] [] [] (aj (aj a7 (al (u2 (aj (k2 n11) t2)))) (al (aj t6 t2)))))
   (fun a6=>
    .rt [22,83,93,106] [] [] [] [] [] (aj (aj a4 (aj (u2 (u2 (u2 (u2 (ag a5 (ag a5 (ag a5 (ag a5 (aj (aj a5 t3) (ag a5 (u2 (aj a6 (aj a6 (aj a6 (aj a6 (aj a6 (al (aj a6 t2)))))))))))))))))) (ak (al (u2 (aj (k2 n11) t2)))))) (al (aj t6 t2)))))
   (fun a5=>
   .rt [22,83,92] [] [] [] [] [] (aj (aj a4 (aj (u2 (u2 (u2 (u2 (aj a5 (aj a5 (aj a5 (aj a5 (aj a5 (ag a5 (u2 (k5 (al t3))))))))))))) (ak (al (u2 (aj (k2 n11) t2)))))) (al (aj t6 t2)))))
  (fun a4=>
   .rt [22,82] [] [] [] [] [] (aj (aj a4 (al (u2 (aj (k2 n11) t2)))) (al (aj t6 t2)))))))) (by kernel_rfl)
theorem rHe_ct(x:AgD)(q:Int)(y:FrD)(r:Ret)(h:Aj (rHeStep x q y) (Ii x q y) r):CT Try.prog 21 ([]) ([agA x,.int .i64 q,frA y]) r.1 r.2:=
 CT.mach (fn:=Try.f21) (c:=zB Try.f21) (S:=rHeSt x q y) (hd:=rHeHd) Try.func21 (by kernel_rfl) (nL rfl)
  (fun s o ho=>match s,ho with
   | x,_=>x.elim)
  (fun o ho=>rHeEn_ok x q y o ho) h
theorem aHe_c(x:AgD)(q:Int)(y:FrD):CT Try.prog 15 [] [agA x,.int .i64 q,frA y] [] (heA (heO x q y)):=by
 obtain⟨o,h1,h2⟩:∃o,Je x q y=some (.inr ([],o))/\wkV o=heA (heO x q y):=by
  unfold Je heO
  cases frV y<;>cases y.r==q<;>exact⟨_,rfl,rfl⟩
 exact(aHe_ct x q y ([],o) (.val h1)).to rfl h2
theorem rHe_c(x:AgD)(q:Int)(y:FrD)(hq:0<=y.q):CT Try.prog 21 [] [agA x,.int .i64 q,frA y] [] (heA (heO x q y)):=by
 obtain⟨o,h1,h2⟩:∃o,Ii x q y=some (.inr ([],o))/\wkV o=heA (heO x q y):=by
  unfold Ii heO
  rw[Ac hq]
  simp only[bne]
  cases frV y
  .exact⟨_,rfl,rfl⟩
  .cases hr:y.r==q
   .exact⟨_,rfl,rfl⟩
   .have e:y.r=q:=beq_iff_eq.1 hr
    subst e
    unfold B9
    cases y.k==1
    .cases y.k==3<;>cases x.r==0<;>cases y.q==x.l<;>cases y.f==x.r<;>exact⟨_,rfl,rfl⟩
    .cases decide (x.l<y.q)<;>exact⟨_,rfl,rfl⟩
 exact(rHe_ct x q y ([],o) (.val h1)).to rfl h2
end Go.Proofs.Ytifigemlifbkcaa

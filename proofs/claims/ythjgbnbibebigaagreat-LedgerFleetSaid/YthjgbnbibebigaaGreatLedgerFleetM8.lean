/- Parts of the proof:LhB,LhC,LhD,Lh1m,LhA,LhE,Lh2m,LhF,Li1m,LiA,Li2m,LiB,LiC,Li3m,LiD,Sg6m,SgL,Sg5m,SgM,LkA,Lm1m,LmA,Lm2m,Lj1m,LkB,Lj2m,LkC,Lj3m,LkD,Lj5m,LkE,LmB,Lm3m,Lm4m,LmC,LmD,Lm6m,LmE,Lf2m,LfB,Lf3m,LfC,Gc1m,GcA,Gc2m,GcB,Gc3m,GcC,Gc4m. -/
import Derived.KernelRfl
import Derived.Test.YthjgbnbibebigaaGreatProg
import Derived.Test.YthjgbnbibebigaaGreatLedgerFleetM7
noncomputable section
set_option linter.unusedVariables false
set_option linter.unusedSimpArgs false
open Go Go.AX Go.Proofs
set_option maxRecDepth 100000
set_option linter.unusedVariables false
set_option linter.unusedSimpArgs false
open Go.IntKind (i64 u64)
open List renaming map->U4,replicate->U5
open Go.AX.AV renaming lst->Va
open Go.Proofs.Tryz renaming prog->Vb
namespace Go.Proofs.YthjgbnbibebigaaGreat
theorem in_uniq{n:Aa}(hv:Aq n){c:Int}{i j:Nat}{s t:Av}(hs:n.ss[i]?=some s)(ht:n.ss[j]?=some t)(h1:s.b<=c/\c<s.b+s.k)(h2:t.b<=c/\c<t.b+t.k):i=j:=by
 have e1:=hv.sb hs;have e2:=hv.sb ht;have l1:=(Uh.1 hs).1;have l2:=(Uh.1 ht).1;have b1:=CK hs;have b2:=CK ht;rcases Nat.lt_trichotomy i j with h | h | h
 .have:=Kc hv (i:=i+1) (j:=j) h (by omega);omega
 .exact h
 .have:=Kc hv (i:=j+1) (j:=i) h (by omega);omega
theorem fnd_hit{p:Nat->Bool}:∀(k i:Nat) {x:Nat},fnd p i k=some x->p x=true/\x<i+k:=by
 intro k;induction k with
 | zero=>intro i x h;cases h
 | succ k ih=>
  intro i x h;unfold fnd at h;cases hp:p i with
  | true=>rw[hp] at h;cases h;exact⟨hp,by omega⟩
  | false=>rw[hp] at h;have:=ih (i+1) h;exact⟨this.1,by omega⟩
theorem plI_dep{n:Aa}(hv:Aq n){i:Nat}{c:Int}(hc:n.rs[i]?=some c) : -1<=plI n c/\(0<=plI n c->dpB n (plI n c)=true):=by
 unfold plI;cases h:plF n c with
 | none=>exact⟨by decide,fun h=>absurd h (by decide)⟩
 | some x=>
  refine⟨by show -1<=(x:Int);omega,fun _=>?_⟩;unfold plF at h;obtain⟨h1,h2⟩:=fnd_hit _ _ h;unfold plB at h1;cases hx:n.ss[x]? with
  | none=>rw[hx] at h1;cases h1
  | some s=>rw[hx] at h1;have h1:inP c s=true:=h1;unfold inP at h1;rw[Un,decide_eq_true_eq,decide_eq_true_eq] at h1;obtain⟨t,ht,hd,h3⟩:=(hv.rob i c hc).1;obtain⟨j,hj⟩:=List.getElem?_of_mem (List.mem_of_mem_take ht);obtain rfl:=in_uniq hv hx hj h1 h3;rw[hx] at hj;cases hj;exact Oh (p:=(x:Int)) (by omega) (by rw[Uo];exact hx) hd
theorem rob_rng{n:Aa}(hv:Aq n){i:Nat}{c:Int}(hc:n.rs[i]?=some c) : -1000<=c/\c<=1000:=by obtain⟨t,ht,hd,h3⟩:=(hv.rob i c hc).1;obtain⟨j,hj⟩:=List.getElem?_of_mem (List.mem_of_mem_take ht);have:=hv.sb hj;omega
def neU(n:Aa):List UsD:=n.rs.map fun c=>⟨1,false,plI n c⟩
theorem neV{n:Aa}(hv:Aq n)(hr:RwV n):LgV n ⟨(AN n).cl,(AN n).bw,(AN n).pe,[],neU n⟩:=by refine⟨hv,hr,newS_ok n,by show 0<=32;omega,fun t ht=>(by cases ht),by show(neU n).length<=8;unfold neU;rw[Ui];exact hv.nr,fun u hu=>?_⟩;unfold neU at hu;obtain⟨c,hc,rfl⟩:=UI.1 hu;obtain⟨i,hi⟩:=List.getElem?_of_mem hc;have:=plI_dep hv hi;exact⟨by show(0:Int)<=1;omega,by show(1:Int)<=3;omega,by show -2<=plI n c;omega,this.2⟩
theorem ne6_c(n:Aa)(hv:Aq n)(hr:RwV n):CT Vb 21 [] [Ai n] [] (.tup [lgA ⟨(AN n).cl,(AN n).bw,(AN n).pe,[],neU n⟩,.int .i64 0]):=by
 have hnr:=hv.nr;have e0:nsE n=0:=by unfold nsE;rw[Ud (BD.2 hv)]
 have e1:nsS n=AN n:=by unfold nsS;rw[Ud (BD.2 hv)];rfl
 refine CT.wkT (cs:=[.lst (boL (AN n).cl),lI (AN n).bw,lI (AN n).pe,.nils,.lst ((neU n).map usA)]) (ne6_ct n ([],_) ?_);unfold N3;rw[Ab hr,e0,Ad (by decide)];have key:∀(d i:Nat),i+d=n.rs.length->Ac (LM n) (some (.inl (.l0 (i:Int) ((n.rs.take i).map fun c=>⟨1,false,plI n c⟩)))) (([],.tup [.agg [.lst (boL (AN n).cl),lI (AN n).bw,lI (AN n).pe,.nils,.lst ((neU n).map usA)],.int .i64 0]):Ret):=by
  intro d;induction d with
  | zero=>
   intro i hi;obtain rfl:i=n.rs.length:=by omega
   refine .to (show LM n (.l0 (n.rs.length:Nat) _)=Gh n (n.rs.length:Nat) _ from rfl) ?_;unfold Gh;rw[AO,List.take_length,e1];exact .ret _
  | succ d ih=>
   intro i hi;have hx:n.rs[i]?=some n.rs[i]:=Uf (by omega);have e:(n.rs.take (i+1)).map (fun c=>(⟨1,false,plI n c⟩:UsD))=(n.rs.take i).map (fun c=>(⟨1,false,plI n c⟩:UsD))++[⟨1,false,plI n n.rs[i]⟩]:=by rw[List.take_add_one,hx,Us];rfl
   have:=ih (i+1) (by omega);rw[e] at this;have hl2:(U4 usA ((n.rs.take i).map (fun c=>(⟨1,false,plI n c⟩:UsD)))).length<=i:=by simp only[Ui,UF];omega
   refine .to (show LM n (.l0 (i:Nat) _)=Gh n (i:Nat) _ from rfl) ?_;unfold Gh;rw[AS hx,Ab hv,Ab (rob_rng hv hx),Ab (by simp only[UQ];omega),Ab (by simp only[UQ];omega),Bk i (by omega)];exact this
 exact key n.rs.length 0 (by omega)
def stnR(L:List Int)(p:ByteArray×Nat):Ret:=([some (AE L p.2)],.str p.1)
theorem stn_ex(L:List Int)(kk:Nat)(n:Aa)(hv:Aq n)(h3:3<=n.ss.length)(hk:kk<=100000):∃p:{p:ByteArray×Nat // p.2<=kk+3/\∃s∈n.ss,s.nm=p.1},Ac emT (KS L kk n) (stnR L p.1):=by
 have hn:=hv.ns;have r1:=Bz L kk n.ss.length (by omega) (by omega);have r2:=Bz L (kk+1+1) 2 (by omega) (by omega);unfold KS;simp only[iN,Ui];refine Ah (by omega) (Ah r1.1 (AZ (by omega) fun x hx=>Am (fun _=>Ah (by omega) (Am (fun _=>Ah (by omega) ?_) fun _=>?_)) fun _=>?_))
 .rw[CX (by omega) (by omega)];exact Ah (by omega) (AZ (by omega) fun y hy=>⟨⟨(y.nm,kk+1+1+1),by show kk+1+1+1<=kk+3;omega,y,Uj hy,rfl⟩,.ret _⟩)
 .exact⟨⟨(x.nm,kk+1+1),by show kk+1+1<=kk+3;omega,x,Uj hx,rfl⟩,.ret _⟩
 .exact⟨⟨(x.nm,kk+1),by show kk+1<=kk+3;omega,x,Uj hx,rfl⟩,.ret _⟩
theorem J6(L:List Int)(kk:Nat)(n:Aa):∃p:ByteArray×Nat,Aq n->3<=n.ss.length->kk<=100000->(p.2<=kk+3/\∃s∈n.ss,s.nm=p.1)/\CT Vb 40 [some (AE L kk)] [.ptr 0 0 0,Ai n] [some (AE L p.2)] (.str p.1):=by
 by_cases h:Aq n/\3<=n.ss.length/\kk<=100000
 .obtain⟨p,hp⟩:=stn_ex L kk n h.1 h.2.1 h.2.2;exact⟨p.1,fun _ _ _=>⟨p.2,stn_ct L kk n _ hp⟩⟩
 .exact⟨(⟨#[]⟩,0),fun a b c=>absurd ⟨a,b,c⟩ h⟩
@[irreducible] def AK(L:List Int)(kk:Nat)(n:Aa):ByteArray:=(Classical.choose (J6 L kk n)).1
@[irreducible] def AJ(L:List Int)(kk:Nat)(n:Aa):Nat:=(Classical.choose (J6 L kk n)).2
theorem stn_s{L:List Int}{kk:Nat}{n:Aa}(hv:Aq n)(h3:3<=n.ss.length)(hk:kk<=100000):AJ L kk n<=kk+3/\∃s∈n.ss,s.nm=AK L kk n:=by unfold AK AJ;exact(UP (J6 L kk n) hv h3 hk).1
theorem Ck(L:List Int)(kk:Nat)(n:Aa)(hv:Aq n)(h3:3<=n.ss.length)(hk:kk<=100000):CT Vb 40 [some (AE L kk)] [.ptr 0 0 0,Ai n] [some (AE L (AJ L kk n))] (.str (AK L kk n)):=by unfold AK AJ;exact(UP (J6 L kk n) hv h3 hk).2
def fctR(L:List Int)(p:Nat×Int×Int×Int×Int):Ret:=([some (AE L p.1)],enA p.2.1 p.2.2.1 p.2.2.2.1 p.2.2.2.2)
theorem fct_ex(L:List Int)(kk:Nat)(n:Aa)(cl:List Bool)(bw pe:List Int)(tk:List TsD)(us:List UsD)(hv:Aq n)(hk:kk<=100000):∃p:{p:Nat×Int×Int×Int×Int // p.1<=kk+6},Ac emT (Ku L kk n cl bw pe tk us) (fctR L p.1):=by
 unfold Ku
 repeat' (first
  | exact⟨⟨(_,_,_,_,_),by show _<=kk+6;omega⟩,.ret _⟩
  | refine Ah (by first | exact hv | omega) ?_
  | refine Am (fun h=>?_) (fun h=>?_))
theorem M3(L:List Int)(kk:Nat)(n:Aa)(cl:List Bool)(bw pe:List Int)(tk:List TsD)(us:List UsD):∃p:Nat×Int×Int×Int×Int,Aq n->kk<=100000->p.1<=kk+6/\CT Vb 24 [some (AE L kk)] [.ptr 0 0 0,Ai n,lgA ⟨cl,bw,pe,tk,us⟩] [some (AE L p.1)] (enA p.2.1 p.2.2.1 p.2.2.2.1 p.2.2.2.2):=by
 by_cases h:Aq n/\kk<=100000
 .obtain⟨p,hp⟩:=fct_ex L kk n cl bw pe tk us h.1 h.2;exact⟨p.1,fun _ _=>⟨p.2,fct_ct L kk n cl bw pe tk us _ hp⟩⟩
 .exact⟨(0,0,0,0,0),fun a b=>absurd ⟨a,b⟩ h⟩
@[irreducible] def F5(L:List Int)(kk:Nat)(n:Aa)(cl:List Bool)(bw pe:List Int)(tk:List TsD)(us:List UsD):Nat×Int×Int×Int×Int:=Classical.choose (M3 L kk n cl bw pe tk us)
@[irreducible] def Gm(L:List Int)(kk:Nat)(n:Aa)(cl:List Bool)(bw pe:List Int)(tk:List TsD)(us:List UsD):Nat:=(F5 L kk n cl bw pe tk us).1
@[irreducible] def DI(L:List Int)(kk:Nat)(n:Aa)(cl:List Bool)(bw pe:List Int)(tk:List TsD)(us:List UsD):Int:=(F5 L kk n cl bw pe tk us).2.1
@[irreducible] def Dz(L:List Int)(kk:Nat)(n:Aa)(cl:List Bool)(bw pe:List Int)(tk:List TsD)(us:List UsD):Int:=(F5 L kk n cl bw pe tk us).2.2.1
@[irreducible] def DW(L:List Int)(kk:Nat)(n:Aa)(cl:List Bool)(bw pe:List Int)(tk:List TsD)(us:List UsD):Int:=(F5 L kk n cl bw pe tk us).2.2.2.1
@[irreducible] def DE(L:List Int)(kk:Nat)(n:Aa)(cl:List Bool)(bw pe:List Int)(tk:List TsD)(us:List UsD):Int:=(F5 L kk n cl bw pe tk us).2.2.2.2
theorem fct_s{L:List Int}{kk:Nat}{n:Aa}{cl:List Bool}{bw pe:List Int}{tk:List TsD}{us:List UsD}(hv:Aq n)(hk:kk<=100000):Gm L kk n cl bw pe tk us<=kk+6:=by unfold Gm F5;exact(UP (M3 L kk n cl bw pe tk us) hv hk).1
theorem fct_c(L:List Int)(kk:Nat)(n:Aa)(cl:List Bool)(bw pe:List Int)(tk:List TsD)(us:List UsD)(hv:Aq n)(hk:kk<=100000):CT Vb 24 [some (AE L kk)] [.ptr 0 0 0,Ai n,lgA ⟨cl,bw,pe,tk,us⟩] [some (AE L (Gm L kk n cl bw pe tk us))] (enA (DI L kk n cl bw pe tk us) (Dz L kk n cl bw pe tk us) (DW L kk n cl bw pe tk us) (DE L kk n cl bw pe tk us)):=by unfold Gm DI Dz DW DE F5;exact(UP (M3 L kk n cl bw pe tk us) hv hk).2
@[irreducible] def Dv(x:Int):ByteArray:=AM x.toNat
theorem N6(x:Int)(h:0<=x/\x<100):CT Vb 41 [] [.int .i64 x] [] (.str (Dv x)):=by have:=Jt x.toNat (by omega);unfold Dv;rw[show iN x.toNat=x by simp only[iN];omega] at this;exact this
end Go.Proofs.YthjgbnbibebigaaGreat
set_option maxHeartbeats 4000000
namespace Go.Proofs.YthjgbnbibebigaaGreat
def LF(L:List Int)(kk:Nat)(n:Aa):Option (Empty⊕Ret):=gu (kk<9223372036854775807) <|gu (0<=Ae L kk (iN (U4 bA n.bs).length)) <|el (n.bs) ((Ae L kk (iN (U4 bA n.bs).length)).toNat) fun(x13:AC)=>gu (kk+1<9223372036854775807) <|br (Ae L (kk+1) 16==0) (gu (Aq n) <|gu (3<=n.ss.length) <|gu (kk+1+1<=100000) <|gu ((5+(AK L (kk+1+1) n).size).le 9223372036854775807) <|gu (((ByteArray.mk #[116,97,115,107,32]++AK L (kk+1+1) n).size+1).le 9223372036854775807) <|gu (AJ L (kk+1+1) n<=100000) <|gu (((ByteArray.mk #[116,97,115,107,32]++AK L (kk+1+1) n++ByteArray.mk #[32]).size+(AK L (AJ L (kk+1+1) n) n).size).le 9223372036854775807) <|some (.inr ([some (bK [AV.agg [Va (U4 iV L),iV (iN (AJ L (AJ L (kk+1+1) n) n))]] 2)],AV.str (ByteArray.mk #[116,97,115,107,32]++AK L (kk+1+1) n++ByteArray.mk #[32]++AK L (AJ L (kk+1+1) n) n)))) (br (Ae L (kk+1) 16==1) (gu (Aq n) <|gu (3<=n.ss.length) <|gu (kk+1+1<=100000) <|gu ((5+(AK L (kk+1+1) n).size).le 9223372036854775807) <|gu (((ByteArray.mk #[116,97,115,107,32]++AK L (kk+1+1) n).size+1).le 9223372036854775807) <|gu (AJ L (kk+1+1) n<=100000) <|gu (((ByteArray.mk #[116,97,115,107,32]++AK L (kk+1+1) n++ByteArray.mk #[32]).size+(AK L (AJ L (kk+1+1) n) n).size).le 9223372036854775807) <|some (.inr ([some (bK [AV.agg [Va (U4 iV L),iV (iN (AJ L (AJ L (kk+1+1) n) n))]] 2)],AV.str (ByteArray.mk #[116,97,115,107,32]++AK L (kk+1+1) n++ByteArray.mk #[32]++AK L (AJ L (kk+1+1) n) n)))) (br (Ae L (kk+1) 16==2) (gu (Aq n) <|gu (3<=n.ss.length) <|gu (kk+1+1<=100000) <|gu ((5+(AK L (kk+1+1) n).size).le 9223372036854775807) <|gu (((ByteArray.mk #[116,97,115,107,32]++AK L (kk+1+1) n).size+1).le 9223372036854775807) <|gu (AJ L (kk+1+1) n<=100000) <|gu (((ByteArray.mk #[116,97,115,107,32]++AK L (kk+1+1) n++ByteArray.mk #[32]).size+(AK L (AJ L (kk+1+1) n) n).size).le 9223372036854775807) <|some (.inr ([some (bK [AV.agg [Va (U4 iV L),iV (iN (AJ L (AJ L (kk+1+1) n) n))]] 2)],AV.str (ByteArray.mk #[116,97,115,107,32]++AK L (kk+1+1) n++ByteArray.mk #[32]++AK L (AJ L (kk+1+1) n) n)))) (br (Ae L (kk+1) 16==3) (gu (Aq n) <|gu (3<=n.ss.length) <|gu (kk+1+1<=100000) <|gu ((5+(AK L (kk+1+1) n).size).le 9223372036854775807) <|gu (((ByteArray.mk #[116,97,115,107,32]++AK L (kk+1+1) n).size+1).le 9223372036854775807) <|gu (AJ L (kk+1+1) n<=100000) <|gu (((ByteArray.mk #[116,97,115,107,32]++AK L (kk+1+1) n++ByteArray.mk #[32]).size+(AK L (AJ L (kk+1+1) n) n).size).le 9223372036854775807) <|some (.inr ([some (bK [AV.agg [Va (U4 iV L),iV (iN (AJ L (AJ L (kk+1+1) n) n))]] 2)],AV.str (ByteArray.mk #[116,97,115,107,32]++AK L (kk+1+1) n++ByteArray.mk #[32]++AK L (AJ L (kk+1+1) n) n)))) (br (Ae L (kk+1) 16==4) (gu (Aq n) <|gu (3<=n.ss.length) <|gu (kk+1+1<=100000) <|gu ((5+(AK L (kk+1+1) n).size).le 9223372036854775807) <|gu (((ByteArray.mk #[116,97,115,107,32]++AK L (kk+1+1) n).size+1).le 9223372036854775807) <|gu (AJ L (kk+1+1) n<=100000) <|gu (((ByteArray.mk #[116,97,115,107,32]++AK L (kk+1+1) n++ByteArray.mk #[32]).size+(AK L (AJ L (kk+1+1) n) n).size).le 9223372036854775807) <|some (.inr ([some (bK [AV.agg [Va (U4 iV L),iV (iN (AJ L (AJ L (kk+1+1) n) n))]] 2)],AV.str (ByteArray.mk #[116,97,115,107,32]++AK L (kk+1+1) n++ByteArray.mk #[32]++AK L (AJ L (kk+1+1) n) n)))) (br (Ae L (kk+1) 16==5) (gu (Aq n) <|gu (3<=n.ss.length) <|gu (kk+1+1<=100000) <|gu ((5+(AK L (kk+1+1) n).size).le 9223372036854775807) <|gu (((ByteArray.mk #[116,97,115,107,32]++AK L (kk+1+1) n).size+1).le 9223372036854775807) <|gu (AJ L (kk+1+1) n<=100000) <|gu (((ByteArray.mk #[116,97,115,107,32]++AK L (kk+1+1) n++ByteArray.mk #[32]).size+(AK L (AJ L (kk+1+1) n) n).size).le 9223372036854775807) <|some (.inr ([some (bK [AV.agg [Va (U4 iV L),iV (iN (AJ L (AJ L (kk+1+1) n) n))]] 2)],AV.str (ByteArray.mk #[116,97,115,107,32]++AK L (kk+1+1) n++ByteArray.mk #[32]++AK L (AJ L (kk+1+1) n) n)))) (br (Ae L (kk+1) 16==6) (gu (kk+1+1<9223372036854775807) <|gu (0<=Ae L (kk+1+1) 6/\Ae L (kk+1+1) 6<100) <|gu ((7+(Dv (Ae L (kk+1+1) 6)).size).le 9223372036854775807) <|some (.inr ([some (bK [AV.agg [Va (U4 iV L),iV (iN (kk+1+1+1))]] 2)],AV.str (ByteArray.mk #[99,97,110,99,101,108,32]++Dv (Ae L (kk+1+1) 6))))) (br (Ae L (kk+1) 16==7) (gu ((6+x13.nm.size).le 9223372036854775807) <|some (.inr ([some (bK [AV.agg [Va (U4 iV L),iV (iN (kk+1+1))]] 2)],AV.str (ByteArray.mk #[99,108,111,115,101,32]++x13.nm)))) (br (Ae L (kk+1) 16==8) (gu (kk+1+1<9223372036854775807) <|br (Ae L (kk+1+1) 2==0) (gu (Aq n) <|gu (3<=n.ss.length) <|gu (kk+1+1+1<=100000) <|gu ((5+(AK L (kk+1+1+1) n).size).le 9223372036854775807) <|some (.inr ([some (bK [AV.agg [Va (U4 iV L),iV (iN (AJ L (kk+1+1+1) n))]] 2)],AV.str (ByteArray.mk #[111,112,101,110,32]++AK L (kk+1+1+1) n)))) (gu ((5+x13.nm.size).le 9223372036854775807) <|some (.inr ([some (bK [AV.agg [Va (U4 iV L),iV (iN (kk+1+1+1))]] 2)],AV.str (ByteArray.mk #[111,112,101,110,32]++x13.nm))))) (br (Ae L (kk+1) 16==9) (gu (kk+1+1<9223372036854775807) <|gu (0<=Ae L (kk+1+1) (iN (U4 sA n.ss).length)) <|el (n.ss) ((Ae L (kk+1+1) (iN (U4 sA n.ss).length)).toNat) fun(x64:Av)=>gu ((4+x64.nm.size).le 9223372036854775807) <|some (.inr ([some (bK [AV.agg [Va (U4 iV L),iV (iN (kk+1+1+1))]] 2)],AV.str (ByteArray.mk #[97,100,100,32]++x64.nm)))) (br (Ae L (kk+1) 16==10) (gu (kk+1+1<9223372036854775807) <|gu (0<=Ae L (kk+1+1) 4/\Ae L (kk+1+1) 4<100) <|gu ((7+(Dv (Ae L (kk+1+1) 4)).size).le 9223372036854775807) <|some (.inr ([some (bK [AV.agg [Va (U4 iV L),iV (iN (kk+1+1+1))]] 2)],AV.str (ByteArray.mk #[114,101,109,111,118,101,32]++Dv (Ae L (kk+1+1) 4))))) (br (Ae L (kk+1) 16==11) (gu (kk+1+1<9223372036854775807) <|gu (0<=Ae L (kk+1+1) 6/\Ae L (kk+1+1) 6<100) <|gu ((7+(Dv (Ae L (kk+1+1) 6)).size).le 9223372036854775807) <|some (.inr ([some (bK [AV.agg [Va (U4 iV L),iV (iN (kk+1+1+1))]] 2)],AV.str (ByteArray.mk #[115,116,97,116,117,115,32]++Dv (Ae L (kk+1+1) 6))))) (br (Ae L (kk+1) 16==12) (gu ((6+x13.nm.size).le 9223372036854775807) <|some (.inr ([some (bK [AV.agg [Va (U4 iV L),iV (iN (kk+1+1))]] 2)],AV.str (ByteArray.mk #[98,108,111,99,107,32]++x13.nm)))) (br (Ae L (kk+1) 16==13) (some (.inr ([some (bK [AV.agg [Va (U4 iV L),iV (iN (kk+1+1))]] 2)],AV.str (ByteArray.mk #[102,108,101,101,116])))) (br (Ae L (kk+1) 16==14) (some (.inr ([some (bK [AV.agg [Va (U4 iV L),iV (iN (kk+1+1))]] 2)],AV.str (ByteArray.mk #[113,117,101,117,101])))) (gu (Aq n) <|gu (3<=n.ss.length) <|gu (kk+1+1<=100000) <|gu ((6+(AK L (kk+1+1) n).size).le 9223372036854775807) <|some (.inr ([some (bK [AV.agg [Va (U4 iV L),iV (iN (AJ L (kk+1+1) n))]] 2)],AV.str (ByteArray.mk #[99,108,111,115,101,32]++AK L (kk+1+1) n))))))))))))))))))
theorem ord_ct(L:List Int)(kk:Nat)(n:Aa)(r:Ret)(h:Ac emT (LF L kk n) r):CT Vb 11 ([some (AE L kk)]) ([.ptr 0 0 0,Ai n]) r.1 r.2:=
 CT.mach (fn:=Tryz.f11) (c:=zB Tryz.f11) (S:=emS) (hd:=emH) Tryz.func11 (by kernel_rfl) (nL rfl)
  (fun s o ho=>match s,ho with
   | x,_=>x.elim)
  (fun o ho=>Scr.ok (X:=LF L kk n) ho mix (
 .rn 0 [] [] [] [] (al (u2 t2)) <|
 .gu fun a0=>
 .gu fun a1=>
 .el fun x13 a2=>
 have c0:=AF (L) (kk) (iN (U4 bA n.bs).length) a0;
 .rn 0 [] [(13,bA x13)] [(12,hK c0 [0] [])] [] (al (u2 (u2 (u2 (u2 (u2 (u2 (aj (k5 (al (c0))) (aj (k2 (aj a1 (Af (f:=bA) a2))) (u2 (u2 s2))))))))))) <|
 .gu fun a3=>
 have c1:=AF (L) (kk+1) (16) a3;
 .rn 1 [] [] [(17,hK c1 [0] [])] [] (aj (u2 (al (ak (k3 (al (c1)))))) (al (u2 s2))) <|
 .br (fun a4=>
 .gu fun a5=>
 .gu fun a6=>
 .gu fun a7=>
 .gu fun a8=>
 .gu fun a9=>
 .gu fun a10=>
 .gu fun a11=>
 have c2:=Ck (L) (kk+1+1) n a5 a6 a7;
 have c3:=Ck (L) (AJ L (kk+1+1) n) n a5 a6 a10;
 .rt [37] [] [(27,hK c2 [0] []),(32,hK c3 [0] [])] [] [0] [] (aj (aj a4 (ak (al (u2 (u2 (aj (k3 (aj t9 (ak (al (c2))))) (aj (ak a8) (aj (ak a9) (u2 (u2 (aj (k3 (aj t9 (ak (al (c3))))) (aj (k2 a11) s2)))))))))))) t3))
 (fun a4=>
 .rn 0 [36] [] [] [] (aj a4 (al (u2 s2))) <|
 .br (fun a5=>
  .gu fun a6=>
  .gu fun a7=>
  .gu fun a8=>
  .gu fun a9=>
  .gu fun a10=>
  .gu fun a11=>
  .gu fun a12=>
  have c2:=Ck (L) (kk+1+1) n a6 a7 a8;
  have c3:=Ck (L) (AJ L (kk+1+1) n) n a6 a7 a11;
  .rt [37] [] [(27,hK c2 [0] []),(32,hK c3 [0] [])] [] [0] [] (aj (aj a5 (ak (al (u2 (u2 (aj (k3 (aj t9 (ak (al (c2))))) (aj (ak a9) (aj (ak a10) (u2 (u2 (aj (k3 (aj t9 (ak (al (c3))))) (aj (k2 a12) s2)))))))))))) t3))
 (fun a5=>
  .rn 0 [36] [] [] [] (aj a5 (al (u2 s2))) <|
  .br (fun a6=>
  .gu fun a7=>
  .gu fun a8=>
  .gu fun a9=>
  .gu fun a10=>
  .gu fun a11=>
  .gu fun a12=>
  .gu fun a13=>
  have c2:=Ck (L) (kk+1+1) n a7 a8 a9;
  have c3:=Ck (L) (AJ L (kk+1+1) n) n a7 a8 a12;
  .rt [37] [] [(27,hK c2 [0] []),(32,hK c3 [0] [])] [] [0] [] (aj (aj a6 (ak (al (u2 (u2 (aj (k3 (aj t9 (ak (al (c2))))) (aj (ak a10) (aj (ak a11) (u2 (u2 (aj (k3 (aj t9 (ak (al (c3))))) (aj (k2 a13) s2)))))))))))) t3))
  (fun a6=>
  .rn 0 [36] [] [] [] (aj a6 (al (u2 s2))) <|
  .br (fun a7=>
   .gu fun a8=>
   .gu fun a9=>
   .gu fun a10=>
   .gu fun a11=>
   .gu fun a12=>
   .gu fun a13=>
   .gu fun a14=>
   have c2:=Ck (L) (kk+1+1) n a8 a9 a10;
   have c3:=Ck (L) (AJ L (kk+1+1) n) n a8 a9 a13;
   .rt [37] [] [(27,hK c2 [0] []),(32,hK c3 [0] [])] [] [0] [] (aj (aj a7 (ak (al (u2 (u2 (aj (k3 (aj t9 (ak (al (c2))))) (aj (ak a11) (aj (ak a12) (u2 (u2 (aj (k3 (aj t9 (ak (al (c3))))) (aj (k2 a14) s2)))))))))))) t3))
  (fun a7=>
   .rn 0 [36] [] [] [] (aj a7 (al (u2 s2))) <|
   .br (fun a8=>
   .gu fun a9=>
   .gu fun a10=>
   .gu fun a11=>
   .gu fun a12=>
   .gu fun a13=>
   .gu fun a14=>
   .gu fun a15=>
   have c2:=Ck (L) (kk+1+1) n a9 a10 a11;
   have c3:=Ck (L) (AJ L (kk+1+1) n) n a9 a10 a14;
   .rt [37] [] [(27,hK c2 [0] []),(32,hK c3 [0] [])] [] [0] [] (aj (aj a8 (ak (al (u2 (u2 (aj (k3 (aj t9 (ak (al (c2))))) (aj (ak a12) (aj (ak a13) (u2 (u2 (aj (k3 (aj t9 (ak (al (c3))))) (aj (k2 a15) s2)))))))))))) t3))
   (fun a8=>
   .rn 0 [36] [] [] [] (aj a8 (al (u2 s2))) <|
   .br (fun a9=>
    .gu fun a10=>
    .gu fun a11=>
    .gu fun a12=>
    .gu fun a13=>
    .gu fun a14=>
    .gu fun a15=>
    .gu fun a16=>
    have c2:=Ck (L) (kk+1+1) n a10 a11 a12;
    have c3:=Ck (L) (AJ L (kk+1+1) n) n a10 a11 a15;
    .rt [37] [] [(27,hK c2 [0] []),(32,hK c3 [0] [])] [] [0] [] (aj (aj a9 (al (u2 (u2 (aj (k3 (aj t9 (ak (al (c2))))) (aj (ak a13) (aj (ak a14) (u2 (u2 (aj (k3 (aj t9 (ak (al (c3))))) (aj (k2 a16) s2))))))))))) t3))
   (fun a9=>
    .rn 0 [36] [] [] [] (aj a9 (al (u2 s2))) <|
    .br (fun a10=>
    .gu fun a11=>
    .gu fun a12=>
    .gu fun a13=>
    have c2:=AF (L) (kk+1+1) (6) a11;
    have c3:=N6 (Ae L (kk+1+1) 6) a12;
    .rt [69] [] [(37,hK c2 [0] []),(38,hK c3 [] [])] [] [0] [] (aj (aj a10 (al (u2 (aj (ak (k3 (al (c2)))) (aj (k2 (al (c3))) (aj (ak a13) s2)))))) t3))
    (fun a10=>
    .rn 0 [68] [] [] [] (aj a10 (al (u2 s2))) <|
    .br (fun a11=>
     .gu fun a12=>
     .rt [81] [] [] [] [0] [] (aj (aj a11 (al (u2 (aj (ak a12) s2)))) t3))
    (fun a11=>
     .rn 0 [80] [] [] [] (aj a11 (al (u2 s2))) <|
     .br (fun a12=>
     .gu fun a13=>
     have c2:=AF (L) (kk+1+1) (2) a13;
     .rn 0 [89] [] [(47,hK c2 [0] [])] [] (aj a12 (al (u2 (aj (ak (k3 (al (c2)))) s2)))) <|
     .br (fun a14=>
      .gu fun a15=>
      .gu fun a16=>
      .gu fun a17=>
      .gu fun a18=>
      have c3:=Ck (L) (kk+1+1+1) n a15 a16 a17;
      .rt [97] [] [(51,hK c3 [0] [])] [] [0] [] (aj (aj a14 (al (u2 (u2 (aj (k3 (aj t9 (ak (al (c3))))) (aj (ak a18) s2)))))) t3))
     (fun a14=>
      .gu fun a15=>
      .rt [96] [] [] [] [0] [] (aj (aj a14 (al (u2 (aj (ak a15) s2)))) t3)))
     (fun a12=>
     .rn 0 [88] [] [] [] (aj a12 (al (u2 s2))) <|
     .br (fun a13=>
      .gu fun a14=>
      .gu fun a15=>
      .el fun x64 a16=>
      .gu fun a17=>
      have c2:=AF (L) (kk+1+1) (iN (U4 sA n.ss).length) a14;
      .rt [111] [(64,sA x64)] [(63,hK c2 [0] [])] [] [0] [] (aj (aj a13 (al (u2 (u2 (u2 (u2 (u2 (u2 (aj (k5 (al (c2))) (aj (k2 (aj a15 (Af (f:=sA) a16))) (u2 (u2 (aj (ak a17) s2))))))))))))) t3))
     (fun a13=>
      .rn 0 [110] [] [] [] (aj a13 (al (u2 s2))) <|
      .br (fun a14=>
      .gu fun a15=>
      .gu fun a16=>
      .gu fun a17=>
      have c2:=AF (L) (kk+1+1) (4) a15;
      have c3:=N6 (Ae L (kk+1+1) 4) a16;
      .rt [137] [] [(71,hK c2 [0] []),(72,hK c3 [] [])] [] [0] [] (aj (aj a14 (al (u2 (aj (ak (k3 (al (c2)))) (aj (k2 (al (c3))) (aj (ak a17) s2)))))) t3))
      (fun a14=>
      .rn 0 [136] [] [] [] (aj a14 (al (u2 s2))) <|
      .br (fun a15=>
       .gu fun a16=>
       .gu fun a17=>
       .gu fun a18=>
       have c2:=AF (L) (kk+1+1) (6) a16;
       have c3:=N6 (Ae L (kk+1+1) 6) a17;
       .rt [149] [] [(77,hK c2 [0] []),(78,hK c3 [] [])] [] [0] [] (aj (aj a15 (al (u2 (aj (ak (k3 (al (c2)))) (aj (k2 (al (c3))) (aj (ak a18) s2)))))) t3))
      (fun a15=>
       .rn 0 [148] [] [] [] (aj a15 (al (u2 s2))) <|
       .br (fun a16=>
       .gu fun a17=>
       .rt [161] [] [] [] [0] [] (aj (aj a16 (al (u2 (aj (ak a17) s2)))) t3))
       (fun a16=>
       .rn 0 [160] [] [] [] (aj a16 (al (u2 s2))) <|
       .br (fun a17=>
        .rt [169] [] [] [] [0] [] (aj (aj a17 s2) t3))
       (fun a17=>
        .rn 0 [168] [] [] [] (aj a17 (al (u2 s2))) <|
        .br (fun a18=>
        .rt [173] [] [] [] [0] [] (aj (aj a18 s2) t3))
        (fun a18=>
        .gu fun a19=>
        .gu fun a20=>
        .gu fun a21=>
        .gu fun a22=>
        have c2:=Ck (L) (kk+1+1) n a19 a20 a21;
        .rt [172] [] [(90,hK c2 [0] [])] [] [0] [] (aj (aj a18 (al (u2 (u2 (aj (k3 (aj t9 (ak (al (c2))))) (aj (ak a22) s2)))))) t3))))))))))))))))) (by kernel_rfl)) h
abbrev CmK:={c:CmD // 0<=c.k/\c.k<=10}
def cmR(c:CmK):Ret:=([],cmA c.1)
theorem PI(q:ByteArray)(v0:LnD)(v1:Int)(v2:Bool)(v4:Int)(h4:0<=v4/\v4<=10)(h1:0<=v1/\v1<=2)(hl:(v0.f.length:Int)=1+v1+(if v2=true then 1 else 0))(hs:∀s∈v0.f,s.size<=6000):∀(d i:Nat),(i:Int)+d=v1+1->∃c:CmK,Ac (I5 q) (some (.inl (.l0 v0 v1 v2 (i:Int) v4))) (cmR c):=by
 have hlen:1+v1<=(v0.f.length:Int):=by split at hl<;>omega
 have hlen2:v2=true->2<=v0.f.length:=fun h=>by rw[Ud h] at hl;omega
 have hsz:∀{i:Nat} {y:ByteArray},v0.f[i]?=some y->y.size<=1000000:=fun hy=>by have:=hs _ (Uj hy);omega
 intro d
 induction d with
 | zero=>
  intro i hi
  refine Ay (show I5 q (.l0 v0 v1 v2 (i:Int) v4)=GR q v0 v1 v2 i v4 from rfl) ?_
  unfold GR
  rw[Ad (Uk (by omega))]
  repeat' (first
   | first | exact⟨⟨⟨0,_,_,_⟩,by decide⟩,.ret _⟩ | exact⟨⟨⟨v4,_,_,_⟩,h4⟩,.ret _⟩
   | refine Ah (hsz ‹_›) ?_
   | refine Am (fun h=>?_) (fun h=>?_)
   | refine AZ (by first | (have:=hlen2 ‹_›;show 1<_;omega) | (simp only[decide_eq_true_eq] at *;first | (show 1<_;omega) | (show 2<_;omega))) (fun x hx=>?_))
 | succ d ih=>
  intro i hi
  refine Ay (show I5 q (.l0 v0 v1 v2 (i:Int) v4)=GR q v0 v1 v2 i v4 from rfl) ?_
  have nx:=ih (i+1) (by omega)
  rw[<-Bk i (by omega)] at nx
  unfold GR
  rw[Ag (Ul (by omega))]
  exact Ah (by omega) (AZ (by omega) fun x hx=>Am (fun _=>⟨⟨⟨0,_,_,_⟩,by decide⟩,.ret _⟩) fun _=>nx)
theorem par_ex(q:ByteArray):∃c:CmK,Ac (I5 q) (K1 q) (cmR c):=by
 have hL:=(P2 q).1;unfold K1;refine Am (fun _=>⟨⟨⟨0,_,_,_⟩,by decide⟩,.ret _⟩) fun _=>Am (fun _=>⟨⟨⟨0,_,_,_⟩,by decide⟩,.ret _⟩) fun hn=>?_
 have hn:((Fz q).length:Int)=1:=by simpa [iN] using hn
 refine AZ (by show 0<_;omega) fun x hx=>?_
 obtain⟨hf,hs⟩:=hL x (Uj hx);refine AZ (by show 0<_;exact List.length_pos_iff.2 hf) fun y hy=>?_
 have hk:=kinN_rng y;refine Am (fun hb=>Am (fun _=>⟨⟨⟨0,_,_,_⟩,by decide⟩,.ret _⟩) fun _=>Am (fun _=>⟨⟨⟨0,_,_,_⟩,by decide⟩,.ret _⟩) fun hw=>?_) (fun hb=>Am (fun _=>⟨⟨⟨0,_,_,_⟩,by decide⟩,.ret _⟩) fun _=>Am (fun _=>⟨⟨⟨0,_,_,_⟩,by decide⟩,.ret _⟩) fun hw=>?_)
 .rw[CX (x:=B7 y+1) (by omega) (by omega),CX (by omega) (by omega)] at hw;have hw:(x.f.length:Int)=1+(B7 y+1):=by simpa [iN] using hw
  exact PI q x (B7 y) (Fv y) (C9 y) (PD y) hk (by rw[Ud hb];omega) hs (B7 y).toNat 1 (by omega)
 .rw[CX (by omega) (by omega)] at hw;have hw:(x.f.length:Int)=1+B7 y:=by simpa [iN] using hw
  exact PI q x (B7 y) (Fv y) (C9 y) (PD y) hk (by rw[Ue (by rw[hb];simp)];omega) hs (B7 y).toNat 1 (by omega)
theorem Ql(q:ByteArray):∃c:CmD,(0<=c.k/\c.k<=10)/\CT Vb 10 [] [.str q] [] (cmA c):=by obtain⟨c,h⟩:=par_ex q;exact⟨c.1,c.2,par_ct q _ h⟩
@[irreducible] def paC(q:ByteArray):CmD:=Classical.choose (Ql q)
theorem par_c(q:ByteArray):CT Vb 10 [] [.str q] [] (cmA (paC q)):=by unfold paC;exact(UP (Ql q)).2
theorem leN{a b:Nat}(h:a<=b):Nat.le a b:=h
theorem NU{s:ByteArray}(h:nmB s=true):s.size<=12:=by unfold nmB at h;rw[Un,Un,Un] at h;have h2:=h.1.1.2;simp only[UY,decide_eq_false_iff_not,iN] at h2;omega
theorem QC:∀x:Int,0<=x/\x<100->(Dv x).size<=2:=by
 have:∀n,n<100->(AM n).size<=2:=by decide +kernel
 intro x hx;unfold Dv;exact this x.toNat (by omega)
def ordR(L:List Int)(p:ByteArray×Nat):Ret:=([some (AE L p.2)],.str p.1)
theorem ord_ex(L:List Int)(kk:Nat)(n:Aa)(hv:Aq n)(h3:3<=n.ss.length)(hk:kk<=90000):∃p:{p:ByteArray×Nat // p.2<=kk+8},Ac emT (LF L kk n) (ordR L p.1):=by
 have hns:=hv.ns
 have hnb:=hv.nb24
 have hS:∀k,k<=100000->(AK L k n).size<=12:=fun k h=>by
  obtain⟨_,s,hs,he⟩:=stn_s (L:=L) hv h3 h
  obtain⟨i,hi⟩:=List.getElem?_of_mem hs
  rw[<-he];exact NU (hv.spu i s hi).nm
 have hK:∀k,k<=100000->AJ L k n<=k+3:=fun k h=>(stn_s (L:=L) hv h3 h).1
 have k1:=hK (kk+1+1) (by omega)
 have k2:=hK (AJ L (kk+1+1) n) (by omega)
 have k3:=hK (kk+1+1+1) (by omega)
 have s1:=hS (kk+1+1) (by omega)
 have s2:=hS (AJ L (kk+1+1) n) (by omega)
 have s3:=hS (kk+1+1+1) (by omega)
 have r0:=Bz L kk n.bs.length (by omega) (by omega)
 have r1:=Bz L (kk+1+1) n.ss.length (by omega) (by omega)
 have r6:=Bz L (kk+1+1) 6 (by omega) (by omega)
 have r4:=Bz L (kk+1+1) 4 (by omega) (by omega)
 have d6:=QC (Ae L (kk+1+1) 6) (by omega)
 have d4:=QC (Ae L (kk+1+1) 4) (by omega)
 have e5:(ByteArray.mk #[116,97,115,107,32]).size=5:=rfl
 have e1:(ByteArray.mk #[32]).size=1:=rfl
 unfold LF
 simp only[iN,Ui]
 refine Ah (by omega) (Ah r0.1 (AZ (by omega) fun x hx=>?_))
 have sx:=NU (hv.blk _ x hx).nm
 repeat' (first
  | exact⟨⟨(_,_),by show _<=kk+8;omega⟩,.ret _⟩
  | refine Ah (by first | exact hv | omega | (refine leN ?_;(try simp only[ByteArray.size_append,e5,e1]);omega)) ?_
  | refine Am (fun h=>?_) (fun h=>?_)
  | refine AZ (by omega) (fun y hy=>?_)
  | refine Ah (by have:=NU (hv.spu _ _ ‹_›).nm;refine leN ?_;omega) ?_)
theorem KP(L:List Int)(kk:Nat)(n:Aa):∃p:ByteArray×Nat,Aq n->3<=n.ss.length->kk<=90000->p.2<=kk+8/\CT Vb 11 [some (AE L kk)] [.ptr 0 0 0,Ai n] [some (AE L p.2)] (.str p.1):=by
 by_cases h:Aq n/\3<=n.ss.length/\kk<=90000
 .obtain⟨p,hp⟩:=ord_ex L kk n h.1 h.2.1 h.2.2;exact⟨p.1,fun _ _ _=>⟨p.2,ord_ct L kk n _ hp⟩⟩
 .exact⟨(⟨#[]⟩,0),fun a b c=>absurd ⟨a,b,c⟩ h⟩
@[irreducible] def DC(L:List Int)(kk:Nat)(n:Aa):ByteArray:=(Classical.choose (KP L kk n)).1
@[irreducible] def JY(L:List Int)(kk:Nat)(n:Aa):Nat:=(Classical.choose (KP L kk n)).2
theorem ord_s{L:List Int}{kk:Nat}{n:Aa}(hv:Aq n)(h3:3<=n.ss.length)(hk:kk<=90000):JY L kk n<=kk+8:=by unfold JY;exact(UP (KP L kk n) hv h3 hk).1
theorem ord_c(L:List Int)(kk:Nat)(n:Aa)(hv:Aq n)(h3:3<=n.ss.length)(hk:kk<=90000):CT Vb 11 [some (AE L kk)] [.ptr 0 0 0,Ai n] [some (AE L (JY L kk n))] (.str (DC L kk n)):=by unfold DC JY;exact(UP (KP L kk n) hv h3 hk).2
inductive GF where | l0 (v0:Int) (v1:Nat) (v2:List Bool) (v3 v4:List Int) (v5:List TsD) (v6:List UsD)
def lifSt(L:List Int)(kk:Nat)(w:Int):GF->St | .l0 v0 v1 v2 v3 v4 v5 v6=>St.mk 52 [(0,AV.ptr 0 0 0),(1,iv w),(4,AV.ptr 1 0 0),(5,AV.ptr 2 0 0),(6,AV.ptr 3 0 0),(7,AV.ptr 4 0 0),(9,iv v0)] [some (AE L v1),some (bK [AV.agg [AV.nils,AV.nils,AV.nils,AV.nils,iv 0,iv 0,iv 0,iv 0]] 8),some (bK [AV.agg [AV.nils,AV.nils,AV.nils,AV.nils,AV.nils]] 5),some (bK [Ai (Ar L kk 6)] 8),some (bK [AV.agg [Va (U4 bV v2),Va (U4 iv v3),Va (U4 iv v4),Va (U4 tsA v5),Va (U4 usA v6)]] 5)]
def Lp(L:List Int)(kk:Nat)(w:Int):Option (GF⊕Ret):=gu (kk<=5000) <|gu (Aq (Ar L kk 6)) <|gu (RwV (Ar L kk 6)) <|some (.inl (.l0 ((0:Int)) (I1 L kk 6) ((AN (Ar L kk 6)).cl) ((AN (Ar L kk 6)).bw) ([]) ([]) (neU (Ar L kk 6))))
def Ia(L:List Int)(kk:Nat)(w v0:Int)(v1:Nat)(v2:List Bool)(v3 v4:List Int)(v5:List TsD)(v6:List UsD):Option (GF⊕Ret):=br (decide (v0<w)) (gu (v1<9223372036854775807) <|br (decide (0<Ae L v1 3)) (gu (Aq (Ar L kk 6)) <|gu (3<=(Ar L kk 6).ss.length) <|gu (v1+1<=90000) <|gu (LgV (Ar L kk 6) (LgD.mk v2 v3 v4 v5 v6)) <|some (.inl (.l0 (i64.wrap (v0+1)) (JY L (v1+1) (Ar L kk 6)) ((doL (Ar L kk 6) v2 v3 v4 v5 v6 (paC (DC L (v1+1) (Ar L kk 6)))).cl) ((doL (Ar L kk 6) v2 v3 v4 v5 v6 (paC (DC L (v1+1) (Ar L kk 6)))).bw) ((doL (Ar L kk 6) v2 v3 v4 v5 v6 (paC (DC L (v1+1) (Ar L kk 6)))).pe) ((doL (Ar L kk 6) v2 v3 v4 v5 v6 (paC (DC L (v1+1) (Ar L kk 6)))).tk) ((doL (Ar L kk 6) v2 v3 v4 v5 v6 (paC (DC L (v1+1) (Ar L kk 6)))).us)))) (gu (Aq (Ar L kk 6)) <|gu (v1+1<=100000) <|gu (LgV (Ar L kk 6) (LgD.mk v2 v3 v4 v5 v6)) <|br (JU (Ar L kk 6) v2 v3 v4 v5 v6 (DI L (v1+1) (Ar L kk 6) v2 v3 v4 v5 v6) (Dz L (v1+1) (Ar L kk 6) v2 v3 v4 v5 v6) (DW L (v1+1) (Ar L kk 6) v2 v3 v4 v5 v6) (DE L (v1+1) (Ar L kk 6) v2 v3 v4 v5 v6)==0) (some (.inl (.l0 (i64.wrap (v0+1)) (Gm L (v1+1) (Ar L kk 6) v2 v3 v4 v5 v6) ((DV (Ar L kk 6) v2 v3 v4 v5 v6 (DI L (v1+1) (Ar L kk 6) v2 v3 v4 v5 v6) (Dz L (v1+1) (Ar L kk 6) v2 v3 v4 v5 v6) (DW L (v1+1) (Ar L kk 6) v2 v3 v4 v5 v6) (DE L (v1+1) (Ar L kk 6) v2 v3 v4 v5 v6)).cl) ((DV (Ar L kk 6) v2 v3 v4 v5 v6 (DI L (v1+1) (Ar L kk 6) v2 v3 v4 v5 v6) (Dz L (v1+1) (Ar L kk 6) v2 v3 v4 v5 v6) (DW L (v1+1) (Ar L kk 6) v2 v3 v4 v5 v6) (DE L (v1+1) (Ar L kk 6) v2 v3 v4 v5 v6)).bw) ((DV (Ar L kk 6) v2 v3 v4 v5 v6 (DI L (v1+1) (Ar L kk 6) v2 v3 v4 v5 v6) (Dz L (v1+1) (Ar L kk 6) v2 v3 v4 v5 v6) (DW L (v1+1) (Ar L kk 6) v2 v3 v4 v5 v6) (DE L (v1+1) (Ar L kk 6) v2 v3 v4 v5 v6)).pe) ((DV (Ar L kk 6) v2 v3 v4 v5 v6 (DI L (v1+1) (Ar L kk 6) v2 v3 v4 v5 v6) (Dz L (v1+1) (Ar L kk 6) v2 v3 v4 v5 v6) (DW L (v1+1) (Ar L kk 6) v2 v3 v4 v5 v6) (DE L (v1+1) (Ar L kk 6) v2 v3 v4 v5 v6)).tk) ((DV (Ar L kk 6) v2 v3 v4 v5 v6 (DI L (v1+1) (Ar L kk 6) v2 v3 v4 v5 v6) (Dz L (v1+1) (Ar L kk 6) v2 v3 v4 v5 v6) (DW L (v1+1) (Ar L kk 6) v2 v3 v4 v5 v6) (DE L (v1+1) (Ar L kk 6) v2 v3 v4 v5 v6)).us)))) (some (.inl (.l0 (i64.wrap (v0+1)) (Gm L (v1+1) (Ar L kk 6) v2 v3 v4 v5 v6) v2 v3 v4 v5 v6))))) (some (.inr ([some (bK [AV.agg [Va (U4 iV L),iV (iN v1)]] 2)],AV.tup [AV.agg [Va (U4 bA (Ar L kk 6).bs),Va (gL (Ar L kk 6).nx),Va (U4 sA (Ar L kk 6).ss),Va (U4 iV (Ar L kk 6).rs),iV (Ar L kk 6).q,iV (Ar L kk 6).a,iV (Ar L kk 6).d,iV (Ar L kk 6).p],AV.agg [Va (U4 bV v2),Va (U4 iV v3),Va (U4 iV v4),Va (U4 tsA v5),Va (U4 usA v6)]])))
def Jd(L:List Int)(kk:Nat)(w:Int):GF->Option (GF⊕Ret) | .l0 v0 v1 v2 v3 v4 v5 v6=>Ia L kk w v0 v1 v2 v3 v4 v5 v6
theorem lif_ct(L:List Int)(kk:Nat)(w:Int)(r:Ret)(h:Ac (Jd L kk w) (Lp L kk w) r):CT Vb 8 ([some (AE L kk)]) ([.ptr 0 0 0,.int .i64 w]) r.1 r.2:=
 CT.mach (fn:=Tryz.f8) (c:=zB Tryz.f8) (S:=(lifSt L kk w)) (hd:=GF.ctorIdx) Tryz.func8 (by kernel_rfl) (nL rfl)
  (fun s o ho=>match s,ho with
 | .l0 v0 v1 v2 v3 v4 v5 v6,ho=>Scr.ok (X:=Ia L kk w v0 v1 v2 v3 v4 v5 v6) ho mix (
 .rn 0 [] [] [] [] (al (u2 (u2 (al t3)))) <|
 .br (fun a0=>
 .gu fun a1=>
 have c0:=AF (L) v1 (3) a1;
 .rn 0 [43] [] [(25,hK c0 [0] [])] [] (aj a0 (al (u2 (aj (ak (k3 (al (c0)))) s2)))) <|
 .br (fun a2=>
  .gu fun a3=>
  .gu fun a4=>
  .gu fun a5=>
  .gu fun a6=>
  have c1:=ord_c (L) (v1+1) (Ar L kk 6) a3 a4 a5;
  have c2:=par_c (DC L (v1+1) (Ar L kk 6));
  have c3:=do_c (Ar L kk 6) v2 v3 v4 v5 v6 (paC (DC L (v1+1) (Ar L kk 6))) a6;
  .lp [53] [] [(32,hK c1 [0] []),(33,hK c2 [] []),(34,hK c3 [] [])] [] [] [0,1,2,3,4] [0,1,4,5,6,7,9] (aj (aj a2 (aj (u2 (u2 (u2 (u2 (aj (k3 (aj t9 (ak (al (c1))))) (aj (k2 (al (c2))) (aj (k3 (aj t9 (aj t6 (aj t5 (al (c3)))))) (u2 (u2 (u2 (al (k2 (show Nat.le 1 [AV.agg [Va (U4 bV v2),Va (U4 iv v3),Va (U4 iv v4),Va (U4 tsA v5),Va (U4 usA v6)]].length from(nL rfl)))))))))))))) (al (u2 (u2 s2))))) (ak (k3 t9))))
 (fun a2=>
  .gu fun a3=>
  .gu fun a4=>
  .gu fun a5=>
  have c1:=fct_c (L) (v1+1) (Ar L kk 6) v2 v3 v4 v5 v6 a3 a4;
  have c2:=fa6_c (Ar L kk 6) v2 v3 v4 v5 v6 (DI L (v1+1) (Ar L kk 6) v2 v3 v4 v5 v6) (Dz L (v1+1) (Ar L kk 6) v2 v3 v4 v5 v6) (DW L (v1+1) (Ar L kk 6) v2 v3 v4 v5 v6) (DE L (v1+1) (Ar L kk 6) v2 v3 v4 v5 v6) a5;
  .rn 1 [52] [] [(43,hK c1 [0] []),(44,hK c2 [] [])] [] (aj a2 (aj (u2 (u2 (u2 (u2 (u2 (aj (ak (k3 (aj t9 (aj t6 (ak (al (c1))))))) (aj (k3 (aj t9 (aj t6 (aj t5 (al (c2)))))) (u2 (u2 (u2 (ak (aj (k2 n11) s2)))))))))))) (al (u2 s2)))) <|
  .br (fun a6=>
  .lp [97] [] [] [] [] [0,1,2,3,4] [0,1,4,5,6,7,9] (aj (aj a6 (aj (u2 (al (k2 (show Nat.le 1 [AV.agg [Va (U4 bV v2),Va (U4 iv v3),Va (U4 iv v4),Va (U4 tsA v5),Va (U4 usA v6)]].length from(nL rfl))))) (al (u2 (u2 s2))))) (ak (k3 t9))))
  (fun a6=>
  .lp [96] [] [] [] [] [0,1,2,3,4] [0,1,4,5,6,7,9] (aj (aj a6 (al (u2 (u2 s2)))) (ak (k3 t9))))))
 (fun a0=>
 .rt [42] [] [] [] [0] [] (aj (aj a0 (al (u2 (u2 (aj (k2 n11) (al (k2 n11))))))) (aj (aj t9 (al t6)) t2)))) (by kernel_rfl)
  )
  (fun o ho=>Scr.ok (X:=Lp L kk w) ho mix (
 .rn 0 [] [] [] [] (al t3) <|
 .gu fun a0=>
 have c0:=net_ct (L) (kk) (6) a0 (show(1:Int)<=(6:Int)/\(6:Int)<=(20:Int) from ⟨(by first | exact nL rfl | decide),(by first | exact nL rfl | decide)⟩);
 .rn 0 [] [] [(13,hK c0 [0] [])] [] (al (u2 (aj (ak (k3 (al (c0)))) (ak (al (k2 n11)))))) <|
 .gu fun a1=>
 .gu fun a2=>
 have c1:=ne6_c (Ar L kk 6) a1 a2;
 .lp [] [] [(16,hK c1 [] [])] [] [] [0,1,2,3,4] [0,1,4,5,6,7,9] (aj (aj (u2 (aj (ak (aj t9 (al (c1)))) (u2 (u2 (u2 (ak (aj (k2 n11) s2))))))) s2) (ak (k3 t9)))) (by kernel_rfl)) h
def lifR(L:List Int)(kk:Nat)(p:LgD×Nat):Ret:=([some (AE L p.2)],.tup [Ai (Ar L kk 6),lgA p.1])
theorem lif_loop(L:List Int)(kk:Nat)(w:Int)(hk:kk<=5000)(hw:0<=w/\w<=100):∀(d i:Nat) (v1:Nat) (v2:List Bool) (v3 v4:List Int) (v5:List TsD) (v6:List UsD),(i:Int)+d=w->v1<=kk+200+9 * i->LgV (Ar L kk 6) ⟨v2,v3,v4,v5,v6⟩->∃p:{p:LgD×Nat // p.2<=kk+1200/\LgV (Ar L kk 6) p.1},Ac (Jd L kk w) (some (.inl (.l0 (i:Int) v1 v2 v3 v4 v5 v6))) (lifR L kk p.1):=by
 have hN:=(Lu (L:=L) hk (show(1:Int)<=6/\(6:Int)<=20 by omega)).1;intro d;induction d with
 | zero=>intro i v1 v2 v3 v4 v5 v6 hi h1 hV;refine Ay (show Jd L kk w (.l0 (i:Int) v1 v2 v3 v4 v5 v6)=Ia L kk w i v1 v2 v3 v4 v5 v6 from rfl) ?_;unfold Ia;rw[Ad (Uk (by omega))];exact⟨⟨(⟨v2,v3,v4,v5,v6⟩,v1),by show v1<=_;omega,hV⟩,.ret _⟩
 | succ d ih=>
  intro i v1 v2 v3 v4 v5 v6 hi h1 hV;refine Ay (show Jd L kk w (.l0 (i:Int) v1 v2 v3 v4 v5 v6)=Ia L kk w i v1 v2 v3 v4 v5 v6 from rfl) ?_;unfold Ia;rw[Ag (Ul (by omega)),Bk i (by omega)];refine Ah (by omega) (Am (fun _=>?_) fun _=>?_)
  .have h2:=ord_s (L:=L) (kk:=v1+1) hN.v hN.ln.1 (by omega);exact Ah hN.v (Ah hN.ln.1 (Ah (by omega) (Ah hV (ih (i+1) _ _ _ _ _ _ (by omega) (by omega) (do_v hV)))))
  .have h2:=fct_s (L:=L) (kk:=v1+1) (cl:=v2) (bw:=v3) (pe:=v4) (tk:=v5) (us:=v6) hN.v (by omega);exact Ah hN.v (Ah (by omega) (Ah hV (Am (fun he=>ih (i+1) _ _ _ _ _ _ (by omega) (by omega) (fa6_v hV (by simpa using he))) fun _=>ih (i+1) _ _ _ _ _ _ (by omega) (by omega) hV)))
theorem Kg(L:List Int)(kk:Nat)(w:Int):∃p:LgD×Nat,kk<=5000->(0<=w/\w<=100)->(p.2<=kk+1200/\LgV (Ar L kk 6) p.1)/\CT Vb 8 [some (AE L kk)] [.ptr 0 0 0,.int .i64 w] [some (AE L p.2)] (.tup [Ai (Ar L kk 6),lgA p.1]):=by
 by_cases h:kk<=5000/\(0<=w/\w<=100)
 .have hN:=Lu (L:=L) h.1 (show(1:Int)<=6/\(6:Int)<=20 by omega);obtain⟨p,hp⟩:∃p:{p:LgD×Nat // p.2<=kk+1200/\LgV (Ar L kk 6) p.1},Ac (Jd L kk w) (Lp L kk w) (lifR L kk p.1):=by unfold Lp;exact Ah h.1 (Ah hN.1.v (Ah hN.1.rwv (lif_loop L kk w h.1 h.2 w.toNat 0 _ _ _ _ _ _ (by omega) (by have:=hN.2.1;omega) (neV hN.1.v hN.1.rwv))))
  exact⟨p.1,fun _ _=>⟨p.2,lif_ct L kk w _ hp⟩⟩
 .exact⟨(⟨[],[],[],[],[]⟩,0),fun a b=>absurd ⟨a,b⟩ h⟩
@[irreducible] def liL(L:List Int)(kk:Nat)(w:Int):LgD:=(Classical.choose (Kg L kk w)).1
@[irreducible] def liK(L:List Int)(kk:Nat)(w:Int):Nat:=(Classical.choose (Kg L kk w)).2
theorem li_s{L:List Int}{kk:Nat}{w:Int}(hk:kk<=5000)(hw:0<=w/\w<=100):liK L kk w<=kk+1200/\LgV (Ar L kk 6) (liL L kk w):=by unfold liL liK;exact(UP (Kg L kk w) hk hw).1
theorem li_c(L:List Int)(kk:Nat)(w:Int)(hk:kk<=5000)(hw:0<=w/\w<=100):CT Vb 8 [some (AE L kk)] [.ptr 0 0 0,.int .i64 w] [some (AE L (liK L kk w))] (.tup [Ai (Ar L kk 6),lgA (liL L kk w)]):=by unfold liL liK;exact(UP (Kg L kk w) hk hw).2
def bkB(n:Aa)(a b c d e:AV):AV:=.agg [.lst (n.bs.map bA),.lst (gL n.nx),.lst (n.ss.map sA),.lst (n.rs.map (AV.int .i64)),.int .i64 n.q,.int .i64 n.a,.int .i64 n.d,.int .i64 n.p,a,b,c,d,e]
def bkH(n:Aa)(cl:List Bool)(bw pe:List Int)(tk:List TsD)(us:List UsD)(n1 n2:Nat):List (Option Blk):=[some {es:=[bkB n (.lst (boL cl)) (lI bw) (lI pe) (.sl 1 0 n1) (.sl 2 0 n2)],z:=13,flat:=false},some {es:=tk.map tsA,z:=5},some {es:=us.map usA,z:=13}]
def bkR(n:Aa)(cl:List Bool)(bw pe:List Int)(tk:List TsD)(us:List UsD)(n1 n2:Nat):List (Option Blk):=[some {es:=[bkB n (.lst (boL cl)) (lI bw) (lI pe) (.sl 1 0 n1) (.sl 2 0 n2)],z:=13,flat:=false,wr:=false},some {es:=tk.map tsA,z:=5,wr:=false},some {es:=us.map usA,z:=13,wr:=false}]
def MJ(n:Aa)(q:Int)(l:Bool):Option (Empty⊕Ret):=br (decide (0<=q)) (br (decide (q<iN (U4 sA n.ss).length)) (gu (0<=q) <|el (n.ss) (q.toNat) fun(x20:Av)=>some (.inr ([],bV (x20.dep==l)))) (some (.inr ([],bV false)))) (some (.inr ([],bV false)))
theorem isS_ct(n:Aa)(q:Int)(l:Bool)(r:Ret)(h:Ac emT (MJ n q l) r):CT Vb 72 ([]) ([Ai n,.int .i64 q,.bool l]) r.1 r.2:=
 CT.mach (fn:=Tryz.f72) (c:=zB Tryz.f72) (S:=emS) (hd:=emH) Tryz.func72 (by kernel_rfl) (nL rfl)
  (fun s o ho=>match s,ho with
   | x,_=>x.elim)
  (fun o ho=>Scr.ok (X:=MJ n q l) ho mix (
 .rn 0 [] [] [] [] (al (u2 t2)) <|
 .br (fun a0=>
 .br (fun a1=>
  .gu fun a2=>
  .el fun x20 a3=>
  .rt [19,33] [(20,sA x20)] [] [] [] [] (aj (al (u2 (u2 (u2 (ag a0 (ag a0 (ag a0 (ag a0 (aj (aj a0 t3) (ag a0 (u2 (ag a1 (ag a1 (ag a1 (aj (aj a1 (k2 (aj a2 (Af (f:=sA) a3)))) (ag a1 (ag a1 (ag a1 (aj (aj a1 t3) (ag a1 s2)))))))))))))))))))) t2))
 (fun a1=>
  .rt [19,32] [] [] [] [] [] (aj (al (u2 (u2 (u2 (ag a0 (ag a0 (ag a0 (ag a0 (aj (aj a0 t3) (ag a0 (u2 (aj a1 (aj a1 (aj a1 (aj a1 (aj a1 (aj a1 (aj a1 (aj a1 (ag a1 s2)))))))))))))))))))) t2)))
 (fun a0=>
 .rt [18] [] [] [] [] [] (aj (al (u2 (u2 (u2 (aj a0 (aj a0 (aj a0 (aj a0 (aj a0 (ag a0 (u2 (k3 (k5 (aj t3 s2)))))))))))))) t2))) (by kernel_rfl)) h
def prsEn(x:UsD):Option (Empty⊕Ret):=some (.inr ([],bV (x.s != 3)))
theorem prs_ct(x:UsD)(r:Ret)(h:Ac emT (prsEn x) r):CT Vb 88 ([]) ([usA x]) r.1 r.2:=
 CT.mach (fn:=Tryz.f88) (c:=zB Tryz.f88) (S:=emS) (hd:=emH) Tryz.func88 (by kernel_rfl) (nL rfl)
  (fun s o ho=>match s,ho with
   | x,_=>x.elim)
  (fun o ho=>Scr.ok (X:=prsEn x) ho mix (
 .rt [] [] [] [] [] [] (aj (ag t2 (al (u2 (u2 (u2 s2))))) t2)) (by kernel_rfl)) h
def Mm(x:UsD):Option (Empty⊕Ret):=br (x.s==0) (some (.inr ([],bV true))) (some (.inr ([],bV (x.s==1))))
theorem inf_ct(x:UsD)(r:Ret)(h:Ac emT (Mm x) r):CT Vb 84 ([]) ([usA x]) r.1 r.2:=
 CT.mach (fn:=Tryz.f84) (c:=zB Tryz.f84) (S:=emS) (hd:=emH) Tryz.func84 (by kernel_rfl) (nL rfl)
  (fun s o ho=>match s,ho with
   | x,_=>x.elim)
  (fun o ho=>Scr.ok (X:=Mm x) ho mix (
 .rn 0 [] [] [] [] (al (u2 t2)) <|
 .br (fun a0=>
 .rt [13] [] [] [] [] [] (aj (al (u2 (u2 (u2 (u2 (aj a0 (aj a0 (aj a0 (ag a0 s2))))))))) t2))
 (fun a0=>
 .rt [12] [] [] [] [] [] (aj (al (u2 (u2 (u2 (u2 (ag a0 (ag a0 (ag a0 (ag a0 s2))))))))) t2))) (by kernel_rfl)) h
def isAEn(q:Int):Option (Empty⊕Ret):=some (.inr ([],AV.agg [iV 12,iV q]))
theorem isA_ct(q:Int)(r:Ret)(h:Ac emT (isAEn q) r):CT Vb 91 ([]) ([.int .i64 q]) r.1 r.2:=
 CT.mach (fn:=Tryz.f91) (c:=zB Tryz.f91) (S:=emS) (hd:=emH) Tryz.func91 (by kernel_rfl) (nL rfl)
  (fun s o ho=>match s,ho with
   | x,_=>x.elim)
  (fun o ho=>Scr.ok (X:=isAEn q) ho mix (
 .rt [] [] [] [] [] [] (aj (u2 (al (u2 (u2 (al (k2 n11)))))) (al t3))) (by kernel_rfl)) h
def okAEn(q:Int):Option (Empty⊕Ret):=some (.inr ([],AV.agg [iV 1,iV q]))
theorem okA_ct(q:Int)(r:Ret)(h:Ac emT (okAEn q) r):CT Vb 79 ([]) ([.int .i64 q]) r.1 r.2:=
 CT.mach (fn:=Tryz.f79) (c:=zB Tryz.f79) (S:=emS) (hd:=emH) Tryz.func79 (by kernel_rfl) (nL rfl)
  (fun s o ho=>match s,ho with
   | x,_=>x.elim)
  (fun o ho=>Scr.ok (X:=okAEn q) ho mix (
 .rt [] [] [] [] [] [] (aj (u2 (al (u2 (u2 (al (k2 n11)))))) (al t3))) (by kernel_rfl)) h
inductive EU where | l0 (v0:Int)
def avlSt(l:List TsD):EU->St | .l0 v0=>St.mk 43 [(8,Va (U4 tsA l)),(9,iv (iN (U4 tsA l).length)),(10,iv v0)] []
def Ou(l:List TsD):Option (EU⊕Ret):=br (decide (32<iN (U4 tsA l).length)) (some (.inr ([],bV false))) (some (.inl (.l0 ((0:Int)))))
def EL(l:List TsD)(v0:Int):Option (EU⊕Ret):=br (decide (v0<iN (U4 tsA l).length)) (gu (0<=v0) <|el l (v0.toNat) fun(x12:TsD)=>br (decide (x12.s<0)) (some (.inr ([],bV false))) (br (decide (5<x12.s)) (some (.inr ([],bV false))) (br (decide (x12.q < -1)) (some (.inr ([],bV false))) (br (decide (8<=x12.q)) (some (.inr ([],bV false))) (br (decide (x12.ov<0)) (some (.inr ([],bV false))) (br (decide (32<x12.ov)) (some (.inr ([],bV false))) (some (.inl (.l0 (i64.wrap (v0+1))))))))))) (some (.inr ([],bV true)))
def avlStep(l:List TsD):EU->Option (EU⊕Ret) | .l0 v0=>EL l v0
theorem avl_ct(l:List TsD)(r:Ret)(h:Ac (avlStep l) (Ou l) r):CT Vb 120 ([]) ([.lst (l.map tsA)]) r.1 r.2:=
 CT.mach (fn:=Tryz.f120) (c:=zB Tryz.f120) (S:=(avlSt l)) (hd:=EU.ctorIdx) Tryz.func120 (by kernel_rfl) (nL rfl)
  (fun s o ho=>match s,ho with
 | .l0 v0,ho=>Scr.ok (X:=EL l v0) ho mix (
 .rn 0 [] [] [] [] (al (al t3)) <|
 .br (fun a0=>
 .gu fun a1=>
 .el fun x12 a2=>
 .rn 0 [23] [(12,tsA x12)] [] [] (aj a0 (al (aj (k2 (aj a1 (Af (f:=tsA) a2))) (u2 (ak (al (k2 n11))))))) <|
 .br (fun a3=>
  .rt [35] [] [] [] [] [] (aj (aj (u2 (u2 (u2 (u2 (aj a3 (aj a3 (aj a3 (ag a3 (u2 (k3 (aj t3 (u2 (k3 (aj t3 (u2 (k3 (aj t3 (u2 (k3 (al t3)))))))))))))))))))) (ak s2)) t2))
 (fun a3=>
  .br (fun a4=>
  .rt [34,45] [] [] [] [] [] (aj (aj (u2 (u2 (u2 (u2 (ag a3 (ag a3 (ag a3 (ag a3 (u2 (aj a4 (aj a4 (aj a4 (ag a4 (u2 (k3 (aj t3 (u2 (k3 (aj t3 (u2 (k3 (al t3)))))))))))))))))))))) (ak s2)) t2))
  (fun a4=>
  .br (fun a5=>
   .rt [34,44,55] [] [] [] [] [] (aj (aj (u2 (u2 (u2 (u2 (ag a3 (ag a3 (ag a3 (ag a3 (u2 (ag a4 (ag a4 (ag a4 (ag a4 (u2 (aj a5 (aj a5 (aj a5 (ag a5 (u2 (k3 (aj t3 (u2 (k3 (al t3)))))))))))))))))))))))) (ak s2)) t2))
  (fun a5=>
   .br (fun a6=>
   .rt [34,44,54,65] [] [] [] [] [] (aj (aj (u2 (u2 (u2 (u2 (ag a3 (ag a3 (ag a3 (ag a3 (u2 (ag a4 (ag a4 (ag a4 (ag a4 (u2 (ag a5 (ag a5 (ag a5 (ag a5 (u2 (aj a6 (aj a6 (aj a6 (ag a6 (u2 (k3 (al t3)))))))))))))))))))))))))) (ak s2)) t2))
   (fun a6=>
   .br (fun a7=>
    .rt [34,44,54,64,75] [] [] [] [] [] (aj (aj (u2 (u2 (u2 (u2 (ag a3 (ag a3 (ag a3 (ag a3 (u2 (ag a4 (ag a4 (ag a4 (ag a4 (u2 (ag a5 (ag a5 (ag a5 (ag a5 (u2 (ag a6 (ag a6 (ag a6 (ag a6 (u2 (aj a7 (aj a7 (aj a7 (al (aj a7 t2))))))))))))))))))))))))))))) (ak s2)) t2))
   (fun a7=>
    .rn 0 [34,44,54,64,74] [] [] [] (al (u2 (u2 (u2 (u2 (ag a3 (ag a3 (ag a3 (ag a3 (u2 (ag a4 (ag a4 (ag a4 (ag a4 (u2 (ag a5 (ag a5 (ag a5 (ag a5 (u2 (ag a6 (ag a6 (ag a6 (ag a6 (u2 (ag a7 (ag a7 (ag a7 (al (aj a7 t2)))))))))))))))))))))))))))))) <|
    .br (fun a8=>
    .rt [34,44,54,64,74,83] [] [] [] [] [] (aj (aj a8 s2) t2))
    (fun a8=>
    .lp [34,44,54,64,74,82] [] [] [] [] [] [8,9,10] (aj (aj a8 (al (u2 s2))) t4))))))))
 (fun a0=>
 .rt [22] [] [] [] [] [] (aj (aj a0 s2) t2))) (by kernel_rfl)
  )
  (fun o ho=>Scr.ok (X:=Ou l) ho mix (
 .rn 1 [] [] [] [] (u2 (al (u2 (u2 s2)))) <|
 .br (fun a0=>
 .rt [15] [] [] [] [] [] (aj (aj a0 s2) t2))
 (fun a0=>
 .lp [14] [] [] [] [] [] [8,9,10] (aj (aj a0 (al (u2 (u2 t2)))) t4))) (by kernel_rfl)) h
inductive HC where | l0 (v0 v1:Int)
def aqdSt(l:List TsD):HC->St | .l0 v0 v1=>St.mk 19 [(3,iv v0),(6,Va (U4 tsA l)),(7,iv (iN (U4 tsA l).length)),(8,iv v1)] []
def aqdEn(l:List TsD):Option (HC⊕Ret):=some (.inl (.l0 ((0:Int)) ((0:Int))))
def ID(l:List TsD)(v0 v1:Int):Option (HC⊕Ret):=br (decide (v1<iN (U4 tsA l).length)) (gu (0<=v1) <|el l (v1.toNat) fun(x10:TsD)=>br (x10.s==0) (some (.inl (.l0 (i64.wrap (v0+1)) (i64.wrap (v1+1))))) (some (.inl (.l0 v0 (i64.wrap (v1+1)))))) (some (.inr ([],iV v0)))
def Rq(l:List TsD):HC->Option (HC⊕Ret) | .l0 v0 v1=>ID l v0 v1
theorem aqd_ct(l:List TsD)(r:Ret)(h:Ac (Rq l) (aqdEn l) r):CT Vb 121 ([]) ([.lst (l.map tsA)]) r.1 r.2:=
 CT.mach (fn:=Tryz.f121) (c:=zB Tryz.f121) (S:=(aqdSt l)) (hd:=HC.ctorIdx) Tryz.func121 (by kernel_rfl) (nL rfl)
  (fun s o ho=>match s,ho with
 | .l0 v0 v1,ho=>Scr.ok (X:=ID l v0 v1) ho mix (
 .rn 0 [] [] [] [] (al (al t3)) <|
 .br (fun a0=>
 .gu fun a1=>
 .el fun x10 a2=>
 .rn 1 [19] [(10,tsA x10)] [] [] (aj a0 (aj (aj (k2 (aj a1 (Af (f:=tsA) a2))) (u2 (ak (al (k2 n11))))) (al (u2 (u2 s2))))) <|
 .br (fun a3=>
  .lp [29] [] [] [] [] [] [3,6,7,8] (aj (aj a3 (aj (u2 (u2 s2)) (al (u2 s2)))) t5))
 (fun a3=>
  .lp [28] [] [] [] [] [] [3,6,7,8] (aj (aj a3 (al (u2 s2))) t5)))
 (fun a0=>
 .rt [18] [] [] [] [] [] (aj (aj a0 (al (u2 s2))) t2))) (by kernel_rfl)
  )
  (fun o ho=>Scr.ok (X:=aqdEn l) ho mix (
 .lp [] [] [] [] [] [] [3,6,7,8] (aj (u2 (u2 (al (u2 (u2 t2))))) t5)) (by kernel_rfl)) h
def MS(l:List TsD):Option (Empty⊕Ret):=gu (U4 tsA l=[]->False) <|gu (∀(e:AV),e∈U4 tsA l->e.cells.length=5) <|gu (0+(U4 tsA l).length<=9223372036854775807) <|gu ((0+(U4 tsA l).length) * 40<=140737488355328) <|some (.inr ([some (bK ([]++U4 tsA l) 5)],AV.sl 0 0 (0+(U4 tsA l).length)))
theorem c74_ct(l:List TsD)(r:Ret)(h:Ac emT (MS l) r):CT Vb 74 ([]) ([.lst (l.map tsA)]) r.1 r.2:=
 CT.mach (fn:=Tryz.f74) (c:=zB Tryz.f74) (S:=emS) (hd:=emH) Tryz.func74 (by kernel_rfl) (nL rfl)
  (fun s o ho=>match s,ho with
   | x,_=>x.elim)
  (fun o ho=>Scr.ok (X:=MS l) ho mix (
 .rn 0 [] [] [] [] s2 <|
 .gu fun a0=>
 .rn 0 [] [] [] [] (al (u2 (al (ak a0)))) <|
 .gu fun a1=>
 .gu fun a2=>
 .gu fun a3=>
 .rt [] [] [] [] [1] [] (aj (ak (al (ak (u2 (aj (k2 (aj (show nat_lit 0=nat_lit 0 from rfl) (aj a1 (aj a2 a3)))) s2))))) t3)) (by kernel_rfl)) h
def sp1En(x:Av)(w:ByteArray):Option (Empty⊕Ret):=some (.inr ([some (bK [.str w] 1)],bV (x.nm.toList==w.toList)))
theorem sp1_ct(x:Av)(w:ByteArray)(r:Ret)(h:Ac emT (sp1En x w) r):CT Vb 127 ([some (bK [.str w] 1)]) ([sA x,.ptr 0 0 0]) r.1 r.2:=
 CT.mach (fn:=Tryz.f127) (c:=zB Tryz.f127) (S:=emS) (hd:=emH) Tryz.func127 (by kernel_rfl) (nL rfl)
  (fun s o ho=>match s,ho with
   | x,_=>x.elim)
  (fun o ho=>Scr.ok (X:=sp1En x w) ho mix (
 .rt [] [] [] [] [0] [] (aj (ag t2 (al (u2 (u2 (u2 (aj t3 s2)))))) t3)) (by kernel_rfl)) h
def bl1En(x:AC)(w:ByteArray):Option (Empty⊕Ret):=some (.inr ([some (bK [.str w] 1)],bV (x.nm.toList==w.toList)))
theorem bl1_ct(x:AC)(w:ByteArray)(r:Ret)(h:Ac emT (bl1En x w) r):CT Vb 131 ([some (bK [.str w] 1)]) ([bA x,.ptr 0 0 0]) r.1 r.2:=
 CT.mach (fn:=Tryz.f131) (c:=zB Tryz.f131) (S:=emS) (hd:=emH) Tryz.func131 (by kernel_rfl) (nL rfl)
  (fun s o ho=>match s,ho with
   | x,_=>x.elim)
  (fun o ho=>Scr.ok (X:=bl1En x w) ho mix (
 .rt [] [] [] [] [0] [] (aj (ag t2 (al (u2 (u2 (u2 (aj t3 s2)))))) t3)) (by kernel_rfl)) h
@[irreducible] def C7(n:Aa)(q:Int)(l:Bool):Bool:=decide (0<=q)&&match n.ss[q.toNat]? with | some s=>s.dep==l | none=>false
theorem Ju(n:Aa)(q:Int)(l:Bool):CT Vb 72 [] [Ai n,.int .i64 q,.bool l] [] (.bool (C7 n q l)):=by
 refine isS_ct n q l ([],_) (.val ?_);unfold MJ C7;by_cases h0:0<=q
 .rw[Ag (Ul h0),Ul h0];by_cases h1:q<(n.ss.length:Int)
  .obtain⟨s,hs⟩:∃s,n.ss[q.toNat]?=some s:=⟨_,Uf (by omega)⟩;rw[Ag (Ul (by simpa [iN] using h1)),Ab h0,Ak hs,hs];rfl
  .rw[Ad (Uk (by simpa [iN] using h1)),UB (by omega)];rfl
 .rw[Ad (Uk h0),Uk h0];rfl
theorem prs_c(s:Int)(lv:Bool)(hm:Int):CT Vb 88 [] [usA ⟨s,lv,hm⟩] [] (.bool (s != 3)):=prs_ct ⟨s,lv,hm⟩ ([],_) (.val rfl)
theorem inf_c(s:Int)(lv:Bool)(hm:Int):CT Vb 84 [] [usA ⟨s,lv,hm⟩] [] (.bool (Bh s)):=by
 refine inf_ct ⟨s,lv,hm⟩ ([],_) (.val ?_);unfold Mm Bh;cases h:s==0 with
 | true=>rfl
 | false=>rfl
theorem isA_c(q:Int):CT Vb 91 [] [.int .i64 q] [] (.agg [.int .i64 12,.int .i64 q]):=isA_ct q ([],_) (.val rfl)
theorem okA_c(q:Int):CT Vb 79 [] [.int .i64 q] [] (.agg [.int .i64 1,.int .i64 q]):=okA_ct q ([],_) (.val rfl)
theorem sp1_c(nm:ByteArray)(d:Bool)(i j k b:Int)(w:ByteArray):CT Vb 127 [some (Blk.mk [.str w] 1 true true none)] [sA ⟨nm,d,i,j,k,b⟩,.ptr 0 0 0] [some (Blk.mk [.str w] 1 true true none)] (.bool (nm.toList==w.toList)):=sp1_ct ⟨nm,d,i,j,k,b⟩ w _ (.val rfl)
theorem bl1_c(nm:ByteArray)(i j:Int)(w:ByteArray):CT Vb 131 [some (Blk.mk [.str w] 1 true true none)] [bA ⟨nm,i,j⟩,.ptr 0 0 0] [some (Blk.mk [.str w] 1 true true none)] (.bool (nm.toList==w.toList)):=bl1_ct ⟨nm,i,j⟩ w _ (.val rfl)
theorem cl74_e:CT Vb 74 [] [.lst []] [some (Blk.mk [] 5 true true none)] (.sl 0 0 0):=by
 refine CT.of Tryz.func74 (show Tryz.f74.body=some (zB Tryz.f74) from by kernel_rfl) (nL rfl) ?_;refine T.seq ?_;refine T.ops (st':=?st1) ?steps1 ?post1
 case steps1=>refine .av (.nils) rfl rfl rfl (by kernel_rfl) ?_;exact .nil _
 show T Vb 0 _ _ _;refine T.seq (T.seq ?_);refine T.opsN (.val (v:=.lst []) (noG rfl) rfl (nL rfl) (BU rfl (hint:=.no) (R:={v:=.lst []}) (p:=True) (by kernel_rfl) trivial).1 (.one (S:=fun R=>∃b,R={v:=.bool b}) (noG rfl) (M1 (e:=125) rfl (by kernel_rfl) rfl rfl) (fun R hR=>?_) (fun R hR=>?_)))
 .obtain⟨b,rfl⟩:=hR;exact⟨OpR.fits_value _ _,fun b hb=>by simp at hb,fun d hd=>by cases hd;exact nL rfl⟩
 obtain⟨b,rfl⟩:=hR;refine .nil ?_;cases b with
 | true=>
  refine T.cond_true rfl (T.seq ?_);refine T.ops (st':=?st2) ?steps2 ?post2
  case steps2=>refine .av (.nils) rfl rfl rfl (by kernel_rfl) ?_;exact .nil _
  refine T.ret ?_;refine⟨.inr rfl,.nils,⟨Tryz.f74.ntmps,[(0,.sl 0 0 0)],[some (Blk.mk [] 5 true true none)]⟩,rfl,Ren.less rfl (Ur _) (fun s=>?_) (fun b blk hb=>?_),rfl,rfl,(nL rfl)⟩
  .cases s with
   | zero=>exact .nilS _ _
   | succ s=>exact .refl _
  .cases b with
   | zero=>simp[nth] at hb;subst hb;exact .inr ⟨Uq _,rfl,rfl,rfl,rfl⟩
   | succ b=>simp[nth] at hb
 | false=>
  refine T.cond_false rfl (T.skip ?_);refine T.seq ?_;refine T.ops (st':=?st3) ?steps3 ?post3
  case steps3=>refine .new (v:=.sl 0 0 0) (blk:=Blk.mk [] 5 true true none) rfl rfl (nL rfl) (BU rfl (hint:=.no) (R:={v:=.sl 0 0 0,new:=[Blk.mk [] 5 true true none]}) (p:=True) (by kernel_rfl) trivial).1 ?_;refine .av (.lst []) rfl rfl rfl (by kernel_rfl) ?_;refine .move (v:=.sl 1 0 0) (b:=0) (blk:=Blk.mk [] 5 true true none) rfl rfl (nL rfl) rfl rfl (Ur _) (BU rfl (hint:=.no) (R:={v:=.sl 1 0 0,dead:=[0],new:=[Blk.mk [] 5 true true none]}) (p:=0=0/\BE (nth [some (Blk.mk [] 5 true true none)]) 5 (.lst [])/\0+0<=9223372036854775807/\(0+0) * 40<=140737488355328) (by kernel_rfl) ⟨rfl,(fun e he=>by cases he),(by omega),(by omega)⟩).1 ?_;refine .av (.sl 1 0 0) rfl rfl rfl (by kernel_rfl) ?_;exact .nil _
  refine T.ret ?_;exact⟨.inr rfl,.sl 1 0 0,⟨Tryz.f74.ntmps,[(0,.sl 0 0 0)],[some (Blk.mk [] 5 true true none)]⟩,rfl,Ren.of (p:=True/\True/\True) [1] [] [0] (by kernel_rfl) ⟨trivial,trivial,trivial⟩ rfl rfl rfl,rfl,rfl,(nL rfl)⟩
theorem ts5(l:List TsD):∀(e:AV),e∈U4 tsA l->e.cells.length=5:=fun e he=>by obtain⟨x,_,rfl⟩:=UI.1 he;rfl
theorem c74_c(l:List TsD)(hl:l.length<=1000):CT Vb 74 [] [.lst (l.map tsA)] [some (Blk.mk (l.map tsA) 5 true true none)] (.sl 0 0 l.length):=by
 by_cases h:l=[]
 .subst h;exact cl74_e
 refine c74_ct l ([_],_) (.val ?_);unfold MS;rw[Ab (fun e=>h (List.map_eq_nil_iff.1 e)),Ab (ts5 _),Ab (by rw[Ui];omega),Ab (by rw[Ui];omega),List.nil_append,Uu,Ui]
theorem avl_c(l:List TsD):CT Vb 120 [] [.lst (l.map tsA)] [] (.bool (tvB l)):=by
 refine avl_ct l ([],_) ?_;unfold Ou tvB;have e:decide (32<iN (U4 tsA l).length)=decide (32<l.length):=decide_eq_decide.2 (by simp only[iN,Ui];omega);rw[e];cases hd:decide (32<l.length) with
 | true=>exact .val rfl
 | false=>
  have hl:=of_decide_eq_false hd;rw[Ad rfl];refine Ac.res (NQ (l:=l) (L:=fun i=>EU.l0 (i:Nat)) (p:=fun x=>decide (TvP x)) (rF:=([],.bool false)) (r:=([],.bool true)) (fun i x hx hp=>?_) (fun i x r hx hp hr=>?_) (fun _=>?_)) (by cases l.all fun x=>decide (TvP x)<;>rfl)
  .refine .to (show EL l i=_ from rfl) ?_;unfold EL;rw[AS hx];have hp:=of_decide_eq_false hp;unfold TvP at hp;by_cases h1:x.s<0
   .rw[Ag (Ul h1)];exact .ret _
   rw[Ad (Uk h1)];by_cases h2:5<x.s
   .rw[Ag (Ul h2)];exact .ret _
   rw[Ad (Uk h2)];by_cases h3:x.q < -1
   .rw[Ag (Ul h3)];exact .ret _
   rw[Ad (Uk h3)];by_cases h4:8<=x.q
   .rw[Ag (Ul h4)];exact .ret _
   rw[Ad (Uk h4)];by_cases h5:x.ov<0
   .rw[Ag (Ul h5)];exact .ret _
   rw[Ad (Uk h5),Ag (Ul (by omega))];exact .ret _
  .refine .to (show EL l i=_ from rfl) ?_;unfold EL;have hp:=of_decide_eq_true hp;unfold TvP at hp;have:=(Uh.1 hx).1;rw[AS hx,Ad (Uk (by omega)),Ad (Uk (by omega)),Ad (Uk (by omega)),Ad (Uk (by omega)),Ad (Uk (by omega)),Ad (Uk (by omega)),Bk i (by omega)];exact hr
  .refine .to (show EL l (l.length:Nat)=_ from rfl) ?_;unfold EL;rw[AO];exact .ret _
theorem aqd_c(l:List TsD)(hl:l.length<=1000000):CT Vb 121 [] [.lst (l.map tsA)] [] (.int .i64 (tcZ l)):=by
 refine aqd_ct l ([],_) ?_;rw[Qu];have key:∀(d i:Nat),i+d=l.length->Ac (Rq l) (some (.inl (.l0 (coZ (fun x=>x.s==0) (l.take i)) (i:Int)))) (([],.int .i64 (coZ (fun x=>x.s==0) l)):Ret):=by
  intro d;induction d with
  | zero=>
   intro i hi;obtain rfl:i=l.length:=by omega
   refine .to (show ID l _ (l.length:Nat)=_ from rfl) ?_;unfold ID;rw[AO,List.take_length];exact .ret _
  | succ d ih=>
   intro i hi;have hx:l[i]?=some l[i]:=Uf (by omega);have h1:=EW (fun x:TsD=>x.s==0) (l.take i) l[i];have h2:=FW (fun x:TsD=>x.s==0) (l.take i);have h3:(l.take i).length<=i:=by rw[UF];omega
   have e:l.take (i+1)=l.take i++[l[i]]:=by rw[List.take_add_one,hx];rfl
   rw[<-e] at h1;have:=ih (i+1) (by omega);rw[h1] at this;refine .to (show ID l _ (i:Nat)=_ from rfl) ?_;unfold ID;rw[AS hx,Bk i (by omega)];cases hq:l[i].s==0 with
   | true=>rw[Ag rfl,CX (by omega) (by omega)];simp only[hq] at this;exact this
   | false=>rw[Ad rfl];simp only[hq] at this;simpa using this
 exact key l.length 0 (by omega)
def L9(l:List TsD):Option (Empty⊕Ret):=br (!tvB l) (some (.inr ([],AV.tup [iV 0,iV 20]))) (gu (l.length<=1000000) <|some (.inr ([],AV.tup [iV (tcZ l),iV 0])))
theorem aQd_ct(l:List TsD)(r:Ret)(h:Ac emT (L9 l) r):CT Vb 70 ([]) ([.lst (l.map tsA)]) r.1 r.2:=
 CT.mach (fn:=Tryz.f70) (c:=zB Tryz.f70) (S:=emS) (hd:=emH) Tryz.func70 (by kernel_rfl) (nL rfl)
  (fun s o ho=>match s,ho with
   | x,_=>x.elim)
  (fun o ho=>Scr.ok (X:=L9 l) ho mix (
 have c0:=avl_c (l);
 .rn 1 [] [] [(5,hK c0 [] [])] [] (aj t3 (al (u2 (aj (k2 (al (c0))) s2)))) <|
 .br (fun a0=>
 .rt [13] [] [] [] [] [] (aj (aj a0 (al t3)) (al t3)))
 (fun a0=>
 .gu fun a1=>
 have c1:=aqd_c l a1;
 .rt [12] [] [(8,hK c1 [] [])] [] [] [] (aj (aj a0 (al (u2 (aj (k2 (al (c1))) (u2 t2))))) (al t3)))) (by kernel_rfl)) h
inductive Ht where | l0 (v0:Int)
def ifsSt(l:List Av)(w:ByteArray):Ht->St | .l0 v0=>St.mk 19 [(0,Va (U4 sA l)),(1,AV.fn 127 [AV.ptr 0 0 0]),(7,iv (iN (U4 sA l).length)),(8,iv v0)] [some (bK [AV.str w] 1)]
def ifsEn(l:List Av)(w:ByteArray):Option (Ht⊕Ret):=some (.inl (.l0 ((0:Int))))
def Gz(l:List Av)(w:ByteArray)(v0:Int):Option (Ht⊕Ret):=br (decide (v0<iN (U4 sA l).length)) (gu (0<=v0) <|el l (v0.toNat) fun(x14:Av)=>br (x14.nm.toList==w.toList) (some (.inr ([some (bK [.str w] 1)],iV v0))) (some (.inl (.l0 (i64.wrap (v0+1)))))) (some (.inr ([some (bK [.str w] 1)],iV (-1))))
def Q0(l:List Av)(w:ByteArray):Ht->Option (Ht⊕Ret) | .l0 v0=>Gz l w v0
theorem ifs_ct(l:List Av)(w:ByteArray)(r:Ret)(h:Ac (Q0 l w) (ifsEn l w) r):CT Vb 126 ([some (bK [.str w] 1)]) ([.lst (l.map sA),.fn 127 [.ptr 0 0 0]]) r.1 r.2:=
 CT.mach (fn:=Tryz.f126) (c:=zB Tryz.f126) (S:=(ifsSt l w)) (hd:=Ht.ctorIdx) Tryz.func126 (by kernel_rfl) (nL rfl)
  (fun s o ho=>match s,ho with
 | .l0 v0,ho=>Scr.ok (X:=Gz l w v0) ho mix (
 .rn 0 [] [] [] [] (al (al t3)) <|
 .br (fun a0=>
 .rn 0 [19] [] [] [] (aj a0 (al (u2 s2))) <|
 .gu fun a1=>
 .el fun x14 a2=>
 have c0:=sp1_c (x14.nm) (x14.dep) (x14.i) (x14.o) (x14.k) (x14.b) (w);
 .rn 0 [] [(14,sA x14)] [(16,hK c0 [0] [])] [] (al (u2 (u2 (u2 (aj (k2 (aj a1 (Af (f:=sA) a2))) (u2 (al (k2 (aj t7 (k2 (al (c0)))))))))))) <|
 .br (fun a3=>
  .rt [33] [] [] [] [0] [] (aj (aj a3 (al (u2 s2))) t3))
 (fun a3=>
  .lp [32] [] [] [] [] [0] [0,1,7,8] (aj (aj a3 (al (u2 s2))) (ak (u2 t4)))))
 (fun a0=>
 .rt [18] [] [] [] [0] [] (aj (aj a0 s2) t3))) (by kernel_rfl)
  )
  (fun o ho=>Scr.ok (X:=ifsEn l w) ho mix (
 .lp [] [] [] [] [] [0] [0,1,7,8] (aj (u2 (al (u2 (u2 t2)))) (ak (u2 t4)))) (by kernel_rfl)) h
inductive HX where | l0 (v0:Int)
def ifbSt(l:List AC)(w:ByteArray):HX->St | .l0 v0=>St.mk 19 [(0,Va (U4 bA l)),(1,AV.fn 131 [AV.ptr 0 0 0]),(7,iv (iN (U4 bA l).length)),(8,iv v0)] [some (bK [AV.str w] 1)]
def ifbEn(l:List AC)(w:ByteArray):Option (HX⊕Ret):=some (.inl (.l0 ((0:Int))))
def Hs(l:List AC)(w:ByteArray)(v0:Int):Option (HX⊕Ret):=br (decide (v0<iN (U4 bA l).length)) (gu (0<=v0) <|el l (v0.toNat) fun(x14:AC)=>br (x14.nm.toList==w.toList) (some (.inr ([some (bK [.str w] 1)],iV v0))) (some (.inl (.l0 (i64.wrap (v0+1)))))) (some (.inr ([some (bK [.str w] 1)],iV (-1))))
def PZ(l:List AC)(w:ByteArray):HX->Option (HX⊕Ret) | .l0 v0=>Hs l w v0
theorem ifb_ct(l:List AC)(w:ByteArray)(r:Ret)(h:Ac (PZ l w) (ifbEn l w) r):CT Vb 130 ([some (bK [.str w] 1)]) ([.lst (l.map bA),.fn 131 [.ptr 0 0 0]]) r.1 r.2:=
 CT.mach (fn:=Tryz.f130) (c:=zB Tryz.f130) (S:=(ifbSt l w)) (hd:=HX.ctorIdx) Tryz.func130 (by kernel_rfl) (nL rfl)
  (fun s o ho=>match s,ho with
 | .l0 v0,ho=>Scr.ok (X:=Hs l w v0) ho mix (
 .rn 0 [] [] [] [] (al (al t3)) <|
 .br (fun a0=>
 .rn 0 [19] [] [] [] (aj a0 (al (u2 s2))) <|
 .gu fun a1=>
 .el fun x14 a2=>
 have c0:=bl1_c (x14.nm) (x14.x) (x14.y) (w);
 .rn 0 [] [(14,bA x14)] [(16,hK c0 [0] [])] [] (al (u2 (u2 (u2 (aj (k2 (aj a1 (Af (f:=bA) a2))) (u2 (al (k2 (aj t4 (k2 (al (c0)))))))))))) <|
 .br (fun a3=>
  .rt [33] [] [] [] [0] [] (aj (aj a3 (al (u2 s2))) t3))
 (fun a3=>
  .lp [32] [] [] [] [] [0] [0,1,7,8] (aj (aj a3 (al (u2 s2))) (ak (u2 t4)))))
 (fun a0=>
 .rt [18] [] [] [] [0] [] (aj (aj a0 s2) t3))) (by kernel_rfl)
  )
  (fun o ho=>Scr.ok (X:=ifbEn l w) ho mix (
 .lp [] [] [] [] [] [0] [0,1,7,8] (aj (u2 (al (u2 (u2 t2)))) (ak (u2 t4)))) (by kernel_rfl)) h
@[irreducible] def aqZ(l:List TsD):Int:=match tvB l with | true=>tcZ l | false=>0
@[irreducible] def aqE(l:List TsD):Int:=match tvB l with | true=>0 | false=>20
theorem tvB_len{l:List TsD}(h:tvB l=true):l.length<=32:=by
 unfold tvB at h;cases hd:decide (32<l.length) with
 | true=>rw[hd] at h;cases h
 | false=>have:=of_decide_eq_false hd;omega
theorem aQd_c(l:List TsD):CT Vb 70 [] [.lst (l.map tsA)] [] (.tup [.int .i64 (aqZ l),.int .i64 (aqE l)]):=by
 refine aQd_ct l ([],_) (.val ?_);unfold L9 aqZ aqE;cases h:tvB l with
 | true=>rw[Ad (by rfl),Ab (by have:=tvB_len h;omega)]
 | false=>rfl
theorem ifs_c(l:List Av)(w:ByteArray)(hl:l.length<=1000):CT Vb 126 [some (Blk.mk [.str w] 1 true true none)] [.lst (l.map sA),.fn 127 [.ptr 0 0 0]] [some (Blk.mk [.str w] 1 true true none)] (.int .i64 (fiZ (fun b:Av=>b.nm.toList==w.toList) l 0)):=by
 refine ifs_ct l w ([_],_) ?_;have key:∀(d i:Nat),i+d=l.length->Ac (Q0 l w) (some (.inl (.l0 (i:Nat)))) (([some (Blk.mk [.str w] 1 true true none)],.int .i64 (fiZ (fun b:Av=>b.nm.toList==w.toList) (l.drop i) i)):Ret):=by
  intro d;induction d with
  | zero=>
   intro i hi;obtain rfl:i=l.length:=by omega
   refine .to (show Gz l w (l.length:Nat)=_ from rfl) ?_;unfold Gz;rw[AO,List.drop_length];exact .ret _
  | succ d ih=>
   intro i hi;have hx:l[i]?=some l[i]:=Uf (by omega);refine .to (show Gz l w (i:Nat)=_ from rfl) ?_;unfold Gz;rw[AS hx,UX (by omega)];unfold fiZ;cases hp:l[i].nm.toList==w.toList with
   | true=>exact .ret _
   | false=>
    rw[Ad rfl,Bk i (by omega)];have:=ih (i+1) (by omega);rw[show (((i+1:Nat):Int))=(i:Int)+1 by omega] at this ⊢
    exact this
 exact key l.length 0 (by omega)
theorem ifb_c(l:List AC)(w:ByteArray)(hl:l.length<=1000):CT Vb 130 [some (Blk.mk [.str w] 1 true true none)] [.lst (l.map bA),.fn 131 [.ptr 0 0 0]] [some (Blk.mk [.str w] 1 true true none)] (.int .i64 (fiZ (fun b:AC=>b.nm.toList==w.toList) l 0)):=by
 refine ifb_ct l w ([_],_) ?_;have key:∀(d i:Nat),i+d=l.length->Ac (PZ l w) (some (.inl (.l0 (i:Nat)))) (([some (Blk.mk [.str w] 1 true true none)],.int .i64 (fiZ (fun b:AC=>b.nm.toList==w.toList) (l.drop i) i)):Ret):=by
  intro d;induction d with
  | zero=>
   intro i hi;obtain rfl:i=l.length:=by omega
   refine .to (show Hs l w (l.length:Nat)=_ from rfl) ?_;unfold Hs;rw[AO,List.drop_length];exact .ret _
  | succ d ih=>
   intro i hi;have hx:l[i]?=some l[i]:=Uf (by omega);refine .to (show Hs l w (i:Nat)=_ from rfl) ?_;unfold Hs;rw[AS hx,UX (by omega)];unfold fiZ;cases hp:l[i].nm.toList==w.toList with
   | true=>exact .ret _
   | false=>
    rw[Ad rfl,Bk i (by omega)];have:=ih (i+1) (by omega);rw[show (((i+1:Nat):Int))=(i:Int)+1 by omega] at this ⊢
    exact this
 exact key l.length 0 (by omega)
theorem CT.ren{f:FuncId}{hin hout:List (Option Blk)}{args:List AV}{res:AV}{st1:St}(h:CT Vb f hin args hout res)(hr:Ren hin.length ⟨1,[(0,res)],hout⟩ st1):CT Vb f hin args st1.hp (AX.Au st1.fr 0):=by
 intro φ A w vs hA hh ho hl hv;refine(h φ A w vs hA hh ho hl hv).mono fun e w' ⟨v,φ',he,C⟩=>?_
 have hrel:Rel A w.heap.size hin.length φ' ⟨1,[(0,res)],hout⟩ {tmps:=#[v],defers:=[]} w':=by
  refine⟨rfl,rfl,fun s=>?_,C.heap,C.out,C.keep.size,C.own⟩;cases s with
  | zero=>exact C.val
  | succ s=>exact .imm _ _ (.unk _)
 obtain⟨φ2,r2,hm,tr⟩:=hr A w.heap.size φ' _ w' C.len hrel;refine⟨v,φ2,he,⟨fun b hb=>(tr.par b hb).trans (C.par b hb),C.keep,fun r hr2=>?_,r2.heap,r2.slot 0,r2.out,hm,r2.own⟩⟩;rcases tr.mutd r hr2 with h1 | h1
 .exact C.mutd r h1
 .exact .inr (UU C.keep.size h1)
def Pu(n:Aa)(cl:List Bool)(bw pe:List Int)(tk:List TsD)(us:List UsD)(n1 n2:Nat)(w:ByteArray):Option (Empty⊕Ret):=gu (n.ss.length<=1000) <|some (.inr (bkR n cl bw pe tk us n1 n2,iV (fiZ (fun b=>b.nm.toList==w.toList) n.ss 0)))
theorem bsp_ct(n:Aa)(cl:List Bool)(bw pe:List Int)(tk:List TsD)(us:List UsD)(n1 n2:Nat)(w:ByteArray)(r:Ret)(h:Ac emT (Pu n cl bw pe tk us n1 n2 w) r):CT Vb 75 (bkR n cl bw pe tk us n1 n2) ([.ptr 0 0 0,.str w]) r.1 r.2:=
 CT.mach (fn:=Tryz.f75) (c:=zB Tryz.f75) (S:=emS) (hd:=emH) Tryz.func75 (by kernel_rfl) (nL rfl)
  (fun s o ho=>match s,ho with
   | x,_=>x.elim)
  (fun o ho=>Scr.ok (X:=Pu n cl bw pe tk us n1 n2 w) ho mix (
 .rn 0 [] [] [] [] (al (u2 t2)) <|
 .gu fun a0=>
 have c0:=ifs_c (n.ss) w a0;
 .rt [] [] [(11,hK c0 [3] [])] [] [0,1,2] [] (aj (al (u2 (u2 (u2 (u2 (u2 (u2 (aj (k3 (u2 (ak (al (c0))))) s2)))))))) (ak (aj (al (k5 t9)) t3)))) (by kernel_rfl)) h
def O9(n:Aa)(cl:List Bool)(bw pe:List Int)(tk:List TsD)(us:List UsD)(n1 n2:Nat)(w:ByteArray):Option (Empty⊕Ret):=gu (n.bs.length<=1000) <|some (.inr (bkR n cl bw pe tk us n1 n2,iV (fiZ (fun b=>b.nm.toList==w.toList) n.bs 0)))
theorem bbl_ct(n:Aa)(cl:List Bool)(bw pe:List Int)(tk:List TsD)(us:List UsD)(n1 n2:Nat)(w:ByteArray)(r:Ret)(h:Ac emT (O9 n cl bw pe tk us n1 n2 w) r):CT Vb 81 (bkR n cl bw pe tk us n1 n2) ([.ptr 0 0 0,.str w]) r.1 r.2:=
 CT.mach (fn:=Tryz.f81) (c:=zB Tryz.f81) (S:=emS) (hd:=emH) Tryz.func81 (by kernel_rfl) (nL rfl)
  (fun s o ho=>match s,ho with
   | x,_=>x.elim)
  (fun o ho=>Scr.ok (X:=O9 n cl bw pe tk us n1 n2 w) ho mix (
 .rn 0 [] [] [] [] (al (u2 t2)) <|
 .gu fun a0=>
 have c0:=ifb_c (n.bs) w a0;
 .rt [] [] [(11,hK c0 [3] [])] [] [0,1,2] [] (aj (al (u2 (u2 (u2 (u2 (u2 (u2 (aj (k3 (u2 (ak (al (c0))))) s2)))))))) (ak (aj (al (k5 t9)) t3)))) (by kernel_rfl)) h
def NM(n:Aa)(cl:List Bool)(bw pe:List Int)(tk:List TsD)(us:List UsD)(n1 n2:Nat):Option (Empty⊕Ret):=gu (RwV n) <|some (.inr (bkR n cl bw pe tk us n1 n2,Va (boL (shO n (Aj.mk cl bw pe)))))
theorem bsh_ct(n:Aa)(cl:List Bool)(bw pe:List Int)(tk:List TsD)(us:List UsD)(n1 n2:Nat)(r:Ret)(h:Ac emT (NM n cl bw pe tk us n1 n2) r):CT Vb 77 (bkR n cl bw pe tk us n1 n2) ([.ptr 0 0 0]) r.1 r.2:=
 CT.mach (fn:=Tryz.f77) (c:=zB Tryz.f77) (S:=emS) (hd:=emH) Tryz.func77 (by kernel_rfl) (nL rfl)
  (fun s o ho=>match s,ho with
   | x,_=>x.elim)
  (fun o ho=>Scr.ok (X:=NM n cl bw pe tk us n1 n2) ho mix (
 .rn 0 [] [] [] [] s2 <|
 .gu fun a0=>
 have c0:=ssh_c (cl) (bw) (pe) a0;
 .rt [] [] [(15,hK c0 [] [])] [] [0,1,2] [] (aj (aj (u2 (u2 (u2 (u2 (u2 (u2 (u2 (u2 (u2 (aj (k2 (aj t9 (aj t4 (al (c0))))) (u2 (u2 (u2 (u2 s2)))))))))))))) (al (u2 s2))) (ak (aj (al (k5 t9)) t3)))) (by kernel_rfl)) h
inductive FE where | l0 (v0 v1:Int)
def bc1St(n:Aa)(cl:List Bool)(bw pe:List Int)(tk:List TsD)(us:List UsD)(n1 n2:Nat):FE->St | .l0 v0 v1=>St.mk 25 [(1,AV.fn 88 []),(5,iv v0),(12,AV.sl 2 0 n2),(13,iv (iN n2)),(14,iv v1)] [some (Blk.mk [AV.agg [Va (U4 bA n.bs),Va (gL n.nx),Va (U4 sA n.ss),Va (U4 iv n.rs),iv n.q,iv n.a,iv n.d,iv n.p,Va (boL cl),Va (U4 iv bw),Va (U4 iv pe),AV.sl 1 0 n1,AV.sl 2 0 n2]] 13 false false none),some (Blk.mk (U4 tsA tk) 5 true false none),some (Blk.mk (U4 usA us) 13 true false none)]
def bc1En(n:Aa)(cl:List Bool)(bw pe:List Int)(tk:List TsD)(us:List UsD)(n1 n2:Nat):Option (FE⊕Ret):=some (.inl (.l0 ((0:Int)) ((0:Int))))
def HN(n:Aa)(cl:List Bool)(bw pe:List Int)(tk:List TsD)(us:List UsD)(n1 n2:Nat)(v0 v1:Int):Option (FE⊕Ret):=br (decide (v1<iN n2)) (gu (0<=v1) <|gu (v1<iN n2) <|el (us) (0+v1.toNat) fun(x17:UsD)=>br (x17.s != 3) (some (.inl (.l0 (i64.wrap (v0+1)) (i64.wrap (v1+1))))) (some (.inl (.l0 v0 (i64.wrap (v1+1)))))) (some (.inr (bkR n cl bw pe tk us n1 n2,iV v0)))
def bc1Step(n:Aa)(cl:List Bool)(bw pe:List Int)(tk:List TsD)(us:List UsD)(n1 n2:Nat):FE->Option (FE⊕Ret) | .l0 v0 v1=>HN n cl bw pe tk us n1 n2 v0 v1
theorem bc1_ct(n:Aa)(cl:List Bool)(bw pe:List Int)(tk:List TsD)(us:List UsD)(n1 n2:Nat)(r:Ret)(h:Ac (bc1Step n cl bw pe tk us n1 n2) (bc1En n cl bw pe tk us n1 n2) r):CT Vb 83 (bkR n cl bw pe tk us n1 n2) ([.ptr 0 0 0,.fn 88 []]) r.1 r.2:=
 CT.mach (fn:=Tryz.f83) (c:=zB Tryz.f83) (S:=(bc1St n cl bw pe tk us n1 n2)) (hd:=FE.ctorIdx) Tryz.func83 (by kernel_rfl) (nL rfl)
  (fun s o ho=>match s,ho with
 | .l0 v0 v1,ho=>Scr.ok (X:=HN n cl bw pe tk us n1 n2 v0 v1) ho mix (
 .rn 0 [] [] [] [] (al (al t3)) <|
 .br (fun a0=>
 .gu fun a1=>
 .gu fun a2=>
 .el fun x17 a3=>
 have c0:=prs_c (x17.s) (x17.lv) (x17.hm);
 .rn 1 [31] [(17,usA x17)] [(20,hK c0 [] [])] [] (aj a0 (aj (aj (k2 (aj a1 a2)) (aj (ak (Af (f:=usA) a3)) (ak (al (k2 n11))))) (al (u2 (u2 (al (k2 (aj (k5 t9) (al (c0)))))))))) <|
 .br (fun a4=>
  .lp [41] [] [] [] [] [0,1,2] [1,5,12,13,14] (aj (aj a4 (aj (u2 (u2 s2)) (al (u2 s2)))) (k5 (aj (al (k5 t9)) t3))))
 (fun a4=>
  .lp [40] [] [] [] [] [0,1,2] [1,5,12,13,14] (aj (aj a4 (al (u2 s2))) (k5 (aj (al (k5 t9)) t3)))))
 (fun a0=>
 .rt [30] [] [] [] [0,1,2] [] (aj (aj a0 (al (u2 s2))) (ak (aj (al (k5 t9)) t3))))) (by kernel_rfl)
  )
  (fun o ho=>Scr.ok (X:=bc1En n cl bw pe tk us n1 n2) ho mix (
 .lp [] [] [] [] [] [0,1,2] [1,5,12,13,14] (aj (u2 (u2 (al (u2 (u2 (u2 (u2 (u2 (u2 t2))))))))) (k5 (aj (al (k5 t9)) t3)))) (by kernel_rfl)) h
inductive E8 where | l0 (v0 v1:Int)
def bc2St(n:Aa)(cl:List Bool)(bw pe:List Int)(tk:List TsD)(us:List UsD)(n1 n2:Nat):E8->St | .l0 v0 v1=>St.mk 25 [(1,AV.fn 84 []),(5,iv v0),(12,AV.sl 2 0 n2),(13,iv (iN n2)),(14,iv v1)] [some (Blk.mk [AV.agg [Va (U4 bA n.bs),Va (gL n.nx),Va (U4 sA n.ss),Va (U4 iv n.rs),iv n.q,iv n.a,iv n.d,iv n.p,Va (boL cl),Va (U4 iv bw),Va (U4 iv pe),AV.sl 1 0 n1,AV.sl 2 0 n2]] 13 false false none),some (Blk.mk (U4 tsA tk) 5 true false none),some (Blk.mk (U4 usA us) 13 true false none)]
def bc2En(n:Aa)(cl:List Bool)(bw pe:List Int)(tk:List TsD)(us:List UsD)(n1 n2:Nat):Option (E8⊕Ret):=some (.inl (.l0 ((0:Int)) ((0:Int))))
def GI(n:Aa)(cl:List Bool)(bw pe:List Int)(tk:List TsD)(us:List UsD)(n1 n2:Nat)(v0 v1:Int):Option (E8⊕Ret):=br (decide (v1<iN n2)) (gu (0<=v1) <|gu (v1<iN n2) <|el (us) (0+v1.toNat) fun(x17:UsD)=>br (Bh x17.s) (some (.inl (.l0 (i64.wrap (v0+1)) (i64.wrap (v1+1))))) (some (.inl (.l0 v0 (i64.wrap (v1+1)))))) (some (.inr (bkR n cl bw pe tk us n1 n2,iV v0)))
def bc2Step(n:Aa)(cl:List Bool)(bw pe:List Int)(tk:List TsD)(us:List UsD)(n1 n2:Nat):E8->Option (E8⊕Ret) | .l0 v0 v1=>GI n cl bw pe tk us n1 n2 v0 v1
theorem bc2_ct(n:Aa)(cl:List Bool)(bw pe:List Int)(tk:List TsD)(us:List UsD)(n1 n2:Nat)(r:Ret)(h:Ac (bc2Step n cl bw pe tk us n1 n2) (bc2En n cl bw pe tk us n1 n2) r):CT Vb 83 (bkR n cl bw pe tk us n1 n2) ([.ptr 0 0 0,.fn 84 []]) r.1 r.2:=
 CT.mach (fn:=Tryz.f83) (c:=zB Tryz.f83) (S:=(bc2St n cl bw pe tk us n1 n2)) (hd:=E8.ctorIdx) Tryz.func83 (by kernel_rfl) (nL rfl)
  (fun s o ho=>match s,ho with
 | .l0 v0 v1,ho=>Scr.ok (X:=GI n cl bw pe tk us n1 n2 v0 v1) ho mix (
 .rn 0 [] [] [] [] (al (al t3)) <|
 .br (fun a0=>
 .gu fun a1=>
 .gu fun a2=>
 .el fun x17 a3=>
 have c0:=inf_c (x17.s) (x17.lv) (x17.hm);
 .rn 1 [31] [(17,usA x17)] [(20,hK c0 [] [])] [] (aj a0 (aj (aj (k2 (aj a1 a2)) (aj (ak (Af (f:=usA) a3)) (ak (al (k2 n11))))) (al (u2 (u2 (al (k2 (aj (k5 t9) (al (c0)))))))))) <|
 .br (fun a4=>
  .lp [41] [] [] [] [] [0,1,2] [1,5,12,13,14] (aj (aj a4 (aj (u2 (u2 s2)) (al (u2 s2)))) (k5 (aj (al (k5 t9)) t3))))
 (fun a4=>
  .lp [40] [] [] [] [] [0,1,2] [1,5,12,13,14] (aj (aj a4 (al (u2 s2))) (k5 (aj (al (k5 t9)) t3)))))
 (fun a0=>
 .rt [30] [] [] [] [0,1,2] [] (aj (aj a0 (al (u2 s2))) (ak (aj (al (k5 t9)) t3))))) (by kernel_rfl)
  )
  (fun o ho=>Scr.ok (X:=bc2En n cl bw pe tk us n1 n2) ho mix (
 .lp [] [] [] [] [] [0,1,2] [1,5,12,13,14] (aj (u2 (u2 (al (u2 (u2 (u2 (u2 (u2 (u2 t2))))))))) (k5 (aj (al (k5 t9)) t3)))) (by kernel_rfl)) h
theorem bsp_c(n:Aa)(cl:List Bool)(bw pe:List Int)(tk:List TsD)(us:List UsD)(n1 n2:Nat)(w:ByteArray)(h:n.ss.length<=1000):CT Vb 75 (bkR n cl bw pe tk us n1 n2) [.ptr 0 0 0,.str w] (bkR n cl bw pe tk us n1 n2) (.int .i64 (Aw n w)):=by unfold Aw;refine bsp_ct n cl bw pe tk us n1 n2 w (_,_) (.val ?_);unfold Pu;rw[Ab h];rfl
theorem bbl_c(n:Aa)(cl:List Bool)(bw pe:List Int)(tk:List TsD)(us:List UsD)(n1 n2:Nat)(w:ByteArray)(h:n.bs.length<=1000):CT Vb 81 (bkR n cl bw pe tk us n1 n2) [.ptr 0 0 0,.str w] (bkR n cl bw pe tk us n1 n2) (.int .i64 (Az n w)):=by unfold Az;refine bbl_ct n cl bw pe tk us n1 n2 w (_,_) (.val ?_);unfold O9;rw[Ab h];rfl
theorem bsh_c(n:Aa)(cl:List Bool)(bw pe:List Int)(tk:List TsD)(us:List UsD)(n1 n2:Nat)(h:RwV n):CT Vb 77 (bkR n cl bw pe tk us n1 n2) [.ptr 0 0 0] (bkR n cl bw pe tk us n1 n2) (.lst (boL (shO n ⟨cl,bw,pe⟩))):=by refine bsh_ct n cl bw pe tk us n1 n2 (_,_) (.val ?_);unfold NM;rw[Ab h];rfl
theorem CT.frzS{f:FuncId}{args es:List AV}{n:Nat}(h:CT Vb f [] args [some (Blk.mk es 1 true true none)] (.sl 0 0 n))(hn:n=es.length):CT Vb f [] args [] (.lst es):=CT.ren h (Ren.of (st':=⟨1,[(0,.lst es)],[]⟩) [] [0] [0] (p:=n=es.length/\True) rfl ⟨hn,trivial⟩ rfl rfl rfl)
theorem clb_i(l:List Bool)(hl:l.length<=1000000):CT Vb 45 [] [.lst (boL l)] [] (.lst (boL l)):=CT.frzS (O3 l hl) rfl
theorem cli_i(l:List Int)(hl:l.length<=1000000):CT Vb 73 [] [lI l] [] (lI l):=CT.frzS (Pg l hl) (Ui ..).symm
theorem co_lp{α σ ρ:Type}{step:σ->Option (σ⊕ρ)}{p:α->Bool}{l:List α}{L:Int->Int->σ}{r:ρ}(hl:l.length<=1000000)
  (hs:∀(i:Nat) x v,l[i]?=some x->step (L v i)=br (p x) (some (.inl (L (i64.wrap (v+1)) (i64.wrap ((i:Int)+1))))) (some (.inl (L v (i64.wrap ((i:Int)+1))))))
  (he:Ac step (some (.inl (L (coZ p l) (l.length:Nat)))) r):Ac step (some (.inl (L 0 0))) r:=by
 have key:∀(d i:Nat),i+d=l.length->Ac step (some (.inl (L (coZ p (l.take i)) (i:Nat)))) r:=by
  intro d;induction d with
  | zero=>
   intro i hi;obtain rfl:i=l.length:=by omega
   rw[List.take_length];exact he
  | succ d ih=>
   intro i hi;have hx:l[i]?=some l[i]:=Uf (by omega);have h1:=EW p (l.take i) l[i];have h2:=FW p (l.take i);have h3:(l.take i).length<=i:=by rw[UF];omega
   have e:l.take (i+1)=l.take i++[l[i]]:=by rw[List.take_add_one,hx];rfl
   rw[<-e] at h1;have:=ih (i+1) (by omega);rw[h1] at this;refine .to (hs i _ _ hx) ?_;rw[Bk i (by omega)];cases hq:p l[i] with
   | true=>rw[Ag rfl,CX (by omega) (by omega)];simpa [hq] using this
   | false=>rw[Ad rfl];simpa [hq] using this
 exact key l.length 0 (by omega)
theorem Qr{α σ ρ:Type}{step:σ->Option (σ⊕ρ)}{p:α->Bool}{l:List α}{L:Int->Int->σ}{r:Int->ρ}(hl:l.length<=1000000) (hs:∀(i:Nat) x v,l[i]?=some x->step (L v i)=br (p x) (some (.inl (L (i64.wrap (v+1)) (i64.wrap ((i:Int)+1))))) (some (.inl (L v (i64.wrap ((i:Int)+1)))))) (he:∀v,step (L v (l.length:Nat))=some (.inr (r v))):Ac step (some (.inl (L 0 0))) (r (coZ p l)):=co_lp hl hs (.to (he _) (.ret _))
theorem Ms(n:Aa)(cl:List Bool)(bw pe:List Int)(tk:List TsD)(us:List UsD)(n1 n2:Nat)(e:n2=us.length)(hl:us.length<=1000):CT Vb 83 (bkR n cl bw pe tk us n1 n2) [.ptr 0 0 0,.fn 88 []] (bkR n cl bw pe tk us n1 n2) (.int .i64 (cnP us)):=by
 subst e;rw[Gx];refine bc1_ct n cl bw pe tk us n1 us.length (_,_) (Qr (L:=fun v i=>FE.l0 v i) (l:=us) (r:=fun v=>((bkR n cl bw pe tk us n1 us.length,AV.int .i64 v):Ret)) (p:=fun x:UsD=>x.s != 3) (by omega) (fun i x v hx=>?_) (fun v=>?_))
 .have hi:=(Uh.1 hx).1;show HN n cl bw pe tk us n1 us.length v i=_;unfold HN;rw[Ag (Ul (by simp only[iN];omega)),Ab (by omega),Ab (by simp only[iN];omega),Uu,Uo,Ak hx]
 .show HN n cl bw pe tk us n1 us.length v us.length=_;unfold HN;rw[Ad (Uk (by simp only[iN];omega))]
theorem bc2_c(n:Aa)(cl:List Bool)(bw pe:List Int)(tk:List TsD)(us:List UsD)(n1 n2:Nat)(e:n2=us.length)(hl:us.length<=1000):CT Vb 83 (bkR n cl bw pe tk us n1 n2) [.ptr 0 0 0,.fn 84 []] (bkR n cl bw pe tk us n1 n2) (.int .i64 (cnF us)):=by
 subst e;rw[Ol];refine bc2_ct n cl bw pe tk us n1 us.length (_,_) (Qr (L:=fun v i=>E8.l0 v i) (l:=us) (r:=fun v=>((bkR n cl bw pe tk us n1 us.length,AV.int .i64 v):Ret)) (p:=fun x:UsD=>Bh x.s) (by omega) (fun i x v hx=>?_) (fun v=>?_))
 .have hi:=(Uh.1 hx).1;show GI n cl bw pe tk us n1 us.length v i=_;unfold GI;rw[Ag (Ul (by simp only[iN];omega)),Ab (by omega),Ab (by simp only[iN];omega),Uu,Uo,Ak hx]
 .show GI n cl bw pe tk us n1 us.length v us.length=_;unfold GI;rw[Ad (Uk (by simp only[iN];omega))]
def M5(n:Aa)(q:Aj)(c:Int):Option (Empty⊕Ret):=gu (RwV n) <|br (scE n q c != 0) (some (.inr ([],AV.tup [AV.agg [AV.nils,AV.nils,AV.nils],iV (scE n q c)]))) (br (decide (iN (U4 bA n.bs).length<=c)) (some (.inr ([],AV.tup [AV.agg [AV.nils,AV.nils,AV.nils],iV 19]))) (gu (0<=c) <|el (q.cl) (c.toNat) fun(x29:Bool)=>br x29 (some (.inr ([],AV.tup [AV.agg [AV.nils,AV.nils,AV.nils],iV 24]))) (gu (q.pe.length<=9223372036854775807) <|br (AR q.pe c) (some (.inr ([],AV.tup [AV.agg [AV.nils,AV.nils,AV.nils],iV 24]))) (gu (q.cl.length<=1000000) <|gu (q.bw.length<=1000000) <|gu (q.pe.length<=1000000) <|gu ((U4 iV q.pe).length+[iV c].length<=9223372036854775807) <|gu (((U4 iV q.pe).length+[iV c].length) * 8<=140737488355328) <|some (.inr ([],AV.tup [AV.agg [Va (boL q.cl),Va (U4 iV q.bw),Va (U4 iV q.pe++[iV c])],iV 0]))))))
theorem ann_ct(n:Aa)(q:Aj)(c:Int)(r:Ret)(h:Ac emT (M5 n q c) r):CT Vb 85 ([]) ([Ai n,sgA q,.int .i64 c]) r.1 r.2:=
 CT.mach (fn:=Tryz.f85) (c:=zB Tryz.f85) (S:=emS) (hd:=emH) Tryz.func85 (by kernel_rfl) (nL rfl)
  (fun s o ho=>match s,ho with
   | x,_=>x.elim)
  (fun o ho=>Scr.ok (X:=M5 n q c) ho mix (
 .rn 0 [] [] [] [] (al (u2 (u2 t3))) <|
 .gu fun a0=>
 have c0:=sch_c (q.cl) (q.bw) (q.pe) c a0;
 .rn 1 [] [] [(12,hK c0 [] [])] [] (aj (u2 (u2 (u2 (aj (k3 (aj t9 (aj t4 (ak (al (c0)))))) s2)))) (al (u2 (u2 s2)))) <|
 .br (fun a1=>
 .rt [27] [] [] [] [] [] (aj (aj a1 (al (ak (u2 (aj (k2 n11) s2))))) (al (aj t4 t2))))
 (fun a1=>
 .rn 0 [26] [] [] [] (aj a1 (al (u2 (u2 (u2 (u2 (aj t3 s2))))))) <|
 .br (fun a2=>
  .rt [37] [] [] [] [] [] (aj (aj a2 (al (ak (aj (k2 n11) t2)))) (al (aj t4 t2))))
 (fun a2=>
  .gu fun a3=>
  .el fun x29 a4=>
  .br (fun a5=>
  .rt [36,63] [(29,bV x29)] [] [] [] [] (aj (aj a2 (aj (u2 (u2 (u2 (aj (k2 (aj a3 (Af (f:=bV) a4))) (u2 (u2 (aj a5 (aj a5 (aj a5 (aj a5 (ag a5 s2))))))))))) (ak (al (ak (aj (k2 n11) t2)))))) (al (aj t4 t2))))
  (fun a5=>
  .gu fun a6=>
  have c1:=con_c (q.pe) c a6;
  .rn 0 [36,62] [(29,bV x29)] [(35,hK c1 [] [])] [] (aj a2 (al (u2 (u2 (u2 (aj (k2 (aj a3 (Af (f:=bV) a4))) (u2 (u2 (ag a5 (ag a5 (ag a5 (aj (aj a5 (ak (k3 (al (c1))))) (ag a5 s2))))))))))))) <|
  .br (fun a7=>
   .rt [62,51] [] [] [] [] [] (aj (aj a7 (al (ak (aj (k2 n11) t2)))) (al (aj t4 t2))))
  (fun a7=>
   .gu fun a8=>
   .gu fun a9=>
   .gu fun a10=>
   have c2:=cln_c (q.cl) (q.bw) (q.pe) a8 a9 a10;
   .rn 0 [62,50] [] [(39,hK c2 [] [])] [] (aj a7 (al (u2 (aj (ak (aj t4 (al (c2)))) (al (k2 (show Nat.le 1 [AV.agg [Va (boL q.cl),Va (U4 iv q.bw),Va (U4 iv q.pe)]].length from(nL rfl)))))))) <|
   .gu fun a11=>
   .gu fun a12=>
   .rt [62] [] [] [] [] [3,4,7] (aj (aj (u2 (u2 (u2 (u2 (aj (k2 (aj (show(U4 iv q.pe).length=q.pe.length by simp) (aj (aj (show nat_lit 1=nat_lit 1 from rfl) (show 1<=[iv c].length by simp)) (aj a11 a12)))) (u2 (al t3))))))) (al (u2 (aj (k2 n11) t2)))) (al (aj (aj (show(boL q.cl).length=(boL q.cl).length from rfl) (aj (show q.bw.length=(U4 iv q.bw).length by simp) (al (show(U4 iv q.pe).length+[iv c].length=(U4 iv q.pe++[iv c]).length by simp)))) t2)))))))) (by kernel_rfl)) h
theorem scE_eq{n:Aa}{s:Aj}{c:Int}:scE n s c=0↔BC n s=true/\0<=c/\c<(s.cl.length:Int):=by
 unfold scE;cases BC n s with
 | false=>simp
 | true=>
  rw[Ud rfl];split
  .simp;omega
  .simp;omega
theorem ann_c{n:Aa}(cl:List Bool)(bw pe:List Int)(x:Int)(hrw:RwV n):CT Vb 85 [] [Ai n,sgA ⟨cl,bw,pe⟩,.int .i64 x] [] (.tup [sgA (anO n ⟨cl,bw,pe⟩ x),.int .i64 (anE n ⟨cl,bw,pe⟩ x)]):=by
 generalize hs:(⟨cl,bw,pe⟩:Aj)=s;have k:=ann_ct n s x;unfold M5 at k;rw[Ab hrw] at k;unfold anO;have hbad:anE n s x≠0->(.tup [sgA (if anE n s x=0 then anS s x else ⟨[],[],[]⟩),.int .i64 (anE n s x)]:AV)=wk2 (.tup [.agg [.nils,.nils,.nils],.int .i64 (anE n s x)]):=fun h=>by rw[Ue h];rfl
 by_cases h1:scE n s x=0
 case neg=>
  have e:anE n s x=scE n s x:=by
   unfold anE;unfold scE at h1 ⊢
   cases h:BC n s with
   | false=>rfl
   | true=>
    obtain⟨_,_,_,_,_,l4,_⟩:=MH h;rw[h,Ud rfl] at h1;rw[Ud rfl,Ud rfl];split at h1
    .rename_i h2;rw[Ue (by omega),Ud h2]
    .exact absurd rfl h1
  rw[hbad (by rw[e];exact h1),e];exact CT.w2 (k ([],_) (.val (by rw[Ag (UZ.2 h1)])))
 obtain⟨h,h0,hl⟩:=scE_eq.1 h1;obtain⟨hv,hS,l1,l2,l3,l4,l5⟩:=MH h;rw[h1,Ad (by rfl)] at k;have hsl:=P4 hv hS x.toNat;rw[UE h0] at hsl;by_cases h2:(n.bs.length:Int)<=x
 .have e:anE n s x=19:=by unfold anE;rw[Ud h,Ue (by omega)]
  rw[hbad (by rw[e];decide),e];exact CT.w2 (k ([],_) (.val (by rw[Ag (AB (by rw[Ui];exact h2))])))
 rw[Ad (AA (by rw[Ui];exact h2)),Ab h0,Ak (Ax true (show x.toNat<s.cl.length by omega))] at k;have eE:anE n s x=if (s.cl.getD x.toNat true||AR s.pe x)=true then 24 else 0:=by unfold anE;rw[Ud h,Ud ⟨h0,by omega⟩,hsl]
 cases hc:s.cl.getD x.toNat true with
 | true=>
  rw[hc] at k eE;have e:anE n s x=24:=by rw[eE];rfl
  rw[hbad (by rw[e];decide),e];exact CT.w2 (k ([],_) (.val (by rw[Ag rfl])))
 | false=>
  rw[hc,Ad rfl,Ab (by omega)] at k;rw[hc,Ua] at eE;cases hp:AR s.pe x with
  | true=>
   rw[hp] at k eE;have e:anE n s x=24:=by rw[eE];rfl
   rw[hbad (by rw[e];decide),e];exact CT.w2 (k ([],_) (.val (by rw[Ag rfl])))
  | false=>
   rw[hp,Ad rfl,Ab (by omega),Ab (by omega),Ab (by omega),Ab (by simp only[Ui,UR,US];omega),Ab (by simp only[Ui,UR,US];omega)] at k;rw[hp] at eE;have e:anE n s x=0:=by rw[eE];rfl
   rw[e,Ud rfl];have e2:(.tup [sgA (anS s x),.int .i64 0]:AV) = .tup [.agg [.lst (boL s.cl),.lst (U4 (AV.int .i64) s.bw),.lst (U4 (AV.int .i64) s.pe++[.int .i64 x])],.int .i64 0]:=by unfold anS sgA lI;rw[Us];rfl
   rw[e2];exact k ([],_) (.ret _)
theorem ks_b{n:Aa}(hv:Aq n){s:Aj}(h:BB n s):BC n s=true:=Qs.2 ⟨hv,h⟩
theorem n14_v{n:Aa}(hv:Aq n)(hrw:RwV n):CT Vb 49 [] [Ai n] [] (.tup [sgA ⟨(AN n).cl,(AN n).bw,[]⟩,.int .i64 0]):=by
 have h:=n14_c hrw;have e1:nsS n=AN n:=by unfold nsS;rw[BD.2 hv];rfl
 have e2:nsE n=0:=by unfold nsE;rw[BD.2 hv];rfl
 rw[e1,e2] at h;exact h
theorem an_v{n:Aa}(cl:List Bool)(bw pe:List Int)(x:Int)(hv:Aq n)(hrw:RwV n)(hs:BB n ⟨cl,bw,pe⟩)(hx:0<=x/\x<(n.bs.length:Int))(hc:(AD ⟨cl,bw,pe⟩).getD x.toNat true=false):CT Vb 85 [] [Ai n,sgA ⟨cl,bw,pe⟩,.int .i64 x] [] (.tup [sgA ⟨cl,bw,pe++[x]⟩,.int .i64 0]):=by
 have h:=ann_c (n:=n) cl bw pe x hrw;have e1:anE n ⟨cl,bw,pe⟩ x=0:=by unfold anE;rw[Ud (ks_b hv hs),Ud hx,hc];rfl
 have e2:anO n ⟨cl,bw,pe⟩ x=⟨cl,bw,pe++[x]⟩:=by unfold anO;rw[Ud e1];rfl
 rw[e1,e2] at h;exact h
theorem bsh_v(n:Aa)(cl:List Bool)(bw pe:List Int)(tk:List TsD)(us:List UsD)(n1 n2:Nat)(hrw:RwV n)(hv:Aq n)(hs:BB n ⟨cl,bw,pe⟩):CT Vb 77 (bkR n cl bw pe tk us n1 n2) [.ptr 0 0 0] (bkR n cl bw pe tk us n1 n2) (.lst (boL (AD ⟨cl,bw,pe⟩))):=by have h:=bsh_c n cl bw pe tk us n1 n2 hrw;unfold shO at h;rw[ks_b hv hs] at h;exact h
def Ow(n:Aa)(q:Int):Option (Empty⊕Ret):=gu (RwV n) <|br (ckE n q != 0) (some (.inr ([],AV.tup [iV 0,iV 0,iV (ckE n q)]))) (gu (Aq n) <|gu (-1000<=q/\q<=1000) <|some (.inr ([],AV.tup [iV (plI n q),iV (plJ n q),iV 0])))
theorem cpl_ct(n:Aa)(q:Int)(r:Ret)(h:Ac emT (Ow n q) r):CT Vb 50 ([]) ([Ai n,.int .i64 q]) r.1 r.2:=
 CT.mach (fn:=Tryz.f50) (c:=zB Tryz.f50) (S:=emS) (hd:=emH) Tryz.func50 (by kernel_rfl) (nL rfl)
  (fun s o ho=>match s,ho with
   | x,_=>x.elim)
  (fun o ho=>Scr.ok (X:=Ow n q) ho mix (
 .rn 0 [] [] [] [] (al (u2 t4)) <|
 .gu fun a0=>
 have c0:=ck_c n q a0;
 .rn 1 [] [] [(12,hK c0 [] [])] [] (aj (u2 (u2 (aj (k2 (aj t9 (ak (al (c0))))) s2))) (al (u2 s2))) <|
 .br (fun a1=>
 .rt [29] [] [] [] [] [] (aj (aj a1 (al (u2 (k2 s2)))) (al t4)))
 (fun a1=>
 .gu fun a2=>
 .gu fun a3=>
 have c1:=place_ct a2 q a3;
 .rt [28] [] [(19,hK c1 [] [])] [] [] [] (aj (aj a1 (aj (u2 (u2 (aj (k2 (aj t9 (ak (al (c1))))) (u2 (u2 (u2 (u2 s2))))))) (al (u2 (u2 (u2 (u2 t2))))))) (al t4)))) (by kernel_rfl)) h
theorem cpl_c(n:Aa)(c:Int)(hr:RwV n)(hv:Aq n)(hc:0<=c/\c<(Al n:Int)):CT Vb 50 [] [Ai n,.int .i64 c] [] (.tup [.int .i64 (plI n c),.int .i64 (plJ n c),.int .i64 0]):=by
 refine cpl_ct n c ([],_) (.val ?_);have e:ckE n c=0:=by unfold ckE;rw[Ud (BD.2 hv),Ue (by omega)]
 have:=hv.cel;unfold Ow;rw[Ab hr,e,Ad (by rfl),Ab hv,Ab (by omega)]
inductive H9 where | l0 (v0:Int) (v1:List UsD)
def MW(n:Aa):H9->St | .l0 v0 v1=>St.mk 46 [(1,AV.ptr 0 0 0),(2,AV.ptr 1 0 0),(6,AV.ptr 2 0 0),(24,Va (U4 iv n.rs)),(25,iv (iN (U4 iv n.rs).length)),(26,iv v0)] [some (bK [Ai n] 8),some (bK [AV.agg [AV.nils,AV.nils,AV.nils,AV.nils,AV.nils]] 5),some (Blk.mk [AV.agg [Va (boL (AN n).cl),Va (U4 iv (AN n).bw),Va [],AV.nils,AV.sl 3 0 v1.length]] 5 false true none),some (bK (U4 usA v1) 13)]
def OP(n:Aa):Option (H9⊕Ret):=gu (Aq n) <|gu (RwV n) <|some (.inl (.l0 ((0:Int)) ([])))
def F6(n:Aa)(v0:Int)(v1:List UsD):Option (H9⊕Ret):=br (decide (v0<iN (U4 iV n.rs).length)) (gu (0<=v0) <|el (n.rs) (v0.toNat) fun(x28:Int)=>gu (RwV n) <|gu (Aq n) <|gu (0<=x28/\x28<iN (Al n)) <|gu ((U4 usA v1).length+[AV.agg [iV 1,bV false,iV (plI n x28),iV 0,iV 0,uV 0,bV false,bV false,iV 0,iV 0,Va [],iV 0,iV 0]].length<=9223372036854775807) <|gu (((U4 usA v1).length+[AV.agg [iV 1,bV false,iV (plI n x28),iV 0,iV 0,uV 0,bV false,bV false,iV 0,iV 0,Va [],iV 0,iV 0]].length) * 112<=140737488355328) <|some (.inl (.l0 (i64.wrap (v0+1)) (v1++[UsD.mk 1 false (plI n x28)])))) (some (.inr ([],AV.tup [AV.agg [Va (boL (AN n).cl),Va (U4 iV (AN n).bw),Va [],AV.nils,Va (U4 usA v1)],iV 0])))
def LH(n:Aa):H9->Option (H9⊕Ret) | .l0 v0 v1=>F6 n v0 v1
theorem lNw_ct(n:Aa)(r:Ret)(h:Ac (LH n) (OP n) r):CT Vb 18 ([]) ([Ai n]) r.1 r.2:=
 CT.mach (fn:=Tryz.f18) (c:=zB Tryz.f18) (S:=(MW n)) (hd:=H9.ctorIdx) Tryz.func18 (by kernel_rfl) (nL rfl)
  (fun s o ho=>match s,ho with
 | .l0 v0 v1,ho=>Scr.ok (X:=F6 n v0 v1) ho mix (
 .rn 0 [] [] [] [] (al (al t3)) <|
 .br (fun a0=>
 .gu fun a1=>
 .el fun x28 a2=>
 .rn 0 [55] [(28,iv x28)] [] [] (aj a0 (al (aj (k2 (aj a1 (Af (f:=iv) a2))) (u2 s2)))) <|
 .gu fun a3=>
 .gu fun a4=>
 .gu fun a5=>
 have c0:=cpl_c n x28 a3 a4 a5;
 .rn 0 [] [] [(33,hK c0 [] [])] [] (al (u2 (u2 (aj (k2 (aj t9 (ak (al (c0))))) (u2 (u2 (u2 (u2 (u2 (u2 s2)))))))))) <|
 .gu fun a6=>
 .gu fun a7=>
 .lq [] [(41,AV.tup [])] [] [] [] [0,1,2,5] [1,2,6,24,25,26] (up [] [(2,[AV.agg [Va (boL (AN n).cl),Va (U4 iv (AN n).bw),Va [],AV.nils,AV.sl 3 0 ((U4 usA v1).length+[AV.agg [iv 1,bV false,iv (plI n x28),iv 0,iv 0,uV 0,bV false,bV false,iv 0,iv 0,Va [],iv 0,iv 0]].length)]]),(3,U4 usA v1++[AV.agg [iv 1,bV false,iv (plI n x28),iv 0,iv 0,uV 0,bV false,bV false,iv 0,iv 0,Va [],iv 0,iv 0]])] (MW n (.l0 (i64.wrap (v0+1)) (v1++[UsD.mk 1 false (plI n x28)])))) (aj (aj (u2 (u2 (u2 (u2 (u2 (aj (k2 (aj (show(U4 usA v1).length=v1.length by simp) (aj (aj (show nat_lit 13=nat_lit 13 from rfl) (show 1<=[AV.agg [iv 1,bV false,iv (plI n x28),iv 0,iv 0,uV 0,bV false,bV false,iv 0,iv 0,Va [],iv 0,iv 0]].length by simp)) (aj a6 a7)))) (u2 (al t3)))))))) (al (u2 s2))) (k3 (k5 (aj (al t6) t2)))) (by simp[up,upF,upV,upH,upB,MW,gL,boL,lI,sA,bA,tsA,usA]))
 (fun a0=>
 .rt [54] [] [] [] [] [3] (aj (aj a0 (al (u2 (aj (k2 n11) t2)))) (al (aj (ak (k3 (al (show v1.length=(U4 usA v1).length by simp)))) t2))))) (by kernel_rfl)
  )
  (fun o ho=>Scr.ok (X:=OP n) ho mix (
 .rn 0 [] [] [] [] (al (u2 t3)) <|
 .gu fun a0=>
 .gu fun a1=>
 have c0:=n14_v a0 a1;
 .lp [] [] [(14,hK c0 [] [])] [] [(5006,13)] [0,1,3,4] [1,2,6,24,25,26] (aj (aj (u2 (aj (ak (aj t9 (al (c0)))) (u2 (u2 (u2 (ak (aj (k2 n11) s2))))))) (aj (u2 s2) (ak (aj (u2 (u2 (ak (al (k2 n11))))) (al (u2 (u2 (u2 t2)))))))) (k3 (k5 (aj (al t6) t2))))) (by kernel_rfl)) h
inductive Dc where | l0 (v0:Int) | l1 (v0:Int) | l2 (v0:Int) (v1:List UsD)
def O5(n:Aa)(cl:List Bool)(bw pe:List Int)(tk:List TsD)(us:List UsD):Dc->St | .l0 v0=>St.mk 153 [(2,AV.ptr 0 0 0),(3,AV.ptr 1 0 0),(42,Va (U4 tsA tk)),(43,iv (iN (U4 tsA tk).length)),(44,iv v0)] [some (bK [Ai n] 8),some (bK [AV.agg [Va (boL cl),Va (U4 iv bw),Va (U4 iv pe),Va (U4 tsA tk),Va (U4 usA us)]] 5)] | .l1 v0=>St.mk 153 [(2,AV.ptr 0 0 0),(3,AV.ptr 1 0 0),(62,Va (U4 usA us)),(63,iv (iN (U4 usA us).length)),(64,iv v0)] [some (bK [Ai n] 8),some (bK [AV.agg [Va (boL cl),Va (U4 iv bw),Va (U4 iv pe),Va (U4 tsA tk),Va (U4 usA us)]] 5)] | .l2 v0 v1=>St.mk 153 [(12,AV.ptr 0 0 0),(127,Va (U4 usA us)),(128,iv (iN (U4 usA us).length)),(129,iv v0)] [some (Blk.mk [AV.agg [Va (U4 bA n.bs),Va (gL n.nx),Va (U4 sA n.ss),Va (U4 iv n.rs),iv n.q,iv n.a,iv n.d,iv n.p,Va (boL cl),Va (U4 iv bw),Va (U4 iv pe),AV.sl 1 0 tk.length,AV.sl 2 0 v1.length]] 13 false true none),some (bK (U4 tsA tk) 5),some (bK (U4 usA v1) 13)]
def MA(n:Aa)(cl:List Bool)(bw pe:List Int)(tk:List TsD)(us:List UsD):Option (Dc⊕Ret):=gu (RwV n) <|br (!A8 n) (some (.inr ([],AV.tup [AV.con (Value.pointer none),iV 20]))) (br (!BC n (Aj.mk cl bw pe)) (some (.inr ([],AV.tup [AV.con (Value.pointer none),iV 20]))) (br (aqE tk != 0) (some (.inr ([],AV.tup [AV.con (Value.pointer none),iV 20]))) (br (decide (8<iN (U4 usA us).length)) (some (.inr ([],AV.tup [AV.con (Value.pointer none),iV 20]))) (some (.inl (.l0 ((0:Int))))))))
def Hl(n:Aa)(cl:List Bool)(bw pe:List Int)(tk:List TsD)(us:List UsD)(v0:Int):Option (Dc⊕Ret):=br (decide (v0<iN (U4 tsA tk).length)) (gu (0<=v0) <|el (tk) (v0.toNat) fun(x46:TsD)=>br (!C7 n x46.p false) (some (.inr ([],AV.tup [AV.con (Value.pointer none),iV 20]))) (br (!C7 n x46.d false) (some (.inr ([],AV.tup [AV.con (Value.pointer none),iV 20]))) (some (.inl (.l0 (i64.wrap (v0+1))))))) (some (.inl (.l1 ((0:Int)))))
def Hd(n:Aa)(cl:List Bool)(bw pe:List Int)(tk:List TsD)(us:List UsD)(v0:Int):Option (Dc⊕Ret):=br (decide (v0<iN (U4 usA us).length)) (gu (0<=v0) <|el (us) (v0.toNat) fun(x66:UsD)=>br (decide (x66.s<0)) (some (.inr ([],AV.tup [AV.con (Value.pointer none),iV 20]))) (br (decide (3<x66.s)) (some (.inr ([],AV.tup [AV.con (Value.pointer none),iV 20]))) (br (decide (x66.hm < -2)) (some (.inr ([],AV.tup [AV.con (Value.pointer none),iV 20]))) (br (decide (0<=x66.hm)) (br (!C7 n x66.hm true) (some (.inr ([],AV.tup [AV.con (Value.pointer none),iV 20]))) (some (.inl (.l1 (i64.wrap (v0+1)))))) (some (.inl (.l1 (i64.wrap (v0+1))))))))) (gu (cl.length<=1000000) <|gu (bw.length<=1000000) <|gu (pe.length<=1000000) <|gu (tk.length<=1000) <|some (.inl (.l2 ((0:Int)) ([]))))
def Hj(n:Aa)(cl:List Bool)(bw pe:List Int)(tk:List TsD)(us:List UsD)(v0:Int)(v1:List UsD):Option (Dc⊕Ret):=br (decide (v0<iN (U4 usA us).length)) (gu (0<=v0) <|el (us) (v0.toNat) fun(x131:UsD)=>gu ((U4 usA v1).length+[AV.agg [iV x131.s,bV x131.lv,iV x131.hm,iV 0,iV 0,uV 0,bV false,bV false,iV 0,iV 0,Va [],iV 0,iV 0]].length<=9223372036854775807) <|gu (((U4 usA v1).length+[AV.agg [iV x131.s,bV x131.lv,iV x131.hm,iV 0,iV 0,uV 0,bV false,bV false,iV 0,iV 0,Va [],iV 0,iV 0]].length) * 112<=140737488355328) <|some (.inl (.l2 (i64.wrap (v0+1)) (v1++[x131])))) (some (.inr ([some (Blk.mk [AV.agg [Va (U4 bA n.bs),Va (gL n.nx),Va (U4 sA n.ss),Va (U4 iV n.rs),iV n.q,iV n.a,iV n.d,iV n.p,Va (boL cl),Va (U4 iV bw),Va (U4 iV pe),AV.sl 1 0 tk.length,AV.sl 2 0 v1.length]] 13 false true none),some (bK (U4 tsA tk) 5),some (bK (U4 usA v1) 13)],AV.tup [AV.ptr 0 0 0,iV 0])))
def P6(n:Aa)(cl:List Bool)(bw pe:List Int)(tk:List TsD)(us:List UsD):Dc->Option (Dc⊕Ret) | .l0 v0=>Hl n cl bw pe tk us v0 | .l1 v0=>Hd n cl bw pe tk us v0 | .l2 v0 v1=>Hj n cl bw pe tk us v0 v1
theorem bop_ct(n:Aa)(cl:List Bool)(bw pe:List Int)(tk:List TsD)(us:List UsD)(r:Ret)(h:Ac (P6 n cl bw pe tk us) (MA n cl bw pe tk us) r):CT Vb 25 ([]) ([Ai n,lgA ⟨cl,bw,pe,tk,us⟩]) r.1 r.2:=
 CT.mach (fn:=Tryz.f25) (c:=zB Tryz.f25) (S:=(O5 n cl bw pe tk us)) (hd:=Dc.ctorIdx) Tryz.func25 (by kernel_rfl) (nL rfl)
  (fun s o ho=>match s,ho with
 | .l0 v0,ho=>Scr.ok (X:=Hl n cl bw pe tk us v0) ho mix (
 .rn 0 [] [] [] [] (al (al t3)) <|
 .br (fun a0=>
 .gu fun a1=>
 .el fun x46 a2=>
 .rn 0 [91] [(46,tsA x46)] [] [] (aj a0 (al (aj (k2 (aj a1 (Af (f:=tsA) a2))) (u2 (ak (al (k2 n11))))))) <|
 .br (fun a3=>
  have c0:=Ju n (x46.p) (false);
  .rt [107] [] [(51,hK c0 [] [])] [] [] [] (aj (aj (u2 (u2 (u2 (aj (k2 (aj t9 (k2 (al (c0))))) (u2 (u2 (aj a3 (aj a3 (aj a3 (aj a3 (aj a3 (al (aj a3 t2))))))))))))) (ak (al t3))) (al t3)))
 (fun a3=>
  have c0:=Ju n (x46.p) (false);
  have c1:=Ju n (x46.d) (false);
  .rn 0 [106] [] [(51,hK c0 [] []),(57,hK c1 [] [])] [] (al (u2 (u2 (u2 (aj (k2 (aj t9 (k2 (al (c0))))) (u2 (u2 (ag a3 (ag a3 (ag a3 (aj (aj a3 (k2 (aj t9 (k2 (al (c1)))))) (ag a3 (al (aj a3 t2)))))))))))))) <|
  .br (fun a4=>
  .rt [106,119] [] [] [] [] [] (aj (aj a4 (al t3)) (al t3)))
  (fun a4=>
  .lp [106,118] [] [] [] [] [0,1] [2,3,42,43,44] (aj (aj a4 (al (u2 s2))) t8))))
 (fun a0=>
 .lp [90] [] [] [] [] [0,1] [2,3,62,63,64] (aj (aj a0 (al (u2 (u2 (u2 t2))))) t8))) (by kernel_rfl)
 | .l1 v0,ho=>Scr.ok (X:=Hd n cl bw pe tk us v0) ho mix (
 .rn 0 [] [] [] [] (al (al t3)) <|
 .br (fun a0=>
 .gu fun a1=>
 .el fun x66 a2=>
 .rn 0 [131] [(66,usA x66)] [] [] (aj a0 (al (aj (k2 (aj a1 (Af (f:=usA) a2))) (u2 (ak (al (k2 n11))))))) <|
 .br (fun a3=>
  .rt [143] [] [] [] [] [] (aj (aj (u2 (u2 (u2 (u2 (aj a3 (aj a3 (aj a3 (ag a3 (u2 (k3 (aj t3 (u2 (k5 (k5 (al t3))))))))))))))) (ak (al t3))) (al t3)))
 (fun a3=>
  .br (fun a4=>
  .rt [142,153] [] [] [] [] [] (aj (aj (u2 (u2 (u2 (u2 (ag a3 (ag a3 (ag a3 (ag a3 (u2 (aj a4 (aj a4 (aj a4 (ag a4 (u2 (k5 (k5 (al t3))))))))))))))))) (ak (al t3))) (al t3)))
  (fun a4=>
  .br (fun a5=>
   .rt [142,152,163] [] [] [] [] [] (aj (aj (u2 (u2 (u2 (u2 (ag a3 (ag a3 (ag a3 (ag a3 (u2 (ag a4 (ag a4 (ag a4 (ag a4 (u2 (aj a5 (aj a5 (aj a5 (aj a5 (k5 (aj a5 (al (aj a5 t2)))))))))))))))))))))) (ak (al t3))) (al t3)))
  (fun a5=>
   .br (fun a6=>
   have c0:=Ju n (x66.hm) (true);
   .rn 0 [142,152,162,171] [] [(89,hK c0 [] [])] [] (al (u2 (u2 (u2 (u2 (ag a3 (ag a3 (ag a3 (ag a3 (u2 (ag a4 (ag a4 (ag a4 (ag a4 (u2 (ag a5 (ag a5 (ag a5 (ag a5 (ag a6 (ag a6 (ag a6 (aj (aj a6 (k2 (aj t9 (k2 (al (c0)))))) (ag a6 (aj (aj a5 (aj a6 t2)) (al (aj a5 t2))))))))))))))))))))))))))) <|
   .br (fun a7=>
    .rt [142,152,162,171,185] [] [] [] [] [] (aj (aj a7 (al t3)) (al t3)))
   (fun a7=>
    .lp [142,152,162,171,184] [] [] [] [] [0,1] [2,3,62,63,64] (aj (aj a7 (al (u2 s2))) t8)))
   (fun a6=>
   .lp [142,152,162,170] [] [] [] [] [0,1] [2,3,62,63,64] (aj (aj (u2 (u2 (u2 (u2 (ag a3 (ag a3 (ag a3 (ag a3 (u2 (ag a4 (ag a4 (ag a4 (ag a4 (u2 (ag a5 (ag a5 (ag a5 (ag a5 (aj a6 (aj a6 (aj a6 (aj a6 (aj a6 (aj (aj a5 (aj a6 t2)) (al (aj a5 t2)))))))))))))))))))))))))) (ak (al (u2 s2)))) t8))))))
 (fun a0=>
 .rn 0 [130] [] [] [] (aj a0 (al (u2 (u2 (aj t3 (u2 s2)))))) <|
 .gu fun a1=>
 .gu fun a2=>
 .gu fun a3=>
 have c0:=clb_i (cl) a1;
 have c1:=cli_i (bw) a2;
 have c2:=cli_i (pe) a3;
 .rn 0 [] [] [(102,hK c0 [] []),(106,hK c1 [] []),(110,hK c2 [] [])] [] (al (u2 (u2 (u2 (u2 (aj (k2 (al (c0))) (u2 (u2 (u2 (aj (k2 (al (c1))) (u2 (u2 (u2 (aj (k2 (al (c2))) (aj t4 (u2 (u2 (u2 (al t3))))))))))))))))))) <|
 .gu fun a4=>
 have c3:=c74_c (tk) a4;
 .lp [] [] [(119,hK c3 [] [])] [] [(13012,13)] [2,3,4] [12,127,128,129] (aj (aj (u2 (u2 (u2 (u2 (aj (k2 (al (c3))) (u2 (u2 (u2 (aj t3 (u2 (u2 (u2 s2)))))))))))) (al (u2 (u2 (u2 t2))))) (ak (k3 (aj (al (k5 t9)) t3)))))) (by kernel_rfl)
 | .l2 v0 v1,ho=>Scr.ok (X:=Hj n cl bw pe tk us v0 v1) ho mix (
 .rn 0 [] [] [] [] (al (al t3)) <|
 .br (fun a0=>
 .gu fun a1=>
 .el fun x131 a2=>
 .rn 0 [261] [(131,usA x131)] [] [] (aj a0 (al (aj (k2 (aj a1 (Af (f:=usA) a2))) (u2 (ak (al (k2 n11))))))) <|
 .gu fun a3=>
 .gu fun a4=>
 .lq [] [(146,AV.tup [])] [] [] [] [0,1,5] [12,127,128,129] (up [] [(0,[AV.agg [Va (U4 bA n.bs),Va (gL n.nx),Va (U4 sA n.ss),Va (U4 iv n.rs),iv n.q,iv n.a,iv n.d,iv n.p,Va (boL cl),Va (U4 iv bw),Va (U4 iv pe),AV.sl 1 0 tk.length,AV.sl 2 0 ((U4 usA v1).length+[AV.agg [iv x131.s,bV x131.lv,iv x131.hm,iv 0,iv 0,uV 0,bV false,bV false,iv 0,iv 0,Va [],iv 0,iv 0]].length)]]),(2,U4 usA v1++[AV.agg [iv x131.s,bV x131.lv,iv x131.hm,iv 0,iv 0,uV 0,bV false,bV false,iv 0,iv 0,Va [],iv 0,iv 0]])] (O5 n cl bw pe tk us (.l2 (i64.wrap (v0+1)) (v1++[x131])))) (aj (aj (u2 (u2 (u2 (u2 (u2 (u2 (u2 (u2 (u2 (u2 (u2 (u2 (aj t4 (u2 (aj (k2 (aj (show(U4 usA v1).length=v1.length by simp) (aj (aj (show nat_lit 13=nat_lit 13 from rfl) (show 1<=[AV.agg [iv x131.s,bV x131.lv,iv x131.hm,iv 0,iv 0,uV 0,bV false,bV false,iv 0,iv 0,Va [],iv 0,iv 0]].length by simp)) (aj a3 a4)))) (u2 (u2 (u2 (al t3))))))))))))))))))) (al (u2 s2))) (ak (k3 (aj (al (k5 t9)) t3)))) (by simp[up,upF,upV,upH,upB,O5,gL,boL,lI,sA,bA,tsA,usA]))
 (fun a0=>
 .rt [260] [] [] [] [0,1,2] [] (aj (aj a0 (al (u2 (u2 t2)))) (aj t3 (aj (al (k5 t9)) t3))))) (by kernel_rfl)
  )
  (fun o ho=>Scr.ok (X:=MA n cl bw pe tk us) ho mix (
 have c0:=aQd_c (tk);
 .rn 1 [] [] [(18,hK c0 [] [])] [] (aj (u2 (u2 t3)) (al (u2 (u2 (aj (k2 (al (c0))) (u2 (u2 (u2 (u2 s2))))))))) <|
 .gu fun a0=>
 .br (fun a1=>
 have c1:=F0 a0;
 .rt [49] [] [(22,hK c1 [] [])] [] [] [] (aj (aj (u2 (aj (ak (aj t9 (al (c1)))) (u2 (u2 (aj a1 (aj a1 (aj a1 (aj a1 (aj a1 (ag a1 (u2 (k2 (aj t3 (u2 (ak (k3 (al t3))))))))))))))))) (ak (al t3))) (al t3)))
 (fun a1=>
 .br (fun a2=>
  have c1:=F0 a0;
  have c2:=I7 (cl) (bw) (pe) a0;
  .rt [48,63] [] [(22,hK c1 [] []),(28,hK c2 [] [])] [] [] [] (aj (aj (u2 (aj (ak (aj t9 (al (c1)))) (u2 (u2 (ag a1 (ag a1 (ag a1 (aj (aj a1 (k2 (aj t9 (aj t4 (al (c2)))))) (ag a1 (ag a1 (u2 (aj a2 (aj a2 (ag a2 (u2 (ak (k3 (al t3)))))))))))))))))) (ak (al t3))) (al t3)))
 (fun a2=>
  .br (fun a3=>
  have c1:=F0 a0;
  have c2:=I7 (cl) (bw) (pe) a0;
  .rt [48,62,71] [] [(22,hK c1 [] []),(28,hK c2 [] [])] [] [] [] (aj (aj (u2 (aj (ak (aj t9 (al (c1)))) (u2 (u2 (ag a1 (ag a1 (ag a1 (aj (aj a1 (k2 (aj t9 (aj t4 (al (c2)))))) (ag a1 (ag a1 (u2 (ag a2 (ag a2 (ag a2 (u2 (aj a3 (aj a3 (aj a3 (aj a3 (al (aj a3 t2))))))))))))))))))))) (ak (al t3))) (al t3)))
  (fun a3=>
  have c1:=F0 a0;
  have c2:=I7 (cl) (bw) (pe) a0;
  .rn 0 [48,62,70] [] [(22,hK c1 [] []),(28,hK c2 [] [])] [] (al (u2 (aj (ak (aj t9 (al (c1)))) (u2 (u2 (ag a1 (ag a1 (ag a1 (aj (aj a1 (k2 (aj t9 (aj t4 (al (c2)))))) (ag a1 (ag a1 (u2 (ag a2 (ag a2 (ag a2 (u2 (ag a3 (ag a3 (ag a3 (ag a3 (al (aj a3 t2)))))))))))))))))))))) <|
  .br (fun a4=>
   .rt [48,62,70,81] [] [] [] [] [] (aj (aj a4 (al t3)) (al t3)))
  (fun a4=>
   .lp [48,62,70,80] [] [] [] [] [0,1] [2,3,42,43,44] (aj (aj a4 (al (u2 (u2 (u2 t2))))) t8)))))) (by kernel_rfl)) h
theorem P0{n:Aa}{q:Int}(h:stB n q):C7 n q false=true:=by obtain⟨h0,s,hs,hd⟩:=h;unfold C7;rw[hs,Ul h0];show(s.dep==false)=true;rw[hd];rfl
theorem isSB_dp{n:Aa}{q:Int}:C7 n q true=dpB n q:=by
 unfold C7 dpB;cases n.ss[q.toNat]? with
 | none=>rfl
 | some s=>show(_&&(s.dep==true))=(_&&s.dep);cases s.dep<;>rfl
theorem LgV.aq{n:Aa}{x:LgD}(h:LgV n x):tvB x.tk=true:=by unfold tvB;rw[Uk (by have:=h.tl;omega)];exact Ut.2 fun t ht=>Ul (h.tv t ht).1
theorem LgV.aqE{n:Aa}{x:LgD}(h:LgV n x):aqE x.tk=0:=by unfold _root_.Go.Proofs.YthjgbnbibebigaaGreat.aqE;rw[h.aq]
theorem Oq(n:Aa)(cl:List Bool)(bw pe:List Int)(tk:List TsD)(us:List UsD)(hV:LgV n ⟨cl,bw,pe,tk,us⟩):CT Vb 25 [] [Ai n,lgA ⟨cl,bw,pe,tk,us⟩] (bkH n cl bw pe tk us tk.length us.length) (.tup [.ptr 0 0 0,.int .i64 0]):=by
 have hb:=hV.bd;have hu:=hV.ul;have ht:=hV.tl;have hE:=hV.aqE;simp only at hb hu ht hE;refine bop_ct n cl bw pe tk us (_,_) ?_;unfold MA;rw[Ab hV.rw,Ad (by rw[BD.2 hV.nv];rfl),Ad (by rw[ks_b hV.nv hV.sg];rfl),Ad (by rw[hE];rfl),Ad (Uk (by simp only[iN,Ui];omega))];refine Bm (fun i=>Dc.l0 (i:Int)) tk.length (fun i hi h=>.to (show Hl n cl bw pe tk us i=_ from ?_) h) (.to (show Hl n cl bw pe tk us tk.length=some (.inl (.l1 0)) from ?_) ?_)
 .have hx:tk[i]?=some tk[i]:=Uf hi;have hm:=hV.tv _ (Uj hx);unfold Hl;rw[AS hx,Ad (by rw[P0 hm.2.1];rfl),Ad (by rw[P0 hm.2.2];rfl),Bk i (by omega)]
 .unfold Hl;rw[AO]
 refine Bm (fun i=>Dc.l1 (i:Int)) us.length (fun i hi h=>.to (show Hd n cl bw pe tk us i=_ from ?_) h) (.to (show Hd n cl bw pe tk us us.length=some (.inl (.l2 0 [])) from ?_) ?_)
 .have hx:us[i]?=some us[i]:=Uf hi;obtain⟨g1,g2,g3,g4⟩:=hV.uv _ (Uj hx);unfold Hd;rw[AS hx,Ad (Uk (by omega)),Ad (Uk (by omega)),Ad (Uk (by omega)),Bk i (by omega)];by_cases h0:0<=us[i].hm
  .rw[Ag (Ul h0),isSB_dp,Ad (by rw[g4 h0];rfl)]
  .rw[Ad (Uk h0)]
 .unfold Hd;rw[AO,Ab (by omega),Ab (by omega),Ab (by omega),Ab (by omega)]
 have key:∀(d i:Nat),i+d=us.length->Ac (P6 n cl bw pe tk us) (some (.inl (.l2 (i:Nat) (us.take i)))) ((bkH n cl bw pe tk us tk.length us.length,.tup [.ptr 0 0 0,.int .i64 0]):Ret):=by
  intro d;induction d with
  | zero=>
   intro i hi;obtain rfl:i=us.length:=by omega
   refine .to (show Hj n cl bw pe tk us us.length _=_ from rfl) ?_;unfold Hj;rw[AO,List.take_length];exact .ret _
  | succ d ih=>
   intro i hi;have hx:us[i]?=some us[i]:=Uf (by omega);have e:us.take (i+1)=us.take i++[us[i]]:=by rw[List.take_add_one,hx];rfl
   have:=ih (i+1) (by omega);rw[e] at this;refine .to (show Hj n cl bw pe tk us i _=_ from rfl) ?_;unfold Hj;rw[AS hx,Ab (by simp only[Ui,UF,UQ];omega),Ab (by simp only[Ui,UF,UQ];omega),Bk i (by omega)];exact this
 exact key us.length 0 (by omega)
def bkF(n:Aa)(x:LgD):List (Option Blk):=[some (Blk.mk [bkB n (.lst (boL x.cl)) (lI x.bw) (lI x.pe) (.lst (x.tk.map tsA)) (.lst (x.us.map usA))] 13 true true none)]
def bkO(n:Aa)(x:LgD):List (Option Blk):=bkH n x.cl x.bw x.pe x.tk x.us x.tk.length x.us.length
theorem frzB{f:FuncId}{hin:List (Option Blk)}{args:List AV}{n:Aa}{x:LgD}{a b:Int}(h:CTX Vb f hin args (bkO n x) (.agg [.int .i64 a,.int .i64 b])):CTX Vb f hin args (bkF n x) (.agg [.int .i64 a,.int .i64 b]):=by
 refine⟨CTO.ren (st1:=⟨1,[(0,.agg [.int .i64 a,.int .i64 b])],bkF n x⟩) h.ct (by show 1<=3;omega) (fun b hb=>?_) (Ren.of [0] [1,2] [0] (p:=_) rfl ?_ rfl rfl rfl)⟩
 .match b,hb with
  | 0,_=>exact⟨_,rfl,rfl⟩
  | 1,_=>exact⟨_,rfl,rfl⟩
  | 2,_=>exact⟨_,rfl,rfl⟩
  | b+3,h=>exact absurd h (by show ¬(b+3<3);omega)
 .simp;exact⟨trivial,trivial,trivial⟩
abbrev MtQ:=Aa->LgD->CmD->LgD×Int×Int->Prop
def MtP(f:FuncId)(Q:MtQ):Prop:=∀n x c,LgV n x->∃p:LgD×Int×Int,(LgV n p.1/\Q n x c p)/\CTX Vb f (bkO n x) [.ptr 0 0 0,cmA c] (bkF n p.1) (.agg [.int .i64 p.2.1,.int .i64 p.2.2])
theorem MtP.fn{f:FuncId}{Q:MtQ}(h:MtP f Q):∃F:Aa->LgD->CmD->LgD×Int×Int,∀n x c,LgV n x->(LgV n (F n x c).1/\Q n x c (F n x c))/\CTX Vb f (bkO n x) [.ptr 0 0 0,cmA c] (bkF n (F n x c).1) (.agg [.int .i64 (F n x c).2.1,.int .i64 (F n x c).2.2]):=by
 have h':∀n x c,∃p:LgD×Int×Int,LgV n x->(LgV n p.1/\Q n x c p)/\CTX Vb f (bkO n x) [.ptr 0 0 0,cmA c] (bkF n p.1) (.agg [.int .i64 p.2.1,.int .i64 p.2.2]):=fun n x c=>by
  by_cases hV:LgV n x
  .obtain⟨p,hp⟩:=h n x c hV;exact⟨p,fun _=>hp⟩
  .exact⟨(x,0,0),fun q=>absurd q hV⟩
 exact⟨fun n x c=>Classical.choose (h' n x c),fun n x c=>UP (h' n x c)⟩
def bkT(n:Aa)(p:LgD×Int×Int):Ret:=(bkO n p.1,.agg [.int .i64 p.2.1,.int .i64 p.2.2])
theorem E9{n:Aa}{Q:LgD×Int×Int->Prop}{σ:Type}{step:σ->Option (σ⊕Ret)}{y:LgD}(hV:LgV n y){a b:Int}(hQ:Q (y,a,b)){r:Ret}(h:r=(bkO n y,.agg [.int .i64 a,.int .i64 b])):∃p:{p:LgD×Int×Int // LgV n p.1/\Q p},Ac step (some (.inr r)) (bkT n p.1):=⟨⟨(y,a,b),hV,hQ⟩,by rw[h];exact .ret _⟩
theorem Pv{n:Aa}{Q:LgD×Int×Int->Prop}{f:FuncId}{hin:List (Option Blk)}{args:List AV}{σ:Type}{step:σ->Option (σ⊕Ret)}{en:Option (σ⊕Ret)}(h:∀r,Ac step en r->CTX Vb f hin args r.1 r.2)
  (he:∃p:{p:LgD×Int×Int // LgV n p.1/\Q p},Ac step en (bkT n p.1)):∃p:LgD×Int×Int,(LgV n p.1/\Q p)/\CTX Vb f hin args (bkF n p.1) (.agg [.int .i64 p.2.1,.int .i64 p.2.2]):=by
 obtain⟨p,hp⟩:=he;exact⟨p.1,p.2,frzB (h _ hp)⟩
def Ob(n:Aa)(cl:List Bool)(bw pe:List Int)(tk:List TsD)(us:List UsD)(c:CmD):Option (Empty⊕Ret):=gu (n.bs.length<=1000) <|gu (RwV n) <|gu (Aq n) <|gu (BB n (Aj.mk cl bw pe)) <|br (decide (Az n c.a<0)) (some (.inr (bkH n cl bw pe tk us tk.length us.length,AV.agg [iV 3,iV 0]))) (gu (0<=Az n c.a) <|el (AD (Aj.mk cl bw pe)) ((Az n c.a).toNat) fun(x22:Bool)=>br x22 (some (.inr (bkH n cl bw pe tk us tk.length us.length,AV.agg [iV 6,iV 0]))) (gu (us.length<=1000) <|br (!alO n (AD (Aj.mk cl bw pe)) (Az n c.a) (cnF us)) (some (.inr (bkH n cl bw pe tk us tk.length us.length,AV.agg [iV 5,iV 0]))) (gu (0<=Az n c.a/\Az n c.a<iN n.bs.length) <|br ((AD (Aj.mk cl bw pe)).getD (Az n c.a).toNat true) (none) (some (.inr ([some (Blk.mk [AV.agg [Va (U4 bA n.bs),Va (gL n.nx),Va (U4 sA n.ss),Va (U4 iV n.rs),iV n.q,iV n.a,iV n.d,iV n.p,Va (boL cl),Va (U4 iV bw),Va (U4 iV (pe++[Az n c.a])),AV.sl 1 0 tk.length,AV.sl 2 0 us.length]] 13 false true none),some (bK (U4 tsA tk) 5),some (bK (U4 usA us) 13)],AV.agg [iV 1,iV 0]))))))
theorem bcl_ct(n:Aa)(cl:List Bool)(bw pe:List Int)(tk:List TsD)(us:List UsD)(c:CmD)(r:Ret)(h:Ac emT (Ob n cl bw pe tk us c) r):CTX Vb 28 (bkH n cl bw pe tk us tk.length us.length) ([.ptr 0 0 0,cmA c]) r.1 r.2:=
 CTX.mach (fn:=Tryz.f28) (c:=zB Tryz.f28) (S:=emS) (hd:=emH) Tryz.func28 (by kernel_rfl) (nL rfl) (nL rfl)
  (fun s o ho=>match s,ho with
   | x,_=>x.elim)
  (fun o ho=>Scr.ok (X:=Ob n cl bw pe tk us c) ho mix (
 .rn 0 [] [] [] [] (al (u2 t2)) <|
 .gu fun a0=>
 .gu fun a1=>
 .gu fun a2=>
 .gu fun a3=>
 have c0:=bbl_c n (cl) (bw) (pe) (tk) (us) (tk.length) (us.length) (c.a) a0;
 have c1:=bsh_v n (cl) (bw) (pe) (tk) (us) (tk.length) (us.length) a1 a2 a3;
 .rn 1 [] [] [(12,hK c0 [0,1,2] []),(14,hK c1 [0,1,2] [])] [] (aj (u2 (u2 (u2 (aj (ak (k3 (aj (al (k5 t9)) (k2 (al (c0)))))) (u2 (aj (k2 (aj (al (k5 t9)) (k2 (al (c1))))) (u2 s2))))))) (al (u2 (u2 s2)))) <|
 .br (fun a4=>
 .rt [31] [] [] [] [0,1,2] [] (aj (aj a4 (al (ak (al (k2 n11))))) (aj t3 (aj (al (k5 t9)) t3))))
 (fun a4=>
 .gu fun a5=>
 .el fun x22 a6=>
 .rn 0 [30] [(22,bV x22)] [] [] (aj a4 (al (u2 (u2 (aj (k2 (aj a5 (Af (f:=bV) a6))) (u2 s2)))))) <|
 .br (fun a7=>
  .rt [39] [] [] [] [0,1,2] [] (aj (aj a7 (al (ak (al (k2 n11))))) (aj t3 (aj (al (k5 t9)) t3))))
 (fun a7=>
  .gu fun a8=>
  have c2:=bc2_c n (cl) (bw) (pe) (tk) (us) (tk.length) (us.length) (show us.length=us.length from rfl) a8;
  have c3:=all_c (AD (Aj.mk cl bw pe)) (Az n c.a) (cnF us) a1;
  .rn 1 [38] [] [(33,hK c2 [0,1,2] []),(34,hK c3 [] [])] [] (aj a7 (aj (u2 (u2 (u2 (u2 (u2 (u2 (u2 (aj (k3 (aj (al (k5 t9)) (k2 (al (c2))))) (aj (ak (k3 (aj t9 (k3 (al (c3)))))) (u2 (u2 (u2 (u2 s2))))))))))))) (al (u2 s2)))) <|
  .br (fun a9=>
  .rt [77] [] [] [] [0,1,2] [] (aj (aj a9 (al (ak (al (k2 n11))))) (aj t3 (aj (al (k5 t9)) t3))))
  (fun a9=>
  .gu fun a10=>
  .br (fun a11=>
   .no)
  (fun a11=>
   have c4:=an_v (cl) (bw) (pe) (Az n c.a) a2 a1 a3 a10 a11;
   have c5:=okA_c (0);
   .rt [76] [] [(52,hK c4 [] []),(58,hK c5 [] [])] [] [0,1,2] [] (aj (aj a9 (aj (u2 (u2 (u2 (u2 (u2 (u2 (u2 (u2 (u2 (u2 (u2 (aj (k3 (aj t9 (aj t4 (ak (al (c4)))))) (u2 (u2 (u2 (u2 (u2 (u2 (al t3))))))))))))))))))) (al (aj (ak (al (c5))) (al (k2 n11)))))) (aj t3 (aj (al (k5 t9)) t3)))))))) (by kernel_rfl)) h
def bflEn(n:Aa)(cl:List Bool)(bw pe:List Int)(tk:List TsD)(us:List UsD)(c:CmD):Option (Empty⊕Ret):=gu (us.length<=1000) <|some (.inr (bkH n cl bw pe tk us tk.length us.length,AV.agg [iV 12,iV (cnP us)]))
theorem bfl_ct(n:Aa)(cl:List Bool)(bw pe:List Int)(tk:List TsD)(us:List UsD)(c:CmD)(r:Ret)(h:Ac emT (bflEn n cl bw pe tk us c) r):CTX Vb 34 (bkH n cl bw pe tk us tk.length us.length) ([.ptr 0 0 0,cmA c]) r.1 r.2:=
 CTX.mach (fn:=Tryz.f34) (c:=zB Tryz.f34) (S:=emS) (hd:=emH) Tryz.func34 (by kernel_rfl) (nL rfl) (nL rfl)
  (fun s o ho=>match s,ho with
   | x,_=>x.elim)
  (fun o ho=>Scr.ok (X:=bflEn n cl bw pe tk us c) ho mix (
 .rn 0 [] [] [] [] (al (u2 t2)) <|
 .gu fun a0=>
 have c0:=Ms n (cl) (bw) (pe) (tk) (us) (tk.length) (us.length) (show us.length=us.length from rfl) a0;
 have c1:=isA_c (cnP us);
 .rt [] [] [(6,hK c0 [0,1,2] []),(7,hK c1 [] [])] [] [0,1,2] [] (aj (al (u2 (aj (k3 (aj (al (k5 t9)) (k2 (al (c0))))) (aj (k2 (al (c1))) (al (k2 n11)))))) (aj t3 (aj (al (k5 t9)) t3)))) (by kernel_rfl)) h
def MqL:MtQ:=fun n x c p=>(p.2.1≠1->p.1=x)/\(0<=Az n c.a->(p.2.1=1↔(AD ⟨x.cl,x.bw,x.pe⟩).getD (Az n c.a).toNat true=false/\alO n (AD ⟨x.cl,x.bw,x.pe⟩) (Az n c.a) (cnF x.us)=true)/\(p.2.1=1->p.1.pe=x.pe++[Az n c.a])/\((AD ⟨x.cl,x.bw,x.pe⟩).getD (Az n c.a).toNat true=false->alO n (AD ⟨x.cl,x.bw,x.pe⟩) (Az n c.a) (cnF x.us)=false->p.2=(5,0)))
theorem bcl_P:MtP 28 MqL:=fun n x c hV=>Pv (bcl_ct n x.cl x.bw x.pe x.tk x.us c) (by
 have hb:=hV.bd;have hu:=hV.ul;have hS:=DX ⟨x.cl,x.bw,x.pe⟩;simp only at hS;unfold Ob;refine Ah (by omega) (Ah hV.rw (Ah hV.nv (Ah hV.sg (Am (fun h=>E9 hV ⟨fun _=>rfl,fun h0=>by have:=of_decide_eq_true h;omega⟩ rfl) fun ha=>?_))));have ha:=NC ha;refine Ah ha.1 (AZ (by omega) fun y hy=>?_);have hg:(AD ⟨x.cl,x.bw,x.pe⟩).getD (Az n c.a).toNat true=y:=by rw[Ug,hy];rfl
 refine Am (fun h=>E9 hV ⟨fun _=>rfl,fun h0=>⟨⟨fun e=>by simp at e,fun e=>by rw[hg,h] at e;cases e.1⟩,fun e=>by simp at e,fun e=>by rw[hg,h] at e;cases e⟩⟩ rfl) fun hy0=>Ah (by omega) (Am (fun h=>E9 hV ⟨fun _=>rfl,fun h0=>⟨⟨fun e=>by simp at e,fun e=>by rw[e.2] at h;cases h⟩,fun e=>by simp at e,fun _ _=>rfl⟩⟩ rfl) fun h=>Ah ⟨ha.1,by simp only[iN];omega⟩ ?_)
 rw[hg,hy0,Ad rfl];have hg2:=P4 hV.nv hV.sg (Az n c.a).toNat;rw[hg,hy0,show(((Az n c.a).toNat:Nat):Int)=Az n c.a by omega] at hg2;have hg1:x.cl.getD (Az n c.a).toNat true=false:=by cases hq:x.cl.getD (Az n c.a).toNat true with | false=>rfl | true=>simp only at hg2;rw[hq] at hg2;cases hg2
 have hg3:Az n c.a∉x.pe:=fun hm=>by simp only at hg2;rw[Fo.2 hm,Bool.or_true] at hg2;cases hg2
 exact E9 (y:=⟨x.cl,x.bw,x.pe++[Az n c.a],x.tk,x.us⟩) (a:=1) (b:=0) (hV.sig (Qk hV.sg ⟨ha.1,ha.2.1⟩ hg1 hg3)) ⟨fun e=>absurd rfl e,fun _=>⟨⟨fun _=>⟨by rw[hg];exact hy0,by simpa using h⟩,fun _=>rfl⟩,fun _=>rfl,fun _ e=>by rw[e] at h;cases h⟩⟩ rfl)
def MqF:MtQ:=fun _ x _ p=>p=(x,12,cnP x.us)
theorem bfl_P:MtP 34 MqF:=fun n x c hV=>Pv (bfl_ct n x.cl x.bw x.pe x.tk x.us c) (Ah (by have:=hV.ul;omega) (E9 (Q:=MqF n x c) hV rfl rfl))
theorem lNw_c(n:Aa)(hv:Aq n)(hr:RwV n):CT Vb 18 [] [Ai n] [] (.tup [lgA ⟨(AN n).cl,(AN n).bw,(AN n).pe,[],neU n⟩,.int .i64 0]):=by
 have hnr:=hv.nr;refine CT.wkT (cs:=[.lst (boL (AN n).cl),lI (AN n).bw,lI (AN n).pe,.nils,.lst ((neU n).map usA)]) (lNw_ct n ([],_) ?_);unfold OP;rw[Ab hv,Ab hr];have key:∀(d i:Nat),i+d=n.rs.length->Ac (LH n) (some (.inl (.l0 (i:Int) ((n.rs.take i).map fun c=>⟨1,false,plI n c⟩)))) (([],.tup [.agg [.lst (boL (AN n).cl),lI (AN n).bw,lI (AN n).pe,.nils,.lst ((neU n).map usA)],.int .i64 0]):Ret):=by
  intro d;induction d with
  | zero=>
   intro i hi;obtain rfl:i=n.rs.length:=by omega
   refine .to (show LH n (.l0 (n.rs.length:Nat) _)=F6 n (n.rs.length:Nat) _ from rfl) ?_;unfold F6;rw[AO,List.take_length];exact .ret _
  | succ d ih=>
   intro i hi;have hx:n.rs[i]?=some n.rs[i]:=Uf (by omega);have e:(n.rs.take (i+1)).map (fun c=>(⟨1,false,plI n c⟩:UsD))=(n.rs.take i).map (fun c=>(⟨1,false,plI n c⟩:UsD))++[⟨1,false,plI n n.rs[i]⟩]:=by rw[List.take_add_one,hx,Us];rfl
   have:=ih (i+1) (by omega);rw[e] at this;have hl2:(U4 usA ((n.rs.take i).map (fun c=>(⟨1,false,plI n c⟩:UsD)))).length<=i:=by simp only[Ui,UF];omega
   obtain⟨t,ht,hd,h3⟩:=(hv.rob i _ hx).1;obtain⟨j,hj⟩:=List.getElem?_of_mem (List.mem_of_mem_take ht);have g1:=hv.sb hj;have g2:=hv.ends hj;refine .to (show LH n (.l0 (i:Nat) _)=F6 n (i:Nat) _ from rfl) ?_;unfold F6;rw[AS hx,Ab hr,Ab hv,Ab (by simp only[iN];omega),Ab (by simp only[UQ];omega),Ab (by simp only[UQ];omega),Bk i (by omega)];exact this
 exact key n.rs.length 0 (by omega)
@[irreducible] def BS:Aa->LgD->CmD->LgD×Int×Int:=Classical.choose bcl_P.fn
theorem bcl_s(n:Aa)(x:LgD)(c:CmD)(hV:LgV n x):(LgV n (BS n x c).1/\MqL n x c (BS n x c))/\CTX Vb 28 (bkO n x) [.ptr 0 0 0,cmA c] (bkF n (BS n x c).1) (.agg [.int .i64 (BS n x c).2.1,.int .i64 (BS n x c).2.2]):=by unfold BS;exact UP bcl_P.fn n x c hV
theorem bcl_c(n:Aa)(cl:List Bool)(bw pe:List Int)(tk:List TsD)(us:List UsD)(c:CmD)(n1 n2:Nat)(e1:n1=tk.length)(e2:n2=us.length)(hV:LgV n ⟨cl,bw,pe,tk,us⟩):CTX Vb 28 (bkH n cl bw pe tk us n1 n2) [.ptr 0 0 0,cmA c] (bkF n (BS n ⟨cl,bw,pe,tk,us⟩ c).1) (.agg [.int .i64 (BS n ⟨cl,bw,pe,tk,us⟩ c).2.1,.int .i64 (BS n ⟨cl,bw,pe,tk,us⟩ c).2.2]):=by subst e1 e2;exact(bcl_s n ⟨cl,bw,pe,tk,us⟩ c hV).2
@[irreducible] def Bo:Aa->LgD->CmD->LgD×Int×Int:=Classical.choose bfl_P.fn
theorem Lz(n:Aa)(x:LgD)(c:CmD)(hV:LgV n x):(LgV n (Bo n x c).1/\MqF n x c (Bo n x c))/\CTX Vb 34 (bkO n x) [.ptr 0 0 0,cmA c] (bkF n (Bo n x c).1) (.agg [.int .i64 (Bo n x c).2.1,.int .i64 (Bo n x c).2.2]):=by unfold Bo;exact UP bfl_P.fn n x c hV
theorem bfl_c(n:Aa)(cl:List Bool)(bw pe:List Int)(tk:List TsD)(us:List UsD)(c:CmD)(n1 n2:Nat)(e1:n1=tk.length)(e2:n2=us.length)(hV:LgV n ⟨cl,bw,pe,tk,us⟩):CTX Vb 34 (bkH n cl bw pe tk us n1 n2) [.ptr 0 0 0,cmA c] (bkF n (Bo n ⟨cl,bw,pe,tk,us⟩ c).1) (.agg [.int .i64 (Bo n ⟨cl,bw,pe,tk,us⟩ c).2.1,.int .i64 (Bo n ⟨cl,bw,pe,tk,us⟩ c).2.2]):=by subst e1 e2;exact(Lz n ⟨cl,bw,pe,tk,us⟩ c hV).2
def Nz(n:Aa)(cl:List Bool)(bw pe:List Int)(tk:List TsD)(us:List UsD)(u w:ByteArray)(q:Int):Option (Empty⊕Ret):=gu (LgV n (LgD.mk cl bw pe tk us)) <|some (.inr ([],AV.tup [AV.agg [Va (boL (BS n (LgD.mk cl bw pe tk us) (CmD.mk 3 u w q)).fst.cl),Va (U4 iV (BS n (LgD.mk cl bw pe tk us) (CmD.mk 3 u w q)).fst.bw),Va (U4 iV (BS n (LgD.mk cl bw pe tk us) (CmD.mk 3 u w q)).fst.pe),Va (U4 tsA (BS n (LgD.mk cl bw pe tk us) (CmD.mk 3 u w q)).fst.tk),Va (U4 usA (BS n (LgD.mk cl bw pe tk us) (CmD.mk 3 u w q)).fst.us)],AV.agg [iV (BS n (LgD.mk cl bw pe tk us) (CmD.mk 3 u w q)).snd.fst,iV (BS n (LgD.mk cl bw pe tk us) (CmD.mk 3 u w q)).snd.snd],iV 0]))
theorem cm3_ct(n:Aa)(cl:List Bool)(bw pe:List Int)(tk:List TsD)(us:List UsD)(u w:ByteArray)(q:Int)(r:Ret)(h:Ac emT (Nz n cl bw pe tk us u w q) r):CT Vb 9 ([]) ([Ai n,lgA ⟨cl,bw,pe,tk,us⟩,cmA ⟨3,u,w,q⟩]) r.1 r.2:=
 CT.mach (fn:=Tryz.f9) (c:=zB Tryz.f9) (S:=emS) (hd:=emH) Tryz.func9 (by kernel_rfl) (nL rfl)
  (fun s o ho=>match s,ho with
   | x,_=>x.elim)
  (fun o ho=>Scr.ok (X:=Nz n cl bw pe tk us u w q) ho mix (
 .rn 0 [] [] [] [] (al (u2 (u2 (u2 t4)))) <|
 .gu fun a0=>
 have c0:=Oq n (cl) (bw) (pe) (tk) (us) a0;
 have c1:=bcl_c n (cl) (bw) (pe) (tk) (us) (CmD.mk 3 (CmD.mk 3 u w q).a (CmD.mk 3 u w q).b q) (tk.length) (us.length) (show tk.length=tk.length from rfl) (show us.length=us.length from rfl) a0;
 .rt [] [] [(18,hK c0 [] []),(45,hKO c1 [5,6,7] [])] [] [] [] (aj (aj (u2 (u2 (aj (k2 (aj t9 (aj t6 (al (c0))))) (u2 (u2 (u2 (u2 s2))))))) (aj (u2 s2) (ak (aj (ak (u2 (u2 (u2 (u2 (u2 (u2 (u2 (u2 (u2 (u2 (u2 s2)))))))))))) (aj (u2 (u2 (u2 (aj t3 (u2 (u2 (u2 (u2 s2)))))))) (aj (u2 s2) (ak (aj (u2 (u2 (u2 (aj (ak (k3 (aj t5 (aj (al (k5 t9)) (k2 (c1)))))) (ak (al (k2 n11))))))) (al (u2 (u2 (u2 (u2 (u2 (aj (k2 n11) (aj (k2 n11) t2)))))))))))))))) (al (aj t6 (aj t3 t2))))) (by kernel_rfl)) h
def L3(n:Aa)(cl:List Bool)(bw pe:List Int)(tk:List TsD)(us:List UsD)(u w:ByteArray)(q:Int):Option (Empty⊕Ret):=gu (LgV n (LgD.mk cl bw pe tk us)) <|some (.inr ([],AV.tup [AV.agg [Va (boL (Bo n (LgD.mk cl bw pe tk us) (CmD.mk 9 u w q)).fst.cl),Va (U4 iV (Bo n (LgD.mk cl bw pe tk us) (CmD.mk 9 u w q)).fst.bw),Va (U4 iV (Bo n (LgD.mk cl bw pe tk us) (CmD.mk 9 u w q)).fst.pe),Va (U4 tsA (Bo n (LgD.mk cl bw pe tk us) (CmD.mk 9 u w q)).fst.tk),Va (U4 usA (Bo n (LgD.mk cl bw pe tk us) (CmD.mk 9 u w q)).fst.us)],AV.agg [iV (Bo n (LgD.mk cl bw pe tk us) (CmD.mk 9 u w q)).snd.fst,iV (Bo n (LgD.mk cl bw pe tk us) (CmD.mk 9 u w q)).snd.snd],iV 0]))
theorem cm9_ct(n:Aa)(cl:List Bool)(bw pe:List Int)(tk:List TsD)(us:List UsD)(u w:ByteArray)(q:Int)(r:Ret)(h:Ac emT (L3 n cl bw pe tk us u w q) r):CT Vb 9 ([]) ([Ai n,lgA ⟨cl,bw,pe,tk,us⟩,cmA ⟨9,u,w,q⟩]) r.1 r.2:=
 CT.mach (fn:=Tryz.f9) (c:=zB Tryz.f9) (S:=emS) (hd:=emH) Tryz.func9 (by kernel_rfl) (nL rfl)
  (fun s o ho=>match s,ho with
   | x,_=>x.elim)
  (fun o ho=>Scr.ok (X:=L3 n cl bw pe tk us u w q) ho mix (
 .rn 0 [] [] [] [] (al (u2 (u2 (u2 t4)))) <|
 .gu fun a0=>
 have c0:=Oq n (cl) (bw) (pe) (tk) (us) a0;
 have c1:=bfl_c n (cl) (bw) (pe) (tk) (us) (CmD.mk 9 (CmD.mk 9 u w q).a (CmD.mk 9 u w q).b q) (tk.length) (us.length) (show tk.length=tk.length from rfl) (show us.length=us.length from rfl) a0;
 .rt [] [] [(18,hK c0 [] []),(45,hKO c1 [5,6,7] [])] [] [] [] (aj (aj (u2 (u2 (aj (k2 (aj t9 (aj t6 (al (c0))))) (u2 (u2 (u2 (u2 s2))))))) (aj (u2 s2) (ak (aj (ak (u2 (u2 (u2 (u2 (u2 (u2 (u2 (u2 (u2 (u2 (u2 s2)))))))))))) (aj (u2 (u2 (u2 (aj t3 (u2 (u2 (u2 (u2 s2)))))))) (aj (u2 s2) (ak (aj (u2 (u2 (u2 (aj (ak (k3 (aj t5 (aj (al (k5 t9)) (k2 (c1)))))) (ak (al (k2 n11))))))) (al (u2 (u2 (u2 (u2 (u2 (aj (k2 n11) (aj (k2 n11) t2)))))))))))))))) (al (aj t6 (aj t3 t2))))) (by kernel_rfl)) h
def Lo:Option (Empty⊕Ret):=some (.inr ([],AV.agg [Va [AV.agg [AV.str (ByteArray.mk #[97]),iV 0,iV 0],AV.agg [AV.str (ByteArray.mk #[98]),iV 0,iV 0]],Va [Va [iV 1],Va [iV 0]],Va [AV.agg [AV.str (ByteArray.mk #[100]),bV true,iV 0,iV 1,iV 2,iV 2]],Va [iV 3],iV 4,iV 2,iV 1,iV 8]))
theorem exm_ct(r:Ret)(h:Ac emT (Lo) r):CT Vb 19 ([]) ([]) r.1 r.2:=
 CT.mach (fn:=Tryz.f19) (c:=zB Tryz.f19) (S:=emS) (hd:=emH) Tryz.func19 (by kernel_rfl) (nL rfl)
  (fun s o ho=>match s,ho with
   | x,_=>x.elim)
  (fun o ho=>Scr.ok (X:=Lo) ho mix (
 .rt [] [(3,Va []),(4,Va []),(5,Va []),(6,Va []),(8,Va []),(9,Va [])] [] [] [] [] (aj (u2 (al (k2 (aj t3 (k2 (aj t3 (ak (u2 (k2 (aj t6 (al (k2 n11)))))))))))) (al t9))) (by kernel_rfl)) h
theorem cm3_c(n:Aa)(cl:List Bool)(bw pe:List Int)(tk:List TsD)(us:List UsD)(u w:ByteArray)(q:Int)(hV:LgV n ⟨cl,bw,pe,tk,us⟩):CT Vb 9 [] [Ai n,lgA ⟨cl,bw,pe,tk,us⟩,cmA ⟨3,u,w,q⟩] [] (.tup [lgA (BS n ⟨cl,bw,pe,tk,us⟩ ⟨3,u,w,q⟩).1,.agg [.int .i64 (BS n ⟨cl,bw,pe,tk,us⟩ ⟨3,u,w,q⟩).2.1,.int .i64 (BS n ⟨cl,bw,pe,tk,us⟩ ⟨3,u,w,q⟩).2.2],.int .i64 0]):=cm3_ct n cl bw pe tk us u w q ([],_) (.val (by unfold Nz;rw[Ab hV];rfl))
theorem MG(n:Aa)(cl:List Bool)(bw pe:List Int)(tk:List TsD)(us:List UsD)(u w:ByteArray)(q:Int)(hV:LgV n ⟨cl,bw,pe,tk,us⟩):CT Vb 9 [] [Ai n,lgA ⟨cl,bw,pe,tk,us⟩,cmA ⟨9,u,w,q⟩] [] (.tup [lgA (Bo n ⟨cl,bw,pe,tk,us⟩ ⟨9,u,w,q⟩).1,.agg [.int .i64 (Bo n ⟨cl,bw,pe,tk,us⟩ ⟨9,u,w,q⟩).2.1,.int .i64 (Bo n ⟨cl,bw,pe,tk,us⟩ ⟨9,u,w,q⟩).2.2],.int .i64 0]):=cm9_ct n cl bw pe tk us u w q ([],_) (.val (by unfold L3;rw[Ab hV];rfl))
theorem QI:∃n:Aa,n=⟨[⟨⟨#[97]⟩,0,0⟩,⟨⟨#[98]⟩,0,0⟩],[[1],[0]],[⟨⟨#[100]⟩,true,0,1,2,2⟩],[3],4,2,1,8⟩:=⟨_,rfl⟩
@[irreducible] def exN:Aa:=Classical.choose QI
theorem Er:exN=⟨[⟨⟨#[97]⟩,0,0⟩,⟨⟨#[98]⟩,0,0⟩],[[1],[0]],[⟨⟨#[100]⟩,true,0,1,2,2⟩],[3],4,2,1,8⟩:=by unfold exN;exact UP QI
theorem M4:CT Vb 19 [] [] [] (Ai exN):=by rw[Er];exact exm_ct _ (.val (show Lo=some (.inr _) by unfold Lo;exact rfl))
theorem QN:Rows exN.nx:=by
 rw[Er];intro v hv;match v,hv with
 | 0,_=>decide
 | 1,_=>decide
 | v+2,hv=>simp at hv;try omega
theorem JJ:Aq exN:=by
 rw[Er];refine⟨by decide +kernel,rfl,by decide,by decide,by decide +kernel,?_,?_,?_,?_,?_⟩
 .intro i b h;match i,h with
  | 0,h=>cases h;exact⟨by decide +kernel,by decide +kernel,by decide +kernel,by decide +kernel⟩
  | 1,h=>cases h;exact⟨by decide +kernel,by decide +kernel,by decide +kernel,by decide +kernel⟩
  | i+2,h=>simp at h
 .intro i s h;match i,h with
  | 0,h=>cases h;exact⟨by decide +kernel,by decide +kernel,by decide +kernel,by decide +kernel,by decide +kernel⟩
  | i+1,h=>simp at h
 .decide +kernel
 .exact⟨2,⟨⟨#[100]⟩,true,0,1,2,2⟩,by simp,rfl,by decide,by decide⟩
 .intro i c h;match i,h with
  | 0,h=>cases h;exact⟨⟨⟨⟨#[100]⟩,true,0,1,2,2⟩,by simp,rfl,by decide,by decide⟩,by simp⟩
  | i+1,h=>simp at h
theorem Rw:∃x:LgD,x=⟨(AN exN).cl,(AN exN).bw,(AN exN).pe,[],neU exN⟩:=⟨_,rfl⟩
@[irreducible] def exL:LgD:=Classical.choose Rw
theorem Kj:exL=⟨(AN exN).cl,(AN exN).bw,(AN exN).pe,[],neU exN⟩:=by unfold exL;exact UP Rw
theorem KF:LgV exN exL:=Kj ▸ neV JJ ⟨JJ,QN⟩
theorem lNw_k:CT Vb 18 [] [Ai exN] [] (.tup [lgA exL,.int .i64 0]):=by rw[Kj];exact lNw_c exN JJ ⟨JJ,QN⟩
theorem ex_cn:cnF exL.us=1/\cnP exL.us=1:=by rw[Kj,Ol,Gx];unfold neU Bh;rw[Er];exact⟨rfl,rfl⟩
theorem ex_b:Az exN ⟨#[98]⟩=1:=by unfold Az;rw[Er];decide +kernel
theorem Re:Al exN=4:=by rw[Er];decide +kernel
theorem ex_sh:AD ⟨exL.cl,exL.bw,exL.pe⟩=[false,false,false,false]:=by rw[Kj];show U5 (Al exN) false=_;rw[Re];rfl
theorem ex_al:alO exN [false,false,false,false] 1 1=false:=by
 have h:=ML (n:=exN) (sh:=[false,false,false,false]) (bk:=1) (fl:=1) (Np JJ (by rw[Re];rfl) (by omega)) (by rw[Er];decide);rw[h.2];unfold alB caB;have h2:decide ((1:Int)<=slS exN (wth [false,false,false,false] 1))=false:=by rw[Er];decide +kernel
 rw[h2,Bool.and_false,Bool.and_false]
theorem cm3_k:CT Vb 9 [] [Ai exN,lgA exL,cmA ⟨3,⟨#[98]⟩,⟨#[]⟩,0⟩] [] (.tup [lgA exL,.agg [.int .i64 5,.int .i64 0],.int .i64 0]):=by have h:=cm3_c exN exL.cl exL.bw exL.pe exL.tk exL.us ⟨#[98]⟩ ⟨#[]⟩ 0 KF;have k:=(bcl_s exN exL ⟨3,⟨#[98]⟩,⟨#[]⟩,0⟩ KF).1.2;unfold MqL at k;simp only at k;rw[ex_b,ex_sh,ex_cn.1] at k;have k2:=(k.2 (by decide)).2.2 rfl ex_al;have k1:=k.1 (by rw[k2];decide);rw[k2,k1] at h;exact h
theorem cm9_k:CT Vb 9 [] [Ai exN,lgA exL,cmA ⟨9,⟨#[]⟩,⟨#[]⟩,0⟩] [] (.tup [lgA exL,.agg [.int .i64 12,.int .i64 1],.int .i64 0]):=by have h:=MG exN exL.cl exL.bw exL.pe exL.tk exL.us ⟨#[]⟩ ⟨#[]⟩ 0 KF;have k:Bo exN exL ⟨9,⟨#[]⟩,⟨#[]⟩,0⟩=(exL,12,cnP exL.us):=(Lz exN exL ⟨9,⟨#[]⟩,⟨#[]⟩,0⟩ KF).1.2;rw[k,ex_cn.2] at h;exact h
def knoEn:Option (Empty⊕Ret):=some (.inr ([],bV true))
theorem kno_ct(r:Ret)(h:Ac emT (knoEn) r):CT Vb 7 ([]) ([]) r.1 r.2:=
 CT.mach (fn:=Tryz.f7) (c:=zB Tryz.f7) (S:=emS) (hd:=emH) Tryz.func7 (by kernel_rfl) (nL rfl)
  (fun s o ho=>match s,ho with
   | x,_=>x.elim)
  (fun o ho=>Scr.ok (X:=knoEn) ho mix (
 have c0:=M4;
 have c1:=lNw_k;
 have c2:=M4;
 have c3:=cm3_k;
 have c4:=M4;
 have c5:=cm9_k;
 .rt [] [] [(10,hK c0 [] []),(11,hK c1 [] []),(15,hK c2 [] []),(18,hK c3 [] []),(23,hK c4 [] []),(26,hK c5 [] [])] [] [] [] (aj (u2 (aj (aj (al (c0)) (aj (ak (aj t9 (al (c1)))) (u2 (u2 (u2 (ak (aj (k2 n11) s2))))))) (aj (aj (al (c2)) (u2 (ak (aj (k3 (aj t9 (aj t6 (aj t5 (al (c3)))))) (u2 (u2 (u2 (u2 (k2 (aj (k2 n11) (aj (k2 n11) s2))))))))))) (aj (aj (al (c4)) (u2 (ak (aj (k3 (aj t9 (aj t6 (aj t5 (al (c5)))))) (u2 (u2 (u2 (u2 (k2 (aj (k2 n11) (aj (k2 n11) s2))))))))))) (al (u2 (u2 (u2 (aj t3 (aj t3 (aj t3 (u2 (aj t3 (aj t3 (aj t3 (u2 (aj t3 (u2 (aj t4 (aj t3 (u2 (aj t3 (u2 (aj t4 (aj t3 s2))))))))))))))))))))))))) t2)) (by kernel_rfl)) h
theorem kno_c:CT Vb 7 [] [] [] (.bool true):=kno_ct _ (.val rfl)
inductive FB where | l0 (v0 v1:Int)
def hFrSt(n:Aa)(sh:List Bool)(hm:List Int)(sp:Int):FB->St | .l0 v0 v1=>St.mk 38 [(2,Va (U4 iv hm)),(3,iv sp),(9,iv v0),(23,iv (iN (U4 iv hm).length)),(24,iv v1)] []
def Nh(n:Aa)(sh:List Bool)(hm:List Int)(sp:Int):Option (FB⊕Ret):=gu (RwV n) <|gu (Aq n) <|gu (sh.length=Al n) <|gu (0<=sp/\sp<iN n.ss.length) <|br (!odB n sh sp) (some (.inr ([],iV 0))) (gu (0<=sp) <|el (n.ss) (sp.toNat) fun(x19:Av)=>some (.inl (.l0 (x19.k) ((0:Int)))))
def Gp(n:Aa)(sh:List Bool)(hm:List Int)(sp v0 v1:Int):Option (FB⊕Ret):=br (decide (v1<iN (U4 iV hm).length)) (gu (0<=v1) <|el (hm) (v1.toNat) fun(x29:Int)=>br (x29==sp) (some (.inl (.l0 (i64.wrap (v0-1)) (i64.wrap (v1+1))))) (some (.inl (.l0 v0 (i64.wrap (v1+1)))))) (some (.inr ([],iV (if v0<0 then 0 else v0))))
def Qp(n:Aa)(sh:List Bool)(hm:List Int)(sp:Int):FB->Option (FB⊕Ret) | .l0 v0 v1=>Gp n sh hm sp v0 v1
theorem hFr_ct(n:Aa)(sh:List Bool)(hm:List Int)(sp:Int)(r:Ret)(h:Ac (Qp n sh hm sp) (Nh n sh hm sp) r):CT Vb 137 ([]) ([Ai n,.lst (boL sh),lI hm,.int .i64 sp]) r.1 r.2:=
 CT.mach (fn:=Tryz.f137) (c:=zB Tryz.f137) (S:=(hFrSt n sh hm sp)) (hd:=FB.ctorIdx) Tryz.func137 (by kernel_rfl) (nL rfl)
  (fun s o ho=>match s,ho with
 | .l0 v0 v1,ho=>Scr.ok (X:=Gp n sh hm sp v0 v1) ho mix (
 .rn 0 [] [] [] [] (al (al t3)) <|
 .br (fun a0=>
 .rn 0 [51] [] [] [] (aj a0 (al (u2 s2))) <|
 .gu fun a1=>
 .el fun x29 a2=>
 .rn 0 [] [(29,iv x29)] [] [] (al (u2 (u2 (aj (k2 (aj a1 (Af (f:=iv) a2))) (u2 (u2 (al t3))))))) <|
 .br (fun a3=>
  .lp [65] [] [] [] [] [] [2,3,9,23,24] (aj (aj a3 (aj (u2 (u2 s2)) (al (u2 s2)))) t6))
 (fun a3=>
  .lp [64] [] [] [] [] [] [2,3,9,23,24] (aj (aj a3 (al (u2 s2))) t6)))
 (fun a0=>
 .rt [50] [] [] [] [] [] (aj (aj a0 (al (u2 (u2 s2)))) t2))) (by kernel_rfl)
  )
  (fun o ho=>Scr.ok (X:=Nh n sh hm sp) ho mix (
 .rn 0 [] [] [] [] (al (u2 t2)) <|
 .gu fun a0=>
 .gu fun a1=>
 .gu fun a2=>
 .gu fun a3=>
 have c0:=hopen_ct n (sh) (sp) a0 a1 a2 a3;
 .rn 0 [] [] [(14,hK c0 [] [])] [] (al (u2 (u2 (u2 (aj (k3 (aj t9 (k2 (al (c0))))) s2))))) <|
 .br (fun a4=>
 .rt [31] [] [] [] [] [] (aj (aj a4 s2) t2))
 (fun a4=>
 .gu fun a5=>
 .el fun x19 a6=>
 .lp [30] [(19,sA x19)] [] [] [] [] [2,3,9,23,24] (aj (aj a4 (aj (u2 (u2 (u2 (aj (k2 (aj a5 (Af (f:=sA) a6))) (u2 (u2 s2)))))) (al (u2 (u2 t2))))) t6))) (by kernel_rfl)) h
theorem hfree_ct(n:Aa)(sh:List Bool)(hm:List Int)(sp:Int)(hrw:RwV n)(hv:Aq n)(hl:sh.length=Al n)(h:0<=sp/\sp<n.ss.length)(h8:hm.length<=1000):CT Vb 137 [] [Ai n,.lst (boL sh),lI hm,.int .i64 sp] [] (.int .i64 (plZ n sh hm sp)):=by
 refine hFr_ct n sh hm sp ([],_) ?_;obtain⟨s,hs⟩:∃s,n.ss[sp.toNat]?=some s:=⟨_,Uf (by omega)⟩;have sb:=hv.sb hs;unfold Nh plZ slk;rw[Ab hrw,Ab hv,Ab hl,Ab h,hs];cases ho:odB n sh sp with
 | false=>exact .ret _
 | true=>
  rw[Ad (by rfl),Ab h.1,Ak hs,Ud rfl];unfold plV;have e0:s.k=s.k-hcZ hm sp 0:=by unfold hcZ;simp
  suffices hh:Ac (Qp n sh hm sp) (some (.inl (.l0 (s.k-hcZ hm sp 0) ((0:Nat):Int)))) (([],.int .i64 (if s.k-hcZ hm sp hm.length<0 then 0 else s.k-hcZ hm sp hm.length)):Ret) by rw[<-e0] at hh;exact hh
  refine Bm (fun i=>FB.l0 (s.k-hcZ hm sp i) (i:Int)) hm.length (fun i hi hr=>.to ?_ hr) (.to ?_ (.ret _))
  .obtain⟨x,hx⟩:∃x,hm[i]?=some x:=⟨_,Uf hi⟩;have b:=PE hm sp i;show Gp n sh hm sp _ i=_;unfold Gp;rw[AS hx,RI hx,zW i (by omega),A3 (s.k-hcZ hm sp i-1) (by omega) (by omega)];cases x==sp with
   | false=>simp[br]
   | true=>simp only[br,if_true];rw[show s.k-hcZ hm sp i-1=s.k-(hcZ hm sp i+1) by omega]
  .show Gp n sh hm sp _ hm.length=_;unfold Gp;rw[AO]
def N9(n:Aa)(sh:List Bool)(hm:List Int)(sp:Int):Option (Empty⊕Ret):=gu (RwV n) <|br (hkE n sh hm != 0) (some (.inr ([],AV.tup [iV 0,iV (hkE n sh hm)]))) (br (decide (sp<0)) (some (.inr ([],AV.tup [iV 0,iV 19]))) (br (decide (iN (U4 sA n.ss).length<=sp)) (some (.inr ([],AV.tup [iV 0,iV 19]))) (gu (Aq n) <|gu (sh.length=Al n) <|gu (0<=sp/\sp<iN n.ss.length) <|gu (hm.length<=1000) <|some (.inr ([],AV.tup [iV (plZ n sh hm sp),iV 0])))))
theorem hFe_ct(n:Aa)(sh:List Bool)(hm:List Int)(sp:Int)(r:Ret)(h:Ac emT (N9 n sh hm sp) r):CT Vb 89 ([]) ([Ai n,.lst (boL sh),lI hm,.int .i64 sp]) r.1 r.2:=
 CT.mach (fn:=Tryz.f89) (c:=zB Tryz.f89) (S:=emS) (hd:=emH) Tryz.func89 (by kernel_rfl) (nL rfl)
  (fun s o ho=>match s,ho with
   | x,_=>x.elim)
  (fun o ho=>Scr.ok (X:=N9 n sh hm sp) ho mix (
 .rn 0 [] [] [] [] (al (u2 t3)) <|
 .gu fun a0=>
 have c0:=Tn a0 (sh) (hm);
 .rn 1 [] [] [(14,hK c0 [] [])] [] (aj (u2 (u2 (u2 (aj (k3 (aj t9 (k2 (al (c0))))) s2)))) (al (u2 (u2 s2)))) <|
 .br (fun a1=>
 .rt [31] [] [] [] [] [] (aj (aj a1 (al (u2 (ak s2)))) (al t3)))
 (fun a1=>
 .br (fun a2=>
  .rt [30,45] [] [] [] [] [] (aj (aj a1 (aj (u2 (u2 (u2 (aj a2 (aj a2 (aj a2 (aj a2 (aj a2 (ag a2 s2))))))))) (ak (al t3)))) (al t3)))
 (fun a2=>
  .rn 0 [30,44] [] [] [] (aj a1 (al (u2 (u2 (u2 (ag a2 (ag a2 (ag a2 (ag a2 (aj (aj a2 t3) (ag a2 s2))))))))))) <|
  .br (fun a3=>
  .rt [44,39] [] [] [] [] [] (aj (aj a3 (al t3)) (al t3)))
  (fun a3=>
  .gu fun a4=>
  .gu fun a5=>
  .gu fun a6=>
  .gu fun a7=>
  have c1:=hfree_ct n (sh) (hm) (sp) a0 a4 a5 a6 a7;
  .rt [44,38] [] [(33,hK c1 [] [])] [] [] [] (aj (aj a3 (al (u2 (u2 (u2 (u2 (aj (ak (k3 (aj t9 (k3 (al (c1)))))) (u2 t2)))))))) (al t3)))))) (by kernel_rfl)) h
theorem hkE_zero{n:Aa}{sh:List Bool}{hm:List Int}(h:hkE n sh hm=0):Aq n/\hm.length<=8/\hm.all (hmB n)=true/\sh.length=Al n:=by
 unfold hkE at h;split at h
 .rename_i a;split at h
  .rename_i b;exact⟨BD.1 a.1,a.2.1,a.2.2,b⟩
  .omega
 .omega
def freE(n:Aa)(sh:List Bool)(hm:List Int)(sp:Int):Int:=if hkE n sh hm=0 then (if sp<0\/(n.ss.length:Int)<=sp then 19 else 0) else hkE n sh hm
def freZ(n:Aa)(sh:List Bool)(hm:List Int)(sp:Int):Int:=if freE n sh hm sp=0 then plZ n sh hm sp else 0
theorem hFree_ct{n:Aa}(hrw:RwV n)(sh:List Bool)(hm:List Int)(sp:Int):CT Vb 89 [] [Ai n,.lst (boL sh),lI hm,.int .i64 sp] [] (.tup [.int .i64 (freZ n sh hm sp),.int .i64 (freE n sh hm sp)]):=by
 refine hFe_ct n sh hm sp ([],_) (.val ?_);unfold N9 freZ freE;rw[Ab hrw,lsA];by_cases h:hkE n sh hm=0
 .obtain⟨a,b,c,d⟩:=hkE_zero h;rw[Ad (by simp[h]),Ud h];by_cases h0:sp<0
  .have ei:(if sp<0\/(n.ss.length:Int)<=sp then (19:Int) else 0)=19:=Ud (.inl h0);rw[Ag (AB h0),ei];rfl
  by_cases h1:(n.ss.length:Int)<=sp
  .have ei:(if sp<0\/(n.ss.length:Int)<=sp then (19:Int) else 0)=19:=Ud (.inr h1);rw[Ad (AA h0),Ag (AB h1),ei];rfl
  .have ei:(if sp<0\/(n.ss.length:Int)<=sp then (19:Int) else 0)=0:=Ue (by omega);rw[Ad (AA h0),Ad (AA h1),ei,Ab a,Ab d,Ab (by simp only[iN];omega),Ab (by omega),Ud rfl]
 .rw[Ag (by simpa using h),Ue h,Ue h]
inductive C5 where | l0 (v0:Int) | l1 (v0 v1:Int) (v2:List Int) (v3:Nat) (v4:Int)
def gckSt(g:List (List Int))(sh:List Bool):C5->St | .l0 v0=>St.mk 48 [(0,Va (gL g)),(1,Va (boL sh)),(13,Va (gL g)),(14,iv (iN (gL g).length)),(15,iv v0)] [] | .l1 v0 v1 v2 v3 v4=>St.mk 48 [(0,Va (gL g)),(1,Va (boL sh)),(5,iv v0),(7,iv v1),(13,Va (gL g)),(14,iv (iN (gL g).length)),(15,iv v0),(20,Va (U4 iv v2)),(21,iv (iN v3)),(22,iv v4)] []
def OC(g:List (List Int))(sh:List Bool):Option (C5⊕Ret):=br (decide (24<iN (gL g).length)) (none) (some (.inl (.l0 ((0:Int)))))
def H0(g:List (List Int))(sh:List Bool)(v0:Int):Option (C5⊕Ret):=br (decide (v0<iN (gL g).length)) (gu (0<=v0) <|el g (v0.toNat) fun(x18:List Int)=>some (.inl (.l1 v0 ((-1:Int)) x18 ((U4 iV x18).length) ((0:Int))))) (br (iN (boL sh).length != iN (gL g).length) (none) (some (.inr ([],iV 0))))
def Ik(g:List (List Int))(sh:List Bool)(v0 v1:Int)(v2:List Int)(v3:Nat)(v4:Int):Option (C5⊕Ret):=br (decide (v4<iN v3)) (gu (0<=v4) <|el v2 (v4.toNat) fun(x24:Int)=>br (decide (x24<=v1)) (none) (br (decide (iN (gL g).length<=x24)) (none) (br (x24==v0) (none) (some (.inl (.l1 v0 x24 v2 v3 (i64.wrap (v4+1)))))))) (some (.inl (.l0 (i64.wrap (v0+1)))))
def OV(g:List (List Int))(sh:List Bool):C5->Option (C5⊕Ret) | .l0 v0=>H0 g sh v0 | .l1 v0 v1 v2 v3 v4=>Ik g sh v0 v1 v2 v3 v4
theorem gck_ct(g:List (List Int))(sh:List Bool)(r:Ret)(h:Ac (OV g sh) (OC g sh) r):CT Vb 153 ([]) ([.lst (gL g),.lst (boL sh)]) r.1 r.2:=
 CT.mach (fn:=Tryz.f153) (c:=zB Tryz.f153) (S:=(gckSt g sh)) (hd:=C5.ctorIdx) Tryz.func153 (by kernel_rfl) (nL rfl)
  (fun s o ho=>match s,ho with
 | .l0 v0,ho=>Scr.ok (X:=H0 g sh v0) ho mix (
 .rn 0 [] [] [] [] (al (al t3)) <|
 .br (fun a0=>
 .gu fun a1=>
 .el fun x18 a2=>
 .lp [33] [(18,lI x18)] [] [] [] [] [0,1,5,7,13,14,15,20,21,22] (aj (aj a0 (aj (u2 (aj (k2 (aj a1 (Af (f:=lI) a2))) (u2 (u2 s2)))) (u2 (al (u2 (u2 t2)))))) (k2 t9)))
 (fun a0=>
 .rn 0 [32] [] [] [] (aj a0 (al (u2 (u2 (u2 (u2 (al t3))))))) <|
 .br (fun a1=>
  .no)
 (fun a1=>
  .rt [94] [] [] [] [] [] (aj (aj a1 s2) t2)))) (by kernel_rfl)
 | .l1 v0 v1 v2 v3 v4,ho=>Scr.ok (X:=Ik g sh v0 v1 v2 v3 v4) ho mix (
 .rn 0 [] [] [] [] (al (al t3)) <|
 .br (fun a0=>
 .gu fun a1=>
 .el fun x24 a2=>
 .rn 0 [47] [(24,iv x24)] [] [] (aj a0 (al (aj (k2 (aj a1 (Af (f:=iv) a2))) (u2 s2)))) <|
 .br (fun a3=>
  .no)
 (fun a3=>
  .br (fun a4=>
  .no)
  (fun a4=>
  .rn 0 [58,70] [] [] [] (al (u2 (u2 (aj t3 (u2 (ag a3 (ag a3 (ag a3 (aj (aj a3 t3) (ag a3 (u2 (ag a4 (ag a4 (aj (aj a4 t3) (al (aj a4 t2)))))))))))))))) <|
  .br (fun a5=>
   .no)
  (fun a5=>
   .lp [58,70,78] [] [] [] [] [] [0,1,5,7,13,14,15,20,21,22] (aj (aj a5 (aj (u2 s2) (al (u2 s2)))) (k2 t9))))))
 (fun a0=>
 .lp [46] [] [] [] [] [] [0,1,13,14,15] (aj (aj a0 (al (u2 s2))) t6))) (by kernel_rfl)
  )
  (fun o ho=>Scr.ok (X:=OC g sh) ho mix (
 .rn 1 [] [] [] [] (u2 (al (u2 (u2 s2)))) <|
 .br (fun a0=>
 .no)
 (fun a0=>
 .lp [24] [] [] [] [] [] [0,1,13,14,15] (aj (aj a0 (al (u2 (u2 t2)))) t6))) (by kernel_rfl)) h
inductive CM where | l0 (v0:List Int) (v1:Int) | l1 (v0 v1:List Int) | l2 (v0:List Int) (v1:Nat) (v2 v3:Int) (v4:List Int) | l3 (v0:List Int) (v1:Nat) (v2 v3:Int) (v4:Bool) (v5:List Int) (v6:Nat) (v7:Int) (v8:List Int) | l4 (v0 v1:List Int) (v2 v3:Int) | l5 (v0 v1:List Int) (v2 v3:Int) (v4:Bool) (v5:List Int) (v6:Nat) (v7:Int)
def Ct(g:List (List Int))(sh:List Bool)(q:Int):CM->St | .l0 v0 v1=>St.mk 86 [(0,Va (gL g)),(1,Va (boL sh)),(2,iv q),(7,AV.sl 0 0 v0.length),(19,iv (iN (gL g).length)),(20,iv v1)] [some (bK (U4 iv v0) 1)] | .l1 v0 v1=>St.mk 86 [(0,Va (gL g)),(1,Va (boL sh)),(7,AV.sl 0 0 v0.length),(9,Va (U4 iv v1))] [some (bK (U4 iv v0) 1)] | .l2 v0 v1 v2 v3 v4=>St.mk 86 [(0,Va (gL g)),(1,Va (boL sh)),(7,AV.sl 0 0 v0.length),(9,AV.sl 1 0 v1),(10,iv v2),(44,Va (gL g)),(45,iv (iN (gL g).length)),(46,iv v3)] [some (bK (U4 iv v0) 1),some (bK (U4 iv v4) 1)] | .l3 v0 v1 v2 v3 v4 v5 v6 v7 v8=>St.mk 86 [(0,Va (gL g)),(1,Va (boL sh)),(7,AV.sl 0 0 v0.length),(9,AV.sl 1 0 v1),(10,iv v2),(11,iv v3),(44,Va (gL g)),(45,iv (iN (gL g).length)),(46,iv v3),(57,Va (boL sh)),(58,iv v3),(59,AV.iptr [bV v4]),(60,bV v4),(62,Va (U4 iv v5)),(63,iv (iN v6)),(64,iv v7)] [some (bK (U4 iv v0) 1),some (bK (U4 iv v8) 1)] | .l4 v0 v1 v2 v3=>St.mk 86 [(0,Va (gL g)),(1,Va (boL sh)),(7,AV.sl 0 0 v0.length),(9,AV.lstc (U4 iv v1)),(10,iv v2),(44,Va (gL g)),(45,iv (iN (gL g).length)),(46,iv v3)] [some (bK (U4 iv v0) 1)] | .l5 v0 v1 v2 v3 v4 v5 v6 v7=>St.mk 86 [(0,Va (gL g)),(1,Va (boL sh)),(7,AV.sl 0 0 v0.length),(9,AV.lstc (U4 iv v1)),(10,iv v2),(11,iv v3),(44,Va (gL g)),(45,iv (iN (gL g).length)),(46,iv v3),(57,Va (boL sh)),(58,iv v3),(59,AV.iptr [bV v4]),(60,bV v4),(62,Va (U4 iv v5)),(63,iv (iN v6)),(64,iv v7)] [some (bK (U4 iv v0) 1)]
def gdsHd:CM->Nat | .l0 _ _=>0 | .l1 _ _=>1 | .l2 _ _ _ _ _=>2 | .l3 _ _ _ _ _ _ _ _ _=>3 | .l4 _ _ _ _=>2 | .l5 _ _ _ _ _ _ _ _=>3
def K9(g:List (List Int))(sh:List Bool)(q:Int):Option (CM⊕Ret):=gu (8 * iN (gL g).length<=281474976710656) <|gu (iN (gL g).length<=9223372036854775807) <|some (.inl (.l0 (U5 (gL g).length 0) ((0:Int))))
def G2(g:List (List Int))(sh:List Bool)(q:Int)(v0:List Int)(v1:Int):Option (CM⊕Ret):=br (decide (v1<iN (gL g).length)) (gu (0<=v1) <|gu (v1<iN v0.length) <|gu ((0+v1.toNat).succ.le (U4 iV v0).length) <|some (.inl (.l0 (v0.set (0+v1.toNat) (-1)) (i64.wrap (v1+1))))) (gu (0<=q) <|gu (q<iN v0.length) <|gu ((0+q.toNat).succ.le (U4 iV v0).length) <|some (.inl (.l1 (v0.set (0+q.toNat) 0) ([q]))))
def GT(g:List (List Int))(sh:List Bool)(q:Int)(v0 v1:List Int):Option (CM⊕Ret):=br (decide (0<iN (U4 iV v1).length)) (el v1 (Int.toNat 0) fun(x36:Int)=>gu (∀(e:AV),e∈U4 iV v1->e.cells.length=1) <|gu (1<=iN (U4 iV v1).length) <|some (.inl (.l4 v0 (List.take ((U4 iV v1).length-Int.toNat 1) (List.drop (Int.toNat 1) v1)) x36 ((0:Int))))) (some (.inr ([],Va (U4 iV v0))))
def Hq(g:List (List Int))(sh:List Bool)(q:Int)(v0:List Int)(v1:Nat)(v2 v3:Int)(v4:List Int):Option (CM⊕Ret):=br (decide (v3<iN (gL g).length)) (gu (0<=v3) <|el g (v3.toNat) fun(x49:List Int)=>gu (v3<iN v0.length) <|el v0 (0+v3.toNat) fun(x54:Int)=>br (decide (0<=x54)) (some (.inl (.l2 v0 v1 v2 (i64.wrap (v3+1)) v4))) (el (sh) (v3.toNat) fun(x59:Bool)=>br x59 (some (.inl (.l2 v0 v1 v2 (i64.wrap (v3+1)) v4))) (some (.inl (.l3 v0 v1 v2 v3 x59 x49 ((U4 iV x49).length) ((0:Int)) v4))))) (gu (v1=(U4 iV v4).length) <|some (.inl (.l1 v0 v4)))
def Dg(g:List (List Int))(sh:List Bool)(q:Int)(v0:List Int)(v1:Nat)(v2 v3:Int)(v4:Bool)(v5:List Int)(v6:Nat)(v7:Int)(v8:List Int):Option (CM⊕Ret):=br (decide (v7<iN v6)) (gu (0<=v7) <|el v5 (v7.toNat) fun(x66:Int)=>br (x66==v2) (gu (0<=v2) <|gu (v2<iN v0.length) <|el v0 (0+v2.toNat) fun(x76:Int)=>gu (0<=v3) <|gu (v3<iN v0.length) <|gu ((0+v3.toNat).succ.le (U4 iV v0).length) <|gu ((U4 iV v8).length=v1) <|gu ((U4 iV v8).length+[iV v3].length<=9223372036854775807) <|gu (((U4 iV v8).length+[iV v3].length) * 8<=140737488355328) <|some (.inl (.l3 (v0.set (0+v3.toNat) (i64.wrap (x76+1))) ((U4 iV v8).length+[iV v3].length) v2 v3 v4 v5 v6 (i64.wrap (v7+1)) (v8++[v3])))) (some (.inl (.l3 v0 v1 v2 v3 v4 v5 v6 (i64.wrap (v7+1)) v8)))) (some (.inl (.l2 v0 v1 v2 (i64.wrap (v3+1)) v8)))
def GB(g:List (List Int))(sh:List Bool)(q:Int)(v0 v1:List Int)(v2 v3:Int):Option (CM⊕Ret):=br (decide (v3<iN (gL g).length)) (gu (0<=v3) <|el g (v3.toNat) fun(x49:List Int)=>gu (v3<iN v0.length) <|el v0 (0+v3.toNat) fun(x54:Int)=>br (decide (0<=x54)) (some (.inl (.l4 v0 v1 v2 (i64.wrap (v3+1))))) (el (sh) (v3.toNat) fun(x59:Bool)=>br x59 (some (.inl (.l4 v0 v1 v2 (i64.wrap (v3+1))))) (some (.inl (.l5 v0 v1 v2 v3 x59 x49 ((U4 iV x49).length) ((0:Int))))))) (some (.inl (.l1 v0 v1)))
def Gb(g:List (List Int))(sh:List Bool)(q:Int)(v0 v1:List Int)(v2 v3:Int)(v4:Bool)(v5:List Int)(v6:Nat)(v7:Int):Option (CM⊕Ret):=br (decide (v7<iN v6)) (gu (0<=v7) <|el v5 (v7.toNat) fun(x66:Int)=>br (x66==v2) (gu (0<=v2) <|gu (v2<iN v0.length) <|el v0 (0+v2.toNat) fun(x76:Int)=>gu (0<=v3) <|gu (v3<iN v0.length) <|gu ((0+v3.toNat).succ.le (U4 iV v0).length) <|gu (∀(e:AV),e∈U4 iV v1->e.cells.length=1) <|gu ((U4 iV v1).length+[iV v3].length<=9223372036854775807) <|gu (((U4 iV v1).length+[iV v3].length) * 8<=140737488355328) <|some (.inl (.l3 (v0.set (0+v3.toNat) (i64.wrap (x76+1))) ((U4 iV v1).length+[iV v3].length) v2 v3 v4 v5 v6 (i64.wrap (v7+1)) (v1++[v3])))) (some (.inl (.l5 v0 v1 v2 v3 v4 v5 v6 (i64.wrap (v7+1)))))) (some (.inl (.l4 v0 v1 v2 (i64.wrap (v3+1)))))
def B8(g:List (List Int))(sh:List Bool)(q:Int):CM->Option (CM⊕Ret) | .l0 v0 v1=>G2 g sh q v0 v1 | .l1 v0 v1=>GT g sh q v0 v1 | .l2 v0 v1 v2 v3 v4=>Hq g sh q v0 v1 v2 v3 v4 | .l3 v0 v1 v2 v3 v4 v5 v6 v7 v8=>Dg g sh q v0 v1 v2 v3 v4 v5 v6 v7 v8 | .l4 v0 v1 v2 v3=>GB g sh q v0 v1 v2 v3 | .l5 v0 v1 v2 v3 v4 v5 v6 v7=>Gb g sh q v0 v1 v2 v3 v4 v5 v6 v7
theorem gds_ct(g:List (List Int))(sh:List Bool)(q:Int)(r:Ret)(h:Ac (B8 g sh q) (K9 g sh q) r):CT Vb 163 ([]) ([.lst (gL g),.lst (boL sh),.int .i64 q]) r.1 r.2:=
 CT.mach (fn:=Tryz.f163) (c:=zB Tryz.f163) (S:=(Ct g sh q)) (hd:=gdsHd) Tryz.func163 (by kernel_rfl) (nL rfl)
  (fun s o ho=>match s,ho with
 | .l0 v0 v1,ho=>AI.ok (X:=G2 g sh q v0 v1) ho mix (
 .rn 0 [] [] [] [] (al (al t3)) <|
 .br (fun a0=>
 .rn 0 [43] [] [] [] (aj a0 (al (u2 s2))) <|
 .gu fun a1=>
 .gu fun a2=>
 .gu fun a3=>
 .lq [] [] [] [] [] [0] [0,1,2,7,19,20] (up [(7,AV.sl 0 0 v0.length)] [(0,(U4 iv v0).set (0+v1.toNat) (iv (-1)))] (Ct g sh q (.l0 (v0.set (0+v1.toNat) (-1)) (i64.wrap (v1+1))))) (aj (aj (u2 (u2 (aj (k2 (aj a1 a2)) (al (ak a3))))) (al (u2 s2))) t8) (by simp[up,upF,upV,upH,upB,Ct,gL,boL,lI]))
 (fun a0=>
 .gu fun a1=>
 .gu fun a2=>
 .gu fun a3=>
 .lq [42] [] [] [] [] [0,1000001] [0,1,7,9] (up [(7,AV.sl 0 0 v0.length)] [(0,(U4 iv v0).set (0+q.toNat) (iv 0))] (Ct g sh q (.l1 (v0.set (0+q.toNat) 0) ([q])))) (aj (aj a0 (aj (u2 (u2 (aj (k2 (aj a1 a2)) (al (ak a3))))) (al (u2 (u2 s2))))) (k3 (aj (show 1=[iv q].length by simp) t2))) (by simp[up,upF,upV,upH,upB,Ct,gL,boL,lI]))) (by kernel_rfl)
 | .l1 v0 v1,ho=>AI.ok (X:=GT g sh q v0 v1) ho mix (
 .rn 0 [] [] [] [] (al (u2 (u2 s2))) <|
 .br (fun a0=>
 .el fun x36 a1=>
 .rn 0 [69] [(36,iv x36)] [] [] (aj a0 (al (u2 (aj (ak (aj (Int.le_refl 0) (Af (f:=iv) a1))) (u2 s2))))) <|
 .gu fun a2=>
 .gu fun a3=>
 .lq [] [] [] [] [] [0] [0,1,7,9,10,44,45,46] (up [(9,AV.lstc (List.take ((U4 iv v1).length-Int.toNat 1) (List.drop (Int.toNat 1) (U4 iv v1))))] [] (Ct g sh q (.l4 v0 (List.take ((U4 iv v1).length-Int.toNat 1) (List.drop (Int.toNat 1) v1)) x36 ((0:Int))))) (aj (aj (u2 (u2 (u2 (u2 (u2 (aj (k3 (aj a2 (aj (show(0:Int)<=(1:Int) from(by first | exact nL rfl | decide)) (aj a3 (aj (show iN (U4 iv v1).length=iN (U4 iv v1).length from rfl) (show iN (U4 iv v1).length<=iN (U4 iv v1).length by omega)))))) s2)))))) (al (u2 (u2 t2)))) (ak t9)) (by simp[up,upF,upV,upH,upB,Ct,gL,boL,lI]))
 (fun a0=>
 .rt [68] [] [] [] [] [0] (aj (aj a0 (al (u2 s2))) (al (show v0.length=(U4 iv v0).length by simp))))) (by kernel_rfl)
 | .l2 v0 v1 v2 v3 v4,ho=>AI.ok (X:=Hq g sh q v0 v1 v2 v3 v4) ho mix (
 .rn 0 [] [] [] [] (al (al t3)) <|
 .br (fun a0=>
 .gu fun a1=>
 .el fun x49 a2=>
 .rn 0 [95] [(49,lI x49)] [] [] (aj a0 (al (u2 (aj (k2 (aj a1 (Af (f:=lI) a2))) (u2 (u2 s2)))))) <|
 .gu fun a3=>
 .el fun x54 a4=>
 .br (fun a5=>
  .lp [113] [(54,iv x54)] [] [] [] [0,1] [0,1,7,9,10,44,45,46] (aj (aj (u2 (u2 (aj (k2 (aj a1 a3)) (aj (ak (Af (f:=iv) a4)) (u2 (u2 (aj a5 (aj a5 (aj a5 (aj a5 (al (aj a5 t2)))))))))))) (ak (al (u2 s2)))) (k2 t9)))
 (fun a5=>
  .el fun x59 a6=>
  .rn 0 [112] [(54,iv x54),(59,bV x59)] [] [] (al (u2 (u2 (aj (k2 (aj a1 a3)) (aj (ak (Af (f:=iv) a4)) (u2 (u2 (ag a5 (ag a5 (aj (aj a5 (k2 (aj a1 (Af (f:=bV) a6)))) (ag a5 (al (aj a5 t2))))))))))))) <|
  .br (fun a7=>
  .lp [112,123] [] [] [] [] [0,1] [0,1,7,9,10,44,45,46] (aj (aj a7 (al (u2 s2))) (k2 t9)))
  (fun a7=>
  .lp [112,122] [] [] [] [] [0,1] [0,1,7,9,10,11,44,45,46,57,58,59,60,62,63,64] (aj (aj a7 (al (u2 (u2 t2)))) (k5 (k5 t9))))))
 (fun a0=>
 .gu fun a1=>
 .lp [94] [] [] [] [] [0,1000001] [0,1,7,9] (aj (al a0) (k3 (aj a1 t2))))) (by kernel_rfl)
 | .l3 v0 v1 v2 v3 v4 v5 v6 v7 v8,ho=>AI.ok (X:=Dg g sh q v0 v1 v2 v3 v4 v5 v6 v7 v8) ho mix (
 .rn 0 [] [] [] [] (al (al t3)) <|
 .br (fun a0=>
 .gu fun a1=>
 .el fun x66 a2=>
 .rn 1 [131] [(66,iv x66)] [] [] (aj a0 (aj (aj (k2 (aj a1 (Af (f:=iv) a2))) (u2 s2)) (al (u2 (u2 (al t3)))))) <|
 .br (fun a3=>
  .gu fun a4=>
  .gu fun a5=>
  .el fun x76 a6=>
  .gu fun a7=>
  .gu fun a8=>
  .gu fun a9=>
  .rn 0 [141] [(76,iv x76)] [] [] (aj a3 (al (u2 (u2 (u2 (u2 (aj (k2 (aj a4 a5)) (aj (ak (Af (f:=iv) a6)) (u2 (aj (k2 (aj a7 a8)) (al (k2 a9)))))))))))) <|
  .gu fun a10=>
  .gu fun a11=>
  .gu fun a12=>
  .lq [] [] [] [] [] [0,3] [0,1,7,9,10,11,44,45,46,57,58,59,60,62,63,64] (up [(7,AV.sl 0 0 v0.length)] [(0,(U4 iv v0).set (0+v3.toNat) (iv (i64.wrap (x76+1)))),(1,U4 iv v8++[iv v3])] (Ct g sh q (.l3 (v0.set (0+v3.toNat) (i64.wrap (x76+1))) ((U4 iv v8).length+[iv v3].length) v2 v3 v4 v5 v6 (i64.wrap (v7+1)) (v8++[v3])))) (aj (aj (u2 (u2 (u2 (aj (k2 (aj a10 (aj (aj (show nat_lit 1=nat_lit 1 from rfl) (show 1<=[iv v3].length by simp)) (aj a11 a12)))) s2)))) (al (u2 s2))) (k5 (k5 t9))) (by simp[up,upF,upV,upH,upB,Ct,gL,boL,lI]))
 (fun a3=>
  .lp [140] [] [] [] [] [0,1] [0,1,7,9,10,11,44,45,46,57,58,59,60,62,63,64] (aj (aj a3 (al (u2 s2))) (k5 (k5 t9)))))
 (fun a0=>
 .lp [130] [] [] [] [] [0,1] [0,1,7,9,10,44,45,46] (aj (aj a0 (al (u2 s2))) (k2 t9)))) (by kernel_rfl)
 | .l4 v0 v1 v2 v3,ho=>AI.ok (X:=GB g sh q v0 v1 v2 v3) ho mix (
 .rn 0 [] [] [] [] (al (al t3)) <|
 .br (fun a0=>
 .gu fun a1=>
 .el fun x49 a2=>
 .rn 0 [95] [(49,lI x49)] [] [] (aj a0 (al (u2 (aj (k2 (aj a1 (Af (f:=lI) a2))) (u2 (u2 s2)))))) <|
 .gu fun a3=>
 .el fun x54 a4=>
 .br (fun a5=>
  .lp [113] [(54,iv x54)] [] [] [] [0] [0,1,7,9,10,44,45,46] (aj (aj (u2 (u2 (aj (k2 (aj a1 a3)) (aj (ak (Af (f:=iv) a4)) (u2 (u2 (aj a5 (aj a5 (aj a5 (aj a5 (al (aj a5 t2)))))))))))) (ak (al (u2 s2)))) (ak t9)))
 (fun a5=>
  .el fun x59 a6=>
  .rn 0 [112] [(54,iv x54),(59,bV x59)] [] [] (al (u2 (u2 (aj (k2 (aj a1 a3)) (aj (ak (Af (f:=iv) a4)) (u2 (u2 (ag a5 (ag a5 (aj (aj a5 (k2 (aj a1 (Af (f:=bV) a6)))) (ag a5 (al (aj a5 t2))))))))))))) <|
  .br (fun a7=>
  .lp [112,123] [] [] [] [] [0] [0,1,7,9,10,44,45,46] (aj (aj a7 (al (u2 s2))) (ak t9)))
  (fun a7=>
  .lp [112,122] [] [] [] [] [0] [0,1,7,9,10,11,44,45,46,57,58,59,60,62,63,64] (aj (aj a7 (al (u2 (u2 t2)))) (ak (k3 (k5 t9)))))))
 (fun a0=>
 .lp [94] [] [] [] [(9,1000)] [0] [0,1,7,9] (aj (al a0) t6))) (by kernel_rfl)
 | .l5 v0 v1 v2 v3 v4 v5 v6 v7,ho=>AI.ok (X:=Gb g sh q v0 v1 v2 v3 v4 v5 v6 v7) ho mix (
 .rn 0 [] [] [] [] (al (al t3)) <|
 .br (fun a0=>
 .gu fun a1=>
 .el fun x66 a2=>
 .rn 1 [131] [(66,iv x66)] [] [] (aj a0 (aj (aj (k2 (aj a1 (Af (f:=iv) a2))) (u2 s2)) (al (u2 (u2 (al t3)))))) <|
 .br (fun a3=>
  .gu fun a4=>
  .gu fun a5=>
  .el fun x76 a6=>
  .gu fun a7=>
  .gu fun a8=>
  .gu fun a9=>
  .rn 0 [141] [(76,iv x76)] [] [] (aj a3 (al (u2 (u2 (u2 (u2 (aj (k2 (aj a4 a5)) (aj (ak (Af (f:=iv) a6)) (u2 (aj (k2 (aj a7 a8)) (al (k2 a9)))))))))))) <|
  .gu fun a10=>
  .gu fun a11=>
  .gu fun a12=>
  .lq [] [] [] [] [] [0,2] [0,1,7,9,10,11,44,45,46,57,58,59,60,62,63,64] (up [(7,AV.sl 0 0 v0.length)] [(0,(U4 iv v0).set (0+v3.toNat) (iv (i64.wrap (x76+1)))),(1,U4 iv v1++[iv v3])] (Ct g sh q (.l3 (v0.set (0+v3.toNat) (i64.wrap (x76+1))) ((U4 iv v1).length+[iv v3].length) v2 v3 v4 v5 v6 (i64.wrap (v7+1)) (v1++[v3])))) (aj (aj (u2 (u2 (u2 (aj (k2 (aj a10 (aj (aj (show nat_lit 1=nat_lit 1 from rfl) (show 1<=[iv v3].length by simp)) (aj (show 0<[iv v3].length by simp) (aj a11 a12))))) s2)))) (al (u2 s2))) (k5 (k5 t9))) (by simp[up,upF,upV,upH,upB,Ct,gL,boL,lI]))
 (fun a3=>
  .lp [140] [] [] [] [] [0] [0,1,7,9,10,11,44,45,46,57,58,59,60,62,63,64] (aj (aj a3 (al (u2 s2))) (ak (k3 (k5 t9))))))
 (fun a0=>
 .lp [130] [] [] [] [] [0] [0,1,7,9,10,44,45,46] (aj (aj a0 (al (u2 s2))) (ak t9)))) (by kernel_rfl)
  )
  (fun o ho=>AI.ok (X:=K9 g sh q) ho mix (
 .rn 0 [] [] [] [] s2 <|
 .gu fun a0=>
 .gu fun a1=>
 .lq [] [] [] [] [] [0] [0,1,2,7,19,20] (up [(7,AV.sl 0 0 (gL g).length)] [(0,U5 (gL g).length (iv 0))] (Ct g sh q (.l0 (U5 (gL g).length 0) ((0:Int))))) (aj (aj (u2 (u2 (aj (k2 (aj (show 0<=iN (gL g).length from(Int.natCast_nonneg _)) (aj (show iN (gL g).length<=iN (gL g).length by omega) (aj a0 a1)))) s2))) (al (u2 (u2 t2)))) t8) (by simp[up,upF,upV,upH,upB,Ct,gL,boL,lI])) (by kernel_rfl)) h
def unN:List Int->Nat | []=>0 | x::l=>(if x<0 then 1 else 0)+unN l
theorem Pf:∀{d:List Int} {v:Nat} {x:Int},v<d.length->d.getD v 0<0->0<=x->unN (d.set v x)+1=unN d
 | y::l,0,x,_,h,hx=>by have h:y<0:=h;show(if x<0 then 1 else 0)+unN l+1=(if y<0 then 1 else 0)+unN l;rw[Ue (by omega),Ud h];omega
 | y::l,v+1,x,hv,h,hx=>by have ih:=Pf (d:=l) (v:=v) (x:=x) (Nat.lt_of_succ_lt_succ hv) h hx;show(if y<0 then 1 else 0)+unN (l.set v x)+1=(if y<0 then 1 else 0)+unN l;omega
theorem QT:∀d:List Int,unN d<=d.length
 | []=>Uq _
 | x::l=>by have:=QT l;show(if x<0 then 1 else 0)+unN l<=l.length+1;split<;>omega
theorem P8{r:List Int}{i m:Int}(h:nxB r i m=true){k:Nat}:∀j,k<j->j<r.length->r.getD k 0<r.getD j 0
 | j+1,h1,h2=>by
  have:=((CY h).2 (j+1) h2).1;unfold Bl at this;rw[Ue (by omega),T0] at this;rcases Nat.lt_or_eq_of_le (Nat.lt_succ_iff.1 h1) with h3 | h3
  .have:=P8 h j h3 (by omega);omega
  .subst h3;exact this
structure DsQ(g:List (List Int))(q m:Nat)(d o:List Int):Prop where
 p:DsP g q d
 bd:∀v,v<g.length->d.getD v 0+unN d<g.length
 qu:∀x∈o,0<=x/\x<g.length/\0<=d.getD x.toNat 0
 me:o.length+unN d<=m
theorem DsQ.put{g:List (List Int)}{q m:Nat}{d o:List Int}(h:DsQ g q m d o){v w:Nat}(hv:v<g.length)(hw:w<g.length)(hm:(w:Int)∈g.getD v [])(hne:w≠v)(h0:d.getD v 0<0)(h1:0<=d.getD w 0):DsQ g q m (d.set v (d.getD w 0+1)) (o++[(v:Int)]):=by
 have hl:=h.p.len;have hb:=h.bd w hw;have hr:=h.p.rng v hv;have hu:=Pf (d:=d) (v:=v) (x:=d.getD w 0+1) (by omega) h0 (by omega);have e:∀j,(d.set v (d.getD w 0+1)).getD j 0=if v=j then d.getD w 0+1 else d.getD j 0:=fun j=>Dx (by omega)
 refine⟨h.p.set hv hw hm hne ⟨by omega,by omega⟩ (by omega) (.inl (by omega)),fun u hu2=>?_,fun x hx=>?_,?_⟩
 .have:=h.bd u hu2;rw[e];split<;>omega
 .rcases UH.1 hx with hx | hx
  .have:=h.qu x hx;rw[e];split<;>omega
  .have:=T7.1 hx;subst this;rw[e,Uo,Ud rfl];omega
 .have:=h.me;simp only[Uy,UQ];omega
abbrev GdR(g:List (List Int))(sh:List Bool)(q:Nat)(X:Option (CM⊕Ret)):Prop:=∃d:{d:List Int // DsP g q d},Ac (B8 g sh q) X (([],lI d.1):Ret)
theorem gds_ex{g:List (List Int)}{sh:List Bool}(hV:VG g)(hs:sh.length=g.length){q:Nat}(hq:q<g.length):GdR g sh q (K9 g sh q):=by
 have hg:=hV.ok hs
 have hgl:=BZ g
 have hl:=hg.len
 have one:∀(l:List Int),∀e∈U4 (AV.int .i64) l,e.cells.length=1:=fun l e he=>by obtain⟨x,_,rfl⟩:=UI.1 he;rfl
 -- inner loops:behind the hit
 have a3:∀(v:Nat) (w:Int) (b:Bool) (d o:List Int),v<g.length->GdR g sh q (some (.inl (.l2 d o.length w ((v+1:Nat):Int) o)))->
   ∀(c k:Nat),k+c=(g.getD v []).length->(∀j,k<=j->j<(g.getD v []).length->(g.getD v []).getD j 0≠w)->GdR g sh q (some (.inl (.l3 d o.length w (v:Int) b (g.getD v []) (g.getD v []).length (k:Int) o))):=by
  intro v w b d o hv nx c
  have hrow:=hg.row v hv
  induction c with
  | zero=>
   intro k hk hn
   refine Ay (show B8 g sh q (.l3 d o.length w v b (g.getD v []) (g.getD v []).length k o)=Dg g sh q d o.length w v b (g.getD v []) (g.getD v []).length k o from rfl) ?_
   unfold Dg
   rw[Ad (Uk (by simp only[iN];omega)),zW v (by omega)]
   exact nx
  | succ c ih=>
   intro k hk hn
   refine Ay (show B8 g sh q (.l3 d o.length w v b (g.getD v []) (g.getD v []).length k o)=Dg g sh q d o.length w v b (g.getD v []) (g.getD v []).length k o from rfl) ?_
   have hx:=hn k (Uq _) (by omega)
   unfold Dg
   rw[Ag (Ul (by simp only[iN];omega)),Ab (by omega),Uo,Ak (Ax 0 (show k<(g.getD v []).length by omega)),Ad (by simpa using hx),zW k (by omega)]
   exact ih (k+1) (by omega) fun j h1 h2=>hn j (by omega) h2
 -- a hit,in either family
 have hit:∀(m v w:Nat) (b:Bool) (d o:List Int),v<g.length->w<g.length->0<=d.getD w 0->d.getD v 0<0->DsQ g q m d o->(∀d o,DsQ g q m d o->0<=d.getD w 0->GdR g sh q (some (.inl (.l2 d o.length (w:Int) ((v+1:Nat):Int) o))))->
   ∀(k:Nat),k<(g.getD v []).length->(g.getD v []).getD k 0=(w:Int)->GdR g sh q (some (.inl (.l3 (d.set v (d.getD w 0+1)) (o.length+1) w (v:Int) b (g.getD v []) (g.getD v []).length ((k+1:Nat):Int) (o++[(v:Int)])))):=by
  intro m v w b d o hv hw hdw hdv hQ nx k hk hkw
  obtain⟨w',h1,h2,h3⟩:=Jq hg hv hk
  have hmem:(w:Int)∈g.getD v []:=by rw[<-hkw];exact Uj (Ax 0 hk)
  have hQ2:=hQ.put hv hw hmem (by omega) hdv hdw
  have hdl:=hQ.p.len
  have:=a3 v w b _ _ hv (nx _ _ hQ2 (by rw[Dx (by omega)];split<;>omega)) ((g.getD v []).length-(k+1)) (k+1) (by omega) fun j hj hj2=>by
   have:=P8 (hV.row v hv) j (show k<j by omega) hj2
   omega
  rwa [Uy,UQ] at this
 have b3:∀(m v w:Nat) (b:Bool) (d o:List Int),m<=24->v<g.length->w<g.length->0<=d.getD w 0->d.getD v 0<0->DsQ g q m d o->(∀d o,DsQ g q m d o->0<=d.getD w 0->GdR g sh q (some (.inl (.l2 d o.length (w:Int) ((v+1:Nat):Int) o))))->
   ∀(c k:Nat),k+c=(g.getD v []).length->GdR g sh q (some (.inl (.l3 d o.length (w:Int) (v:Int) b (g.getD v []) (g.getD v []).length (k:Int) o))):=by
  intro m v w b d o hm hv hw hdw hdv hQ nx c
  have hrow:=hg.row v hv
  have hdl:=hQ.p.len
  have hom:=hQ.me
  have hbw:=hQ.bd w hw
  induction c with
  | zero=>
   intro k hk
   refine Ay (show B8 g sh q (.l3 d o.length w v b (g.getD v []) (g.getD v []).length k o)=Dg g sh q d o.length w v b (g.getD v []) (g.getD v []).length k o from rfl) ?_
   unfold Dg
   rw[Ad (Uk (by simp only[iN];omega)),zW v (by omega)]
   exact nx _ _ hQ hdw
  | succ c ih=>
   intro k hk
   refine Ay (show B8 g sh q (.l3 d o.length w v b (g.getD v []) (g.getD v []).length k o)=Dg g sh q d o.length w v b (g.getD v []) (g.getD v []).length k o from rfl) ?_
   unfold Dg
   rw[Ag (Ul (by simp only[iN];omega)),Ab (by omega),Uo,Ak (Ax 0 (show k<(g.getD v []).length by omega)),zW k (by omega)]
   refine Am (fun h=>?_) fun _=>ih (k+1) (by omega)
   have h:=beq_iff_eq.1 h
   rw[Ab (by omega),Ab (by simp only[iN];omega),Uu,Uo,Ak (Ax 0 (show w<d.length by omega)),Ab (by omega),Ab (by simp only[iN];omega),Uu,Uo,Ab (show Nat.le _ _ from by show v+1<=_;simp only[Ui];omega),Ab (Ui _),Ab (by simp only[Ui,UQ];omega),Ab (by simp only[Ui,UQ];omega),CB (by omega) (by omega),Ui,UQ]
   exact hit m v w b d o hv hw hdw hdv hQ nx k (by omega) h
 have e2:∀(m w:Nat),m<=24->w<g.length->(∀d o,DsQ g q m d o->GdR g sh q (some (.inl (.l1 d o))))->
   ∀(c v:Nat) (d o:List Int),v+c=g.length->DsQ g q m d o->0<=d.getD w 0->GdR g sh q (some (.inl (.l2 d o.length (w:Int) (v:Int) o))):=by
  intro m w hm hw nx c
  induction c with
  | zero=>
   intro v d o hv hQ hdw
   refine Ay (show B8 g sh q (.l2 d o.length w v o)=Hq g sh q d o.length w v o from rfl) ?_
   unfold Hq
   rw[Ad (Uk (by simp only[iN];omega)),Ab (Ui _).symm]
   exact nx _ _ hQ
  | succ c ih=>
   intro v d o hv hQ hdw
   have hdl:=hQ.p.len
   have hsh:=hg.sh
   refine Ay (show B8 g sh q (.l2 d o.length w v o)=Hq g sh q d o.length w v o from rfl) ?_
   unfold Hq
   rw[Ag (Ul (by simp only[iN];omega)),Ab (by omega),Uo,Ak (Ax [] (show v<g.length by omega)),Ab (by simp only[iN];omega),Uu,Ak (Ax 0 (show v<d.length by omega)),zW v (by omega),Ak (Ax false (show v<sh.length by omega)),Ui]
   exact BK (fun _=>ih (v+1) d o (by omega) hQ hdw) fun h=>Am (fun _=>ih (v+1) d o (by omega) hQ hdw) fun _=>b3 m v w _ d o hm (by omega) hw hdw (by omega) hQ (fun d o hQ hdw=>ih (v+1) d o (by omega) hQ hdw) _ 0 (Uu _)
 have b5:∀(m v w:Nat) (b:Bool) (d o:List Int),m<=24->v<g.length->w<g.length->0<=d.getD w 0->d.getD v 0<0->DsQ g q m d o->(∀d o,DsQ g q m d o->0<=d.getD w 0->GdR g sh q (some (.inl (.l2 d o.length (w:Int) ((v+1:Nat):Int) o))))->GdR g sh q (some (.inl (.l4 d o (w:Int) ((v+1:Nat):Int))))->
   ∀(c k:Nat),k+c=(g.getD v []).length->GdR g sh q (some (.inl (.l5 d o (w:Int) (v:Int) b (g.getD v []) (g.getD v []).length (k:Int)))):=by
  intro m v w b d o hm hv hw hdw hdv hQ nx nx4 c
  have hrow:=hg.row v hv
  have hdl:=hQ.p.len
  have hom:=hQ.me
  have hbw:=hQ.bd w hw
  induction c with
  | zero=>
   intro k hk
   refine Ay (show B8 g sh q (.l5 d o w v b (g.getD v []) (g.getD v []).length k)=Gb g sh q d o w v b (g.getD v []) (g.getD v []).length k from rfl) ?_
   unfold Gb
   rw[Ad (Uk (by simp only[iN];omega)),zW v (by omega)]
   exact nx4
  | succ c ih=>
   intro k hk
   refine Ay (show B8 g sh q (.l5 d o w v b (g.getD v []) (g.getD v []).length k)=Gb g sh q d o w v b (g.getD v []) (g.getD v []).length k from rfl) ?_
   unfold Gb
   rw[Ag (Ul (by simp only[iN];omega)),Ab (by omega),Uo,Ak (Ax 0 (show k<(g.getD v []).length by omega)),zW k (by omega)]
   refine Am (fun h=>?_) fun _=>ih (k+1) (by omega)
   have h:=beq_iff_eq.1 h
   rw[Ab (by omega),Ab (by simp only[iN];omega),Uu,Uo,Ak (Ax 0 (show w<d.length by omega)),Ab (by omega),Ab (by simp only[iN];omega),Uu,Uo,Ab (show Nat.le _ _ from by show v+1<=_;simp only[Ui];omega),Ab (one o),Ab (by simp only[Ui,UQ];omega),Ab (by simp only[Ui,UQ];omega),CB (by omega) (by omega),Ui,UQ]
   exact hit m v w b d o hv hw hdw hdv hQ nx k (by omega) h
 have e4:∀(m w:Nat),m<=24->w<g.length->(∀d o,DsQ g q m d o->GdR g sh q (some (.inl (.l1 d o))))->
   ∀(c v:Nat) (d o:List Int),v+c=g.length->DsQ g q m d o->0<=d.getD w 0->GdR g sh q (some (.inl (.l4 d o (w:Int) (v:Int)))):=by
  intro m w hm hw nx c
  induction c with
  | zero=>
   intro v d o hv hQ hdw
   refine Ay (show B8 g sh q (.l4 d o w v)=GB g sh q d o w v from rfl) ?_
   unfold GB
   rw[Ad (Uk (by simp only[iN];omega))]
   exact nx _ _ hQ
  | succ c ih=>
   intro v d o hv hQ hdw
   have hdl:=hQ.p.len
   have hsh:=hg.sh
   refine Ay (show B8 g sh q (.l4 d o w v)=GB g sh q d o w v from rfl) ?_
   unfold GB
   rw[Ag (Ul (by simp only[iN];omega)),Ab (by omega),Uo,Ak (Ax [] (show v<g.length by omega)),Ab (by simp only[iN];omega),Uu,Ak (Ax 0 (show v<d.length by omega)),zW v (by omega),Ak (Ax false (show v<sh.length by omega)),Ui]
   exact BK (fun _=>ih (v+1) d o (by omega) hQ hdw) fun h=>Am (fun _=>ih (v+1) d o (by omega) hQ hdw) fun _=>b5 m v w _ d o hm (by omega) hw hdw (by omega) hQ (fun d o hQ hdw=>e2 m w hm hw nx c (v+1) d o (by omega) hQ hdw) (ih (v+1) d o (by omega) hQ hdw) _ 0 (Uu _)
 have e1:∀(m:Nat),m<=24->∀(d o:List Int),DsQ g q m d o->GdR g sh q (some (.inl (.l1 d o))):=by
  intro m
  induction m with
  | zero=>
   intro _ d o hQ
   have hom:=hQ.me
   refine Ay (show B8 g sh q (.l1 d o)=GT g sh q d o from rfl) ?_
   unfold GT
   rw[Ad (Uk (by simp only[iN,Ui];omega))]
   exact⟨⟨d,hQ.p⟩,.ret _⟩
  | succ m ih=>
   intro hm d o hQ
   refine Ay (show B8 g sh q (.l1 d o)=GT g sh q d o from rfl) ?_
   unfold GT
   cases o with
   | nil=>
    rw[Ad (Uk (by simp[iN]))]
    exact⟨⟨d,hQ.p⟩,.ret _⟩
   | cons x r=>
    obtain⟨h0,h1,h2⟩:=hQ.qu x (List.mem_cons_self)
    have hom:=hQ.me
    simp only[UR] at hom
    obtain⟨w,rfl⟩:∃w:Nat,x=(w:Int):=⟨x.toNat,by omega⟩
    rw[Ag (Ul (by simp only[iN,Ui,UR];omega)),Ak (show((w:Int)::r)[Int.toNat 0]?=some (w:Int) from rfl),Ab (one _),Ab (by simp only[iN,Ui,UR];omega)]
    have e:List.take ((U4 (AV.int .i64) ((w:Int)::r)).length-Int.toNat 1) (List.drop (Int.toNat 1) ((w:Int)::r))=r:=by
     rw[Ui];show List.take (r.length+1-1) r=r;rw[T0,List.take_length]
    rw[e]
    exact e4 m w (by omega) (by omega) (ih (by omega)) g.length 0 d r (Uu _) ⟨hQ.p,hQ.bd,fun y hy=>hQ.qu y (Uw _ hy),by omega⟩ (by rw[Uo] at h2;exact h2)
 have hlow:∀(d:List Int),d.length=g.length->(∀v,v<g.length->d.getD v 0 = -1)->DsQ g q g.length (d.set q 0) [(q:Int)]:=fun d hd h=>by
  have e:∀j,(d.set q 0).getD j 0=if q=j then 0 else d.getD j 0:=fun j=>Dx (by omega)
  have hu:=Pf (d:=d) (v:=q) (x:=0) (by omega) (by have:=h q hq;omega) (by omega)
  have hu2:=QT d
  refine⟨⟨by rw[UL];exact hd,fun v hv=>?_,fun v hv=>?_,fun v hv=>?_⟩,fun v hv=>?_,fun x hx=>?_,by simp only[UQ];omega⟩
  .have:=h v hv;rw[e];split<;>omega
  .have:=h v hv;rw[e];split<;>intro _<;>omega
  .have:=h v hv;rw[e];split
   .intro _;omega
   .intro _;omega
  .have:=h v hv;rw[e];split<;>omega
  .have:=T7.1 hx
   subst this
   rw[e,Uo,Ud rfl];omega
 have e0:∀(m i:Nat) (d:List Int),i+m=g.length->d.length=g.length->(∀v,v<i->d.getD v 0 = -1)->GdR g sh q (some (.inl (.l0 d (i:Int)))):=by
  intro m
  induction m with
  | zero=>
   intro i d hi hd hf
   refine Ay (show B8 g sh q (.l0 d i)=G2 g sh q d i from rfl) ?_
   unfold G2
   rw[Ad (Uk (by simp only[iN];omega)),Ab (by omega),Ab (by simp only[iN];omega),Ab (show Nat.le _ _ from by show 0+(q:Int).toNat+1<=_;simp only[Ui];omega),Uu,Uo]
   exact e1 g.length hl _ _ (hlow d hd fun v hv=>hf v (by omega))
  | succ m ih=>
   intro i d hi hd hf
   refine Ay (show B8 g sh q (.l0 d i)=G2 g sh q d i from rfl) ?_
   unfold G2
   rw[Ag (Ul (by simp only[iN];omega)),Ab (by omega),Ab (by simp only[iN];omega),Ab (show Nat.le _ _ from by show 0+(i:Int).toNat+1<=_;simp only[Ui];omega),zW i (by omega),Uu,Uo]
   refine ih (i+1) _ (by omega) (by rw[UL];exact hd) fun v hv=>?_
   rw[Dx (by omega)]
   split
   .rfl
   .exact hf v (by omega)
 unfold K9
 exact Ah (by simp only[iN];omega) (Ah (by simp only[iN];omega) (e0 g.length 0 _ (Uu _) (by rw[Uz,hgl]) fun v hv=>by omega))
theorem NI(g:List (List Int))(sh:List Bool)(q:Int):∃d:List Int,VG g->sh.length=g.length->0<=q->q<(g.length:Int)->DsP g q.toNat d/\CT Vb 163 [] [.lst (gL g),.lst (boL sh),.int .i64 q] [] (lI d):=by
 by_cases h:VG g/\sh.length=g.length/\0<=q/\q<(g.length:Int)
 .obtain⟨d,hd⟩:=gds_ex h.1 h.2.1 (q:=q.toNat) (by omega);rw[UE h.2.2.1] at hd;exact⟨d.1,fun _ _ _ _=>⟨d.2,gds_ct g sh q _ hd⟩⟩
 .exact⟨[],fun a b c d=>absurd ⟨a,b,c,d⟩ h⟩
@[irreducible] def gdL(g:List (List Int))(sh:List Bool)(q:Int):List Int:=Classical.choose (NI g sh q)
theorem gd_p{g:List (List Int)}{sh:List Bool}{q:Int}(hg:VG g)(hs:sh.length=g.length)(h0:0<=q)(h1:q<(g.length:Int)):DsP g q.toNat (gdL g sh q):=by unfold gdL;exact(UP (NI g sh q) hg hs h0 h1).1
theorem gd_c(g:List (List Int))(sh:List Bool)(q:Int)(hg:VG g)(hs:sh.length=g.length)(h0:0<=q)(h1:q<(g.length:Int)):CT Vb 163 [] [.lst (gL g),.lst (boL sh),.int .i64 q] [] (lI (gdL g sh q)):=by unfold gdL;exact(UP (NI g sh q) hg hs h0 h1).2
theorem gck_v{g:List (List Int)}(hV:VG g){sh:List Bool}(hs:sh.length=g.length):CT Vb 153 [] [.lst (gL g),.lst (boL sh)] [] (.int .i64 0):=by
 have hl:=hV.len;have hgl:=BZ g;have hbl:=A9 sh;refine gck_ct g sh ([],_) ?_;unfold OC;rw[Ad (Uk (by simp only[iN];omega))];refine Bm (fun i=>C5.l0 (i:Int)) g.length (fun v hv hr=>?_) ?_
 .have hrow:=CY (hV.row v hv);refine .to (show OV g sh (.l0 v)=H0 g sh v from rfl) ?_;unfold H0;rw[Ag (Ul (by simp only[iN];omega)),Ab (by omega),Uo,Ak (Ax [] hv),Ui];have e0:(some (.inl (C5.l1 (v:Int) (-1) (g.getD v []) (g.getD v []).length 0)):Option (C5⊕Ret))=some (.inl (.l1 (v:Int) (Bl (g.getD v []) 0) (g.getD v []) (g.getD v []).length ((0:Nat):Int))):=rfl;rw[e0];refine Bm (fun k=>C5.l1 (v:Int) (Bl (g.getD v []) k) (g.getD v []) (g.getD v []).length (k:Int)) (g.getD v []).length (fun k hk hr=>?_) ?_
  .obtain⟨h1,h2,h3⟩:=hrow.2 k hk;refine .to (show _=Ik g sh v (Bl (g.getD v []) k) (g.getD v []) (g.getD v []).length k from rfl) ?_;unfold Ik;rw[Ag (Ul (by simp only[iN];omega)),Ab (by omega),Uo,Ak (Ax 0 hk),Ad (Uk (by omega)),Ad (Uk (by simp only[iN];omega)),Ad (by simpa using h3),zW k (by omega)];have e:Bl (g.getD v []) (k+1)=(g.getD v []).getD k 0:=by unfold Bl;rw[Ue (by omega),T0]
   rw[e] at hr;exact hr
  .refine .to (show _=Ik g sh v (Bl (g.getD v []) (g.getD v []).length) (g.getD v []) (g.getD v []).length (g.getD v []).length from rfl) ?_;unfold Ik;rw[Ad (Uk (by simp only[iN];omega)),zW v (by omega)];exact hr
 .refine .to (show OV g sh (.l0 (g.length:Int))=H0 g sh g.length from rfl) ?_;unfold H0;rw[Ad (Uk (by simp only[iN];omega)),Ad (by simp only[iN,hgl,hbl,hs];simp)];exact .ret _
inductive FN where | l0 (v0:List Int) (v1:Int) | l1 (v0:List Int) (v1:Int) (v2:List Int) (v3:Nat) (v4:Int)
def M7(g:List (List Int))(sh:List Bool)(q:Int):FN->St | .l0 v0 v1=>St.mk 68 [(0,Va (gL g)),(2,iv q),(7,Va (U4 iv (gdL g sh q))),(8,AV.sl 0 0 v0.length),(9,iv v1)] [some (bK (U4 iv v0) 1)] | .l1 v0 v1 v2 v3 v4=>St.mk 68 [(0,Va (gL g)),(2,iv q),(7,Va (U4 iv (gdL g sh q))),(8,AV.sl 0 0 v0.length),(10,iv v1),(27,Va (U4 iv v2)),(28,iv (iN v3)),(29,iv v4)] [some (bK (U4 iv v0) 1)]
def Lj(g:List (List Int))(sh:List Bool)(q:Int):Option (FN⊕Ret):=gu (0<=q) <|el (sh) (q.toNat) fun(x15:Bool)=>br x15 (some (.inr ([],AV.nils))) (gu (VG g) <|gu (sh.length=g.length) <|gu (q<iN g.length) <|some (.inl (.l0 ([q]) q)))
def Ly(g:List (List Int))(sh:List Bool)(q:Int)(v0:List Int)(v1:Int):Option (FN⊕Ret):=gu (0<=v1) <|el g (v1.toNat) fun(x26:List Int)=>some (.inl (.l1 v0 ((-1:Int)) x26 ((U4 iV x26).length) ((0:Int))))
def GS(g:List (List Int))(sh:List Bool)(q:Int)(v0:List Int)(v1:Int)(v2:List Int)(v3:Nat)(v4:Int):Option (FN⊕Ret):=br (decide (v4<iN v3)) (gu (0<=v4) <|el v2 (v4.toNat) fun(x31:Int)=>gu (0<=x31) <|el (gdL g sh q) (x31.toNat) fun(x35:Int)=>br (decide (0<=x35)) (br (decide (v1<0)) (some (.inl (.l1 v0 x31 v2 v3 (i64.wrap (v4+1))))) (el (gdL g sh q) (x31.toNat) fun(x44:Int)=>gu (0<=v1) <|el (gdL g sh q) (v1.toNat) fun(x48:Int)=>br (decide (x44<x48)) (some (.inl (.l1 v0 x31 v2 v3 (i64.wrap (v4+1))))) (some (.inl (.l1 v0 v1 v2 v3 (i64.wrap (v4+1))))))) (some (.inl (.l1 v0 v1 v2 v3 (i64.wrap (v4+1)))))) (br (decide (v1<0)) (some (.inr ([],AV.nils))) (br (v1==q) (some (.inr ([],Va (U4 iV v0)))) (gu ((U4 iV v0).length+[iV v1].length<=9223372036854775807) <|gu (((U4 iV v0).length+[iV v1].length) * 8<=140737488355328) <|some (.inl (.l0 (v0++[v1]) v1)))))
def FQ(g:List (List Int))(sh:List Bool)(q:Int):FN->Option (FN⊕Ret) | .l0 v0 v1=>Ly g sh q v0 v1 | .l1 v0 v1 v2 v3 v4=>GS g sh q v0 v1 v2 v3 v4
theorem RJ(g:List (List Int))(sh:List Bool)(q:Int)(r:Ret)(h:Ac (FQ g sh q) (Lj g sh q) r):CT Vb 154 ([]) ([.lst (gL g),.lst (boL sh),.int .i64 q]) r.1 r.2:=
 CT.mach (fn:=Tryz.f154) (c:=zB Tryz.f154) (S:=(M7 g sh q)) (hd:=FN.ctorIdx) Tryz.func154 (by kernel_rfl) (nL rfl)
  (fun s o ho=>match s,ho with
 | .l0 v0 v1,ho=>Scr.ok (X:=Ly g sh q v0 v1) ho mix (
 .rn 0 [] [] [] [] s2 <|
 .gu fun a0=>
 .el fun x26 a1=>
 .lp [] [(26,lI x26)] [] [] [] [0] [0,2,7,8,10,27,28,29] (aj (al (u2 (u2 (aj (k2 (aj a0 (Af (f:=lI) a1))) (u2 (u2 t2)))))) (ak t9))) (by kernel_rfl)
 | .l1 v0 v1 v2 v3 v4,ho=>Scr.ok (X:=GS g sh q v0 v1 v2 v3 v4) ho mix (
 .rn 0 [] [] [] [] (al (al t3)) <|
 .br (fun a0=>
 .gu fun a1=>
 .el fun x31 a2=>
 .rn 0 [61] [(31,iv x31)] [] [] (aj a0 (al (aj (k2 (aj a1 (Af (f:=iv) a2))) (u2 s2)))) <|
 .gu fun a3=>
 .el fun x35 a4=>
 .br (fun a5=>
  .br (fun a6=>
  .lp [77,83] [(35,iv x35)] [] [] [] [0] [0,2,7,8,10,27,28,29] (aj (aj (u2 (u2 (aj (k2 (aj a3 (Af (f:=iv) a4))) (u2 (u2 (u2 (ag a5 (ag a5 (ag a5 (aj a6 (aj a6 (aj a6 (aj a6 (aj a6 (aj a6 (aj a6 (aj a6 (aj a6 (aj (aj a5 (aj a6 t2)) (al (aj a5 t2))))))))))))))))))))) (ak (aj (u2 s2) (al (u2 s2))))) (ak t9)))
  (fun a6=>
  .el fun x44 a7=>
  .gu fun a8=>
  .el fun x48 a9=>
  .rn 0 [77,82] [(35,iv x35),(44,iv x44),(48,iv x48)] [] [] (al (u2 (u2 (aj (k2 (aj a3 (Af (f:=iv) a4))) (u2 (u2 (u2 (ag a5 (ag a5 (ag a5 (ag a6 (ag a6 (aj (aj a6 (k2 (aj a3 (Af (f:=iv) a7)))) (ag a6 (ag a6 (ag a6 (aj (aj a6 (k2 (aj a8 (Af (f:=iv) a9)))) (ag a6 (aj (aj a6 t3) (aj (aj a5 (aj a6 t2)) (al (aj a5 t2)))))))))))))))))))))) <|
  .br (fun a10=>
   .lp [77,82,105] [] [] [] [] [0] [0,2,7,8,10,27,28,29] (aj (aj a10 (aj (u2 s2) (al (u2 s2)))) (ak t9)))
  (fun a10=>
   .lp [77,82,104] [] [] [] [] [0] [0,2,7,8,10,27,28,29] (aj (aj a10 (al (u2 s2))) (ak t9)))))
 (fun a5=>
  .lp [76] [(35,iv x35)] [] [] [] [0] [0,2,7,8,10,27,28,29] (aj (aj (u2 (u2 (aj (k2 (aj a3 (Af (f:=iv) a4))) (u2 (u2 (u2 (aj a5 (aj a5 (aj a5 (ak (k3 (k5 (aj a5 (al (aj a5 t2))))))))))))))) (ak (al (u2 s2)))) (ak t9))))
 (fun a0=>
 .rn 0 [60] [] [] [] (aj a0 (al (u2 (u2 s2)))) <|
 .br (fun a1=>
  .rt [111] [] [] [] [] [] (aj (aj a1 s2) t2))
 (fun a1=>
  .rn 0 [110] [] [] [] (aj a1 (al (u2 (u2 (aj t3 s2))))) <|
  .br (fun a2=>
  .rt [117] [] [] [] [] [0] (aj (aj a2 (al (u2 s2))) (al (show v0.length=(U4 iv v0).length by simp))))
  (fun a2=>
  .gu fun a3=>
  .gu fun a4=>
  .lq [116] [] [] [] [] [2] [0,2,7,8,9] (up [(8,AV.sl 0 0 ((U4 iv v0).length+[iv v1].length))] [(0,U4 iv v0++[iv v1])] (M7 g sh q (.l0 (v0++[v1]) v1))) (aj (aj a2 (al (u2 (u2 (u2 (aj (k2 (aj (show(U4 iv v0).length=v0.length by simp) (aj (aj (show nat_lit 1=nat_lit 1 from rfl) (show 1<=[iv v1].length by simp)) (aj a3 a4)))) (u2 (u2 s2)))))))) t7) (by simp[up,upF,upV,upH,upB,M7,gL,boL,lI]))))) (by kernel_rfl)
  )
  (fun o ho=>Scr.ok (X:=Lj g sh q) ho mix (
 .rn 0 [] [] [] [] s2 <|
 .gu fun a0=>
 .el fun x15 a1=>
 .rn 0 [] [(15,bV x15)] [] [] (al (u2 (u2 (aj (k2 (aj a0 (Af (f:=bV) a1))) s2)))) <|
 .br (fun a2=>
 .rt [33] [] [] [] [] [] (aj (aj a2 s2) t2))
 (fun a2=>
 .gu fun a3=>
 .gu fun a4=>
 .gu fun a5=>
 have c0:=gd_c g (sh) q a3 a4 a0 a5;
 .lp [32] [] [(20,hK c0 [] [])] [] [] [0] [0,2,7,8,9] (aj (aj a2 (aj (u2 (u2 (u2 (aj (ak (k5 (al (c0)))) s2)))) (al (u2 (u2 (u2 (u2 s2))))))) t7))) (by kernel_rfl)) h
theorem gth_ex{g:List (List Int)}{sh:List Bool}(hV:VG g)(hs:sh.length=g.length){q:Nat}(hq:q<g.length):∃o:OL,Ac (FQ g sh q) (Lj g sh q) (olR o):=by
 have hg:=hV.ok hs;have hl:=hg.len;have h1:(q:Int)<(g.length:Int):=by omega
 have hd:=gd_p hV hs (Int.natCast_nonneg q) h1;have hdl:=hd.len;rw[Uo] at hd;have key:∀(m u:Nat) (W:List Int),u<g.length->W.length+m<=60->(((gdL g sh q).getD u 0=m/\0<m)\/24<m)->∃o:OL,Ac (FQ g sh q) (some (.inl (.l0 W (u:Int)))) (olR o):=by
  intro m;induction m using Nat.strongRecOn with
  | _ m ih=>
   intro u W hu hW hm;have hrow:=(hg.row u hu).1;have er:=Ax [] hu
   have e1:∀(c k:Nat) (b:Int),k+c=(g.getD u []).length->(b<0\/0<=b/\b<g.length/\0<=(gdL g sh q).getD b.toNat 0)->(∀j w:Nat,j<k->(g.getD u []).getD j 0=(w:Int)->0<=(gdL g sh q).getD w 0->0<=b/\(gdL g sh q).getD b.toNat 0<=(gdL g sh q).getD w 0)->
     ∃o:OL,Ac (FQ g sh q) (some (.inl (.l1 W b (g.getD u []) (g.getD u []).length (k:Int)))) (olR o):=by
    intro c;induction c with
    | zero=>
     intro k b hk hb hmin;refine Ay (show FQ g sh q (.l1 W b (g.getD u []) (g.getD u []).length k)=GS g sh q W b (g.getD u []) (g.getD u []).length k from rfl) ?_;unfold GS;rw[Ad (Uk (by simp only[iN];omega))];refine BK (fun _=>Kp) fun hb0=>Am (fun _=>⟨⟨some W,fun l h=>by cases h;omega⟩,.ret _⟩) fun hbq=>?_
     have hb:=hb.resolve_left hb0;obtain⟨w,rfl⟩:∃w:Nat,b=(w:Int):=⟨b.toNat,by omega⟩;rw[Uo] at hb hmin;have hwq:w≠q:=fun e=>by subst e;simp at hbq
     have hz:=hd.zer w (by omega);have hr:=hd.rng w (by omega);have hlt:(gdL g sh q).getD w 0<m:=by
      rcases hm with hm | hm
      .obtain⟨t,t1,t2,t3⟩:=hd.stp u hu (by omega);obtain⟨j,hj,ej⟩:=UO.1 t1;have:=hmin j t (by omega) (by rw[EZ hj];exact ej) (by omega);omega
      .omega
     refine Ah (by simp only[Ui,UQ];omega) (Ah (by simp only[Ui,UQ];omega) ?_);exact ih ((gdL g sh q).getD w 0).toNat (by omega) w _ (by omega) (by simp only[Uy,UQ];omega) (.inl ⟨by omega,by omega⟩)
    | succ c ihc=>
     intro k b hk hb hmin;obtain⟨w,hw1,hw2,_⟩:=Jq hg hu (i:=k) (by omega);have ew:=Ax 0 (show k<(g.getD u []).length by omega);rw[hw1] at ew;have edw:=Ax 0 (show w<(gdL g sh q).length by omega);refine Ay (show FQ g sh q (.l1 W b (g.getD u []) (g.getD u []).length k)=GS g sh q W b (g.getD u []) (g.getD u []).length k from rfl) ?_;unfold GS;rw[Ag (Ul (by simp only[iN];omega)),Ab (by omega),Uo,Ak ew,Ab (by omega),Uo,Ak edw,zW k (by omega),Ak edw];have lst:∀{j v:Nat},j<k+1->(g.getD u []).getD j 0=(v:Int)->¬j<k->v=w:=fun {j v} h2 h3 h4=>by
      have:j=k:=by omega
      subst this;omega
     refine BK (fun h=>BK (fun hb0=>?_) fun hb0=>?_) fun h=>?_
     .refine ihc (k+1) w (by omega) (.inr ⟨by omega,by omega,by rw[Uo];exact h⟩) fun j v hj e hv=>?_
      by_cases hjk:j<k
      .have:=hmin j v hjk e hv;omega
      .rw[lst hj e hjk,Uo];omega
     .have hb1:=hb.resolve_left hb0;rw[Ab (by omega),Ak (Ax 0 (show b.toNat<(gdL g sh q).length by omega))];refine BK (fun h2=>?_) fun h2=>?_
      .refine ihc (k+1) w (by omega) (.inr ⟨by omega,by omega,by rw[Uo];exact h⟩) fun j v hj e hv=>?_
       rw[Uo];by_cases hjk:j<k
       .have:=hmin j v hjk e hv;omega
       .rw[lst hj e hjk];omega
      .refine ihc (k+1) b (by omega) hb fun j v hj e hv=>?_
       by_cases hjk:j<k
       .exact hmin j v hjk e hv
       .rw[lst hj e hjk];omega
     .refine ihc (k+1) b (by omega) hb fun j v hj e hv=>?_
      by_cases hjk:j<k
      .exact hmin j v hjk e hv
      .rw[lst hj e hjk] at hv;exact absurd hv h
   refine Ay (show FQ g sh q (.l0 W u)=Ly g sh q W u from rfl) ?_;unfold Ly;rw[Ab (by omega),Uo,Ak er,Ui];exact e1 _ 0 (-1) (Uu _) (.inl (by omega)) fun j w hj=>absurd hj (U2 _)
 unfold Lj;refine Ah (by omega) ?_;rw[Uo,Ak (Ax false (show q<sh.length by omega))];exact Am (fun _=>Kp) fun _=>Ah hV (Ah hs (Ah (by simp only[iN];omega) (key 50 q [(q:Int)] hq (by simp) (.inr (by omega)))))
theorem Mh(g:List (List Int))(sh:List Bool)(q:Int):∃l:List Int,VG g->sh.length=g.length->0<=q->q<(g.length:Int)->l.length<=60/\CT Vb 154 [] [.lst (gL g),.lst (boL sh),.int .i64 q] [] (lI l):=by
 by_cases h:VG g/\sh.length=g.length/\0<=q/\q<(g.length:Int)
 .obtain⟨a,b,c,d⟩:=h;obtain⟨⟨o,ho⟩,hd⟩:=gth_ex a b (q:=q.toNat) (by omega);rw[UE c] at hd;cases o with
  | none=>exact⟨[],fun _ _ _ _=>⟨Ur _,(RJ g sh q ([],.nils) hd).to rfl rfl⟩⟩
  | some l=>exact⟨l,fun _ _ _ _=>⟨ho l rfl,RJ g sh q _ hd⟩⟩
 .exact⟨[],fun a b c d=>absurd ⟨a,b,c,d⟩ h⟩
@[irreducible] def gtL(g:List (List Int))(sh:List Bool)(q:Int):List Int:=Classical.choose (Mh g sh q)
theorem gt_p{g:List (List Int)}{sh:List Bool}{q:Int}(hg:VG g)(hs:sh.length=g.length)(h0:0<=q)(h1:q<(g.length:Int)):(gtL g sh q).length<=60:=by unfold gtL;exact(UP (Mh g sh q) hg hs h0 h1).1
theorem gt_c(g:List (List Int))(sh:List Bool)(q:Int)(hg:VG g)(hs:sh.length=g.length)(h0:0<=q)(h1:q<(g.length:Int)):CT Vb 154 [] [.lst (gL g),.lst (boL sh),.int .i64 q] [] (lI (gtL g sh q)):=by unfold gtL;exact(UP (Mh g sh q) hg hs h0 h1).2
inductive E3 where | l0 (v0:List Int) (v1:Int) | l1 (v0:Int)
def ggiSt(g:List (List Int))(sh:List Bool):E3->St | .l0 v0 v1=>St.mk 45 [(0,Va (gL g)),(1,Va (boL sh)),(8,Va (U4 iv v0)),(18,iv (iN (gL g).length)),(19,iv v1)] [] | .l1 v0=>St.mk 45 [(0,Va (gL g)),(1,Va (boL sh)),(8,AV.nils),(18,iv (iN (gL g).length)),(19,iv v0)] []
def ggiHd:E3->Nat | .l0 _ _=>0 | .l1 _=>0
def J7(g:List (List Int))(sh:List Bool):Option (E3⊕Ret):=gu (VG g) <|gu (sh.length=g.length) <|some (.inl (.l1 ((0:Int))))
def IC(g:List (List Int))(sh:List Bool)(v0:List Int)(v1:Int):Option (E3⊕Ret):=br (decide (v1<iN (gL g).length)) (gu (VG g) <|gu (sh.length=g.length) <|gu (0<=v1) <|gu (v1<iN g.length) <|br (decide (0<iN (U4 iV (gtL g sh v1)).length)) (gu (U4 iV v0=[]->False) <|br (decide (iN (U4 iV (gtL g sh v1)).length<iN (U4 iV v0).length)) (some (.inl (.l0 (gtL g sh v1) (i64.wrap (v1+1))))) (some (.inl (.l0 v0 (i64.wrap (v1+1)))))) (some (.inl (.l0 v0 (i64.wrap (v1+1)))))) (some (.inr ([],AV.tup [iV (iN (U4 iV v0).length),Va (U4 iV v0),iV 0])))
def Gw(g:List (List Int))(sh:List Bool)(v0:Int):Option (E3⊕Ret):=br (decide (v0<iN (gL g).length)) (gu (VG g) <|gu (sh.length=g.length) <|gu (0<=v0) <|gu (v0<iN g.length) <|br (decide (0<iN (U4 iV (gtL g sh v0)).length)) (some (.inl (.l0 (gtL g sh v0) (i64.wrap (v0+1))))) (some (.inl (.l1 (i64.wrap (v0+1)))))) (some (.inr ([],AV.tup [iV 0,AV.nils,iV 0])))
def Ek(g:List (List Int))(sh:List Bool):E3->Option (E3⊕Ret) | .l0 v0 v1=>IC g sh v0 v1 | .l1 v0=>Gw g sh v0
theorem Qx(g:List (List Int))(sh:List Bool)(r:Ret)(h:Ac (Ek g sh) (J7 g sh) r):CT Vb 135 ([]) ([.lst (gL g),.lst (boL sh)]) r.1 r.2:=
 CT.mach (fn:=Tryz.f135) (c:=zB Tryz.f135) (S:=(ggiSt g sh)) (hd:=ggiHd) Tryz.func135 (by kernel_rfl) (nL rfl)
  (fun s o ho=>match s,ho with
 | .l0 v0 v1,ho=>Scr.ok (X:=IC g sh v0 v1) ho mix (
 .rn 0 [] [] [] [] (al (al t3)) <|
 .br (fun a0=>
 .rn 0 [41] [] [] [] (aj a0 (al (u2 s2))) <|
 .gu fun a1=>
 .gu fun a2=>
 .gu fun a3=>
 .gu fun a4=>
 have c0:=gt_c g (sh) v1 a1 a2 a3 a4;
 .rn 0 [] [] [(25,hK c0 [] [])] [] (al (u2 (u2 (u2 (aj (ak (k5 (al (c0)))) s2))))) <|
 .br (fun a5=>
  .gu fun a6=>
  .rn 0 [59] [] [] [] (al (u2 (u2 (u2 (u2 (ag a5 (aj (aj a5 (ak a6)) (ag a5 (aj t3 (aj t3 (aj t3 (aj t3 (aj t4 (aj (aj a5 t3) (al (aj a5 t2)))))))))))))))) <|
  .br (fun a7=>
  .lp [59,79] [] [] [] [] [] [0,1,8,18,19] (aj (aj a7 (aj (u2 s2) (al (u2 s2)))) t6))
  (fun a7=>
  .lp [59,78] [] [] [] [] [] [0,1,8,18,19] (aj (aj a7 (al (u2 s2))) t6)))
 (fun a5=>
  .lp [58] [] [] [] [] [] [0,1,8,18,19] (aj (aj (u2 (u2 (u2 (u2 (aj a5 (aj a5 (aj a5 (k5 (aj a5 (al (aj a5 t2))))))))))) (ak (al (u2 s2)))) t6)))
 (fun a0=>
 .rt [40] [] [] [] [] [] (aj (aj a0 (al (u2 (u2 (u2 (u2 (u2 t2))))))) (al t4)))) (by kernel_rfl)
 | .l1 v0,ho=>Scr.ok (X:=Gw g sh v0) ho mix (
 .rn 0 [] [] [] [] (al (al t3)) <|
 .br (fun a0=>
 .rn 0 [41] [] [] [] (aj a0 (al (u2 s2))) <|
 .gu fun a1=>
 .gu fun a2=>
 .gu fun a3=>
 .gu fun a4=>
 have c0:=gt_c g (sh) v0 a1 a2 a3 a4;
 .rn 0 [] [] [(25,hK c0 [] [])] [] (al (u2 (u2 (u2 (aj (ak (k5 (al (c0)))) s2))))) <|
 .br (fun a5=>
  .lp [59] [] [] [] [(30,1000)] [] [0,1,8,18,19] (aj (aj (u2 (u2 (u2 (u2 (ag a5 (ag a5 (ag a5 (k5 (aj (aj a5 t3) (al (aj a5 t2))))))))))) (ak (aj (u2 s2) (al (u2 s2))))) t6))
 (fun a5=>
  .lp [58] [] [] [] [] [] [0,1,8,18,19] (aj (aj (u2 (u2 (u2 (u2 (aj a5 (aj a5 (aj a5 (k5 (aj a5 (al (aj a5 t2))))))))))) (ak (al (u2 s2)))) t6)))
 (fun a0=>
 .rt [40] [] [] [] [] [] (aj (aj a0 (al (u2 (u2 (u2 (u2 (u2 t2))))))) (al t4)))) (by kernel_rfl)
  )
  (fun o ho=>Scr.ok (X:=J7 g sh) ho mix (
 .rn 0 [] [] [] [] (al t4) <|
 .gu fun a0=>
 .gu fun a1=>
 have c0:=gck_v a0 a1;
 .lp [] [] [(13,hK c0 [] [])] [] [] [] [0,1,8,18,19] (aj (aj (u2 (u2 (aj (ak (k3 (al (c0)))) s2))) (aj (u2 s2) (ak (u2 (al (u2 (u2 t2))))))) t6)) (by kernel_rfl)) h
def giR(o:OL):Ret:=([],match o.1 with | none=>.tup [.int .i64 0,.nils,.int .i64 0] | some l=>.tup [.int .i64 (iN l.length),lI l,.int .i64 0])
theorem ggi_ex{g:List (List Int)}{sh:List Bool}(hV:VG g)(hs:sh.length=g.length):∃o:OL,Ac (Ek g sh) (J7 g sh) (giR o):=by
 have hgl:=BZ g;have hl:=hV.len;have ht:∀v:Nat,v<g.length->(gtL g sh v).length<=60:=fun v hv=>gt_p hV hs (Int.natCast_nonneg v) (by omega)
 have e0:∀(c v:Nat) (W:List Int),v+c=g.length->0<W.length->W.length<=60->∃o:OL,Ac (Ek g sh) (some (.inl (.l0 W (v:Int)))) (giR o):=by
  intro c;induction c with
  | zero=>intro v W hv _ hW;refine Ay (show Ek g sh (.l0 W v)=IC g sh W v from rfl) ?_;unfold IC;rw[Ad (Uk (by simp only[iN];omega)),Ui];exact⟨⟨some W,fun l h=>by cases h;exact hW⟩,.ret _⟩
  | succ c ih=>intro v W hv hp hW;have hv1:=ht v (by omega);refine Ay (show Ek g sh (.l0 W v)=IC g sh W v from rfl) ?_;unfold IC;rw[Ag (Ul (by simp only[iN];omega)),Ab hV,Ab hs,Ab (by omega),Ab (by simp only[iN];omega),zW v (by omega),Ui];refine BK (fun h=>Ah (fun e=>by rw[List.map_eq_nil_iff] at e;subst e;cases hp) (Am (fun _=>ih (v+1) _ (by omega) (by simp only[iN] at h;omega) hv1) fun _=>ih (v+1) W (by omega) hp hW)) fun _=>ih (v+1) W (by omega) hp hW
 have e1:∀(c v:Nat),v+c=g.length->∃o:OL,Ac (Ek g sh) (some (.inl (.l1 (v:Int)))) (giR o):=by
  intro c;induction c with
  | zero=>intro v hv;refine Ay (show Ek g sh (.l1 v)=Gw g sh v from rfl) ?_;unfold Gw;rw[Ad (Uk (by simp only[iN];omega))];exact⟨⟨none,fun l h=>by cases h⟩,.ret _⟩
  | succ c ih=>intro v hv;have hv1:=ht v (by omega);refine Ay (show Ek g sh (.l1 v)=Gw g sh v from rfl) ?_;unfold Gw;rw[Ag (Ul (by simp only[iN];omega)),Ab hV,Ab hs,Ab (by omega),Ab (by simp only[iN];omega),zW v (by omega),Ui];exact BK (fun h=>e0 c (v+1) _ (by omega) (by simp only[iN] at h;omega) hv1) fun _=>ih (v+1) (by omega)
 unfold J7;exact Ah hV (Ah hs (e1 g.length 0 (Uu _)))
theorem gg_xP(g:List (List Int))(sh:List Bool):∃k:Int,VG g->sh.length=g.length->(0<=k/\k<=60)/\CT Vb 135 [] [.lst (gL g),.lst (boL sh)] [] (.tup [.int .i64 k,.any,.int .i64 0]):=by
 by_cases h:VG g/\sh.length=g.length
 .obtain⟨⟨o,ho⟩,hd⟩:=ggi_ex h.1 h.2;cases o with
  | none=>exact⟨0,fun _ _=>⟨by omega,CT.any1 (L:=[]) ((Qx g sh ([],.tup [.int .i64 0,.nils,.int .i64 0]) hd).to rfl rfl)⟩⟩
  | some l=>exact⟨iN l.length,fun _ _=>⟨by have:=ho l rfl;simp only[iN];omega,CT.any1 (Qx g sh _ hd)⟩⟩
 .exact⟨0,fun a b=>absurd ⟨a,b⟩ h⟩
@[irreducible] def ggK(g:List (List Int))(sh:List Bool):Int:=Classical.choose (gg_xP g sh)
theorem gg_c{g:List (List Int)}(hg:VG g){sh:List Bool}(hs:sh.length=g.length):CT Vb 135 [] [.lst (gL g),.lst (boL sh)] [] (.tup [.int .i64 (ggK g sh),.any,.int .i64 0]):=by unfold ggK;exact(UP (gg_xP g sh) hg hs).2
inductive Ip where | l0 (v0 v1:Int)
def lflSt(n:Aa):Ip->St | .l0 v0 v1=>St.mk 54 [(2,AV.ptr 0 0 0),(4,AV.ptr 1 0 0),(25,Va (U4 sA n.ss)),(26,iv (iN (U4 sA n.ss).length)),(27,iv v0)] [some (bK [AV.agg [iv 0,AV.nils,iv 0,iv 0]] 4),some (bK [AV.agg [iv (ggK n.nx (U5 (gL n.nx).length false)),AV.any,iv v1,iv 0]] 4)]
def Lh(n:Aa):Option (Ip⊕Ret):=gu (Rows n.nx) <|gu (Aq n) <|gu (1 * iN (gL n.nx).length<=281474976710656) <|gu (iN (gL n.nx).length<=9223372036854775807) <|gu (VG n.nx) <|gu ((U5 (gL n.nx).length false).length=n.nx.length) <|some (.inl (.l0 ((0:Int)) ((0:Int))))
def Gi(n:Aa)(v0 v1:Int):Option (Ip⊕Ret):=br (decide (v0<iN (U4 sA n.ss).length)) (gu (0<=v0) <|el (n.ss) (v0.toNat) fun(x29:Av)=>br (x29.dep) (some (.inl (.l0 (i64.wrap (v0+1)) (i64.wrap (v1+x29.k))))) (some (.inl (.l0 (i64.wrap (v0+1)) v1)))) (br (decide (0<ggK n.nx (U5 (gL n.nx).length false))) (some (.inr ([],AV.tup [AV.agg [iV (ggK n.nx (U5 (gL n.nx).length false)),AV.any,iV v1,iV (if i64.wrap (ggK n.nx (U5 (gL n.nx).length false)-1)<v1 then i64.wrap (ggK n.nx (U5 (gL n.nx).length false)-1) else v1)],iV 0]))) (some (.inr ([],AV.tup [AV.agg [iV (ggK n.nx (U5 (gL n.nx).length false)),AV.any,iV v1,iV v1],iV 0]))))
def Jw(n:Aa):Ip->Option (Ip⊕Ret) | .l0 v0 v1=>Gi n v0 v1
theorem lfl_ct(n:Aa)(r:Ret)(h:Ac (Jw n) (Lh n) r):CT Vb 87 ([]) ([Ai n]) r.1 r.2:=
 CT.mach (fn:=Tryz.f87) (c:=zB Tryz.f87) (S:=(lflSt n)) (hd:=Ip.ctorIdx) Tryz.func87 (by kernel_rfl) (nL rfl)
  (fun s o ho=>match s,ho with
 | .l0 v0 v1,ho=>Scr.ok (X:=Gi n v0 v1) ho mix (
 .rn 0 [] [] [] [] (al (al t3)) <|
 .br (fun a0=>
 .gu fun a1=>
 .el fun x29 a2=>
 .rn 1 [57] [(29,sA x29)] [] [] (aj a0 (aj (aj (k2 (aj a1 (Af (f:=sA) a2))) (u2 (ak (al (k2 n11))))) (al (u2 s2)))) <|
 .br (fun a3=>
  .lp [65] [] [] [] [] [0,1] [2,4,25,26,27] (aj (aj a3 (aj (u2 (u2 (u2 (u2 (aj t3 (u2 (al t3))))))) (al (u2 s2)))) t8))
 (fun a3=>
  .lp [64] [] [] [] [] [0,1] [2,4,25,26,27] (aj (aj a3 (al (u2 s2))) t8)))
 (fun a0=>
 .rn 1 [56] [] [] [] (aj a0 (aj (u2 (u2 (u2 (al t3)))) (al (u2 (u2 s2))))) <|
 .br (fun a1=>
  .rt [91] [] [] [] [] [] (aj (aj a1 (aj (u2 (u2 (u2 (u2 (u2 (aj t3 (u2 (al t3)))))))) (al (u2 (aj (k2 n11) t2))))) (al (aj t5 t2))))
 (fun a1=>
  .rt [90] [] [] [] [] [] (aj (aj a1 (al (u2 (aj (k2 n11) t2)))) (al (aj t5 t2)))))) (by kernel_rfl)
  )
  (fun o ho=>Scr.ok (X:=Lh n) ho mix (
 .rn 0 [] [] [] [] (al (u2 t3)) <|
 .gu fun a0=>
 .gu fun a1=>
 have c0:=Rh a0 a1;
 .rn 1 [] [] [(8,hK c0 [] [])] [] (aj (u2 (aj (ak (aj t9 (al (c0)))) s2)) (ak s2)) <|
 .gu fun a2=>
 .gu fun a3=>
 .gu fun a4=>
 .gu fun a5=>
 have c1:=gg_c a4 a5;
 .lp [] [] [(18,hK c1 [] [3])] [] [] [1,2] [2,4,25,26,27] (aj (aj (u2 (u2 (u2 (u2 (u2 (aj (k2 (aj (show 0<=iN (gL n.nx).length from(Int.natCast_nonneg _)) (aj (show iN (gL n.nx).length<=iN (gL n.nx).length by omega) (aj a2 a3)))) (aj (k3 (aj (show(gL n.nx).length=(U5 (gL n.nx).length (bV false)).length by simp) (aj (show CT Vb 135 [] [Va (gL n.nx),Va (U5 (gL n.nx).length (bV false))] [] (AV.tup [iv (ggK n.nx (U5 (gL n.nx).length false)),AV.any,iv 0]) from CT.eqs (c1) (by first | (simp only[boL,Us,U0,List.map_take,List.map_drop,List.map_replicate,List.nil_append]<;>rfl) | (simp[gL,boL,lI,sA,bA]<;>rfl)) (by first | (simp only[boL,Us,U0,List.map_take,List.map_drop,List.map_replicate,List.nil_append]<;>rfl) | (simp[gL,boL,lI,sA,bA]<;>rfl))) (show ∀(blk:Blk),blk∈[]->A5 blk from(by intro _ h;cases h))))) (u2 (u2 (u2 (u2 (u2 (aj t3 (u2 (al t3))))))))))))))) (al (u2 (u2 (u2 t2))))) t8)) (by kernel_rfl)) h
end Go.Proofs.YthjgbnbibebigaaGreat

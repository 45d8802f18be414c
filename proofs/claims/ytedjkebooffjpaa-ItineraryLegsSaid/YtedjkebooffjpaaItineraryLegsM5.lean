/- Parts of the proof:NmG,NmH,NmI,Nm4p,NmJ,NmK,NmL,Nm5p,NmM,Nm6p,NmN,NmO,NmP,NmQ,NmR,NmS,NmU,NmV,NmW,NmX,NmY,NmZ,NmZa,NmZb,NmZc. -/
import Derived.KernelRfl
import Derived.Test.YtedjkebooffjpaaProg
import Derived.Test.YtedjkebooffjpaaItineraryLegsM4
noncomputable section
set_option linter.unusedVariables false
set_option linter.unusedSimpArgs false
open Go Go.AX Go.Proofs
set_option maxRecDepth 100000
set_option linter.unusedVariables false
set_option linter.unusedSimpArgs false
open Go.IntKind (i64 u64)
open List renaming map->Uq,replicate->Ur
open Go.AX.AV renaming lst->Uw
open Go.Proofs.Try renaming prog->Ux
namespace Go.Proofs.Ytedjkebooffjpaa
def qB(n:Ab)(b:AO)(r:List Int)(i k:Nat)(x y:Int):QY:=⟨n,[],b,s0,r,i,k,0,0,x,y,⟨#[]⟩,⟨#[]⟩,false,false,false,false⟩
def qW(n:Ab)(L:List ByteArray)(b:AO)(s:Am)(i k:Nat)(u v:ByteArray):QY:=⟨n,L,b,s,[],i,k,0,0,0,0,u,v,false,false,false,false⟩
theorem O5{a b:ByteArray}:(a.toList==b.toList)=true↔a=b:=by rw[beq_iff_eq,ByteArray.toList_eq,ByteArray.toList_eq];exact⟨fun h=>by cases a;cases b;simpa using h,fun h=>by rw[h]⟩
structure HQ(n:Ab)(i:Nat)(b:AO):Prop where
 x:Aw b.x (-9999) 9999=true
 y:Aw b.y (-9999) 9999=true
 ln:(n.nx.getD i []).length<=4
 nx:fnd (AM (n.nx.getD i []) n.bs.length i) 0 (n.nx.getD i []).length=none
structure BlV(n:Ab):Prop where
 nb:1<=n.bs.length/\n.bs.length<=24
 nx:n.nx.length=n.bs.length
 blk:∀i b,n.bs[i]?=some b->HQ n i b
open Classical in
def blV(n:Ab):Bool:=decide (BlV n)
theorem IB{n:Ab}(h:¬BlV n):blV n=false:=by unfold blV;exact @Tz _ (Classical.propDecidable _) h
theorem M8{n:Ab}:blV n=true↔BlV n:=by unfold blV;exact @decide_eq_true_iff _ (Classical.propDecidable _)
theorem ybm_run{n:Ab}(hrw:Rows n.nx)(hnb:n.bs.length<=24)(i:Nat)(hi:i<n.nx.length)(hi24:i<24){R:St->Prop}{post:Exit->St->Prop}
  (hy:fnd (AM (n.nx.getD i []) n.bs.length i) 0 (n.nx.getD i []).length≠none->BQ post (Fin Ux Try.f113 0 [] (.bool false)))
  (hR:fnd (AM (n.nx.getD i []) n.bs.length i) 0 (n.nx.getD i []).length=none->∀st,Ren 0 st (Du (qB n b0 [] (i+1) 0 0 0))->R st):
  T Ux 0 (.loop (zC (zC (zB Try.f113) 0) 0)) (Dm (qB n b0 (n.nx.getD i []) i 0 0 0)) (TK Ux 0 (andThen R post) (zK (zC (zB Try.f113) 0) 0)):=by
 have hr63:=hrw i hi;have hg2:(gL n.nx)[i]?=some (lI (n.nx.getD i [])):=CW hi;have hbl:(n.bs.map bA).length=n.bs.length:=by simp
 generalize n.nx.getD i []=r at hr63 hg2 hy hR;have hrl:=BU r;generalize hrr:fnd (AM r n.bs.length i) 0 r.length=res at hy hR;refine T.loop (fun k:Nat=>Dm (qB n b0 r i k 0 0)) (fun k=>k<=r.length/\fnd (AM r n.bs.length i) k (r.length-k)=res) (fun k=>r.length+1-k) 0 ⟨TG _,hrr⟩ ?_
 rintro k ⟨hk,hf⟩
 have dl:((gL n.nx)[(iN i).toNat]?=some (Uw (Uq (AV.int i64) r))):=hg2;by_cases h:k<r.length
 .rw[CS h] at hf;have hg:=Bv h;have dk:decide (iN k<iN (r.map (AV.int .i64)).length)=true:=TA (by simp only[iN,hrl];omega);have k1:(0:Int)<=iN k:=by simp[iN]
  have k2:(0:Int)<=iN i:=by simp[iN]
  have wk:i64.wrap (iN k+1)=((k+1:Nat):Int):=zW k (by omega);have found:AM r n.bs.length i k=true->BQ (andThen R post) (Fin Ux Try.f113 0 [] (.bool false)):=by intro hb;simp only[hb] at hf;subst hf;exact hy (by simp)
  have next:AM r n.bs.length i k=false->∀st,Ren 0 st (Dm (qB n b0 r i (k+1) 0 0))->∃j,Ren 0 st (Dm (qB n b0 r i j 0 0))/\(j<=r.length/\fnd (AM r n.bs.length i) j (r.length-j)=res)/\r.length+1-j<r.length+1-k:=by intro hb st hst;simp only[hb] at hf;exact⟨k+1,hst,⟨h,hf⟩,by omega⟩
  have hp:decide (0<iN k)=true->(r.map (AV.int .i64))[(i64.wrap (iN k-1)).toNat]?=some (.int .i64 (r.getD (k-1) 0))/\0<=i64.wrap (iN k-1):=fun h0=>by
   have h0:0<k:=by have:=of_decide_eq_true h0;simp only[iN] at this;omega
   have hw:=FG k h0 (by omega);simp only[iN] at hw ⊢
   rw[hw];exact⟨by simpa using Bv (l:=r) (j:=k-1) (by omega),by omega⟩
  cases t1:decide ((qB n b0 r i k (r.getD k 0) (r.getD (k-1) 0)).x<0)
  case false=>
   cases t2:decide (iN (Uq bA (qB n b0 r i k (r.getD k 0) (r.getD (k-1) 0)).n.bs).length<=(qB n b0 r i k (r.getD k 0) (r.getD (k-1) 0)).x)
   case false=>
    cases t3:((qB n b0 r i k (r.getD k 0) (r.getD (k-1) 0)).x==iN (qB n b0 r i k (r.getD k 0) (r.getD (k-1) 0)).i)
    case false=>
     cases t4:decide (0<iN (qB n b0 r i k (r.getD k 0) (r.getD (k-1) 0)).k)
     case false=>exact T.path mix (yrbm_5 (qB n b0 r i k (r.getD k 0) (r.getD (k-1) 0)) (by first | assumption | (first | exact hg | exact(hp (by assumption)).1 | exact(hp (by assumption)).2)) (by first | assumption | (first | exact hg | exact(hp (by assumption)).1 | exact(hp (by assumption)).2)) dk (by first | assumption | (first | exact hg | exact(hp (by assumption)).1 | exact(hp (by assumption)).2)) (by first | assumption | (first | exact hg | exact(hp (by assumption)).1 | exact(hp (by assumption)).2)) t1 t2 t3 t4 (fun st hst=>by simp only[qB,wk] at hst;exact next (by simp only[qB,iN,hbl] at *;unfold AM;grind) st hst))
     case true=>
      cases t5:decide ((qB n b0 r i k (r.getD k 0) (r.getD (k-1) 0)).x<=(qB n b0 r i k (r.getD k 0) (r.getD (k-1) 0)).y)
      case false=>exact T.path mix (yrbm_4 (qB n b0 r i k (r.getD k 0) (r.getD (k-1) 0)) (by first | assumption | (first | exact hg | exact(hp (by assumption)).1 | exact(hp (by assumption)).2)) (by first | assumption | (first | exact hg | exact(hp (by assumption)).1 | exact(hp (by assumption)).2)) dk (by first | assumption | (first | exact hg | exact(hp (by assumption)).1 | exact(hp (by assumption)).2)) (by first | assumption | (first | exact hg | exact(hp (by assumption)).1 | exact(hp (by assumption)).2)) t1 t2 t3 t4 (by first | assumption | (first | exact hg | exact(hp (by assumption)).1 | exact(hp (by assumption)).2)) (by first | assumption | (first | exact hg | exact(hp (by assumption)).1 | exact(hp (by assumption)).2)) t5 (fun st hst=>by simp only[qB,wk] at hst;exact next (by simp only[qB,iN,hbl] at *;unfold AM;grind) st hst))
      case true=>exact T.out mix (yrbm_3 (qB n b0 r i k (r.getD k 0) (r.getD (k-1) 0)) (by first | assumption | (first | exact hg | exact(hp (by assumption)).1 | exact(hp (by assumption)).2)) (by first | assumption | (first | exact hg | exact(hp (by assumption)).1 | exact(hp (by assumption)).2)) dk (by first | assumption | (first | exact hg | exact(hp (by assumption)).1 | exact(hp (by assumption)).2)) (by first | assumption | (first | exact hg | exact(hp (by assumption)).1 | exact(hp (by assumption)).2)) t1 t2 t3 t4 (by first | assumption | (first | exact hg | exact(hp (by assumption)).1 | exact(hp (by assumption)).2)) (by first | assumption | (first | exact hg | exact(hp (by assumption)).1 | exact(hp (by assumption)).2)) t5 (found (by simp only[qB,iN,hbl] at *;unfold AM;grind)))
    case true=>exact T.out mix (yrbm_2 (qB n b0 r i k (r.getD k 0) (r.getD (k-1) 0)) (by first | assumption | (first | exact hg | exact(hp (by assumption)).1 | exact(hp (by assumption)).2)) (by first | assumption | (first | exact hg | exact(hp (by assumption)).1 | exact(hp (by assumption)).2)) dk (by first | assumption | (first | exact hg | exact(hp (by assumption)).1 | exact(hp (by assumption)).2)) (by first | assumption | (first | exact hg | exact(hp (by assumption)).1 | exact(hp (by assumption)).2)) t1 t2 t3 (found (by simp only[qB,iN,hbl] at *;unfold AM;grind)))
   case true=>exact T.out mix (yrbm_1 (qB n b0 r i k (r.getD k 0) (r.getD (k-1) 0)) (by first | assumption | (first | exact hg | exact(hp (by assumption)).1 | exact(hp (by assumption)).2)) (by first | assumption | (first | exact hg | exact(hp (by assumption)).1 | exact(hp (by assumption)).2)) dk (by first | assumption | (first | exact hg | exact(hp (by assumption)).1 | exact(hp (by assumption)).2)) (by first | assumption | (first | exact hg | exact(hp (by assumption)).1 | exact(hp (by assumption)).2)) t1 t2 (found (by simp only[qB,iN,hbl] at *;unfold AM;grind)))
  case true=>exact T.out mix (yrbm_0 (qB n b0 r i k (r.getD k 0) (r.getD (k-1) 0)) (by first | assumption | (first | exact hg | exact(hp (by assumption)).1 | exact(hp (by assumption)).2)) (by first | assumption | (first | exact hg | exact(hp (by assumption)).1 | exact(hp (by assumption)).2)) dk (by first | assumption | (first | exact hg | exact(hp (by assumption)).1 | exact(hp (by assumption)).2)) (by first | assumption | (first | exact hg | exact(hp (by assumption)).1 | exact(hp (by assumption)).2)) t1 (found (by simp only[qB,iN,hbl] at *;unfold AM;grind)))
 .rw[C0 h] at hf;subst hf;refine T.out mix (yrbmx_0 (qB n b0 r i k 0 0) (by simp[iN,qB]) dl (Tz (by simp only[qB,iN,hrl];omega)) ?_);intro st hst;simp only[qB,zW i (show i<9223372036854775807 by omega)] at hst;exact hR rfl st hst
theorem NZ{r:List Int}{v n:Nat}:nxB r v n=(!(fnd (AM r n v) 0 r.length).isSome&&decide (r.length<=4)):=by
 have e:nxE r (v:Int) (n:Int)=Ee r n v:=by funext k;unfold nxE Ee;rw[Bool.or_assoc]
 unfold nxB;rw[e,Q0]
theorem Ls{n:Ab}{i:Nat}{b:AO}:HQ n i b↔(Aw b.x (-9999) 9999=true/\Aw b.y (-9999) 9999=true/\nxB (n.nx.getD i []) i n.bs.length=true):=by
 rw[NZ];constructor
 .intro g;exact⟨g.x,g.y,by rw[g.nx];simpa using g.ln⟩
 .rintro⟨h1,h2,h3⟩
  simp only[TC,Uf,decide_eq_true_eq] at h3;exact⟨h1,h2,h3.2,by cases he:fnd (AM (n.nx.getD i []) n.bs.length i) 0 (n.nx.getD i []).length with | none=>rfl | some _=>rw[he] at h3;simp at h3⟩
theorem Sc{n:Ab}(hrw:Rows n.nx):CT Ux 113 [] [Af n] [] (.bool (blV n)):=by
 have hb:Try.f113.body=some (zB Try.f113):=by kernel_rfl
 have hn:[Af n].length<=Try.f113.ntmps:=nL rfl;have hbl:(n.bs.map bA).length=n.bs.length:=by simp
 have hgl:=BD n.nx;have h0:∀{res:Bool},blV n=res->CT Ux 113 [] [Af n] [] (.bool res)->CT Ux 113 [] [Af n] [] (.bool (blV n)):=fun e h=>e ▸ h
 have main:decide (iN (Uq bA n.bs).length<1)=false->decide (24<iN (Uq bA n.bs).length)=false->(iN (gL n.nx).length != iN (Uq bA n.bs).length)=false->
   T Ux 0 (.loop (zC (zB Try.f113) 0)) (Du (qB n b0 [] 0 0 0 0)) (TK Ux 0 (Fin Ux Try.f113 0 [] (.bool (blV n))) (zK (zB Try.f113) 0)):=by
  intro g1 g2 g3;rw[hbl] at g1 g2 g3;rw[hgl] at g3;have g1:=of_decide_eq_false g1;have g2:=of_decide_eq_false g2;simp only[iN] at g1 g2;have hnb:1<=n.bs.length/\n.bs.length<=24:=by omega
  have hnx:n.nx.length=n.bs.length:=by simp only[iN,bne_eq_false_iff_eq] at g3;omega
  refine T.loop (fun i:Nat=>Du (qB n b0 [] i 0 0 0)) (fun i=>i<=n.bs.length/\∀j b,j<i->n.bs[j]?=some b->HQ n j b) (fun i=>n.bs.length+1-i) 0 ⟨TG _,fun j b hj=>by omega⟩ ?_
  rintro i ⟨hi,hgd⟩
  by_cases h:i<n.bs.length
  .obtain⟨b,hbb⟩:∃b,n.bs[i]?=some b:=⟨_,Tu h⟩;have dk:decide (iN i<iN (n.bs.map bA).length)=true:=TA (by simp only[iN,hbl];omega);have k1:(0:Int)<=iN i:=by simp[iN]
   have hg:=KP hbb;have hg2:(gL n.nx)[i]?=some (lI (n.nx.getD i [])):=CW (by omega);have hrl:=BU (n.nx.getD i []);have bad:¬HQ n i b->blV n=false:=fun hb=>IB fun hv=>hb (hv.blk i b hbb)
   have inner:(Aw b.x (-9999) 9999=true/\Aw b.y (-9999) 9999=true/\(n.nx.getD i []).length<=4)->
     T Ux 0 (.loop (zC (zC (zB Try.f113) 0) 0)) (Dm (qB n b0 (n.nx.getD i []) i 0 0 0)) (TK Ux 0 (andThen (fun st'=>∃j,Ren 0 st' (Du (qB n b0 [] j 0 0 0))/\(j<=n.bs.length/\∀k b,k<j->n.bs[k]?=some b->HQ n k b)/\n.bs.length+1-j<n.bs.length+1-i) (TK Ux 0 (Fin Ux Try.f113 0 [] (.bool (blV n))) (zK (zB Try.f113) 0))) (zK (zC (zB Try.f113) 0) 0)):=by
    rintro⟨w1,w2,w3⟩
    refine ybm_run hrw hnb.2 i (by omega) (by omega) (fun hne=>?_) (fun hno st hst=>⟨i+1,hst,⟨h,fun j t hj ht=>?_⟩,by omega⟩)
    .rw[bad fun g=>hne g.nx];exact fun st hst=>TK.ret hst _
    .by_cases e:j=i
     .subst e;rw[hbb] at ht;cases ht;exact⟨w1,w2,w3,hno⟩
     .exact hgd j t (by omega) ht
   cases t6:decide ((qB n b (n.nx.getD i []) i 0 0 0).b.x < -9999)
   case false=>
    cases t7:decide (9999<(qB n b (n.nx.getD i []) i 0 0 0).b.x)
    case false=>
     cases t8:decide ((qB n b (n.nx.getD i []) i 0 0 0).b.y < -9999)
     case false=>
      cases t9:decide (9999<(qB n b (n.nx.getD i []) i 0 0 0).b.y)
      case false=>
       cases t10:decide (4<iN (Uq iV (qB n b (n.nx.getD i []) i 0 0 0).r).length)
       case false=>exact T.path mix (yrbl_5 (qB n b (n.nx.getD i []) i 0 0 0) dk (by assumption) (by assumption) t6 t7 t8 t9 (by assumption) t10 (inner ⟨Bi.2 (by simp only[qB,iN,hrl] at *;grind),Bi.2 (by simp only[qB,iN,hrl] at *;grind),by simp only[qB,iN,hrl] at *;grind⟩))
       case true=>rw[bad (fun g=>by have g1:=Bi.1 g.x;have g2:=Bi.1 g.y;have g3:=g.ln;simp only[qB,iN,hrl] at *;grind)];exact T.out mix (yrbl_4 (qB n b (n.nx.getD i []) i 0 0 0) dk (by assumption) (by assumption) t6 t7 t8 t9 (by assumption) t10)
      case true=>rw[bad (fun g=>by have g1:=Bi.1 g.x;have g2:=Bi.1 g.y;have g3:=g.ln;simp only[qB,iN,hrl] at *;grind)];exact T.out mix (yrbl_3 (qB n b (n.nx.getD i []) i 0 0 0) dk (by assumption) (by assumption) t6 t7 t8 t9)
     case true=>rw[bad (fun g=>by have g1:=Bi.1 g.x;have g2:=Bi.1 g.y;have g3:=g.ln;simp only[qB,iN,hrl] at *;grind)];exact T.out mix (yrbl_2 (qB n b (n.nx.getD i []) i 0 0 0) dk (by assumption) (by assumption) t6 t7 t8)
    case true=>rw[bad (fun g=>by have g1:=Bi.1 g.x;have g2:=Bi.1 g.y;have g3:=g.ln;simp only[qB,iN,hrl] at *;grind)];exact T.out mix (yrbl_1 (qB n b (n.nx.getD i []) i 0 0 0) dk (by assumption) (by assumption) t6 t7)
   case true=>rw[bad (fun g=>by have g1:=Bi.1 g.x;have g2:=Bi.1 g.y;have g3:=g.ln;simp only[qB,iN,hrl] at *;grind)];exact T.out mix (yrbl_0 (qB n b (n.nx.getD i []) i 0 0 0) dk (by assumption) (by assumption) t6)
  .have hin:i=n.bs.length:=by omega
   subst hin;rw[M8.2 ⟨hnb,hnx,fun j b hj=>hgd j b (Tw.1 hj).1 hj⟩];exact T.out mix (yrbl_6 (qB n b0 [] n.bs.length 0 0 0) (Tz (by simp only[qB,iN,hbl];omega)))
 cases t11:decide (iN (Uq bA (qB n b0 [] 0 0 0 0).n.bs).length<1)
 case false=>
  cases t12:decide (24<iN (Uq bA (qB n b0 [] 0 0 0 0).n.bs).length)
  case false=>
   cases t13:(iN (gL (qB n b0 [] 0 0 0 0).n.nx).length != iN (Uq bA (qB n b0 [] 0 0 0 0).n.bs).length)
   case false=>first | exact CT.path mix Try.func113 hb hn (QQ (qB n b0 [] 0 0 0 0) t11 t12 t13 (main (by assumption) (by assumption) (by assumption))) | exact h0 (IB fun hv=>by have a1:=hv.nb;have a2:=hv.nx;simp only[qB,iN,hbl,hgl] at *;grind) (CT.path mix Try.func113 hb hn (QQ (qB n b0 [] 0 0 0 0) t11 t12 t13 (main (by assumption) (by assumption) (by assumption))))
   case true=>first | exact CT.path mix Try.func113 hb hn (O4 (qB n b0 [] 0 0 0 0) t11 t12 t13) | exact h0 (IB fun hv=>by have a1:=hv.nb;have a2:=hv.nx;simp only[qB,iN,hbl,hgl] at *;grind) (CT.path mix Try.func113 hb hn (O4 (qB n b0 [] 0 0 0 0) t11 t12 t13))
  case true=>first | exact CT.path mix Try.func113 hb hn (NQ (qB n b0 [] 0 0 0 0) t11 t12) | exact h0 (IB fun hv=>by have a1:=hv.nb;have a2:=hv.nx;simp only[qB,iN,hbl,hgl] at *;grind) (CT.path mix Try.func113 hb hn (NQ (qB n b0 [] 0 0 0 0) t11 t12))
 case true=>first | exact CT.path mix Try.func113 hb hn (O6 (qB n b0 [] 0 0 0 0) t11) | exact h0 (IB fun hv=>by have a1:=hv.nb;have a2:=hv.nx;simp only[qB,iN,hbl,hgl] at *;grind) (CT.path mix Try.func113 hb hn (O6 (qB n b0 [] 0 0 0 0) t11))
structure NmV(n:Ab):Prop where
 al:∀x∈B0 n,nmB x=true
 nod:(B0 n).Nodup
open Classical in
def nmV(n:Ab):Bool:=decide (NmV n)
theorem nmV_f{n:Ab}(h:¬NmV n):nmV n=false:=by unfold nmV;exact @Tz _ (Classical.propDecidable _) h
theorem Lk{n:Ab}:nmV n=true↔NmV n:=by unfold nmV;exact @decide_eq_true_iff _ (Classical.propDecidable _)
theorem Nd(L:List ByteArray):(L.map AV.str).length=L.length:=by simp
theorem Qd{L:List ByteArray}{i:Nat}{u:ByteArray}(h:L[i]?=some u):(L.map AV.str)[0+i]?=some (.str u):=by rw[TJ,TE,h];rfl
theorem yru_run{n:Ab}(hL:(B0 n).length<=100):
  T Ux 0 (.loop (zC (zB Try.f114) 2)) (HL (qW n (B0 n) b0 s0 0 0 ⟨#[]⟩ ⟨#[]⟩)) (TK Ux 0 (Fin Ux Try.f114 0 [] (.bool (nmV n))) (zK (zB Try.f114) 2)):=by
 generalize hLL:B0 n=L at hL;have hsl:=Nd L;have bad:∀{p:Prop},¬p->(NmV n->p)->nmV n=false:=fun hp h=>nmV_f fun hv=>hp (h hv)
 refine T.loop (fun i:Nat=>HL (qW n L b0 s0 i 0 ⟨#[]⟩ ⟨#[]⟩)) (fun i=>i<=L.length/\(∀j u,j<i->L[j]?=some u->nmB u=true/\∀k v,k<j->L[k]?=some v->u≠v)) (fun i=>L.length+1-i) 0 ⟨TG _,fun j u hj=>by omega⟩ ?_
 rintro i ⟨hi,hgd⟩
 by_cases h:i<L.length
 .obtain⟨u,hu⟩:∃u,L[i]?=some u:=⟨_,Tu h⟩;have k1:(0:Int)<=iN i:=by simp[iN]
  have k2:iN i<iN L.length:=by simp only[iN];omega
  have dk:decide (iN i<iN L.length)=true:=TA k2;have hg:=Qd hu;have c1:=rname_ct u;have hmu:u∈B0 n:=by rw[hLL];exact Ty hu
  cases hnu:nmB u with
  | false=>rw[bad (p:=nmB u=true) (by rw[hnu];simp) fun hv=>hv.al u hmu];exact T.out mix (yrul_0 (qW n L b0 s0 i 0 u ⟨#[]⟩) dk k1 k2 hg c1 (by simp only[qW];rw[hnu];rfl))
  | true=>
   refine T.path mix (yrul_1 (qW n L b0 s0 i 0 u ⟨#[]⟩) dk k1 k2 hg c1 (by simp only[qW];rw[hnu];rfl) ?_);refine T.loop (fun k:Nat=>Ku (qW n L b0 s0 i k ⟨#[]⟩ ⟨#[]⟩)) (fun k=>k<=i/\∀k' v,k'<k->L[k']?=some v->u≠v) (fun k=>i+1-k) 0 ⟨TG _,fun k' v hk=>by omega⟩ ?_
   rintro k ⟨hk,hgk⟩
   by_cases hki:k<i
   .obtain⟨v,hv⟩:∃v,L[k]?=some v:=⟨_,Tu (by omega)⟩;have k3:(0:Int)<=iN k:=by simp[iN]
    have k4:iN k<iN L.length:=by simp only[iN];omega
    have dk2:decide (iN k<iN i)=true:=TA (by simp only[iN];omega);have hg2:=Qd hv;cases he:u.toList==v.toList with
    | true=>
     refine T.out mix (yrwl_0 (qW n L b0 s0 i k u v) dk2 k1 k2 hg k3 k4 hg2 he ?_);rw[nmV_f fun hvv=>?_]
     .exact fun st hst=>TK.ret hst _
     .have huv:=O5.1 he;have hnd:=hvv.nod;rw[hLL] at hnd;have h1:=(Tw.1 hu);have h2:=(Tw.1 hv);obtain⟨a1,a2⟩:=h1;obtain⟨b1,b2⟩:=h2;have:=(List.getElem_inj hnd (h₀:=a1) (h₁:=b1)).1 (by rw[a2,b2,huv]);omega
    | false=>
     refine T.path mix (yrwl_1 (qW n L b0 s0 i k u v) dk2 k1 k2 hg k3 k4 hg2 he ?_);intro st hst;simp only[qW,zW k (show k<9223372036854775807 by omega)] at hst;refine⟨k+1,hst,⟨hki,fun k' w hk' hw=>?_⟩,by omega⟩;by_cases e:k'=k
     .subst e;rw[hv] at hw;cases hw;intro heq;rw[O5.2 heq] at he;cases he
     .exact hgk k' w (by omega) hw
   .refine T.out mix (yrwx_0 (qW n L b0 s0 i k u ⟨#[]⟩) (Tz (by simp only[qW,iN];omega)) ?_);intro st hst;simp only[qW,zW i (show i<9223372036854775807 by omega)] at hst;refine⟨i+1,hst,⟨h,fun j w hj hw=>?_⟩,by omega⟩;by_cases e:j=i
    .subst e;rw[hu] at hw;cases hw;exact⟨hnu,fun k' v hk' hv=>hgk k' v (by omega) hv⟩
    .exact hgd j w (by omega) hw
 .have hin:i=L.length:=by omega
  subst hin;have hv:NmV n:=by
   refine⟨fun x hx=>?_,?_⟩
   .rw[hLL] at hx;obtain⟨j,hj⟩:=List.mem_iff_getElem?.1 hx;exact(hgd j x (Tw.1 hj).1 hj).1
   .rw[hLL,List.nodup_iff_pairwise_ne,List.pairwise_iff_getElem];intro a b ha hb hab;exact fun e=>(hgd b _ hb (Tu hb)).2 a _ hab (Tu ha) e.symm
  rw[Lk.2 hv];exact T.out mix (yrul_2 (qW n L b0 s0 L.length 0 ⟨#[]⟩ ⟨#[]⟩) (Tz (by simp only[qW,iN];omega)))
theorem yrt_run{n:Ab}(hnb:n.bs.length<=24)(hns:n.ss.length<=6):
  T Ux 0 (.loop (zC (zB Try.f114) 1)) (E2 (qW n (n.bs.map (·.nm)) b0 s0 0 0 ⟨#[]⟩ ⟨#[]⟩)) (TK Ux 0 (Fin Ux Try.f114 0 [] (.bool (nmV n))) (zK (zB Try.f114) 1)):=by
 have hsl:(n.ss.map sA).length=n.ss.length:=by simp
 have hL0:∀i,(n.bs.map (·.nm)++(n.ss.take i).map (·.nm)).length<=30:=fun i=>by simp;omega
 suffices hh:T Ux 0 (.loop (zC (zB Try.f114) 1)) (E2 (qW n (n.bs.map (·.nm)++(n.ss.take 0).map (·.nm)) b0 s0 0 0 ⟨#[]⟩ ⟨#[]⟩)) (TK Ux 0 (Fin Ux Try.f114 0 [] (.bool (nmV n))) (zK (zB Try.f114) 1)) by simpa using hh
 refine T.loop (fun i:Nat=>E2 (qW n (n.bs.map (·.nm)++(n.ss.take i).map (·.nm)) b0 s0 i 0 ⟨#[]⟩ ⟨#[]⟩)) (fun i=>i<=n.ss.length) (fun i=>n.ss.length+1-i) 0 (TG _) ?_;intro i hi;by_cases h:i<n.ss.length
 .obtain⟨s,hs⟩:∃s,n.ss[i]?=some s:=⟨_,Tu h⟩;have hl:=hL0 i;have e1:n.bs.map (·.nm)++(n.ss.take (i+1)).map (·.nm)=(n.bs.map (·.nm)++(n.ss.take i).map (·.nm))++[s.nm]:=by simp[List.take_add_one,hs]
  have hstep:∀st,Ren 0 st (E2 (qW n ((n.bs.map (·.nm)++(n.ss.take i).map (·.nm))++[s.nm]) b0 s0 (i+1) 0 ⟨#[]⟩ ⟨#[]⟩))->∃j,Ren 0 st (E2 (qW n (n.bs.map (·.nm)++(n.ss.take j).map (·.nm)) b0 s0 j 0 ⟨#[]⟩ ⟨#[]⟩))/\j<=n.ss.length/\n.ss.length+1-j<n.ss.length+1-i:=by intro st hst;exact⟨i+1,by rw[e1];exact hst,h,by omega⟩
  generalize n.bs.map (·.nm)++(n.ss.take i).map (·.nm)=L at hl hstep;have hll:=Nd L;refine T.path mix (yrtl_0 (qW n L b0 s i 0 ⟨#[]⟩ ⟨#[]⟩) (TA (by simp only[qW,iN,hsl];omega)) (by simp[iN]) (CZ hs) (by simp[qW]) (by simp) (by simp only[qW,hll,T9];omega) (by simp only[qW,hll,T9];omega) ?_);intro st hst;refine hstep st ?_;simp only[qW,zW i (show i<9223372036854775807 by omega)] at hst;simpa [E2,qW,sB,nB,Af,lI,TH] using hst
 .have hin:i=n.ss.length:=by omega
  subst hin;rw[List.take_length];refine T.out mix (yrtx_0 (qW n (n.bs.map (·.nm)++n.ss.map (·.nm)) b0 s0 n.ss.length 0 ⟨#[]⟩ ⟨#[]⟩) (Tz (by simp only[qW,iN,hsl];omega)) ?_);exact yru_run (by simp[B0];omega)
def nmS(n:Ab)(y:Nat×List ByteArray):St:=match y.2 with
 | []=>lz144 (qW n [] b0 s0 y.1 0 ⟨#[]⟩ ⟨#[]⟩)
 | _=>FU (qW n y.2 b0 s0 y.1 0 ⟨#[]⟩ ⟨#[]⟩)
theorem MR{n:Ab}{i:Nat}{L:List ByteArray}(h:L≠[]):nmS n (i,L)=FU (qW n L b0 s0 i 0 ⟨#[]⟩ ⟨#[]⟩):=by
 cases L with
 | nil=>exact absurd rfl h
 | cons _ _=>rfl
theorem names_ct{n:Ab}(hnb:1<=n.bs.length/\n.bs.length<=24)(hns:n.ss.length<=6):CT Ux 114 [] [Af n] [] (.bool (nmV n)):=by
 have hb:Try.f114.body=some (zB Try.f114):=by kernel_rfl
 have hn:[Af n].length<=Try.f114.ntmps:=nL rfl;have hbl:(n.bs.map bA).length=n.bs.length:=by simp
 refine CT.path mix Try.func114 hb hn (yrsi_0 (qW n [] b0 s0 0 0 ⟨#[]⟩ ⟨#[]⟩) ?_);refine T.loop (fun y:Nat×List ByteArray=>nmS n y) (fun y=>y.1<=n.bs.length/\y.2=(n.bs.take y.1).map (·.nm)) (fun y=>n.bs.length+1-y.1) (0,[]) ⟨TG _,by simp⟩ ?_
 rintro⟨i,L⟩ ⟨hi,hL⟩
 simp only at hi hL;have hLl:L.length=i:=by rw[hL];simp;omega
 by_cases h:i<n.bs.length
 .obtain⟨b,hbb⟩:∃b,n.bs[i]?=some b:=⟨_,Tu h⟩;have e1:(n.bs.take (i+1)).map (·.nm)=L++[b.nm]:=by rw[hL];simp[List.take_add_one,hbb]
  have dk:decide (iN i<iN (n.bs.map bA).length)=true:=TA (by simp only[iN,hbl];omega);have next:∀st,Ren 0 st (FU (qW n (L++[b.nm]) b0 s0 (i+1) 0 ⟨#[]⟩ ⟨#[]⟩))->∃j:Nat×List ByteArray,Ren 0 st (nmS n j)/\(j.1<=n.bs.length/\j.2=(n.bs.take j.1).map (·.nm))/\n.bs.length+1-j.1<n.bs.length+1-i:=by intro st hst;exact⟨(i+1,L++[b.nm]),by rw[MR (by simp)];exact hst,⟨h,e1.symm⟩,by simp only;omega⟩
  cases hLe:L with
  | nil=>
   rw[hLe] at next
   refine T.path mix (yrsz_0 (qW n [] b s0 i 0 ⟨#[]⟩ ⟨#[]⟩) dk (by simp[iN]) (KP hbb) (by simp) (by simp) (by simp) ?_);intro st hst;refine next st ?_
   simp only[qW,zW i (show i<9223372036854775807 by omega)] at hst;simpa [FU,qW,sB,nB,Af,lI] using hst
  | cons x L'=>
   rw[<-hLe];have hne:L≠[]:=by rw[hLe];simp
   show T Ux 0 _ (nmS n (i,L)) _;rw[MR hne];have hll:=Nd L;refine T.path mix (yrsl_0 (qW n L b s0 i 0 ⟨#[]⟩ ⟨#[]⟩) dk (by simp[iN]) (KP hbb) (by simp[qW]) (by simp) (by simp only[qW,hll,T9];omega) (by simp only[qW,hll,T9];omega) ?_);intro st hst;refine next st ?_
   simp only[qW,zW i (show i<9223372036854775807 by omega)] at hst;simpa [FU,qW,sB,nB,Af,lI,TH] using hst
 .have hin:i=n.bs.length:=by omega
  subst hin;rw[List.take_length] at hL;show T Ux 0 _ (nmS n (n.bs.length,L)) _;rw[MR (by intro e;rw[e] at hLl;simp at hLl;omega)];refine T.out mix (yrsx_0 (qW n L b0 s0 n.bs.length 0 ⟨#[]⟩ ⟨#[]⟩) (Tz (by simp only[qW,iN,hbl];omega)) ?_);have:=yrt_run hnb.2 hns;rw[<-hL] at this;exact this
def qX(n:Ab)(s:Am)(i k:Nat)(base dn x:Int)(ok c1 c2 c3:Bool):QY:=⟨n,[],b0,s,[],i,k,base,dn,x,0,⟨#[]⟩,⟨#[]⟩,ok,c1,c2,c3⟩
structure C7(n:Ab)(i:Nat)(s:Am):Prop where
 hi:0<=s.i/\s.i<n.bs.length
 ho:0<=s.o/\s.o<n.bs.length
 hk:1<=s.k/\s.k<=4
 hb:s.b=AA n i
theorem QI{n:Ab}{i:Nat}{s:Am}(g:Dz n i s):C7 n i s:=by have h1:=Bi.1 g.hi;have h2:=Bi.1 g.ho;exact⟨by omega,by omega,Bi.1 g.hk,g.hb⟩
theorem Oj{n:Ab}{i:Nat}{s:Am}(hn:nmB s.nm=true)(g:C7 n i s):Dz n i s:=⟨hn,Bi.2 (by have:=g.hi;omega),Bi.2 (by have:=g.ho;omega),Bi.2 g.hk,g.hb⟩
theorem M5{n:Ab}{i:Nat}(hg:∀j s,j<i->n.ss[j]?=some s->C7 n j s)(hb:n.bs.length<=24):(n.bs.length:Int)<=AA n i/\AA n i<=n.bs.length+4 * i:=by
 induction i with
 | zero=>simp[AA]
 | succ i ih=>
  obtain⟨h1,h2⟩:=ih fun j s hj hs=>hg j s (by omega) hs
  cases hs:n.ss[i]? with
  | some s=>rw[Dk hs];have:=(hg i s (by omega) hs).hk;omega
  | none=>
   have:AA n (i+1)=AA n i:=by unfold AA;simp[List.take_add_one,hs]
   rw[this];omega
structure NP where
 i:Nat
 base:Int
 dn:Int
 ok:Bool
theorem ynx_run{n:Ab}(hns:n.ss.length<=6)(hgd:∀j s,n.ss[j]?=some s->C7 n j s)(hnb:n.bs.length<=24){i:Nat}(hi8:i<=8){x:Int}(hx:n.rs[i]?=some x){dn:Int}{R:St->Prop}{post:Exit->St->Prop}
  (hy:¬(A3 n n.ss.length x/\x∉n.rs.take i)->BQ post (Fin Ux Try.f69 0 [] (.bool false)))
  (hR:(A3 n n.ss.length x/\x∉n.rs.take i)->∀st,Ren 0 st (HW (qX n s0 (i+1) 0 0 dn 0 false false false false))->R st) (hrs:n.rs.length<=8):
  T Ux 0 (.loop (zC (zC (zB Try.f69) 1) 0)) (DB (qX n s0 i 0 0 dn 0 false false false false)) (TK Ux 0 (andThen R post) (zK (zC (zB Try.f69) 1) 0)):=by
 have hsl:(n.ss.map sA).length=n.ss.length:=by simp
 have hrl:(n.rs.map (AV.int .i64)).length=n.rs.length:=by simp
 refine T.loop (fun p:NP=>DB (qX n s0 i p.i 0 dn 0 p.ok false false false)) (fun p=>p.i<=n.ss.length/\(p.ok=true↔A3 n p.i x)) (fun p=>n.ss.length+1-p.i) ⟨0,0,0,false⟩ ⟨TG _,by simp[A3]⟩ ?_
 rintro⟨k,base,dn',ok⟩ ⟨hk,hok⟩
 simp only at hk hok;have hxg:(n.rs.map (AV.int .i64))[i]?=some (.int .i64 x):=by rw[TE,hx];rfl
 have k2:(0:Int)<=iN i:=by simp[iN]
 by_cases h:k<n.ss.length
 .obtain⟨s,hs⟩:∃s,n.ss[k]?=some s:=⟨_,Tu h⟩;have dk:decide (iN k<iN (n.ss.map sA).length)=true:=TA (by simp only[iN,hsl];omega);have k1:(0:Int)<=iN k:=by simp[iN]
  have hg:=CZ hs;have g:=hgd k s hs;have hbd:=M5 (i:=k) (fun j s _ hj=>hgd j s hj) hnb;have g1:=g.hb;have g2:=g.hk;have wsum:i64.wrap (s.b+s.k)=s.b+s.k:=A5 _ (by omega) (by omega);have wk:i64.wrap (iN k+1)=((k+1:Nat):Int):=zW k (by omega);have next:∀b:Bool,(b=true↔A3 n (k+1) x)->∀st,Ren 0 st (DB (qX n s0 i (k+1) 0 dn 0 b false false false))->∃j:NP,Ren 0 st (DB (qX n s0 i j.i 0 dn 0 j.ok false false false))/\(j.i<=n.ss.length/\(j.ok=true↔A3 n j.i x))/\n.ss.length+1-j.i<n.ss.length+1-k:=by intro b hb st hst;exact⟨⟨k+1,0,0,b⟩,hst,⟨h,hb⟩,by simp only;omega⟩
  have hds:=Ol hs x;cases t1:(qX n s i k 0 dn x ok false false false).ok
  case false=>
   cases t2:(qX n s i k 0 dn x ok false false false).s.dep
   case false=>exact T.path mix (ynxl_3 (qX n s i k 0 dn x ok false false false) dk (by assumption) (by assumption) t1 t2 (fun st hst=>by simp only[qX,wk,wsum] at hst;(first | refine next true ?_ st hst | refine next false ?_ st hst | refine next (decide (x<s.b+s.k)) ?_ st hst);clear next hy hR hgd hst;simp only[qX] at *;rw[hds,<-hok];grind))
   case true=>
    cases t3:decide ((qX n s i k 0 dn x ok false false false).s.b<=(qX n s i k 0 dn x ok false false false).x)
    case false=>exact T.path mix (ynxl_2 (qX n s i k 0 dn x ok false false false) dk (by assumption) (by assumption) t1 t2 (by assumption) (by assumption) t3 (fun st hst=>by simp only[qX,wk,wsum] at hst;(first | refine next true ?_ st hst | refine next false ?_ st hst | refine next (decide (x<s.b+s.k)) ?_ st hst);clear next hy hR hgd hst;simp only[qX] at *;rw[hds,<-hok];grind))
    case true=>exact T.path mix (ynxl_1 (qX n s i k 0 dn x ok false false false) dk (by assumption) (by assumption) t1 t2 (by assumption) (by assumption) t3 (fun st hst=>by simp only[qX,wk,wsum] at hst;(first | refine next true ?_ st hst | refine next false ?_ st hst | refine next (decide (x<s.b+s.k)) ?_ st hst);clear next hy hR hgd hst;simp only[qX] at *;rw[hds,<-hok];grind))
  case true=>exact T.path mix (ynxl_0 (qX n s i k 0 dn x ok false false false) dk (by assumption) (by assumption) t1 (fun st hst=>by simp only[qX,wk,wsum] at hst;(first | refine next true ?_ st hst | refine next false ?_ st hst | refine next (decide (x<s.b+s.k)) ?_ st hst);clear next hy hR hgd hst;simp only[qX] at *;rw[hds,<-hok];grind))
 .have hin:k=n.ss.length:=by omega
  subst hin;have dl:decide (iN n.ss.length<iN (n.ss.map sA).length)=false:=Tz (by simp only[iN,hsl];omega);have hi':=(Tw.1 hx).1;have f3:∀(e:AV),e∈Uq (AV.int i64) n.rs->e.cells.length=1:=by intro e he;obtain⟨y,_,rfl⟩:=T1.1 he;rfl
  have f5:iN i<=iN (Uq (AV.int i64) n.rs).length:=by simp only[iN,hrl];omega
  have f8:=G6 (n.rs.take i) x (by simp;omega);have f8':CT Ux 26 [] [Uw (List.take ((iN i).toNat-Int.toNat 0) (List.drop (Int.toNat 0) (Uq (AV.int i64) n.rs))),AV.int i64 x] [] (AV.bool (AC (n.rs.take i) x)):=by
   have e:List.take ((iN i).toNat-Int.toNat 0) (List.drop (Int.toNat 0) (Uq (AV.int i64) n.rs))=(n.rs.take i).map (AV.int .i64):=by simp[iN,List.map_take]
   rw[e];exact f8
  cases ho:ok with
  | false=>exact T.out mix (ynxx_0 (qX n s0 i n.ss.length 0 dn x false false false false) dl rfl (hy fun hd=>by rw[ho] at hok;simp at hok;exact hok hd.1))
  | true=>
   have hd:=hok.1 ho;cases hh:AC (n.rs.take i) x with
   | true=>rw[hh] at f8';exact T.out mix (ynxx_1 (qX n s0 i n.ss.length 0 dn x true false false true) dl rfl f3 k2 f5 (Int.le_refl _) hxg f8' rfl (hy fun hdd=>hdd.2 (GT.1 hh)))
   | false=>rw[hh] at f8';refine T.out mix (ynxx_2 (qX n s0 i n.ss.length 0 dn x true false false false) dl rfl f3 k2 f5 (Int.le_refl _) hxg f8' rfl ?_);intro st hst;simp only[qX,zW i (show i<9223372036854775807 by omega)] at hst;exact hR ⟨hd,fun hm=>by rw[GT.2 hm] at hh;cases hh⟩ st hst
theorem ynw_run{n:Ab}(hns:n.ss.length<=6)(hgd:∀j s,n.ss[j]?=some s->C7 n j s)(hnb:n.bs.length<=24)(hrs:n.rs.length<=8){dn:Int}{b:Bool}
  (hT:(∀i c,n.rs[i]?=some c->A3 n n.ss.length c/\c∉n.rs.take i)->b=decide (0<dn)) (hF:¬(∀i c,n.rs[i]?=some c->A3 n n.ss.length c/\c∉n.rs.take i)->b=false):
  T Ux 0 (.loop (zC (zB Try.f69) 1)) (HW (qX n s0 0 0 0 dn 0 false false false false)) (TK Ux 0 (Fin Ux Try.f69 0 [] (.bool b)) (zK (zB Try.f69) 1)):=by
 have hrl:(n.rs.map (AV.int .i64)).length=n.rs.length:=by simp
 refine T.loop (fun i:Nat=>HW (qX n s0 i 0 0 dn 0 false false false false)) (fun i=>i<=n.rs.length/\∀j c,j<i->n.rs[j]?=some c->A3 n n.ss.length c/\c∉n.rs.take j) (fun i=>n.rs.length+1-i) 0 ⟨TG _,fun j c hj=>by omega⟩ ?_
 rintro i ⟨hi,hg⟩
 by_cases h:i<n.rs.length
 .obtain⟨x,hx⟩:∃x,n.rs[i]?=some x:=⟨_,Tu h⟩;refine T.path mix (ynwl_0 (qX n s0 i 0 0 dn 0 false false false false) (TA (by simp only[qX,iN,hrl];omega)) ?_);refine ynx_run hns hgd hnb (by omega) hx (fun hb=>?_) (fun hgood st hst=>⟨i+1,hst,⟨h,fun j c hj hc=>?_⟩,by omega⟩) hrs
  .rw[hF fun hh=>hb (hh i x hx)];exact fun st hst=>TK.ret hst _
  .by_cases e:j=i
   .subst e;rw[hx] at hc;cases hc;exact hgood
   .exact hg j c (by omega) hc
 .have hin:i=n.rs.length:=by omega
  subst hin;rw[hT fun j c hc=>hg j c (Tw.1 hc).1 hc];exact T.out mix (ynwl_1 (qX n s0 n.rs.length 0 0 dn 0 false false false false) (Tz (by simp only[qX,iN,hrl];omega)))
theorem Kd{n:Ab}(hrw:Rows n.nx):CT Ux 69 [] [Af n] [] (.bool (A8 n)):=by
 have hb:Try.f69.body=some (zB Try.f69):=by kernel_rfl
 have hn:[Af n].length<=Try.f69.ntmps:=nL rfl;have hbl:(n.bs.map bA).length=n.bs.length:=by simp
 have hsl:(n.ss.map sA).length=n.ss.length:=by simp
 have hrl:(n.rs.map (AV.int .i64)).length=n.rs.length:=by simp
 have c1:=Sc hrw;have c3:=rcfg_ct n;have nameB:∀(i:Nat) (b:AO),n.bs[i]?=some b->b.nm∈B0 n:=fun i b h=>by unfold B0;rw[T0];exact .inl (T1.2 ⟨b,Ty h,rfl⟩)
 have nameS:∀(i:Nat) (s:Am),n.ss[i]?=some s->s.nm∈B0 n:=fun i s h=>by unfold B0;rw[T0];exact .inr (T1.2 ⟨s,Ty h,rfl⟩)
 have ofV:Ax n->BlV n/\NmV n:=fun hv=>by
  have hnb:=Bi.1 hv.nb;refine⟨⟨by omega,hv.nx,fun i b hbb=>Ls.2 ⟨(hv.blk i b hbb).x,(hv.blk i b hbb).y,(hv.blk i b hbb).nx⟩⟩,⟨fun x hx=>?_,hv.nod⟩⟩;unfold B0 at hx;rw[T0] at hx;rcases hx with hx | hx
  .obtain⟨b,hbm,rfl⟩:=T1.1 hx;obtain⟨i,hi⟩:=List.mem_iff_getElem?.1 hbm;exact(hv.blk i b hi).nm
  .obtain⟨s,hsm,rfl⟩:=T1.1 hx;obtain⟨i,hi⟩:=List.mem_iff_getElem?.1 hsm;exact(hv.spu i s hi).nm
 have out:∀{res:Bool},A8 n=res->CT Ux 69 [] [Af n] [] (.bool res)->CT Ux 69 [] [Af n] [] (.bool (A8 n)):=fun e h=>e ▸ h
 cases hbv:blV n with
 | false=>rw[hbv] at c1;refine out (Cr fun hv=>?_) (CT.path mix Try.func69 hb hn (ynvi_0 (qX n s0 0 0 0 0 0 false false false false) c1 rfl));rw[M8.2 (ofV hv).1] at hbv;cases hbv
 | true=>
  rw[hbv] at c1;have hB:=M8.1 hbv;by_cases h6:6<n.ss.length
  .exact out (Cr fun hv=>by have:=hv.ns;omega) (CT.path mix Try.func69 hb hn (ynvi_1 (qX n s0 0 0 0 0 0 false true false false) c1 rfl (TA (by simp only[qX,iN,hsl];omega))))
  have d6:decide (6<iN (Uq sA n.ss).length)=false:=Tz (by simp only[iN,hsl];omega);have c2:=names_ct hB.nb (show n.ss.length<=6 by omega);cases hnv:nmV n with
  | false=>rw[hnv] at c2;refine out (Cr fun hv=>?_) (CT.path mix Try.func69 hb hn (ynvi_2 (qX n s0 0 0 0 0 0 false true false false) c1 rfl d6 c2 rfl));rw[Lk.2 (ofV hv).2] at hnv;cases hnv
  | true=>
   rw[hnv] at c2;have hN:=Lk.1 hnv;by_cases h8:8<n.rs.length
   .exact out (Cr fun hv=>by have:=hv.nr;omega) (CT.path mix Try.func69 hb hn (ynvi_3 (qX n s0 0 0 0 0 0 false true true false) c1 rfl d6 c2 rfl (TA (by simp only[qX,iN,hrl];omega))))
   have d8:decide (8<iN (Uq (AV.int .i64) n.rs).length)=false:=Tz (by simp only[iN,hrl];omega);cases hcv:Bc n with
   | false=>refine out (Cr fun hv=>?_) (CT.path mix Try.func69 hb hn (ynvi_4 (qX n s0 0 0 0 0 0 false true true false) c1 rfl d6 c2 rfl d8 c3 (by simp only[qX];rw[hcv];rfl)));rw[hv.cfg] at hcv;cases hcv
   | true=>
    refine CT.path mix Try.func69 hb hn (ynvi_5 (qX n s0 0 0 0 0 0 false true true false) c1 rfl d6 c2 rfl d8 c3 (by simp only[qX];rw[hcv];rfl) ?_);have e0:(iN (Uq bA n.bs).length)=AA n 0:=by simp[AA,iN]
    suffices hh:T Ux 0 (.loop (zC (zB Try.f69) 0)) (CN (qX n s0 0 0 (AA n 0) 0 0 false false false false)) (TK Ux 0 (Fin Ux Try.f69 0 [] (.bool (A8 n))) (zK (zB Try.f69) 0)) by rw[<-e0] at hh;exact hh
    refine T.loop (fun p:NP=>CN (qX n s0 p.i 0 (AA n p.i) p.dn 0 false false false false)) (fun p=>p.i<=n.ss.length/\(0<=p.dn/\p.dn<=p.i)/\(0<p.dn↔∃s∈n.ss.take p.i,s.dep=true)/\∀j s,j<p.i->n.ss[j]?=some s->C7 n j s)
     (fun p=>n.ss.length+1-p.i) ⟨0,0,0,false⟩ ⟨TG _,by simp,by simp,fun j s hj=>by simp at hj⟩ ?_
    rintro⟨i,base,dn,ok⟩ ⟨hi,hdn,hdep,hgd⟩
    simp only at hi hdn hdep hgd;by_cases h:i<n.ss.length
    .obtain⟨s,hs⟩:∃s,n.ss[i]?=some s:=⟨_,Tu h⟩;have dk:decide (iN i<iN (n.ss.map sA).length)=true:=TA (by simp only[iN,hsl];omega);have k1:(0:Int)<=iN i:=by simp[iN]
     have hg:=CZ hs;have hbd:=M5 hgd hB.nb.2;have bad:¬C7 n i s->A8 n=false:=fun hb=>Cr fun hv=>hb (QI (hv.spu i s hs))
     have wi:i64.wrap (iN i+1)=((i+1:Nat):Int):=zW i (by omega);have wd:i64.wrap (dn+1)=dn+1:=A5 _ (by omega) (by omega);have ex:(∃t∈n.ss.take (i+1),t.dep=true)↔(∃t∈n.ss.take i,t.dep=true)\/s.dep=true:=by
      simp only[List.take_add_one,hs,Option.toList_some,T0,Tj];constructor
      .rintro⟨t,ht | rfl,h1⟩
       .exact .inl ⟨t,ht,h1⟩
       .exact .inr h1
      .rintro(⟨t,ht,h1⟩ | h1)
       .exact⟨t,.inl ht,h1⟩
       .exact⟨s,.inr rfl,h1⟩
     have wb:C7 n i s->i64.wrap (AA n i+s.k)=AA n (i+1):=fun g=>by rw[Dk hs];have:=g.hk;have:=hB.nb.2;exact A5 _ (by omega) (by omega)
     have next:C7 n i s->∀dn',((0<=dn'/\dn'<=((i+1:Nat):Int))/\(0<dn'↔(∃t∈n.ss.take i,t.dep=true)\/s.dep=true))->∀st,Ren 0 st (CN (qX n s0 (i+1) 0 (i64.wrap (AA n i+s.k)) dn' 0 false false false false))->
       ∃j:NP,Ren 0 st (CN (qX n s0 j.i 0 (AA n j.i) j.dn 0 false false false false))/\(j.i<=n.ss.length/\(0<=j.dn/\j.dn<=j.i)/\(0<j.dn↔∃s∈n.ss.take j.i,s.dep=true)/\∀k s,k<j.i->n.ss[k]?=some s->C7 n k s)/\n.ss.length+1-j.i<n.ss.length+1-i:=by
      intro g dn' hd st hst;rw[wb g] at hst;refine⟨⟨i+1,0,dn',false⟩,hst,⟨h,hd.1,by rw[ex];exact hd.2,fun k t hk ht=>?_⟩,by simp only;omega⟩;by_cases e:k=i
      .subst e;rw[hs] at ht;cases ht;exact g
      .exact hgd k t (by simp only at hk;omega) ht
     cases t4:decide ((qX n s i 0 (AA n i) dn 0 false false false false).s.i<0)
     case false=>
      cases t5:decide (iN (Uq bA (qX n s i 0 (AA n i) dn 0 false false false false).n.bs).length<=(qX n s i 0 (AA n i) dn 0 false false false false).s.i)
      case false=>
       cases t6:decide ((qX n s i 0 (AA n i) dn 0 false false false false).s.o<0)
       case false=>
        cases t7:decide (iN (Uq bA (qX n s i 0 (AA n i) dn 0 false false false false).n.bs).length<=(qX n s i 0 (AA n i) dn 0 false false false false).s.o)
        case false=>
         cases t8:decide ((qX n s i 0 (AA n i) dn 0 false false false false).s.k<1)
         case false=>
          cases t9:decide (4<(qX n s i 0 (AA n i) dn 0 false false false false).s.k)
          case false=>
           cases t10:((qX n s i 0 (AA n i) dn 0 false false false false).s.b != (qX n s i 0 (AA n i) dn 0 false false false false).base)
           case false=>
            cases t11:(qX n s i 0 (AA n i) dn 0 false false false false).s.dep
            case false=>exact T.path mix (ynvl_8 (qX n s i 0 (AA n i) dn 0 false false false false) dk (by assumption) (by assumption) t4 t5 t6 t7 t8 t9 t10 t11 (fun st hst=>by simp only[qX,wi,wd] at hst;(first | refine next ?_ dn ?_ st hst | refine next ?_ (dn+1) ?_ st hst)<;>clear next bad hst<;>simp only[qX,iN,hbl] at * <;> first | (constructor<;>grind) | grind))
            case true=>exact T.path mix (ynvl_7 (qX n s i 0 (AA n i) dn 0 false false false false) dk (by assumption) (by assumption) t4 t5 t6 t7 t8 t9 t10 t11 (fun st hst=>by simp only[qX,wi,wd] at hst;(first | refine next ?_ dn ?_ st hst | refine next ?_ (dn+1) ?_ st hst)<;>clear next bad hst<;>simp only[qX,iN,hbl] at * <;> first | (constructor<;>grind) | grind))
           case true=>rw[bad (fun g=>by have g1:=g.hi;have g2:=g.ho;have g3:=g.hk;have g4:=g.hb;clear next bad;simp only[qX,iN,hbl] at *;grind)];exact T.out mix (ynvl_6 (qX n s i 0 (AA n i) dn 0 false false false false) dk (by assumption) (by assumption) t4 t5 t6 t7 t8 t9 t10)
          case true=>rw[bad (fun g=>by have g1:=g.hi;have g2:=g.ho;have g3:=g.hk;have g4:=g.hb;clear next bad;simp only[qX,iN,hbl] at *;grind)];exact T.out mix (ynvl_5 (qX n s i 0 (AA n i) dn 0 false false false false) dk (by assumption) (by assumption) t4 t5 t6 t7 t8 t9)
         case true=>rw[bad (fun g=>by have g1:=g.hi;have g2:=g.ho;have g3:=g.hk;have g4:=g.hb;clear next bad;simp only[qX,iN,hbl] at *;grind)];exact T.out mix (ynvl_4 (qX n s i 0 (AA n i) dn 0 false false false false) dk (by assumption) (by assumption) t4 t5 t6 t7 t8)
        case true=>rw[bad (fun g=>by have g1:=g.hi;have g2:=g.ho;have g3:=g.hk;have g4:=g.hb;clear next bad;simp only[qX,iN,hbl] at *;grind)];exact T.out mix (ynvl_3 (qX n s i 0 (AA n i) dn 0 false false false false) dk (by assumption) (by assumption) t4 t5 t6 t7)
       case true=>rw[bad (fun g=>by have g1:=g.hi;have g2:=g.ho;have g3:=g.hk;have g4:=g.hb;clear next bad;simp only[qX,iN,hbl] at *;grind)];exact T.out mix (ynvl_2 (qX n s i 0 (AA n i) dn 0 false false false false) dk (by assumption) (by assumption) t4 t5 t6)
      case true=>rw[bad (fun g=>by have g1:=g.hi;have g2:=g.ho;have g3:=g.hk;have g4:=g.hb;clear next bad;simp only[qX,iN,hbl] at *;grind)];exact T.out mix (ynvl_1 (qX n s i 0 (AA n i) dn 0 false false false false) dk (by assumption) (by assumption) t4 t5)
     case true=>rw[bad (fun g=>by have g1:=g.hi;have g2:=g.ho;have g3:=g.hk;have g4:=g.hb;clear next bad;simp only[qX,iN,hbl] at *;grind)];exact T.out mix (ynvl_0 (qX n s i 0 (AA n i) dn 0 false false false false) dk (by assumption) (by assumption) t4)
    .have hin:i=n.ss.length:=by omega
     subst hin;have hgd':∀j s,n.ss[j]?=some s->C7 n j s:=fun j s hj=>hgd j s (Tw.1 hj).1 hj
     rw[List.take_length] at hdep;have hdp:0<dn↔∃x,A3 n n.ss.length x:=by
      rw[hdep];unfold A3;rw[List.take_length];constructor
      .rintro⟨s,hs,hd⟩
       obtain⟨j,hj⟩:=List.mem_iff_getElem?.1 hs;have:=(hgd' j s hj).hk;exact⟨s.b,s,hs,hd,by omega,by omega⟩
      .rintro⟨x,s,hs,hd,_⟩;exact⟨s,hs,hd⟩
     refine T.out mix (ynvx_0 (qX n s0 n.ss.length 0 (AA n n.ss.length) dn 0 false false false false) (Tz (by simp only[qX,iN,hsl];omega)) ?_);refine ynw_run (by omega) hgd' hB.nb.2 (by omega) (fun hr=>?_) (fun hr=>Cr fun hv=>hr hv.rob);rw[Bool.eq_iff_iff,CF,decide_eq_true_iff,hdp];constructor
     .intro hv;exact hv.dep
     .intro hd;refine⟨Bi.2 (by have:=hB.nb;omega),hB.nx,by omega,by omega,hcv,fun i b hbb=>?_,fun i s hs=>Oj (hN.al _ (nameS i s hs)) (hgd' i s hs),hN.nod,hd,hr⟩;have g:=Ls.1 (hB.blk i b hbb);exact⟨hN.al _ (nameB i b hbb),g.1,g.2.1,g.2.2⟩
end Go.Proofs.Ytedjkebooffjpaa
set_option maxHeartbeats 4000000
namespace Go.Proofs.Ytedjkebooffjpaa
structure QO where
 n:Ab
 s:Am
 sh:List Bool
 i:Nat
 base:Int
 c:Int
 si:Int
 b:Bool
 b1:Bool
 b2:Bool
 L:List Int
 sl:Int
 ce:Nat
 u:ByteArray
def cO(q:QO):Nat->FuncId->List AV->List (Option Blk)->AN:=fun dst f args hp=>match f with
 | 136=>.call [] [] [] (.bool q.b)
 | 69=>.call [] [] [] (.bool q.b1)
 | 93=>.call [] [] [] (.bool q.b1)
 | 94=>.call [] [] [] (.int .i64 q.c)
 | 103=>match args with
  | [_,.lst _]=>.call [] [] [] (.tup [.int .i64 (iN q.L.length),lI q.L,.int .i64 0])
  | _=>.no
 | 18=>.call [] [] [] (.int .i64 (iN q.ce))
 | 104=>match args with
  | [_,.lst _]=>.call [] [] [] (.int .i64 q.sl)
  | _=>.no
 | _=>.no
def EF(q:QO):List (Nat×AV):=[(12,sA q.s),(17,.bool q.b1),(23,.bool q.b2),(39,.bool q.b),(14,sA q.s)]
def Ia(q:QO):List (Nat×AV):=[(17,sA q.s),(30,sA q.s)]
def st118(q:QO):St:={n:=Try.f94.ntmps,fr:=[(0,Af q.n)],hp:=[]}
def Jb(q:QO):St:={n:=Try.f94.ntmps,fr:=[(3,.int .i64 q.base),(10,.lst (q.n.ss.map sA)),(11,.int .i64 (iN (q.n.ss.map sA).length)),(12,.int .i64 (iN q.i))],hp:=[]}
def Lx(q:QO):St:={n:=Try.f136.ntmps,fr:=[(0,Af q.n),(1,.lst (boL q.sh)),(2,.int .i64 (iN q.i))],hp:=[]}
def IC(q:QO):St:={n:=Try.f136.ntmps,fr:=[(1,.lst (boL q.sh)),(7,.ptr 0 0 0),(8,.int .i64 q.c)],hp:=[some (spB q.s)]}
def st126(q:QO):St:={n:=Try.f104.ntmps,fr:=[(0,Af q.n),(1,.lst (boL q.sh))],hp:=[]}
def Hs(q:QO):St:={n:=Try.f104.ntmps,fr:=[(1,.lst (boL q.sh)),(2,.ptr 0 0 0),(5,.int .i64 q.base),(6,.int .i64 (iN q.i))],hp:=[some (nB q.n)]}
def st75(q:QO):St:={n:=Try.f58.ntmps,fr:=[(0,Af q.n)],hp:=[]}
def st73(q:QO):St:={n:=Try.f56.ntmps,fr:=[(0,.int .i64 q.c)],hp:=[]}
def lo73(q:QO):St:={n:=Try.f56.ntmps,fr:=[(0,.int .i64 q.c),(3,.str q.u)],hp:=[]}
def eO0(q:QO):List (Nat×AV):=[(18,.lst []),(28,.lst [])]
theorem occ_0(q:QO){post:Exit->St->Prop}(ht:T Ux 0 (.loop (zC (zB Try.f94) 0)) (St.mk 22 [(3,iv (iN (Uq bA q.n.bs).length)),(10,Uw (Uq sA q.n.ss)),(11,iv (iN (Uq sA q.n.ss).length)),(12,iv 0)] []) (TK Ux 0 post (zK (zB Try.f94) 0))):GoP Ux (hU [] (EF q) (cO q)) 0 (zB Try.f94) (st118 q) post:=zR (σ:=[]) (fz:=[]) (vars:=[3,10,11,12]) (by kernel_rfl) (aj (ag t2 (aj (u2 (u2 (u2 s2))) (al (u2 (u2 (u2 t2)))))) t5) ht
theorem occl_0(q:QO)(h1:(decide (iN q.i<iN (Uq sA q.n.ss).length)=true))(h2:(0<=iN q.i))(h3:((Uq sA q.n.ss)[(iN q.i).toNat]?=some (sA q.s))){post:Exit->St->Prop}{R:St->Prop}(hR:∀st,Ren 0 st (St.mk 22 [(3,iv (i64.wrap (q.base+q.s.k))),(10,Uw (Uq sA q.n.ss)),(11,iv (iN (Uq sA q.n.ss).length)),(12,iv (i64.wrap (iN q.i+1)))] [])->R st):GoP Ux (hU [27] (EF q) (cO q)) 0 (zC (zB Try.f94) 0) (Jb q) (andThen R post):=zN (σ:=[]) (fz:=[]) (vars:=[3,10,11,12]) (by kernel_rfl) (aj (aj (al t3) (aj h1 (aj (aj (k2 (aj h2 h3)) (u2 (ak (al (k2 (show Nat.le (nat_lit 1) (nat_lit 1) from nL rfl)))))) (aj (u2 (u2 (u2 (aj t3 s2)))) (al (u2 s2)))))) t5) hR
theorem occl_1(q:QO)(h1:(decide (iN q.i<iN (Uq sA q.n.ss).length)=false)):GoO Ux (hU [26] (EF q) (cO q)) 0 (zC (zB Try.f94) 0) (zK (zB Try.f94) 0) (Jb q) (Fin Ux Try.f94 0 [] (iv q.base)):=zF (σ:=[]) (fz:=[]) (by kernel_rfl) (aj (aj (aj (al t3) (al h1)) (al (u2 s2))) t2)
theorem oop_0(q:QO)(h1:(0<=iN q.i))(h2:((Uq sA q.n.ss)[(iN q.i).toNat]?=some (sA q.s)))(h3:(0<=q.s.i))(h4:((boL q.sh)[q.s.i.toNat]?=some (AV.bool q.b1)))(h5:(q.b1=true)):GoP Ux (hU [39] (EF q) (cO q)) 0 (zB Try.f136) (Lx q) (Fin Ux Try.f136 0 [] (AV.bool false)):=zF (σ:=[]) (fz:=[]) (by kernel_rfl) (aj (ag t2 (aj (u2 (u2 (u2 (aj (k2 (aj h1 h2)) (u2 (ak (al (k2 (show Nat.le (nat_lit 1) (nat_lit 1) from nL rfl))))))))) (aj (u2 (u2 (u2 (aj (k2 (aj h3 h4)) (u2 (u2 (aj h5 (aj h5 (aj h5 (aj h5 (aj h5 (al (aj h5 t2))))))))))))) (ak s2)))) t2)
theorem oop_1(q:QO)(h1:(0<=iN q.i))(h2:((Uq sA q.n.ss)[(iN q.i).toNat]?=some (sA q.s)))(h3:(0<=q.s.i))(h4:((boL q.sh)[q.s.i.toNat]?=some (AV.bool q.b1)))(h5:(q.b1=false))(h6:(0<=q.s.o))(h7:((boL q.sh)[q.s.o.toNat]?=some (AV.bool q.b2)))(h8:(q.b2=true)):GoP Ux (hU [38,51] (EF q) (cO q)) 0 (zB Try.f136) (Lx q) (Fin Ux Try.f136 0 [] (AV.bool false)):=zF (σ:=[]) (fz:=[]) (by kernel_rfl) (aj (ag t2 (aj (u2 (u2 (u2 (aj (k2 (aj h1 h2)) (u2 (ak (al (k2 (show Nat.le (nat_lit 1) (nat_lit 1) from nL rfl))))))))) (aj (u2 (u2 (u2 (aj (k2 (aj h3 h4)) (u2 (u2 (ag h5 (ag h5 (ag h5 (aj (aj h5 (k2 (aj h6 h7))) (ag h5 (al (aj h5 t2))))))))))))) (aj h8 s2)))) t2)
theorem oop_2(q:QO)(h1:(0<=iN q.i))(h2:((Uq sA q.n.ss)[(iN q.i).toNat]?=some (sA q.s)))(h3:(0<=q.s.i))(h4:((boL q.sh)[q.s.i.toNat]?=some (AV.bool q.b1)))(h5:(q.b1=false))(h6:(0<=q.s.o))(h7:((boL q.sh)[q.s.o.toNat]?=some (AV.bool q.b2)))(h8:(q.b2=false)){post:Exit->St->Prop}(ht:T Ux 0 (.loop (zC (zB Try.f136) 0)) (St.mk 41 [(1,Uw (boL q.sh)),(7,AV.ptr 0 0 0),(8,iv q.s.b)] [some (Blk.mk [sA q.s] 6 true true none)]) (TK Ux 0 post (zK (zB Try.f136) 0))):GoP Ux (hU [38,50] (EF q) (cO q)) 0 (zB Try.f136) (Lx q) post:=zR (σ:=[1]) (fz:=[]) (vars:=[1,7,8]) (by kernel_rfl) (aj (ag t2 (aj (u2 (u2 (u2 (aj (k2 (aj h1 h2)) (u2 (ak (al (k2 (show Nat.le (nat_lit 1) (nat_lit 1) from nL rfl))))))))) (aj (u2 (u2 (u2 (aj (k2 (aj h3 h4)) (u2 (u2 (ag h5 (ag h5 (ag h5 (aj (aj h5 (k2 (aj h6 h7))) (ag h5 (al (aj h5 t2))))))))))))) (aj h8 (al (u2 (u2 s2))))))) t5) ht
theorem oopl_0(q:QO)(h1:(decide (q.c<i64.wrap (q.s.b+q.s.k))=true))(h2:(0<=q.c))(h3:((boL q.sh)[q.c.toNat]?=some (AV.bool q.b)))(h4:(q.b=true)):GoO Ux (hU [69,81] (EF q) (cO q)) 0 (zC (zB Try.f136) 0) (zK (zB Try.f136) 0) (IC q) (Fin Ux Try.f136 0 [] (AV.bool false)):=zF (σ:=[]) (fz:=[]) (by kernel_rfl) (aj (al (aj (u2 (u2 (u2 (u2 (u2 (aj t3 (al t3))))))) (aj h1 (aj (u2 (u2 (aj (k2 (aj h2 h3)) s2))) (aj h4 s2))))) t2)
theorem oopl_1(q:QO)(h1:(decide (q.c<i64.wrap (q.s.b+q.s.k))=true))(h2:(0<=q.c))(h3:((boL q.sh)[q.c.toNat]?=some (AV.bool q.b)))(h4:(q.b=false)){post:Exit->St->Prop}{R:St->Prop}(hR:∀st,Ren 0 st (St.mk 41 [(1,Uw (boL q.sh)),(7,AV.ptr 0 0 0),(8,iv (i64.wrap (q.c+1)))] [some (Blk.mk [sA q.s] 6 true true none)])->R st):GoP Ux (hU [69,80] (EF q) (cO q)) 0 (zC (zB Try.f136) 0) (IC q) (andThen R post):=zN (σ:=[0]) (fz:=[]) (vars:=[1,7,8]) (by kernel_rfl) (aj (aj (u2 (u2 (u2 (u2 (u2 (aj t3 (al t3))))))) (aj h1 (aj (u2 (u2 (aj (k2 (aj h2 h3)) s2))) (aj h4 (al (u2 (u2 s2))))))) t5) hR
theorem oopl_2(q:QO)(h1:(decide (q.c<i64.wrap (q.s.b+q.s.k))=false)):GoO Ux (hU [68] (EF q) (cO q)) 0 (zC (zB Try.f136) 0) (zK (zB Try.f136) 0) (IC q) (Fin Ux Try.f136 0 [] (AV.bool true)):=zF (σ:=[]) (fz:=[]) (by kernel_rfl) (aj (aj (aj (u2 (u2 (u2 (u2 (u2 (aj t3 (al t3))))))) (al h1)) s2) t2)
theorem osl_0(q:QO){post:Exit->St->Prop}(ht:T Ux 0 (.loop (zC (zB Try.f104) 0)) (St.mk 35 [(1,Uw (boL q.sh)),(2,AV.ptr 0 0 0),(5,iv 0),(6,iv 0)] [some (Blk.mk [Af q.n] [Uw (Uq bA q.n.bs),Uw (gL q.n.nx),Uw (Uq sA q.n.ss),Uw (Uq iv q.n.rs),iv q.n.q,iv q.n.a,iv q.n.d,iv q.n.p].length true true none)]) (TK Ux 0 post (zK (zB Try.f104) 0))):GoP Ux (hU [] (Ia q) (cO q)) 0 (zB Try.f104) (st126 q) post:=zR (σ:=[0]) (fz:=[]) (vars:=[1,2,5,6]) (by kernel_rfl) (aj (ag t2 (u2 s2)) t6) ht
theorem osll_0(q:QO)(h1:(decide (iN q.i<iN (Uq sA q.n.ss).length)=true))(h2:(0<=iN q.i))(h3:((Uq sA q.n.ss)[(iN q.i).toNat]?=some (sA q.s)))(h4:(q.s.dep=true))(h5:(CT Ux 136 [] [Af q.n,Uw (boL q.sh),iv (iN q.i)] [] (AV.bool q.b)))(h6:(q.b=true)){post:Exit->St->Prop}{R:St->Prop}(hR:∀st,Ren 0 st (St.mk 35 [(1,Uw (boL q.sh)),(2,AV.ptr 0 0 0),(5,iv (i64.wrap (q.base+q.s.k))),(6,iv (i64.wrap (iN q.i+1)))] [some (Blk.mk [Af q.n] 8 true true none)])->R st):GoP Ux (hU [23,41,51] (Ia q) (cO q)) 0 (zC (zB Try.f104) 0) (Hs q) (andThen R post):=zN (σ:=[0]) (fz:=[]) (vars:=[1,2,5,6]) (by kernel_rfl) (aj (aj (u2 (u2 (u2 (u2 (al t3))))) (aj h1 (aj (u2 (u2 (u2 (aj (k2 (aj h2 h3)) (u2 (u2 (u2 (ag h4 (ag h4 (ag h4 (aj (aj h4 (k3 (aj t9 (k2 (al h5))))) (al (aj h4 t2))))))))))))) (aj h6 (aj (u2 (u2 (u2 (u2 (aj (k2 (aj h2 h3)) (u2 (u2 (aj t3 s2)))))))) (al (u2 (u2 s2)))))))) t6) hR
theorem osll_1(q:QO)(h1:(decide (iN q.i<iN (Uq sA q.n.ss).length)=true))(h2:(0<=iN q.i))(h3:((Uq sA q.n.ss)[(iN q.i).toNat]?=some (sA q.s)))(h4:(q.s.dep=true))(h5:(CT Ux 136 [] [Af q.n,Uw (boL q.sh),iv (iN q.i)] [] (AV.bool q.b)))(h6:(q.b=false)){post:Exit->St->Prop}{R:St->Prop}(hR:∀st,Ren 0 st (St.mk 35 [(1,Uw (boL q.sh)),(2,AV.ptr 0 0 0),(5,iv q.base),(6,iv (i64.wrap (iN q.i+1)))] [some (Blk.mk [Af q.n] 8 true true none)])->R st):GoP Ux (hU [23,41,50] (Ia q) (cO q)) 0 (zC (zB Try.f104) 0) (Hs q) (andThen R post):=zN (σ:=[0]) (fz:=[]) (vars:=[1,2,5,6]) (by kernel_rfl) (aj (aj (u2 (u2 (u2 (u2 (al t3))))) (aj h1 (aj (u2 (u2 (u2 (aj (k2 (aj h2 h3)) (u2 (u2 (u2 (ag h4 (ag h4 (ag h4 (aj (aj h4 (k3 (aj t9 (k2 (al h5))))) (al (aj h4 t2))))))))))))) (aj h6 (al (u2 (u2 s2))))))) t6) hR
theorem osll_2(q:QO)(h1:(decide (iN q.i<iN (Uq sA q.n.ss).length)=true))(h2:(0<=iN q.i))(h3:((Uq sA q.n.ss)[(iN q.i).toNat]?=some (sA q.s)))(h4:(q.s.dep=false)){post:Exit->St->Prop}{R:St->Prop}(hR:∀st,Ren 0 st (St.mk 35 [(1,Uw (boL q.sh)),(2,AV.ptr 0 0 0),(5,iv q.base),(6,iv (i64.wrap (iN q.i+1)))] [some (Blk.mk [Af q.n] 8 true true none)])->R st):GoP Ux (hU [23,40] (Ia q) (cO q)) 0 (zC (zB Try.f104) 0) (Hs q) (andThen R post):=zN (σ:=[0]) (fz:=[]) (vars:=[1,2,5,6]) (by kernel_rfl) (aj (aj (u2 (u2 (u2 (u2 (al t3))))) (aj h1 (aj (u2 (u2 (u2 (aj (k2 (aj h2 h3)) (u2 (u2 (u2 (aj h4 (aj h4 (aj h4 (aj h4 (al (aj h4 t2))))))))))))) (ak (al (u2 (u2 s2))))))) t6) hR
theorem osll_3(q:QO)(h1:(decide (iN q.i<iN (Uq sA q.n.ss).length)=false)):GoO Ux (hU [22] (Ia q) (cO q)) 0 (zC (zB Try.f104) 0) (zK (zB Try.f104) 0) (Hs q) (Fin Ux Try.f104 0 [] (iv q.base)):=zF (σ:=[]) (fz:=[]) (by kernel_rfl) (aj (aj (aj (u2 (u2 (u2 (u2 (al t3))))) (al h1)) (al (u2 s2))) t2)
theorem ofl_1(q:QO)(h1:(CT Ux 69 [] [Af q.n] [] (AV.bool q.b1)))(h2:((!q.b1)=false))(h3:(iN (Uq bA q.n.bs).length<=iN (Uq bA q.n.bs).length))(h4:(1 * iN (Uq bA q.n.bs).length<=281474976710656))(h5:(iN (Uq bA q.n.bs).length<=9223372036854775807))(h6:(CT Ux 103 [] [Uw (gL q.n.nx),Uw (Ur (Uq bA q.n.bs).length (AV.bool false))] [] (AV.tup [iv (iN q.L.length),Uw (Uq iv q.L),iv 0])))(h7:(CT Ux 18 [] [Af q.n] [] (iv (iN q.ce))))(h8:(0<=iN q.ce))(h9:(iN q.ce<=iN q.ce))(h10:(1 * iN q.ce<=281474976710656))(h11:(iN q.ce<=9223372036854775807))(h12:(CT Ux 104 [] [Af q.n,Uw (Ur (iN q.ce).toNat (AV.bool false))] [] (iv q.sl)))(h13:(decide (0<iN q.L.length)=true)):GoP Ux (hU [20,71] (eO0 q) (cO q)) 0 (zB Try.f58) (st75 q) (Fin Ux Try.f58 0 [] (AV.tup [AV.agg [iv (iN q.L.length),Uw (Uq iv q.L),iv q.sl,iv (if q.sl<i64.wrap (iN q.L.length-1) then q.sl else i64.wrap (iN q.L.length-1))],iv 0])):=zF (σ:=[]) (fz:=[]) (by kernel_rfl) (aj (aj (u2 t3) (aj (u2 (aj (ak (aj t9 (al h1))) s2)) (aj h2 (aj (u2 (u2 (u2 (u2 (u2 (aj (k2 (aj (show(0<=iN (Uq bA q.n.bs).length) from(Int.natCast_nonneg _)) (aj h3 (aj h4 h5)))) (aj (ak (k3 (al h6))) (u2 (u2 (u2 (u2 (u2 (u2 s2))))))))))))) (aj (u2 (u2 (u2 (u2 (aj (ak (aj t9 (al h7))) (aj (k2 (aj h8 (aj h9 (aj h10 h11)))) (aj (k2 (aj t9 (ak (al h12)))) (aj t4 (ak (al (k2 (show Nat.le (nat_lit 1) (nat_lit 1) from nL rfl)))))))))))) (aj (u2 (u2 (u2 (al t3)))) (aj (u2 s2) (aj h13 (aj (u2 (u2 (u2 (u2 (aj t3 (u2 (al t3))))))) (al (u2 (aj (k2 (show Nat.le (nat_lit 1) (nat_lit 1) from nL rfl)) t2)))))))))))) (al (aj t5 t2)))
theorem ofl_2(q:QO)(h1:(CT Ux 69 [] [Af q.n] [] (AV.bool q.b1)))(h2:((!q.b1)=false))(h3:(iN (Uq bA q.n.bs).length<=iN (Uq bA q.n.bs).length))(h4:(1 * iN (Uq bA q.n.bs).length<=281474976710656))(h5:(iN (Uq bA q.n.bs).length<=9223372036854775807))(h6:(CT Ux 103 [] [Uw (gL q.n.nx),Uw (Ur (Uq bA q.n.bs).length (AV.bool false))] [] (AV.tup [iv (iN q.L.length),Uw (Uq iv q.L),iv 0])))(h7:(CT Ux 18 [] [Af q.n] [] (iv (iN q.ce))))(h8:(0<=iN q.ce))(h9:(iN q.ce<=iN q.ce))(h10:(1 * iN q.ce<=281474976710656))(h11:(iN q.ce<=9223372036854775807))(h12:(CT Ux 104 [] [Af q.n,Uw (Ur (iN q.ce).toNat (AV.bool false))] [] (iv q.sl)))(h13:(decide (0<iN q.L.length)=false)):GoP Ux (hU [20,70] (eO0 q) (cO q)) 0 (zB Try.f58) (st75 q) (Fin Ux Try.f58 0 [] (AV.tup [AV.agg [iv (iN q.L.length),Uw (Uq iv q.L),iv q.sl,iv q.sl],iv 0])):=zF (σ:=[]) (fz:=[]) (by kernel_rfl) (aj (aj (u2 t3) (aj (u2 (aj (ak (aj t9 (al h1))) s2)) (aj h2 (aj (u2 (u2 (u2 (u2 (u2 (aj (k2 (aj (show(0<=iN (Uq bA q.n.bs).length) from(Int.natCast_nonneg _)) (aj h3 (aj h4 h5)))) (aj (ak (k3 (al h6))) (u2 (u2 (u2 (u2 (u2 (u2 s2))))))))))))) (aj (u2 (u2 (u2 (u2 (aj (ak (aj t9 (al h7))) (aj (k2 (aj h8 (aj h9 (aj h10 h11)))) (aj (k2 (aj t9 (ak (al h12)))) (aj t4 (ak (al (k2 (show Nat.le (nat_lit 1) (nat_lit 1) from nL rfl)))))))))))) (aj (u2 (u2 (u2 (al t3)))) (aj (u2 s2) (aj h13 (al (u2 (aj (k2 (show Nat.le (nat_lit 1) (nat_lit 1) from nL rfl)) t2))))))))))) (al (aj t5 t2)))
theorem odg_0(q:QO)(h1:(decide (q.c<0)=false)){post:Exit->St->Prop}(ht:T Ux 0 (.loop (zC (zB Try.f56) 0)) (St.mk 23 [(0,iv q.c),(3,AV.str (ByteArray.mk #[]))] []) (TK Ux 0 post (zK (zB Try.f56) 0))):GoP Ux (hU [10] (eO0 q) (cO q)) 0 (zB Try.f56) (st73 q) post:=zR (σ:=[]) (fz:=[]) (vars:=[0,3]) (by kernel_rfl) (aj (u2 (aj (u2 s2) (aj h1 s2))) t3) ht
theorem odgl_0(q:QO)(h1:([AV.int IntKind.u8 (IntKind.u8.wrap (i64.wrap (48+q.c.tmod 10)))].length=1)) (h2:(([AV.int IntKind.u8 (IntKind.u8.wrap (i64.wrap (48+q.c.tmod 10)))].all fun x=>
  match x with
  | AV.int IntKind.u8 n=>decide (0<=n)&&decide (n<256)
  | x=>false) =
 true)) (h3:(((Cy [AV.int IntKind.u8 (IntKind.u8.wrap (i64.wrap (48+q.c.tmod 10)))]).size+q.u.size).le 9223372036854775807)) (h4:((i64.wrap (q.c.tdiv 10)==0)=true)):∃o' st' q',go2 Ux ({dec:=[(21,true)],els:=eO0 q,calls:=cO q,unroll:=false}:HT) 0 4000 (zC (zB Try.f56) 0) (zK (zB Try.f56) 0) (lo73 q)=some (o',st',q')/\q'/\Go.AX.CB Ux 0 (Fin Ux Try.f56 0 [] (AV.str (Cy (Blk.mk [AV.int IntKind.u8 (IntKind.u8.wrap (i64.wrap (48+q.c.tmod 10)))] 1 true true none).es++q.u))) st' o':=
 zF (σ:=[]) (fz:=[]) (by kernel_rfl) (aj (al (aj (u2 (aj (ak (show((10:Int)=(0:Int)->False) by first | decide | exact S9 _)) (u2 (u2 (u2 (aj (ak (aj h1 (aj (show(nat_lit 1≠nat_lit 0) by first | decide | exact S9 _) h2))) (u2 (aj (k2 h3) s2)))))))) (aj (u2 (aj (ak (show((10:Int)=(0:Int)->False) by first | decide | exact S9 _)) s2)) (aj (u2 s2) (aj h4 (al (u2 s2))))))) t2)
theorem odgl_1(q:QO)(h1:([AV.int IntKind.u8 (IntKind.u8.wrap (i64.wrap (48+q.c.tmod 10)))].length=1)) (h2:(([AV.int IntKind.u8 (IntKind.u8.wrap (i64.wrap (48+q.c.tmod 10)))].all fun x=>
  match x with
  | AV.int IntKind.u8 n=>decide (0<=n)&&decide (n<256)
  | x=>false) =
 true)) (h3:(((Cy [AV.int IntKind.u8 (IntKind.u8.wrap (i64.wrap (48+q.c.tmod 10)))]).size+q.u.size).le 9223372036854775807)) (h4:((i64.wrap (q.c.tdiv 10)==0)=false)) {post:Exit->St->Prop} {R:St->Prop} (hR:∀st,Ren 0 st (St.mk 23 [(0,AV.int i64 (i64.wrap (q.c.tdiv 10))),(3,AV.str (Cy (Blk.mk [AV.int IntKind.u8 (IntKind.u8.wrap (i64.wrap (48+q.c.tmod 10)))] 1 true true none).es++q.u))] [])->R st):∃o' st' q',go Ux ({dec:=[(21,false)],els:=eO0 q,calls:=cO q,unroll:=false}:HT) 0 4000 (.inl (zC (zB Try.f56) 0)) [] (lo73 q)=some (o',st',q')/\q'/\Go.AX.CB Ux 0 (andThen R post) st' o':=
 zN (σ:=[]) (fz:=[]) (vars:=[0,3]) (by kernel_rfl) (aj (aj (u2 (aj (ak (show((10:Int)=(0:Int)->False) by first | decide | exact S9 _)) (u2 (u2 (u2 (aj (ak (aj h1 (aj (show(nat_lit 1≠nat_lit 0) by first | decide | exact S9 _) h2))) (u2 (aj (k2 h3) s2)))))))) (aj (u2 (aj (ak (show((10:Int)=(0:Int)->False) by first | decide | exact S9 _)) s2)) (aj (u2 s2) (al h4)))) t3) hR
def qU(n:Ab)(s:Am)(sh:List Bool)(i:Nat)(base c:Int)(b b1 b2:Bool)(L:List Int)(sl:Int)(ce:Nat)(u:ByteArray):QO:=⟨n,s,sh,i,base,c,0,b,b1,b2,L,sl,ce,u⟩
def em:ByteArray:=⟨#[]⟩
theorem Ax.goodT{n:Ab}(hv:Ax n):∀j s,n.ss[j]?=some s->C7 n j s:=fun j s hj=>QI (hv.spu j s hj)
theorem Ax.nb24{n:Ab}(hv:Ax n):1<=n.bs.length/\n.bs.length<=24:=by have:=Bi.1 hv.nb;omega
theorem Ax.bd{n:Ab}(hv:Ax n)(i:Nat):(n.bs.length:Int)<=AA n i/\AA n i<=n.bs.length+4 * i:=M5 (fun j s _ hj=>hv.goodT j s hj) hv.nb24.2
def Au(n:Ab):Nat:=(AA n n.ss.length).toNat
theorem Ax.cel{n:Ab}(hv:Ax n):AA n n.ss.length=(Au n:Int)/\n.bs.length<=Au n/\Au n<=48:=by have h1:=hv.bd n.ss.length;have h2:=hv.ns;have h3:=hv.nb24;unfold Au;omega
theorem Gn{n:Ab}(hv:Ax n){i:Nat}:∀{j:Nat},i<=j->j<=n.ss.length->AA n i<=AA n j:=by
 intro j;induction j with
 | zero=>intro h _;have:i=0:=by omega
         subst this;omega
 | succ j ih=>
  intro h hj;by_cases e:i=j+1
  .subst e;omega
  .have h1:=ih (by omega) (by omega);obtain⟨s,hs⟩:∃s,n.ss[j]?=some s:=⟨_,Tu (by omega)⟩;rw[Dk hs];have:=(hv.goodT j s hs).hk;omega
theorem ED{n:Ab}(hv:Ax n):CT Ux 18 [] [Af n] [] (.int .i64 (iN (Au n))):=by
 have hsl:(n.ss.map sA).length=n.ss.length:=by simp
 have hbl:(n.bs.map bA).length=n.bs.length:=by simp
 have e0:(iN (Uq bA n.bs).length)=AA n 0:=by simp[AA,iN]
 refine CT.path mix Try.func18 (show Try.f18.body=some (zB Try.f18) by kernel_rfl) (nL rfl) (ycel_0 (qX n s0 0 0 0 0 0 false false false false) ?_)
 suffices hh:T Ux 0 (.loop (zC (zB Try.f18) 0)) (Jq (qX n s0 0 0 (AA n 0) 0 0 false false false false)) (TK Ux 0 (Fin Ux Try.f18 0 [] (.int .i64 (iN (Au n)))) (zK (zB Try.f18) 0)) by rw[<-e0] at hh;exact hh
 have hc:=hv.cel.1;refine T.loop (fun i:Nat=>Jq (qX n s0 i 0 (AA n i) 0 0 false false false false)) (fun i=>i<=n.ss.length) (fun i=>n.ss.length+1-i) 0 (TG _) ?_;intro i hi;have hns:=hv.ns;by_cases h:i<n.ss.length
 .obtain⟨s,hs⟩:∃s,n.ss[i]?=some s:=⟨_,Tu h⟩;have hbd:=hv.bd i;have hk:=(hv.goodT i s hs).hk;have hnb:=hv.nb24;have wb:i64.wrap (AA n i+s.k)=AA n (i+1):=by rw[Dk hs];exact A5 _ (by omega) (by omega)
  refine T.path mix (ycell_0 (qX n s i 0 (AA n i) 0 0 false false false false) (TA (by simp only[qX,iN,hsl];omega)) (by simp[iN]) (CZ hs) ?_);intro st hst;simp only[qX,wb,zW i (show i<9223372036854775807 by omega)] at hst;exact⟨i+1,hst,h,by omega⟩
 .obtain rfl:i=n.ss.length:=by omega
  have:=ycell_1 (qX n s0 n.ss.length 0 (AA n n.ss.length) 0 0 false false false false) (Tz (by simp only[qX,iN,hsl];omega));simp only[qX] at this;rw[show (iN (Au n))=AA n n.ss.length from hc.symm];exact T.out mix this
theorem Pq{n:Ab}(hv:Ax n):CT Ux 94 [] [Af n] [] (.int .i64 (iN (Au n))):=by
 have hsl:(n.ss.map sA).length=n.ss.length:=by simp
 have hbl:(n.bs.map bA).length=n.bs.length:=by simp
 have e0:(iN (Uq bA n.bs).length)=AA n 0:=by simp[AA,iN]
 refine CT.path mix Try.func94 (show Try.f94.body=some (zB Try.f94) by kernel_rfl) (nL rfl) (occ_0 (qU n s0 [] 0 0 0 false false false [] 0 0 em) ?_)
 suffices hh:T Ux 0 (.loop (zC (zB Try.f94) 0)) (Jb (qU n s0 [] 0 (AA n 0) 0 false false false [] 0 0 em)) (TK Ux 0 (Fin Ux Try.f94 0 [] (.int .i64 (iN (Au n)))) (zK (zB Try.f94) 0)) by rw[<-e0] at hh;exact hh
 have hc:=hv.cel.1;refine T.loop (fun i:Nat=>Jb (qU n s0 [] i (AA n i) 0 false false false [] 0 0 em)) (fun i=>i<=n.ss.length) (fun i=>n.ss.length+1-i) 0 (TG _) ?_;intro i hi;have hns:=hv.ns;by_cases h:i<n.ss.length
 .obtain⟨s,hs⟩:∃s,n.ss[i]?=some s:=⟨_,Tu h⟩;have hbd:=hv.bd i;have hk:=(hv.goodT i s hs).hk;have hnb:=hv.nb24;have wb:i64.wrap (AA n i+s.k)=AA n (i+1):=by rw[Dk hs];exact A5 _ (by omega) (by omega)
  refine T.path mix (occl_0 (qU n s [] i (AA n i) 0 false false false [] 0 0 em) (TA (by simp only[qU,iN,hsl];omega)) (by simp[iN]) (CZ hs) ?_);intro st hst;simp only[qU,wb,zW i (show i<9223372036854775807 by omega)] at hst;exact⟨i+1,hst,h,by omega⟩
 .obtain rfl:i=n.ss.length:=by omega
  have:=occl_1 (qU n s0 [] n.ss.length (AA n n.ss.length) 0 false false false [] 0 0 em) (Tz (by simp only[qU,iN,hsl];omega));simp only[qU] at this;rw[show (iN (Au n))=AA n n.ss.length from hc.symm];exact T.out mix this
def F0(sh:List Bool)(s:Am):Bool:= !(sh.getD s.i.toNat false)&&!(sh.getD s.o.toNat false)&&!(fnd (fun j=>sh.getD (s.b+(j:Int)).toNat false) 0 s.k.toNat).isSome
theorem open_ct{n:Ab}(hv:Ax n){sh:List Bool}(hsh:sh.length=Au n){i:Nat}{s:Am}(hs:n.ss[i]?=some s):CT Ux 136 [] [Af n,.lst (boL sh),.int .i64 (iN i)] [] (.bool (F0 sh s)):=by
 have hb:Try.f136.body=some (zB Try.f136):=by kernel_rfl
 have hn:[Af n,.lst (boL sh),.int .i64 (iN i)].length<=Try.f136.ntmps:=nL rfl;have g:=hv.goodT i s hs;have g1:=g.hi;have g2:=g.ho;have g3:=g.hk;have g4:=g.hb;have hil:=(Tw.1 hs).1;have hc:=hv.cel;have hbd:=hv.bd i;have hm:=Gn hv (i:=i+1) (j:=n.ss.length) (by omega) (TF _);rw[Dk hs,<-g4] at hm;rw[<-g4] at hbd;have hnb:=hv.nb24;have hbt:∀c:Int,0<=c->c<Au n->(boL sh)[c.toNat]?=some (.bool (sh.getD c.toNat false)):=fun c h1 h2=>Gj (by omega)
 have k0:(0:Int)<=iN i:=by simp[iN]
 unfold F0;cases h1:sh.getD s.i.toNat false with
 | true=>exact CT.path mix Try.func136 hb hn (oop_0 (qU n s sh i 0 0 false true false [] 0 0 em) k0 (CZ hs) g1.1 (by have:=hbt s.i g1.1 (by omega);rw[h1] at this;exact this) rfl)
 | false=>
  have f1:=hbt s.i g1.1 (by omega);rw[h1] at f1;cases h2:sh.getD s.o.toNat false with
  | true=>exact CT.path mix Try.func136 hb hn (oop_1 (qU n s sh i 0 0 false false true [] 0 0 em) k0 (CZ hs) g1.1 f1 rfl g2.1 (by have:=hbt s.o g2.1 (by omega);rw[h2] at this;exact this) rfl)
  | false=>
   have f2:=hbt s.o g2.1 (by omega);rw[h2] at f2;refine CT.path mix Try.func136 hb hn (oop_2 (qU n s sh i 0 0 false false false [] 0 0 em) k0 (CZ hs) g1.1 f1 rfl g2.1 f2 rfl ?_);simp only[Tp,Bool.true_and];have e0:s.b=s.b+((0:Nat):Int):=by omega
   suffices hh:T Ux 0 (.loop (zC (zB Try.f136) 0)) (IC (qU n s sh 0 0 (s.b+((0:Nat):Int)) false false false [] 0 0 em)) (TK Ux 0 (Fin Ux Try.f136 0 [] (.bool (!(fnd (fun j=>sh.getD (s.b+(j:Int)).toNat false) 0 s.k.toNat).isSome))) (zK (zB Try.f136) 0)) by rw[<-e0] at hh;exact hh
   generalize hrr:fnd (fun j=>sh.getD (s.b+(j:Int)).toNat false) 0 s.k.toNat=res;refine T.loop (fun k:Nat=>IC (qU n s sh 0 0 (s.b+(k:Int)) false false false [] 0 0 em)) (fun k=>k<=s.k.toNat/\fnd (fun j=>sh.getD (s.b+(j:Int)).toNat false) k (s.k.toNat-k)=res) (fun k=>s.k.toNat+1-k) 0 ⟨TG _,hrr⟩ ?_
   rintro k ⟨hk,hf⟩
   have ws:i64.wrap (s.b+s.k)=s.b+s.k:=A5 _ (by omega) (by omega);by_cases h:k<s.k.toNat
   .rw[CS h] at hf;have dk:decide (s.b+(k:Int)<i64.wrap (s.b+s.k))=true:=by rw[ws];exact TA (by omega)
    have f3:=hbt (s.b+(k:Int)) (by omega) (by omega);cases h3:sh.getD (s.b+(k:Int)).toNat false with
    | true=>simp only[h3] at hf;subst hf;rw[h3] at f3;exact T.out mix (oopl_0 (qU n s sh 0 0 (s.b+(k:Int)) true false false [] 0 0 em) dk (by simp only[qU];omega) f3 rfl)
    | false=>
     simp only[h3] at hf;rw[h3] at f3;refine T.path mix (oopl_1 (qU n s sh 0 0 (s.b+(k:Int)) false false false [] 0 0 em) dk (by simp only[qU];omega) f3 rfl ?_);intro st hst;have w1:i64.wrap (s.b+(k:Int)+1)=s.b+((k+1:Nat):Int):=by rw[A5 _ (by omega) (by omega)];omega
     simp only[qU,w1] at hst;exact⟨k+1,hst,⟨h,hf⟩,by omega⟩
   .rw[C0 h] at hf;subst hf;exact T.out mix (oopl_2 (qU n s sh 0 0 (s.b+(k:Int)) false false false [] 0 0 em) (by have hd:decide (s.b+(k:Int)<i64.wrap (s.b+s.k))=false:=by {rw [ws];exact Tz (by omega)};exact hd))
def Bl(n:Ab)(sh:List Bool)(i:Nat):Int:=((n.ss.take i).map fun s=>if (s.dep&&F0 sh s)=true then s.k else 0).sum
theorem Lm{n:Ab}{sh:List Bool}{i:Nat}{s:Am}(h:n.ss[i]?=some s):Bl n sh (i+1)=Bl n sh i+if (s.dep&&F0 sh s)=true then s.k else 0:=by unfold Bl;simp[List.take_add_one,h,List.sum_append]
theorem sloN_bd{n:Ab}(hv:Ax n){sh:List Bool}:∀i,0<=Bl n sh i/\Bl n sh i<=4 * i:=by
 intro i;induction i with
 | zero=>simp[Bl]
 | succ i ih=>
  cases hs:n.ss[i]? with
  | some s=>rw[Lm hs];have:=(hv.goodT i s hs).hk;split<;>omega
  | none=>
   have:Bl n sh (i+1)=Bl n sh i:=by unfold Bl;simp[List.take_add_one,hs]
   rw[this];omega
theorem slots_ct{n:Ab}(hv:Ax n){sh:List Bool}(hsh:sh.length=Au n):CT Ux 104 [] [Af n,.lst (boL sh)] [] (.int .i64 (Bl n sh n.ss.length)):=by
 have hsl:(n.ss.map sA).length=n.ss.length:=by simp
 refine CT.path mix Try.func104 (show Try.f104.body=some (zB Try.f104) by kernel_rfl) (nL rfl) (osl_0 (qU n s0 sh 0 0 0 false false false [] 0 0 em) ?_);have e0:(0:Int)=Bl n sh 0:=by simp[Bl]
 suffices hh:T Ux 0 (.loop (zC (zB Try.f104) 0)) (Hs (qU n s0 sh 0 (Bl n sh 0) 0 false false false [] 0 0 em)) (TK Ux 0 (Fin Ux Try.f104 0 [] (.int .i64 (Bl n sh n.ss.length))) (zK (zB Try.f104) 0)) by rw[<-e0] at hh;exact hh
 refine T.loop (fun i:Nat=>Hs (qU n s0 sh i (Bl n sh i) 0 false false false [] 0 0 em)) (fun i=>i<=n.ss.length) (fun i=>n.ss.length+1-i) 0 (TG _) ?_;intro i hi;have hns:=hv.ns;by_cases h:i<n.ss.length
 .obtain⟨s,hs⟩:∃s,n.ss[i]?=some s:=⟨_,Tu h⟩;have hbd:=sloN_bd hv (sh:=sh) i;have hk:=(hv.goodT i s hs).hk;have hsu:=Lm (sh:=sh) hs;have dk:decide (iN i<iN (n.ss.map sA).length)=true:=TA (by simp only[iN,hsl];omega);have k1:(0:Int)<=iN i:=by simp[iN]
  have wi:i64.wrap (iN i+1)=((i+1:Nat):Int):=zW i (by omega);have wb:i64.wrap (Bl n sh i+s.k)=Bl n sh i+s.k:=A5 _ (by omega) (by omega);have co:=open_ct hv hsh hs;cases hd:s.dep with
  | true=>
   cases ho:F0 sh s with
   | true=>rw[ho] at co;refine T.path mix (osll_0 (qU n s sh i (Bl n sh i) 0 true false false [] 0 0 em) dk k1 (CZ hs) hd co rfl ?_);intro st hst;simp only[qU,wi,wb] at hst;simp only[hd,ho,Bool.and_self,if_true] at hsu;rw[<-hsu] at hst;exact⟨i+1,hst,h,by omega⟩
   | false=>rw[ho] at co;refine T.path mix (osll_1 (qU n s sh i (Bl n sh i) 0 false false false [] 0 0 em) dk k1 (CZ hs) hd co rfl ?_);intro st hst;simp only[qU,wi] at hst;simp only[hd,ho,Bool.and_false,Bool.false_eq_true,if_false,Int.add_zero] at hsu;rw[<-hsu] at hst;exact⟨i+1,hst,h,by omega⟩
  | false=>refine T.path mix (osll_2 (qU n s sh i (Bl n sh i) 0 false false false [] 0 0 em) dk k1 (CZ hs) hd ?_);intro st hst;simp only[qU,wi] at hst;simp only[hd,Bool.false_and,Bool.false_eq_true,if_false,Int.add_zero] at hsu;rw[<-hsu] at hst;exact⟨i+1,hst,h,by omega⟩
 .obtain rfl:i=n.ss.length:=by omega
  exact T.out mix (osll_3 (qU n s0 sh n.ss.length (Bl n sh n.ss.length) 0 false false false [] 0 0 em) (Tz (by simp only[qU,iN,hsl];omega)))
theorem OY(k:Nat):Ur k (AV.bool false)=boL (Ur k false):=by simp[boL]
def DH(L:List Int)(sl:Int):Int:=if 0<L.length then (if sl<(L.length:Int)-1 then sl else (L.length:Int)-1) else sl
def Bx(n:Ab):List Int:=IM n.nx (Ur n.bs.length false)
def B5(n:Ab):Int:=Bl n (Ur (Au n) false) n.ss.length
theorem Ax.chk{n:Ab}(hv:Ax n):DA n.nx (Ur n.bs.length false)=0:=by
 have h1:=hv.nb24;have h2:=hv.nx;have hb:Dp n.nx=false:=by
  unfold Dp;cases he:fnd (Cs n.nx) 0 n.nx.length with
  | none=>rfl
  | some i=>
   obtain⟨g1,_,g3⟩:=DV he;have hi:i<n.bs.length:=by omega
   have hg:=hv.blk i _ (Tu hi);have hr:=(Ls.2 ⟨hg.x,hg.y,hg.nx⟩).nx;unfold Cs at g1;rw[h2,hr] at g1;simp at g1
 unfold DA;rw[Tt (by omega),Tt (by rw[hb];simp),Tt (by simp[h2])]
theorem fleet_ct{n:Ab}(hrw:Rows n.nx)(hv:Ax n):CT Ux 58 [] [Af n] [] (.tup [.agg [.int .i64 (iN (Bx n).length),lI (Bx n),.int .i64 (B5 n),.int .i64 (DH (Bx n) (B5 n))],.int .i64 0]):=by
 have hb:Try.f58.body=some (zB Try.f58):=by kernel_rfl
 have hn:[Af n].length<=Try.f58.ntmps:=nL rfl;have hbl:(n.bs.map bA).length=n.bs.length:=by simp
 have c1:=Kd hrw;rw[CF.2 hv] at c1;have h24:=hv.nb24;have c2:=RI (s:=Ur n.bs.length false) hrw;rw[hv.chk] at c2;have c2':CT Ux 103 [] [Uw (gL n.nx),Uw (Ur (Uq bA n.bs).length (bV false))] [] (AV.tup [iV (iN (Bx n).length),Uw (Uq iV (Bx n)),iV 0]):=by rw[hbl,OY];exact c2
 have c3:=ED hv;have c4:=slots_ct hv (sh:=Ur (Au n) false) (by simp);have c4':CT Ux 104 [] [Af n,Uw (Ur (iN (Au n)).toNat (bV false))] [] (iV (B5 n)):=by rw[show (iN (Au n)).toNat=Au n by simp[iN],OY];exact c4
 have hc:=hv.cel;have hgl:(Bx n).length<=1000000:=by
  unfold Bx IM;rw[Ts hv.chk];obtain⟨hg,_⟩:=IP hrw hv.chk;rcases NR n.nx (Ur n.bs.length false) n.nx.length with ⟨h,_⟩ | ⟨v,hvv,h1,_⟩
  .rw[h];simp
  .rw[h1];have:=thZ_len hg hvv;omega
 have wl:i64.wrap (iN (Bx n).length-1)=((Bx n).length:Int)-1:=A5 _ (by simp only[iN];omega) (by simp only[iN];omega);by_cases hg:0<(Bx n).length
 .have k:=ofl_1 (qU n s0 [] 0 0 0 false true false (Bx n) (B5 n) (Au n) em) c1 rfl (Int.le_refl _) (by simp only[qU,iN,hbl];omega) (by simp only[qU,iN,hbl];omega) c2' c3 (by simp[iN]) (Int.le_refl _) (by simp only[qU,iN];omega) (by simp only[qU,iN];omega) c4' (TA (by simp only[qU,iN];omega));simp only[qU,wl] at k;unfold DH;rw[Ts hg];exact CT.path mix Try.func58 hb hn k
 .have k:=ofl_2 (qU n s0 [] 0 0 0 false true false (Bx n) (B5 n) (Au n) em) c1 rfl (Int.le_refl _) (by simp only[qU,iN,hbl];omega) (by simp only[qU,iN,hbl];omega) c2' c3 (by simp[iN]) (Int.le_refl _) (by simp only[qU,iN];omega) (by simp only[qU,iN];omega) c4' (Tz (by simp only[qU,iN];omega));simp only[qU] at k;unfold DH;rw[Tt hg];exact CT.path mix Try.func58 hb hn k
def B8(n:Nat):ByteArray:=if n<10 then ⟨#[UInt8.ofNat (48+n)]⟩ else ⟨#[UInt8.ofNat (48+n / 10),UInt8.ofNat (48+n % 10)]⟩
theorem dig_w(c:Nat)(h:c<100):IntKind.u8.wrap (i64.wrap (48+(c:Int).tmod 10))=((48+c % 10:Nat):Int):=by
 have:∀c:Nat,c<100->IntKind.u8.wrap (i64.wrap (48+(c:Int).tmod 10))=((48+c % 10:Nat):Int):=by decide +kernel
 exact this c h
theorem dig_q(c:Nat)(h:c<100):i64.wrap ((c:Int).tdiv 10)=((c / 10:Nat):Int):=by
 have:∀c:Nat,c<100->i64.wrap ((c:Int).tdiv 10)=((c / 10:Nat):Int):=by decide +kernel
 exact this c h
theorem strOf1(x:Nat):Cy [AV.int .u8 (x:Int)]=⟨#[UInt8.ofNat x]⟩:=by unfold Cy;rfl
theorem dig_step{n:Nat}(h:n<100)(h10:10<=n):(⟨#[UInt8.ofNat (48+n / 10 % 10)]⟩:ByteArray)++(⟨#[UInt8.ofNat (48+n % 10)]⟩:ByteArray)=B8 n:=by unfold B8;rw[Tt (by omega),Tk (by omega:n / 10<10)];rfl
def qE(c:Int)(u:ByteArray):QO:=⟨⟨[],[],[],[],0,0,0,0⟩,s0,[],0,0,c,0,false,false,false,[],0,0,u⟩
theorem PH(n:Nat)(h:n<100):CT Ux 56 [] [.int .i64 (iN n)] [] (.str (B8 n)):=by
 have hb:Try.f56.body=some (zB Try.f56):=by kernel_rfl
 refine CT.path mix Try.func56 hb (nL rfl) (odg_0 (qE (iN n) em) (Tz (by simp only[qE,iN];omega)) ?_);refine T.loop (fun p:Nat×ByteArray=>lo73 (qE (iN p.1) p.2)) (fun p=>(p.1=n/\p.2=⟨#[]⟩)\/(10<=n/\p.1=n / 10/\p.2=⟨#[UInt8.ofNat (48+n % 10)]⟩)) (fun p=>p.1) (n,⟨#[]⟩) (.inl ⟨rfl,rfl⟩) ?_
 rintro⟨c,u⟩ hI
 simp only at hI;have hc:c<100:=by rcases hI with ⟨h1,_⟩ | ⟨_,h1,_⟩<;>omega
 have hsz:u.size<=2:=by rcases hI with ⟨_,h1⟩ | ⟨_,_,h1⟩<;>rw[h1]<;>exact nL rfl
 have w1:=dig_w c hc;have w2:=dig_q c hc;have e1:Cy [AV.int .u8 (IntKind.u8.wrap (i64.wrap (48+(iN c).tmod 10)))]=⟨#[UInt8.ofNat (48+c % 10)]⟩:=by show Cy [AV.int .u8 (IntKind.u8.wrap (i64.wrap (48+(c:Int).tmod 10)))]=_;rw[w1,strOf1]
 have f2:([AV.int .u8 (IntKind.u8.wrap (i64.wrap (48+(iN c).tmod 10)))].all FE)=true:=by show([AV.int .u8 (IntKind.u8.wrap (i64.wrap (48+(c:Int).tmod 10)))].all FE)=true;rw[w1];simp[FE];omega
 have f3:(Cy [AV.int .u8 (IntKind.u8.wrap (i64.wrap (48+(iN c).tmod 10)))]).size+u.size<=9223372036854775807:=by rw[e1];have:(⟨#[UInt8.ofNat (48+c % 10)]⟩:ByteArray).size=1:=rfl;omega
 by_cases hq:c / 10=0
 .have hz:(i64.wrap ((iN c).tdiv 10)==0)=true:=by show(i64.wrap ((c:Int).tdiv 10)==0)=true;rw[w2,hq];rfl
  have k:=odgl_0 (qE (iN c) u) rfl f2 f3 hz;have e:Cy [AV.int .u8 (IntKind.u8.wrap (i64.wrap (48+(iN c).tmod 10)))]++u=B8 n:=by
   rw[e1];rcases hI with ⟨h1,h2⟩ | ⟨h0,h1,h2⟩
   .subst h1;subst h2;unfold B8;rw[Ts (by omega),Tk (by omega:c<10)];rfl
   .subst h1;subst h2;exact dig_step h h0
  rw[<-e];exact T.out mix k
 .have hz:(i64.wrap ((iN c).tdiv 10)==0)=false:=by show(i64.wrap ((c:Int).tdiv 10)==0)=false;rw[w2];simp;omega
  refine T.path mix (odgl_1 (qE (iN c) u) rfl f2 f3 hz ?_);intro st hst;have w2':i64.wrap ((qE (iN c) u).c.tdiv 10)=iN (c / 10):=w2;rw[w2'] at hst;have e1':Cy (bK [AV.int .u8 (IntKind.u8.wrap (i64.wrap (48+(qE (iN c) u).c.tmod 10)))] 1).es++(qE (iN c) u).u=⟨#[UInt8.ofNat (48+c % 10)]⟩++u:=by rw[<-e1];rfl
  rw[e1'] at hst;rcases hI with ⟨h1,h2⟩ | ⟨h0,h1,h2⟩
  .subst h1;subst h2;exact⟨(c / 10,_),hst,.inr ⟨by omega,rfl,rfl⟩,by simp only;omega⟩
  .exfalso;omega
def IW(i:Nat):ByteArray:=⟨#[98]⟩++B8 i
def Fc(i:Nat):ByteArray:=⟨#[115]⟩++B8 i
theorem nmBk_ok:∀i,i<24->nmB (IW i)=true:=by decide +kernel
theorem nmSp_ok:∀i,i<6->nmB (Fc i)=true:=by decide +kernel
theorem nmBk_inj:∀i,i<24->∀j,j<24->IW i=IW j->i=j:=by decide +kernel
theorem nmSp_inj:∀i,i<6->∀j,j<6->Fc i=Fc j->i=j:=by decide +kernel
theorem nm_dis:∀i,i<24->∀j,j<6->IW i≠Fc j:=by decide +kernel
structure QJ where
 L:List Int
 kk:Nat
 m1:Nat
 m2:Nat
 bs:List AO
 g:List (List Int)
 i:Nat
 k:Int
 x:Int
 y:Int
 z:Int
 r:List Int
 o:List Int
 b1:Bool
def bsB(bs:List AO):Blk:={es:=bs.map bA,z:=3}
def gB(g:List (List Int)):Blk:={es:=gL g,z:=1}
def nJ(bs:List AO)(g:List (List Int)):Blk:={es:=[.agg [.sl 2 0 bs.length,.sl 3 0 g.length,.nils,.nils,.int .i64 0,.int .i64 0,.int .i64 0,.int .i64 0]],z:=8,flat:=false}
def cJ(q:QJ):Nat->FuncId->List AV->List (Option Blk)->AN:=fun dst f args hp=>match f with
 | 15=>match args,dst with
  | [.ptr b _ _,_],35=>.call [b] [] [Ag q.L q.m1] (.int .i64 q.x)
  | [.ptr b _ _,_],46=>.call [b] [] [Ag q.L q.m1] (.int .i64 q.x)
  | [.ptr b _ _,_],49=>.call [b] [] [Ag q.L q.m2] (.int .i64 q.y)
  | [.ptr b _ _,_],51=>.call [b] [] [Ag q.L (q.m2+1)] (.int .i64 q.z)
  | _,_=>.no
 | 26=>.call [] [] [] (.bool q.b1)
 | 102=>.call [] [] [] (lI q.o)
 | _=>.no
def eJ(q:QJ):List (Nat×AV):=[(32,.lst []),(67,lI q.r),(79,lI q.r),(94,lI q.r)]
def hJ(q:QJ):List (Option Blk):=[some (Ag q.L q.kk),some (nJ q.bs q.g),some (bsB q.bs),some (gB q.g)]
def st74(q:QJ):St:={n:=Try.f57.ntmps,fr:=[(0,.ptr 0 0 0),(1,.ptr 1 0 0)],hp:=hJ q}
def Ii(q:QJ):St:={n:=Try.f57.ntmps,fr:=[(0,.ptr 0 0 0),(1,.ptr 1 0 0),(4,.int .i64 (iN q.bs.length)),(5,.int .i64 (iN q.i))],hp:=hJ q}
def Cd(q:QJ):St:={n:=Try.f57.ntmps,fr:=[(0,.ptr 0 0 0),(1,.ptr 1 0 0),(4,.int .i64 (iN q.bs.length)),(6,.int .i64 q.k)],hp:=hJ q}
theorem jri_0(q:QJ){post:Exit->St->Prop}(ht:T Ux 4 (.loop (zC (zB Try.f57) 0)) (St.mk 98 [(0,AV.ptr 0 0 0),(1,AV.ptr 1 0 0),(4,iv (iN q.bs.length)),(5,iv 0)] [some (Ag q.L q.kk),some (Blk.mk [AV.agg [AV.sl 2 0 q.bs.length,AV.sl 3 0 q.g.length,AV.nils,AV.nils,iv 0,iv 0,iv 0,iv 0]] 8 false true none),some (Blk.mk (Uq bA q.bs) 3 true true none),some (Blk.mk (gL q.g) 1 true true none)]) (TK Ux 4 post (zK (zB Try.f57) 0))):GoP Ux (hU [] (eJ q) (cJ q)) 4 (zB Try.f57) (st74 q) post:=zR (σ:=[0,1,2,3]) (fz:=[]) (vars:=[0,1,4,5]) (by kernel_rfl) (aj (aj (u2 (u2 (u2 (u2 (u2 s2))))) s2) (k5 (aj (al t9) t3))) ht
theorem jrl_0(q:QJ)(h1:(decide (iN q.i<iN q.bs.length)=true))(h2:(decide (1<iN q.bs.length)=true))(h3:(iN q.bs.length=0->False))(h4:(0<=iN q.i))(h5:(iN q.i<iN q.g.length))(h6:((0+(iN q.i).toNat).succ.le (gL q.g).length)){post:Exit->St->Prop}{R:St->Prop}(hR:∀st,Ren 4 st (St.mk 98 [(0,AV.ptr 0 0 0),(1,AV.ptr 1 0 0),(4,iv (iN q.bs.length)),(5,iv (i64.wrap (iN q.i+1)))] [some (Ag q.L q.kk),some (Blk.mk [AV.agg [AV.sl 2 0 q.bs.length,AV.sl 3 0 q.g.length,AV.nils,AV.nils,iv 0,iv 0,iv 0,iv 0]] 8 false true none),some (Blk.mk (Uq bA q.bs) 3 true true none),some (Blk.mk ((gL q.g).set (0+(iN q.i).toNat) (Uw [iv ((i64.wrap (iN q.i+1)).tmod (iN q.bs.length))])) 1 true true none)])->R st):GoP Ux (hU [33,39,41] (eJ q) (cJ q)) 4 (zC (zB Try.f57) 0) (Ii q) (andThen R post):=zN (σ:=[0,1,2,3]) (fz:=[]) (vars:=[0,1,4,5]) (by kernel_rfl) (aj (aj (u2 (u2 (aj t3 (aj (al h1) (aj t3 (aj t3 (al (ak (al h2))))))))) (aj (show(true=true) by first | decide | exact S9 _) (aj (u2 (u2 (u2 (u2 (u2 (u2 (u2 (u2 (aj (k2 h3) (u2 (aj (k2 (aj h4 h5)) (al (k2 h6))))))))))))) (al (u2 (u2 s2)))))) (k5 (aj (al t9) t3))) hR
theorem jrx_0(q:QJ)(h1:(decide (iN q.i<iN q.bs.length)=false))(h2:(CT Ux 15 [some (Ag q.L q.kk)] [AV.ptr 0 0 0,iv 4] [some (Ag q.L q.m1)] (iv q.x))){post:Exit->St->Prop}(ht:T Ux 4 (.loop (zC (zB Try.f57) 1)) (St.mk 98 [(0,AV.ptr 0 0 0),(1,AV.ptr 1 0 0),(4,iv (iN q.bs.length)),(6,iv q.x)] [some (Ag q.L q.m1),some (Blk.mk [AV.agg [AV.sl 2 0 q.bs.length,AV.sl 3 0 q.g.length,AV.nils,AV.nils,iv 0,iv 0,iv 0,iv 0]] 8 false true none),some (Blk.mk (Uq bA q.bs) 3 true true none),some (Blk.mk (gL q.g) 1 true true none)]) (TK Ux 4 post (zK (zB Try.f57) 1))):GoO Ux (hU [32,40] (eJ q) (cJ q)) 4 (zC (zB Try.f57) 0) (zK (zB Try.f57) 0) (Ii q) post:=zR (σ:=[0,1,2,3]) (fz:=[]) (vars:=[0,1,4,6]) (by kernel_rfl) (aj (aj (aj (u2 (u2 (aj t3 (aj (al h1) (k2 (al t3)))))) (al (show(false=false) by first | decide | exact S9 _))) (al (u2 (aj (ak (k3 (al h2))) s2)))) (k5 (aj (al t9) t3))) ht
theorem jry_0(q:QJ)(h1:(decide (iN q.i<iN q.bs.length)=true))(h2:(decide (1<iN q.bs.length)=false))(h3:(CT Ux 15 [some (Ag q.L q.kk)] [AV.ptr 0 0 0,iv 4] [some (Ag q.L q.m1)] (iv q.x))){post:Exit->St->Prop}(ht:T Ux 4 (.loop (zC (zB Try.f57) 1)) (St.mk 98 [(0,AV.ptr 0 0 0),(1,AV.ptr 1 0 0),(4,iv (iN q.bs.length)),(6,iv q.x)] [some (Ag q.L q.m1),some (Blk.mk [AV.agg [AV.sl 2 0 q.bs.length,AV.sl 3 0 q.g.length,AV.nils,AV.nils,iv 0,iv 0,iv 0,iv 0]] 8 false true none),some (Blk.mk (Uq bA q.bs) 3 true true none),some (Blk.mk (gL q.g) 1 true true none)]) (TK Ux 4 post (zK (zB Try.f57) 1))):GoO Ux (hU [33,38,40] (eJ q) (cJ q)) 4 (zC (zB Try.f57) 0) (zK (zB Try.f57) 0) (Ii q) post:=zR (σ:=[0,1,2,3]) (fz:=[]) (vars:=[0,1,4,6]) (by kernel_rfl) (aj (aj (aj (u2 (u2 (aj t3 (aj (al h1) (aj t3 (aj t3 (al (ak (al h2))))))))) (al (show(false=false) by first | decide | exact S9 _))) (al (u2 (aj (ak (k3 (al h3))) s2)))) (k5 (aj (al t9) t3))) ht
theorem jsl_0(q:QJ)(h1:(decide (0<q.k)=true))(h2:(decide (2<iN q.bs.length)=true))(h3:(CT Ux 15 [some (Ag q.L q.kk)] [AV.ptr 0 0 0,iv (iN q.bs.length)] [some (Ag q.L q.m1)] (iv q.x)))(h4:(CT Ux 15 [some (Ag q.L q.m1)] [AV.ptr 0 0 0,iv (iN q.bs.length)] [some (Ag q.L q.m2)] (iv q.y)))(h5:(CT Ux 15 [some (Ag q.L q.m2)] [AV.ptr 0 0 0,iv 3] [some (Ag q.L (q.m2+1))] (iv q.z)))(h6:(decide (0<q.z)=true))(h7:(iN q.bs.length=0->False))(h8:((q.x != (i64.wrap (q.x+2)).tmod (iN q.bs.length))=true))(h9:(0<=q.x))(h10:(q.x<iN q.g.length))(h11:((gL q.g)[0+q.x.toNat]?=some (Uw (Uq iv q.r))))(h12:(CT Ux 26 [] [Uw (Uq iv q.r),iv ((i64.wrap (q.x+2)).tmod (iN q.bs.length))] [] (AV.bool q.b1)))(h13:((!q.b1)=true))(h14:(decide (iN (Uq iv q.r).length<4)=true))(h15:(CT Ux 102 [] [Uw (Uq iv q.r),iv ((i64.wrap (q.x+2)).tmod (iN q.bs.length))] [] (Uw (Uq iv q.o))))(h16:((0+q.x.toNat).succ.le (gL q.g).length)){post:Exit->St->Prop}{R:St->Prop}(hR:∀st,Ren 4 st (St.mk 98 [(0,AV.ptr 0 0 0),(1,AV.ptr 1 0 0),(4,iv (iN q.bs.length)),(6,iv (i64.wrap (q.k-1)))] [some (Ag q.L (q.m2+1)),some (Blk.mk [AV.agg [AV.sl 2 0 q.bs.length,AV.sl 3 0 q.g.length,AV.nils,AV.nils,iv 0,iv 0,iv 0,iv 0]] 8 false true none),some (Blk.mk (Uq bA q.bs) 3 true true none),some (Blk.mk ((gL q.g).set (0+q.x.toNat) (Uw (Uq iv q.o))) 1 true true none)])->R st):GoP Ux (hU [77,83,105,121,145,165] (eJ q) (cJ q)) 4 (zC (zB Try.f57) 1) (Cd q) (andThen R post):=zN (σ:=[0,1,2,3]) (fz:=[]) (vars:=[0,1,4,6]) (by kernel_rfl) (aj (aj (u2 (u2 (u2 (ag h1 (ag h1 (al (aj h1 t2))))))) (aj h2 (aj (u2 (u2 (aj (k5 (al h3)) (u2 (u2 (aj (k5 (al h4)) (u2 s2))))))) (aj (u2 (aj (ak (k3 (al h5))) s2)) (aj h6 (aj (u2 (u2 (u2 (aj (k2 h7) s2)))) (aj (u2 (u2 (aj t3 (u2 (ag h8 (ag h8 (ag h8 (ag h8 (ag h8 (aj (aj h8 (k2 (aj h9 h10))) (aj (aj h8 (ak h11)) (ag h8 (aj (aj h8 (ak (k3 (al h12)))) (ag h8 (ag h8 (u2 (ag h13 (ag h13 (ag h13 (ag h13 (ag h13 (aj (aj h13 (k2 (aj h9 h10))) (aj (aj h13 (ak h11)) (ag h13 (ag h13 (al (aj h13 t2))))))))))))))))))))))))))) (aj h14 (aj (u2 (u2 (u2 (u2 (u2 (u2 (u2 (u2 (u2 (u2 (aj (k2 (aj h9 h10)) (aj (ak h11) (u2 (aj (ak (k3 (al h15))) (aj (k2 (aj h9 h10)) (al (k2 h16))))))))))))))))) (al (u2 (u2 s2)))))))))))) (k5 (aj (al t9) t3))) hR
theorem jsl_1(q:QJ)(h1:(decide (0<q.k)=true))(h2:(decide (2<iN q.bs.length)=true))(h3:(CT Ux 15 [some (Ag q.L q.kk)] [AV.ptr 0 0 0,iv (iN q.bs.length)] [some (Ag q.L q.m1)] (iv q.x)))(h4:(CT Ux 15 [some (Ag q.L q.m1)] [AV.ptr 0 0 0,iv (iN q.bs.length)] [some (Ag q.L q.m2)] (iv q.y)))(h5:(CT Ux 15 [some (Ag q.L q.m2)] [AV.ptr 0 0 0,iv 3] [some (Ag q.L (q.m2+1))] (iv q.z)))(h6:(decide (0<q.z)=true))(h7:(iN q.bs.length=0->False))(h8:((q.x != (i64.wrap (q.x+2)).tmod (iN q.bs.length))=true))(h9:(0<=q.x))(h10:(q.x<iN q.g.length))(h11:((gL q.g)[0+q.x.toNat]?=some (Uw (Uq iv q.r))))(h12:(CT Ux 26 [] [Uw (Uq iv q.r),iv ((i64.wrap (q.x+2)).tmod (iN q.bs.length))] [] (AV.bool q.b1)))(h13:((!q.b1)=true))(h14:(decide (iN (Uq iv q.r).length<4)=false)){post:Exit->St->Prop}{R:St->Prop}(hR:∀st,Ren 4 st (St.mk 98 [(0,AV.ptr 0 0 0),(1,AV.ptr 1 0 0),(4,iv (iN q.bs.length)),(6,iv (i64.wrap (q.k-1)))] [some (Ag q.L (q.m2+1)),some (Blk.mk [AV.agg [AV.sl 2 0 q.bs.length,AV.sl 3 0 q.g.length,AV.nils,AV.nils,iv 0,iv 0,iv 0,iv 0]] 8 false true none),some (Blk.mk (Uq bA q.bs) 3 true true none),some (Blk.mk (gL q.g) 1 true true none)])->R st):GoP Ux (hU [77,83,105,121,145,164] (eJ q) (cJ q)) 4 (zC (zB Try.f57) 1) (Cd q) (andThen R post):=zN (σ:=[0,1,2,3]) (fz:=[]) (vars:=[0,1,4,6]) (by kernel_rfl) (aj (aj (u2 (u2 (u2 (ag h1 (ag h1 (al (aj h1 t2))))))) (aj h2 (aj (u2 (u2 (aj (k5 (al h3)) (u2 (u2 (aj (k5 (al h4)) (u2 s2))))))) (aj (u2 (aj (ak (k3 (al h5))) s2)) (aj h6 (aj (u2 (u2 (u2 (aj (k2 h7) s2)))) (aj (u2 (u2 (aj t3 (u2 (ag h8 (ag h8 (ag h8 (ag h8 (ag h8 (aj (aj h8 (k2 (aj h9 h10))) (aj (aj h8 (ak h11)) (ag h8 (aj (aj h8 (ak (k3 (al h12)))) (ag h8 (ag h8 (u2 (ag h13 (ag h13 (ag h13 (ag h13 (ag h13 (aj (aj h13 (k2 (aj h9 h10))) (aj (aj h13 (ak h11)) (ag h13 (ag h13 (al (aj h13 t2))))))))))))))))))))))))))) (aj h14 (al (u2 (u2 s2))))))))))) (k5 (aj (al t9) t3))) hR
theorem jsl_2(q:QJ)(h1:(decide (0<q.k)=true))(h2:(decide (2<iN q.bs.length)=true))(h3:(CT Ux 15 [some (Ag q.L q.kk)] [AV.ptr 0 0 0,iv (iN q.bs.length)] [some (Ag q.L q.m1)] (iv q.x)))(h4:(CT Ux 15 [some (Ag q.L q.m1)] [AV.ptr 0 0 0,iv (iN q.bs.length)] [some (Ag q.L q.m2)] (iv q.y)))(h5:(CT Ux 15 [some (Ag q.L q.m2)] [AV.ptr 0 0 0,iv 3] [some (Ag q.L (q.m2+1))] (iv q.z)))(h6:(decide (0<q.z)=true))(h7:(iN q.bs.length=0->False))(h8:((q.x != (i64.wrap (q.x+2)).tmod (iN q.bs.length))=true))(h9:(0<=q.x))(h10:(q.x<iN q.g.length))(h11:((gL q.g)[0+q.x.toNat]?=some (Uw (Uq iv q.r))))(h12:(CT Ux 26 [] [Uw (Uq iv q.r),iv ((i64.wrap (q.x+2)).tmod (iN q.bs.length))] [] (AV.bool q.b1)))(h13:((!q.b1)=false)){post:Exit->St->Prop}{R:St->Prop}(hR:∀st,Ren 4 st (St.mk 98 [(0,AV.ptr 0 0 0),(1,AV.ptr 1 0 0),(4,iv (iN q.bs.length)),(6,iv (i64.wrap (q.k-1)))] [some (Ag q.L (q.m2+1)),some (Blk.mk [AV.agg [AV.sl 2 0 q.bs.length,AV.sl 3 0 q.g.length,AV.nils,AV.nils,iv 0,iv 0,iv 0,iv 0]] 8 false true none),some (Blk.mk (Uq bA q.bs) 3 true true none),some (Blk.mk (gL q.g) 1 true true none)])->R st):GoP Ux (hU [77,83,105,121,144] (eJ q) (cJ q)) 4 (zC (zB Try.f57) 1) (Cd q) (andThen R post):=zN (σ:=[0,1,2,3]) (fz:=[]) (vars:=[0,1,4,6]) (by kernel_rfl) (aj (aj (u2 (u2 (u2 (ag h1 (ag h1 (al (aj h1 t2))))))) (aj h2 (aj (u2 (u2 (aj (k5 (al h3)) (u2 (u2 (aj (k5 (al h4)) (u2 s2))))))) (aj (u2 (aj (ak (k3 (al h5))) s2)) (aj h6 (aj (u2 (u2 (u2 (aj (k2 h7) s2)))) (aj (u2 (u2 (aj t3 (u2 (ag h8 (ag h8 (ag h8 (ag h8 (ag h8 (aj (aj h8 (k2 (aj h9 h10))) (aj (aj h8 (ak h11)) (ag h8 (aj (aj h8 (ak (k3 (al h12)))) (ag h8 (ag h8 (u2 (aj h13 (aj h13 (aj h13 (aj h13 (aj h13 (aj h13 (aj h13 (aj h13 (aj h13 (al (aj h13 t2))))))))))))))))))))))))))) (ak (al (u2 (u2 s2))))))))))) (k5 (aj (al t9) t3))) hR
theorem jsl_3(q:QJ)(h1:(decide (0<q.k)=true))(h2:(decide (2<iN q.bs.length)=true))(h3:(CT Ux 15 [some (Ag q.L q.kk)] [AV.ptr 0 0 0,iv (iN q.bs.length)] [some (Ag q.L q.m1)] (iv q.x)))(h4:(CT Ux 15 [some (Ag q.L q.m1)] [AV.ptr 0 0 0,iv (iN q.bs.length)] [some (Ag q.L q.m2)] (iv q.y)))(h5:(CT Ux 15 [some (Ag q.L q.m2)] [AV.ptr 0 0 0,iv 3] [some (Ag q.L (q.m2+1))] (iv q.z)))(h6:(decide (0<q.z)=true))(h7:(iN q.bs.length=0->False))(h8:((q.x != (i64.wrap (q.x+2)).tmod (iN q.bs.length))=false)){post:Exit->St->Prop}{R:St->Prop}(hR:∀st,Ren 4 st (St.mk 98 [(0,AV.ptr 0 0 0),(1,AV.ptr 1 0 0),(4,iv (iN q.bs.length)),(6,iv (i64.wrap (q.k-1)))] [some (Ag q.L (q.m2+1)),some (Blk.mk [AV.agg [AV.sl 2 0 q.bs.length,AV.sl 3 0 q.g.length,AV.nils,AV.nils,iv 0,iv 0,iv 0,iv 0]] 8 false true none),some (Blk.mk (Uq bA q.bs) 3 true true none),some (Blk.mk (gL q.g) 1 true true none)])->R st):GoP Ux (hU [77,83,105,120] (eJ q) (cJ q)) 4 (zC (zB Try.f57) 1) (Cd q) (andThen R post):=zN (σ:=[0,1,2,3]) (fz:=[]) (vars:=[0,1,4,6]) (by kernel_rfl) (aj (aj (u2 (u2 (u2 (ag h1 (ag h1 (al (aj h1 t2))))))) (aj h2 (aj (u2 (u2 (aj (k5 (al h3)) (u2 (u2 (aj (k5 (al h4)) (u2 s2))))))) (aj (u2 (aj (ak (k3 (al h5))) s2)) (aj h6 (aj (u2 (u2 (u2 (aj (k2 h7) s2)))) (aj (u2 (u2 (aj t3 (u2 (aj h8 (aj h8 (aj h8 (aj h8 (aj h8 (aj h8 (aj h8 (aj h8 (aj h8 (aj h8 (ag h8 (u2 (ak (k3 (k5 (al t3)))))))))))))))))))) (ak (al (u2 (u2 s2))))))))))) (k5 (aj (al t9) t3))) hR
theorem jsl_4(q:QJ)(h1:(decide (0<q.k)=true))(h2:(decide (2<iN q.bs.length)=true))(h3:(CT Ux 15 [some (Ag q.L q.kk)] [AV.ptr 0 0 0,iv (iN q.bs.length)] [some (Ag q.L q.m1)] (iv q.x)))(h4:(CT Ux 15 [some (Ag q.L q.m1)] [AV.ptr 0 0 0,iv (iN q.bs.length)] [some (Ag q.L q.m2)] (iv q.y)))(h5:(CT Ux 15 [some (Ag q.L q.m2)] [AV.ptr 0 0 0,iv 3] [some (Ag q.L (q.m2+1))] (iv q.z)))(h6:(decide (0<q.z)=false))(h7:((q.x != q.y)=true))(h8:(0<=q.x))(h9:(q.x<iN q.g.length))(h10:((gL q.g)[0+q.x.toNat]?=some (Uw (Uq iv q.r))))(h11:(CT Ux 26 [] [Uw (Uq iv q.r),iv q.y] [] (AV.bool q.b1)))(h12:((!q.b1)=true))(h13:(decide (iN (Uq iv q.r).length<4)=true))(h14:(CT Ux 102 [] [Uw (Uq iv q.r),iv q.y] [] (Uw (Uq iv q.o))))(h15:((0+q.x.toNat).succ.le (gL q.g).length)){post:Exit->St->Prop}{R:St->Prop}(hR:∀st,Ren 4 st (St.mk 98 [(0,AV.ptr 0 0 0),(1,AV.ptr 1 0 0),(4,iv (iN q.bs.length)),(6,iv (i64.wrap (q.k-1)))] [some (Ag q.L (q.m2+1)),some (Blk.mk [AV.agg [AV.sl 2 0 q.bs.length,AV.sl 3 0 q.g.length,AV.nils,AV.nils,iv 0,iv 0,iv 0,iv 0]] 8 false true none),some (Blk.mk (Uq bA q.bs) 3 true true none),some (Blk.mk ((gL q.g).set (0+q.x.toNat) (Uw (Uq iv q.o))) 1 true true none)])->R st):GoP Ux (hU [77,83,104,121,145,165] (eJ q) (cJ q)) 4 (zC (zB Try.f57) 1) (Cd q) (andThen R post):=zN (σ:=[0,1,2,3]) (fz:=[]) (vars:=[0,1,4,6]) (by kernel_rfl) (aj (aj (u2 (u2 (u2 (ag h1 (ag h1 (al (aj h1 t2))))))) (aj h2 (aj (u2 (u2 (aj (k5 (al h3)) (u2 (u2 (aj (k5 (al h4)) (u2 s2))))))) (aj (u2 (aj (ak (k3 (al h5))) s2)) (aj h6 (aj (u2 (u2 (aj t3 (u2 (ag h7 (ag h7 (ag h7 (ag h7 (ag h7 (aj (aj h7 (k2 (aj h8 h9))) (aj (aj h7 (ak h10)) (ag h7 (aj (aj h7 (ak (k3 (al h11)))) (ag h7 (ag h7 (u2 (ag h12 (ag h12 (ag h12 (ag h12 (ag h12 (aj (aj h12 (k2 (aj h8 h9))) (aj (aj h12 (ak h10)) (ag h12 (ag h12 (al (aj h12 t2))))))))))))))))))))))))))) (aj h13 (aj (u2 (u2 (u2 (u2 (u2 (u2 (u2 (u2 (u2 (u2 (aj (k2 (aj h8 h9)) (aj (ak h10) (u2 (aj (ak (k3 (al h14))) (aj (k2 (aj h8 h9)) (al (k2 h15))))))))))))))))) (al (u2 (u2 s2))))))))))) (k5 (aj (al t9) t3))) hR
theorem jsl_5(q:QJ)(h1:(decide (0<q.k)=true))(h2:(decide (2<iN q.bs.length)=true))(h3:(CT Ux 15 [some (Ag q.L q.kk)] [AV.ptr 0 0 0,iv (iN q.bs.length)] [some (Ag q.L q.m1)] (iv q.x)))(h4:(CT Ux 15 [some (Ag q.L q.m1)] [AV.ptr 0 0 0,iv (iN q.bs.length)] [some (Ag q.L q.m2)] (iv q.y)))(h5:(CT Ux 15 [some (Ag q.L q.m2)] [AV.ptr 0 0 0,iv 3] [some (Ag q.L (q.m2+1))] (iv q.z)))(h6:(decide (0<q.z)=false))(h7:((q.x != q.y)=true))(h8:(0<=q.x))(h9:(q.x<iN q.g.length))(h10:((gL q.g)[0+q.x.toNat]?=some (Uw (Uq iv q.r))))(h11:(CT Ux 26 [] [Uw (Uq iv q.r),iv q.y] [] (AV.bool q.b1)))(h12:((!q.b1)=true))(h13:(decide (iN (Uq iv q.r).length<4)=false)){post:Exit->St->Prop}{R:St->Prop}(hR:∀st,Ren 4 st (St.mk 98 [(0,AV.ptr 0 0 0),(1,AV.ptr 1 0 0),(4,iv (iN q.bs.length)),(6,iv (i64.wrap (q.k-1)))] [some (Ag q.L (q.m2+1)),some (Blk.mk [AV.agg [AV.sl 2 0 q.bs.length,AV.sl 3 0 q.g.length,AV.nils,AV.nils,iv 0,iv 0,iv 0,iv 0]] 8 false true none),some (Blk.mk (Uq bA q.bs) 3 true true none),some (Blk.mk (gL q.g) 1 true true none)])->R st):GoP Ux (hU [77,83,104,121,145,164] (eJ q) (cJ q)) 4 (zC (zB Try.f57) 1) (Cd q) (andThen R post):=zN (σ:=[0,1,2,3]) (fz:=[]) (vars:=[0,1,4,6]) (by kernel_rfl) (aj (aj (u2 (u2 (u2 (ag h1 (ag h1 (al (aj h1 t2))))))) (aj h2 (aj (u2 (u2 (aj (k5 (al h3)) (u2 (u2 (aj (k5 (al h4)) (u2 s2))))))) (aj (u2 (aj (ak (k3 (al h5))) s2)) (aj h6 (aj (u2 (u2 (aj t3 (u2 (ag h7 (ag h7 (ag h7 (ag h7 (ag h7 (aj (aj h7 (k2 (aj h8 h9))) (aj (aj h7 (ak h10)) (ag h7 (aj (aj h7 (ak (k3 (al h11)))) (ag h7 (ag h7 (u2 (ag h12 (ag h12 (ag h12 (ag h12 (ag h12 (aj (aj h12 (k2 (aj h8 h9))) (aj (aj h12 (ak h10)) (ag h12 (ag h12 (al (aj h12 t2))))))))))))))))))))))))))) (aj h13 (al (u2 (u2 s2)))))))))) (k5 (aj (al t9) t3))) hR
theorem jsl_6(q:QJ)(h1:(decide (0<q.k)=true))(h2:(decide (2<iN q.bs.length)=true))(h3:(CT Ux 15 [some (Ag q.L q.kk)] [AV.ptr 0 0 0,iv (iN q.bs.length)] [some (Ag q.L q.m1)] (iv q.x)))(h4:(CT Ux 15 [some (Ag q.L q.m1)] [AV.ptr 0 0 0,iv (iN q.bs.length)] [some (Ag q.L q.m2)] (iv q.y)))(h5:(CT Ux 15 [some (Ag q.L q.m2)] [AV.ptr 0 0 0,iv 3] [some (Ag q.L (q.m2+1))] (iv q.z)))(h6:(decide (0<q.z)=false))(h7:((q.x != q.y)=true))(h8:(0<=q.x))(h9:(q.x<iN q.g.length))(h10:((gL q.g)[0+q.x.toNat]?=some (Uw (Uq iv q.r))))(h11:(CT Ux 26 [] [Uw (Uq iv q.r),iv q.y] [] (AV.bool q.b1)))(h12:((!q.b1)=false)){post:Exit->St->Prop}{R:St->Prop}(hR:∀st,Ren 4 st (St.mk 98 [(0,AV.ptr 0 0 0),(1,AV.ptr 1 0 0),(4,iv (iN q.bs.length)),(6,iv (i64.wrap (q.k-1)))] [some (Ag q.L (q.m2+1)),some (Blk.mk [AV.agg [AV.sl 2 0 q.bs.length,AV.sl 3 0 q.g.length,AV.nils,AV.nils,iv 0,iv 0,iv 0,iv 0]] 8 false true none),some (Blk.mk (Uq bA q.bs) 3 true true none),some (Blk.mk (gL q.g) 1 true true none)])->R st):GoP Ux (hU [77,83,104,121,144] (eJ q) (cJ q)) 4 (zC (zB Try.f57) 1) (Cd q) (andThen R post):=zN (σ:=[0,1,2,3]) (fz:=[]) (vars:=[0,1,4,6]) (by kernel_rfl) (aj (aj (u2 (u2 (u2 (ag h1 (ag h1 (al (aj h1 t2))))))) (aj h2 (aj (u2 (u2 (aj (k5 (al h3)) (u2 (u2 (aj (k5 (al h4)) (u2 s2))))))) (aj (u2 (aj (ak (k3 (al h5))) s2)) (aj h6 (aj (u2 (u2 (aj t3 (u2 (ag h7 (ag h7 (ag h7 (ag h7 (ag h7 (aj (aj h7 (k2 (aj h8 h9))) (aj (aj h7 (ak h10)) (ag h7 (aj (aj h7 (ak (k3 (al h11)))) (ag h7 (ag h7 (u2 (aj h12 (aj h12 (aj h12 (aj h12 (aj h12 (aj h12 (aj h12 (aj h12 (aj h12 (al (aj h12 t2))))))))))))))))))))))))))) (ak (al (u2 (u2 s2)))))))))) (k5 (aj (al t9) t3))) hR
theorem jsl_7(q:QJ)(h1:(decide (0<q.k)=true))(h2:(decide (2<iN q.bs.length)=true))(h3:(CT Ux 15 [some (Ag q.L q.kk)] [AV.ptr 0 0 0,iv (iN q.bs.length)] [some (Ag q.L q.m1)] (iv q.x)))(h4:(CT Ux 15 [some (Ag q.L q.m1)] [AV.ptr 0 0 0,iv (iN q.bs.length)] [some (Ag q.L q.m2)] (iv q.y)))(h5:(CT Ux 15 [some (Ag q.L q.m2)] [AV.ptr 0 0 0,iv 3] [some (Ag q.L (q.m2+1))] (iv q.z)))(h6:(decide (0<q.z)=false))(h7:((q.x != q.y)=false)){post:Exit->St->Prop}{R:St->Prop}(hR:∀st,Ren 4 st (St.mk 98 [(0,AV.ptr 0 0 0),(1,AV.ptr 1 0 0),(4,iv (iN q.bs.length)),(6,iv (i64.wrap (q.k-1)))] [some (Ag q.L (q.m2+1)),some (Blk.mk [AV.agg [AV.sl 2 0 q.bs.length,AV.sl 3 0 q.g.length,AV.nils,AV.nils,iv 0,iv 0,iv 0,iv 0]] 8 false true none),some (Blk.mk (Uq bA q.bs) 3 true true none),some (Blk.mk (gL q.g) 1 true true none)])->R st):GoP Ux (hU [77,83,104,120] (eJ q) (cJ q)) 4 (zC (zB Try.f57) 1) (Cd q) (andThen R post):=zN (σ:=[0,1,2,3]) (fz:=[]) (vars:=[0,1,4,6]) (by kernel_rfl) (aj (aj (u2 (u2 (u2 (ag h1 (ag h1 (al (aj h1 t2))))))) (aj h2 (aj (u2 (u2 (aj (k5 (al h3)) (u2 (u2 (aj (k5 (al h4)) (u2 s2))))))) (aj (u2 (aj (ak (k3 (al h5))) s2)) (aj h6 (aj (u2 (u2 (aj t3 (u2 (aj h7 (aj h7 (aj h7 (aj h7 (aj h7 (aj h7 (aj h7 (aj h7 (aj h7 (aj h7 (ag h7 (u2 (ak (k3 (k5 (al t3)))))))))))))))))))) (ak (al (u2 (u2 s2)))))))))) (k5 (aj (al t9) t3))) hR
theorem jsl_8(q:QJ)(h1:(decide (0<q.k)=true))(h2:(decide (2<iN q.bs.length)=false)):GoO Ux (hU [77,82] (eJ q) (cJ q)) 4 (zC (zB Try.f57) 1) (zK (zB Try.f57) 1) (Cd q) (Fin Ux Try.f57 4 [some (Ag q.L q.kk),some (Blk.mk [AV.agg [AV.sl 2 0 q.bs.length,AV.sl 3 0 q.g.length,AV.nils,AV.nils,iv 0,iv 0,iv 0,iv 0]] 8 false true none),some (Blk.mk (Uq bA q.bs) 3 true true none),some (Blk.mk (gL q.g) 1 true true none)] (AV.tup [])):=zF (σ:=[0,1,2,3]) (fz:=[]) (by kernel_rfl) (aj (al (aj (u2 (u2 (u2 (ag h1 (ag h1 (al (aj h1 t2))))))) (al h2))) (k2 (aj (al t9) t3)))
theorem jsl_9(q:QJ)(h1:(decide (0<q.k)=false)):GoO Ux (hU [76] (eJ q) (cJ q)) 4 (zC (zB Try.f57) 1) (zK (zB Try.f57) 1) (Cd q) (Fin Ux Try.f57 4 [some (Ag q.L q.kk),some (Blk.mk [AV.agg [AV.sl 2 0 q.bs.length,AV.sl 3 0 q.g.length,AV.nils,AV.nils,iv 0,iv 0,iv 0,iv 0]] 8 false true none),some (Blk.mk (Uq bA q.bs) 3 true true none),some (Blk.mk (gL q.g) 1 true true none)] (AV.tup [])):=zF (σ:=[0,1,2,3]) (fz:=[]) (by kernel_rfl) (aj (al (aj (u2 (u2 (u2 (aj h1 (aj h1 (al (aj h1 t2))))))) t2)) (k2 (aj (al t9) t3)))
def qJ(L:List Int)(kk:Nat)(bs:List AO)(g:List (List Int))(i:Nat)(k x y z:Int)(r o:List Int)(b1:Bool):QJ:=⟨L,kk,kk+1,kk+2,bs,g,i,k,x,y,z,r,o,b1⟩
def jR(L:List Int)(b kk:Nat):Int:=if 0<Ai L (kk+2) 3 then (Ai L kk b+2).tmod b else Ai L (kk+1) b
def Hn(x j:Int)(g:List (List Int)):List (List Int):=if x=j then g else if AC (g.getD x.toNat []) j=true then g else if (g.getD x.toNat []).length<4 then g.set x.toNat (BI j (g.getD x.toNat [])) else g
def He(L:List Int)(b:Nat)(y:List (List Int)×Nat):List (List Int)×Nat:=(Hn (Ai L y.2 b) (jR L b y.2) y.1,y.2+3)
def Bw(L:List Int)(b:Nat)(y:List (List Int)×Nat):Nat->List (List Int)×Nat | 0=>y | n+1=>He L b (Bw L b y n)
def Ba(b i:Nat):List (List Int):=(List.range b).map fun t=>if t<i then [(((t+1) % b:Nat):Int)] else []
theorem GI.add{n:Nat}{g:List (List Int)}(h:GI n 4 g){x j:Int}(hx:0<=x/\x<n)(hj:0<=j/\j<n):GI n 4 (Hn x j g):=by
 unfold Hn;split
 .exact h
 rename_i hne;split
 .exact h
 rename_i hno;split
 .rename_i hl;have hno':j∉g.getD x.toNat []:=fun hm=>hno (GT.2 hm)
  have e:∀v,(g.set x.toNat (BI j (g.getD x.toNat []))).getD v []=if x.toNat=v then BI j (g.getD x.toNat []) else g.getD v []:=by
   intro v;rw[Tv,Un];split
   .rename_i e;subst e;rw[Ts (by rw[h.len];omega)];rfl
   .rw[Tv]
  refine⟨by rw[T3];exact h.len,fun v hv=>?_⟩;rw[e];split
  .rename_i ev;subst ev;obtain⟨h1,h2,h3⟩:=h.row x.toNat hv;refine⟨by rw[insB_len];omega,insB_asc h2 hno',fun w hw=>?_⟩;rcases Mq.1 hw with rfl | hw
   .omega
   .exact h3 w hw
  .exact h.row v hv
 .exact h
theorem N9{L:List Int}{b kk:Nat}(hb:1<=b/\b<=24):0<=jR L b kk/\jR L b kk<b:=by
 have h1:=Bd L kk (b:Int) (by omega) (by omega);have h2:=Bd L (kk+1) (b:Int) (by omega) (by omega);unfold jR;split
 .rw[Int.tmod_eq_emod_of_nonneg (by omega)];exact⟨Int.emod_nonneg _ (by omega),Int.emod_lt_of_pos _ (by omega)⟩
 .exact h2
theorem OE{L:List Int}{b:Nat}(hb:1<=b/\b<=24){y:List (List Int)×Nat}(h:GI b 4 y.1):∀n,GI b 4 (Bw L b y n).1/\(Bw L b y n).2=y.2+3 * n:=by
 intro n;induction n with
 | zero=>exact⟨h,rfl⟩
 | succ n ih=>obtain⟨h1,h2⟩:=ih;refine⟨h1.add (Bd L _ (b:Int) (by omega) (by omega)) (N9 hb),?_⟩;simp only[Bw,He,h2];omega
theorem Ie(b i:Nat):(Ba b i).length=b:=by simp[Ba]
theorem Ln{b i v:Nat}(h:v<b):(Ba b i).getD v []=if v<i then [(((v+1) % b:Nat):Int)] else []:=by unfold Ba;rw[Tv,TE,TT h];rfl
theorem Mf{b:Nat}(hb:2<=b)(i:Nat):GI b 4 (Ba b i):=by
 refine⟨Ie b i,fun v hv=>?_⟩;rw[Ln hv];split
 .refine⟨by simp,by simp,fun w hw=>?_⟩;rw[Tj] at hw;subst hw;have h1:(v+1) % b<b:=Nat.mod_lt _ (by omega);have h2:(v+1) % b≠v:=by
   by_cases e:v+1=b
   .rw[e,Nat.mod_self];omega
   .rw[Tk (by omega)];omega
  generalize (v+1) % b=u at h1 h2;omega
 .simp
theorem Rn(b:Nat):GI b 4 (Ba b 0):=⟨Ie b 0,fun v hv=>by rw[Ln hv];simp⟩
theorem rng0_set{b i:Nat}(h:i<b):(Ba b i).set i [(((i+1) % b:Nat):Int)]=Ba b (i+1):=by
 unfold Ba;apply List.ext_getElem
 .simp
 .intro j h1 h2;simp only[List.getElem_set,List.getElem_map,List.getElem_range];by_cases e:i=j
  .subst e;rw[Ts rfl,Ts (by omega)]
  .rw[Tt e];by_cases hj:j<i
   .rw[Ts hj,Ts (by omega)]
   .rw[Tt hj,Tt (by omega)]
theorem PN(g:List (List Int))(v:Nat)(r:List Int):(gL g).set (0+v) (.lst (r.map (AV.int .i64)))=gL (g.set v r):=by rw[TJ];unfold gL;rw[Um];rfl
theorem js_run{L:List Int}{bs:List AO}(hb:3<=bs.length/\bs.length<=24)(kk:Nat)(hkk:kk<=100000)(K:Nat)(hK:K<=4){g0:List (List Int)}(hg0:GI bs.length 4 g0):
  T Ux 4 (.loop (zC (zB Try.f57) 1)) (Cd (qJ L kk bs g0 0 (K:Int) 0 0 0 [] [] false)) (TK Ux 4 (Fin Ux Try.f57 4 [some (Ag L (Bw L bs.length (g0,kk) K).2),some (nJ bs (Bw L bs.length (g0,kk) K).1),some (bsB bs),some (gB (Bw L bs.length (g0,kk) K).1)] (.tup [])) (zK (zB Try.f57) 1)):=by
 have hb2:1<=bs.length/\bs.length<=24:=by omega
 have hok:=OE (L:=L) hb2 (y:=(g0,kk)) hg0
 suffices hh:T Ux 4 (.loop (zC (zB Try.f57) 1)) (Cd (qJ L (Bw L bs.length (g0,kk) 0).2 bs (Bw L bs.length (g0,kk) 0).1 0 ((K:Int)-((0:Nat):Int)) 0 0 0 [] [] false)) (TK Ux 4 (Fin Ux Try.f57 4 [some (Ag L (Bw L bs.length (g0,kk) K).2),some (nJ bs (Bw L bs.length (g0,kk) K).1),some (bsB bs),some (gB (Bw L bs.length (g0,kk) K).1)] (.tup [])) (zK (zB Try.f57) 1)) by simpa [Bw] using hh
 refine T.loop (fun m:Nat=>Cd (qJ L (Bw L bs.length (g0,kk) m).2 bs (Bw L bs.length (g0,kk) m).1 0 ((K:Int)-(m:Int)) 0 0 0 [] [] false)) (fun m=>m<=K) (fun m=>K+1-m) 0 (TG _) ?_;intro m hm;obtain⟨hg,hkm⟩:=hok m;simp only at hkm;by_cases h:m<K
 .have hit:Bw L bs.length (g0,kk) (m+1)=He L bs.length (Bw L bs.length (g0,kk) m):=rfl
  have next:∀st,Ren 4 st (Cd (qJ L (He L bs.length (Bw L bs.length (g0,kk) m)).2 bs (He L bs.length (Bw L bs.length (g0,kk) m)).1 0 ((K:Int)-((m+1:Nat):Int)) 0 0 0 [] [] false))->
    ∃j,Ren 4 st (Cd (qJ L (Bw L bs.length (g0,kk) j).2 bs (Bw L bs.length (g0,kk) j).1 0 ((K:Int)-(j:Int)) 0 0 0 [] [] false))/\j<=K/\K+1-j<K+1-m:=fun st hst=>⟨m+1,by rw[hit];exact hst,h,by omega⟩
  generalize Bw L bs.length (g0,kk) m=y at hg hkm next
  obtain⟨g,t⟩:=y;simp only at hg hkm next
  have ht:t<9223372036854775000:=by omega
  have n1:=A6 L t bs.length (by omega);have n2:=A6 L (t+1) bs.length (by omega);have n3:=A6 L (t+2) 3 (by omega);have r1:=Bd L t (bs.length:Int) (by omega) (by omega);have r2:=Bd L (t+1) (bs.length:Int) (by omega) (by omega);have hgl:=hg.len;have hj:=N9 (L:=L) hb2 (kk:=t);simp only[He] at next
  unfold jR at next hj
  unfold Hn at next
  generalize Ai L t (bs.length:Int)=x at n1 r1 next hj
  generalize Ai L (t+1) (bs.length:Int)=y at n2 r2 next hj
  generalize Ai L (t+2) 3=z at n3 next hj
  have hrow:(gL g)[0+x.toNat]?=some (.lst ((g.getD x.toNat []).map (AV.int .i64))):=by rw[TJ];exact CW (by omega)
  have hrl:(g.getD x.toNat []).length<=4:=(hg.row x.toNat (by omega)).1;have hll:=BU (g.getD x.toNat []);have hgll:=BD g;have w2:i64.wrap (x+2)=x+2:=A5 _ (by omega) (by omega);have wk:i64.wrap ((K:Int)-(m:Int)-1)=(K:Int)-((m+1:Nat):Int):=by rw[A5 _ (by omega) (by omega)];omega
  have dk:decide (0<(K:Int)-(m:Int))=true:=TA (by omega);have d2:decide (2<iN bs.length)=true:=TA (by simp only[iN];omega);have hz0:iN bs.length=0->False:=by simp only[iN];omega
  have hxl:x<iN g.length:=by simp only[iN];omega
  have hst:(0+x.toNat).succ.le (gL g).length:=by show(0+x.toNat).succ<=_;rw[hgll];omega
  have fin:∀(E:Int) (b1:Bool),(0<=E/\E<(bs.length:Int))->AC (g.getD x.toNat []) E=b1->CT Ux 26 [] [Uw (Uq (AV.int i64) (g.getD x.toNat [])),AV.int i64 E] [] (AV.bool b1):=fun E b1 _ he=>by rw[<-he];exact G6 _ _ (by omega)
  have eset:∀(E:Int) st,Ren 4 st (St.mk 98 [(0,AV.ptr 0 0 0),(1,AV.ptr 1 0 0),(4,AV.int i64 (iN bs.length)),(6,AV.int i64 ((K:Int)-((m+1:Nat):Int)))] [some (Ag L (t+2+1)),some (nJ bs g),some (bsB bs),some (Blk.mk ((gL g).set (0+x.toNat) (Uw (Uq (AV.int i64) (BI E (g.getD x.toNat []))))) 1 true true none)])->
    Ren 4 st (Cd (qJ L (t+3) bs (g.set x.toNat (BI E (g.getD x.toNat []))) 0 ((K:Int)-((m+1:Nat):Int)) 0 0 0 [] [] false)):=fun E st h=>by
   have e1:nJ bs (g.set x.toNat (BI E (g.getD x.toNat [])))=nJ bs g:=by unfold nJ;rw[T3]
   rw[PN] at h;unfold Cd hJ;simp only[qJ];rw[e1];exact h
  by_cases hz:0<z
  .have eE:(x+2).tmod (bs.length:Int)=(i64.wrap (x+2)).tmod (iN bs.length):=by rw[w2]
   rw[Ts hz,eE] at hj;simp only[Ts hz,eE] at next
   by_cases hx:x=(i64.wrap (x+2)).tmod (iN bs.length)
   .rw[Ts hx] at next
    refine T.path mix (jsl_3 (qJ L t bs g 0 ((K:Int)-(m:Int)) x y z (g.getD x.toNat []) [] false) dk d2 n1 n2 n3 (TA hz) hz0 (by simp only[qJ];rw[bne_eq_false_iff_eq];exact hx) ?_);intro st hst;simp only[qJ,wk] at hst;exact next st hst
   .rw[Tt hx] at next
    have hxn:(x != (i64.wrap (x+2)).tmod (iN bs.length))=true:=by simpa using hx
    generalize hEE:(i64.wrap (x+2)).tmod (iN bs.length)=E at hj next
    have fE:=fin E _ hj rfl;rw[<-hEE] at fE;cases hh:AC (g.getD x.toNat []) E with
    | true=>
     rw[Ts hh] at next
     rw[hEE,hh,<-hEE] at fE;refine T.path mix (jsl_2 (qJ L t bs g 0 ((K:Int)-(m:Int)) x y z (g.getD x.toNat []) [] true) dk d2 n1 n2 n3 (TA hz) hz0 hxn r1.1 hxl hrow fE rfl ?_);intro st hst;simp only[qJ,wk] at hst;exact next st hst
    | false=>
     rw[Tt (by rw[hh];simp)] at next
     rw[hEE,hh,<-hEE] at fE;by_cases hl4:(g.getD x.toNat []).length<4
     .rw[Ts hl4] at next
      have fI:=O2 (g.getD x.toNat []) E (by omega);refine T.path mix (jsl_0 (qJ L t bs g 0 ((K:Int)-(m:Int)) x y z (g.getD x.toNat []) (BI E (g.getD x.toNat [])) false) dk d2 n1 n2 n3 (TA hz) hz0 hxn r1.1 hxl hrow fE rfl (TA (by simp only[qJ,iN,hll];omega)) (by simp only[qJ];rw[hEE];exact fI) hst ?_);intro st hst;simp only[qJ,wk] at hst;exact next st (eset E st hst)
     .rw[Tt hl4] at next
      refine T.path mix (jsl_1 (qJ L t bs g 0 ((K:Int)-(m:Int)) x y z (g.getD x.toNat []) [] false) dk d2 n1 n2 n3 (TA hz) hz0 hxn r1.1 hxl hrow fE rfl (Tz (by simp only[qJ,iN,hll];omega)) ?_);intro st hst;simp only[qJ,wk] at hst;exact next st hst
  .rw[Tt hz] at hj;simp only[Tt hz] at next
   by_cases hx:x=y
   .rw[Ts hx] at next
    refine T.path mix (jsl_7 (qJ L t bs g 0 ((K:Int)-(m:Int)) x y z (g.getD x.toNat []) [] false) dk d2 n1 n2 n3 (Tz hz) (by simp only[qJ];rw[bne_eq_false_iff_eq];exact hx) ?_);intro st hst;simp only[qJ,wk] at hst;exact next st hst
   .rw[Tt hx] at next
    have hxn:(x != y)=true:=by simpa using hx
    have fE:=fin y _ hj rfl;cases hh:AC (g.getD x.toNat []) y with
    | true=>
     rw[Ts hh] at next
     rw[hh] at fE;refine T.path mix (jsl_6 (qJ L t bs g 0 ((K:Int)-(m:Int)) x y z (g.getD x.toNat []) [] true) dk d2 n1 n2 n3 (Tz hz) hxn r1.1 hxl hrow fE rfl ?_);intro st hst;simp only[qJ,wk] at hst;exact next st hst
    | false=>
     rw[Tt (by rw[hh];simp)] at next
     rw[hh] at fE;by_cases hl4:(g.getD x.toNat []).length<4
     .rw[Ts hl4] at next
      have fI:=O2 (g.getD x.toNat []) y (by omega);refine T.path mix (jsl_4 (qJ L t bs g 0 ((K:Int)-(m:Int)) x y z (g.getD x.toNat []) (BI y (g.getD x.toNat [])) false) dk d2 n1 n2 n3 (Tz hz) hxn r1.1 hxl hrow fE rfl (TA (by simp only[qJ,iN,hll];omega)) fI hst ?_);intro st hst;simp only[qJ,wk] at hst;exact next st (eset y st hst)
     .rw[Tt hl4] at next
      refine T.path mix (jsl_5 (qJ L t bs g 0 ((K:Int)-(m:Int)) x y z (g.getD x.toNat []) [] false) dk d2 n1 n2 n3 (Tz hz) hxn r1.1 hxl hrow fE rfl (Tz (by simp only[qJ,iN,hll];omega)) ?_);intro st hst;simp only[qJ,wk] at hst;exact next st hst
 .obtain rfl:m=K:=by omega
  exact T.out mix (jsl_9 (qJ L (Bw L bs.length (g0,kk) m).2 bs (Bw L bs.length (g0,kk) m).1 0 ((m:Int)-(m:Int)) 0 0 0 [] [] false) (Tz (by simp only[qJ];omega)))
def Bf(L:List Int)(b kk:Nat):List (List Int)×Nat:=if b<=1 then (Ba b 0,kk+1) else if b=2 then (Ba b b,kk+1) else Bw L b (Ba b b,kk+1) (Ai L kk 4).toNat
def Rng(b:Nat)(g:List (List Int)):Prop:=1<b->∀i,i<b->(((i+1) % b:Nat):Int)∈g.getD i []
theorem addR_rng{b:Nat}{g:List (List Int)}(h:Rng b g)(x j:Int):Rng b (Hn x j g):=by
 unfold Hn;split
 .exact h
 split
 .exact h
 split
 .intro hb i hi;have:=h hb i hi;rw[Tv,Un];split
  .rename_i e;subst e;split
   .exact Mq.2 (.inr this)
   .rename_i h2;rw[Tv,TU (by omega)] at this;cases this
  .rw[<-Tv];exact this
 .exact h
theorem NO{L:List Int}{b:Nat}{y:List (List Int)×Nat}(h:Rng b y.1):∀n,Rng b (Bw L b y n).1 | 0=>h | n+1=>addR_rng (NO h n) _ _
theorem Qb(b:Nat):Rng b (Ba b b):=fun _ i hi=>by rw[Ln hi,Ts hi];exact Tj.2 rfl
theorem R0(L:List Int)(b kk:Nat):Rng b (Bf L b kk).1:=by
 unfold Bf;split
 .intro h;omega
 split
 .exact Qb b
 .exact NO (Qb b) _
theorem OA{L:List Int}{b kk:Nat}(hb:1<=b/\b<=24):GI b 4 (Bf L b kk).1/\kk<=(Bf L b kk).2/\(Bf L b kk).2<=kk+13:=by
 unfold Bf;have hr:=Bd L kk 4 (by omega) (by omega);split
 .exact⟨Rn b,by simp only;omega,by simp only;omega⟩
 split
 .exact⟨Mf (by omega) b,by simp only;omega,by simp only;omega⟩
 .obtain⟨h1,h2⟩:=OE (L:=L) hb (y:=(Ba b b,kk+1)) (Mf (by omega) b) (Ai L kk 4).toNat;exact⟨h1,by rw[h2];simp only;omega,by rw[h2];simp only;omega⟩
theorem ring_ct{L:List Int}{bs:List AO}(hb:1<=bs.length/\bs.length<=24)(kk:Nat)(hkk:kk<=90000):
  CT Ux 57 [some (Ag L kk),some (nJ bs (Ba bs.length 0)),some (bsB bs),some (gB (Ba bs.length 0))] [.ptr 0 0 0,.ptr 1 0 0]
   [some (Ag L (Bf L bs.length kk).2),some (nJ bs (Bf L bs.length kk).1),some (bsB bs),some (gB (Bf L bs.length kk).1)] (.tup []):=by
 have hbd:Try.f57.body=some (zB Try.f57):=by kernel_rfl
 have n1:=A6 L kk 4 (by omega);have hr:=Bd L kk 4 (by omega) (by omega);have enJ:∀i,nJ bs (Ba bs.length i)=nJ bs (Ba bs.length 0):=fun i=>by unfold nJ;rw[Ie,Ie]
 refine CT.path mix Try.func57 hbd (nL rfl) (jri_0 (qJ L kk bs (Ba bs.length 0) 0 0 0 0 0 [] [] false) ?_);refine T.loop (fun i:Nat=>Ii (qJ L kk bs (Ba bs.length i) i 0 0 0 0 [] [] false)) (fun i=>i<=bs.length/\(0<i->2<=bs.length)) (fun i=>bs.length+1-i) 0 ⟨TG _,fun h=>by omega⟩ ?_
 rintro i ⟨hi,hi2⟩
 have hgl:=BD (Ba bs.length i);have hrl:=Ie bs.length i;have leave:∀g,g=Ba bs.length i->(i=bs.length\/bs.length<=1)->T Ux 4 (.loop (zC (zB Try.f57) 1)) (Cd (qJ L (kk+1) bs g 0 (Ai L kk 4) 0 0 0 [] [] false)) (TK Ux 4 (Fin Ux Try.f57 4 [some (Ag L (Bf L bs.length kk).2),some (nJ bs (Bf L bs.length kk).1),some (bsB bs),some (gB (Bf L bs.length kk).1)] (.tup [])) (zK (zB Try.f57) 1)):=by
  intro g hg hor;by_cases h3:3<=bs.length
  .have hib:i=bs.length:=by omega
   have e:Bf L bs.length kk=Bw L bs.length (Ba bs.length bs.length,kk+1) (Ai L kk 4).toNat:=by unfold Bf;rw[Tt (by omega),Tt (by omega)]
   rw[e,hg,hib];have:=js_run (L:=L) (bs:=bs) ⟨h3,hb.2⟩ (kk+1) (by omega) (Ai L kk 4).toNat (by omega) (Mf (by omega) bs.length);rw[TX hr.1] at this;exact this
  .have e:Bf L bs.length kk=(g,kk+1):=by
    unfold Bf;by_cases h1:bs.length<=1
    .rw[Ts h1,hg]
     have:i=0:=by by_cases h0:0<i
                  .have:=hi2 h0;omega
                  .omega
     rw[this]
    .rw[Tt h1,Ts (by omega),hg];have:i=bs.length:=by omega
     rw[this]
   rw[e];refine T.loop (fun _:Unit=>Cd (qJ L (kk+1) bs g 0 (Ai L kk 4) 0 0 0 [] [] false)) (fun _=>True) (fun _=>0) () trivial ?_;intro _ _;by_cases hk0:0<Ai L kk 4
   .exact T.out mix (jsl_8 (qJ L (kk+1) bs g 0 (Ai L kk 4) 0 0 0 [] [] false) (TA hk0) (Tz (by simp only[qJ,iN];omega)))
   .exact T.out mix (jsl_9 (qJ L (kk+1) bs g 0 (Ai L kk 4) 0 0 0 [] [] false) (Tz hk0))
 by_cases h:i<bs.length
 .by_cases h1:1<bs.length
  .refine T.path mix (jrl_0 (qJ L kk bs (Ba bs.length i) i 0 0 0 0 [] [] false) (TA (by simp only[qJ,iN];omega)) (TA (by simp only[qJ,iN];omega)) (by simp only[qJ,iN];omega) (by simp[iN]) (by simp only[qJ,iN,hrl];omega) (by show(0+(iN i).toNat).succ<=_;simp only[qJ,hgl,hrl,iN,TD];omega) ?_);intro st hst;have wi:i64.wrap (iN i+1)=((i+1:Nat):Int):=zW i (by omega);have em1:(((i+1:Nat):Int).tmod (iN bs.length))=(((i+1) % bs.length:Nat):Int):=by rw[Int.tmod_eq_emod_of_nonneg (by omega)];simp[iN]
   refine⟨i+1,?_,⟨h,fun _=>h1⟩,by omega⟩;simp only[qJ,wi,em1] at hst;have es:(gL (Ba bs.length i)).set (0+(iN i).toNat) (Uw [iV (((i+1) % bs.length:Nat):Int)])=gL (Ba bs.length (i+1)):=by have:=PN (Ba bs.length i) i [(((i+1) % bs.length:Nat):Int)];rw[rng0_set h] at this;simpa [iN] using this
   rw[es] at hst;unfold Ii hJ;simp only[qJ];rw[enJ (i+1),<-enJ i];exact hst
  .refine T.out mix (jry_0 (qJ L kk bs (Ba bs.length i) i 0 (Ai L kk 4) 0 0 [] [] false) (TA (by simp only[qJ,iN];omega)) (Tz (by simp only[qJ,iN];omega)) n1 ?_);exact leave _ rfl (.inr (by omega))
 .refine T.out mix (jrx_0 (qJ L kk bs (Ba bs.length i) i 0 (Ai L kk 4) 0 0 [] [] false) (Tz (by simp only[qJ,iN];omega)) n1 ?_);exact leave _ rfl (.inl (by omega))
structure QA where
 L:List Int
 kk:Nat
 t1:Nat
 t2:Nat
 t3:Nat
 t4:Nat
 bs:List AO
 g:List (List Int)
 g2:List (List Int)
 ss:List Am
 rs:List Int
 k:Int
 base:Int
 u:ByteArray
 x:Int
 y:Int
 z:Int
 w:Int
 cg:Int
 cs:Int
 cc:Int
 fr:List Int
 i:Nat
 j:Nat
 s:Am
 b1:Bool
 v5:Int
def zB8:Blk:={es:=[.agg [.nils,.nils,.nils,.nils,.int .i64 0,.int .i64 0,.int .i64 0,.int .i64 0]],z:=8}
def nA1(bs:List AO)(g:List (List Int)):Blk:={es:=[.agg [.sl 3 0 bs.length,.sl 4 0 g.length,.nils,.nils,.int .i64 0,.int .i64 0,.int .i64 0,.int .i64 0]],z:=8,flat:=false}
def nA2(bs:List AO)(g:List (List Int))(ss:List Am):Blk:={es:=[.agg [.sl 3 0 bs.length,.sl 4 0 g.length,.sl 5 0 ss.length,.nils,.int .i64 0,.int .i64 0,.int .i64 0,.int .i64 0]],z:=8,flat:=false}
def ssB(ss:List Am):Blk:={es:=ss.map sA,z:=6}
def cA(q:QA):Nat->FuncId->List AV->List (Option Blk)->AN:=fun dst f args hp=>match f with
 | 15=>match args,dst with
  | [.ptr b _ _,_],21=>.call [b] [] [Ag q.L q.t1] (.int .i64 q.x)
  | [.ptr b _ _,_],36=>.call [b] [] [Ag q.L q.t1] (.int .i64 q.x)
  | [.ptr b _ _,_],39=>.call [b] [] [Ag q.L q.t2] (.int .i64 q.y)
  | [.ptr b _ _,_],56=>.call [b] [] [Ag q.L q.t2] (.int .i64 q.x)
  | [.ptr b _ _,_],75=>.call [b] [] [Ag q.L q.t1] (.int .i64 q.x)
  | [.ptr b _ _,_],83=>.call [b] [] [Ag q.L q.t2] (.int .i64 q.y)
  | [.ptr b _ _,_],88=>.call [b] [] [Ag q.L q.t3] (.int .i64 q.z)
  | [.ptr b _ _,_],105=>.call [b] [] [Ag q.L q.t1] (.int .i64 q.x)
  | [.ptr b _ _,_],108=>.call [b] [] [Ag q.L q.t2] (.int .i64 q.y)
  | [.ptr b _ _,_],110=>.call [b] [] [Ag q.L q.t3] (.int .i64 q.z)
  | [.ptr b _ _,_],112=>.call [b] [] [Ag q.L q.t4] (.int .i64 q.w)
  | [.ptr b _ _,_],122=>.call [b] [] [Ag q.L (q.t4+1)] (.int .i64 q.v5)
  | [.ptr b _ _,_],184=>.call [b] [] [Ag q.L q.t1] (.int .i64 q.x)
  | [.ptr b _ _,_],90=>.call [b] [] [Ag q.L q.t4] (.int .i64 q.w)
  | _,_=>.no
 | 56=>.call [] [] [] (.str q.u)
 | 58=>.call [] [3,4,5] [] (.tup [.agg [.int .i64 q.cg,.any,.int .i64 q.cs,.int .i64 q.cc],.int .i64 0])
 | 26=>match args with
  | [.sl b _ _,_]=>.call [] [b] [] (.bool q.b1)
  | _=>.call [] [] [] (.bool q.b1)
 | 57=>.call [0,2,3,4] [] [Ag q.L q.t1,nJ q.bs q.g2,bsB q.bs,gB q.g2] (.tup [])
 | _=>.no
def eA(q:QA):List (Nat×AV):=[(47,.tup []),(148,.int .i64 q.s.k),(157,.bool q.s.dep),(166,.int .i64 q.s.b),(186,.int .i64 q.y)]
def nA3(bs:List AO)(g:List (List Int))(ss:List Am)(x y z w:Int):Blk:={es:=[.agg [.sl 3 0 bs.length,.sl 4 0 g.length,.sl 5 0 ss.length,.nils,.int .i64 x,.int .i64 y,.int .i64 z,.int .i64 w]],z:=8,flat:=false}
def capB(a b c:Int):Blk:={es:=[.agg [.int .i64 a,.any,.int .i64 b,.int .i64 c]],z:=4}
def sN26(q:QA):St:={n:=Try.f28.ntmps,fr:=[(0,.ptr 0 0 0),(1,.int .i64 q.k)],hp:=[some (Ag q.L q.kk)]}
def Fu(q:QA):St:={n:=Try.f28.ntmps,fr:=[(0,.ptr 0 0 0),(4,.ptr 1 0 0),(5,.ptr 2 0 0),(6,.int .i64 q.k)],hp:=[some (Ag q.L q.kk),some zB8,some zB8]}
def CO(q:QA):St:={n:=Try.f28.ntmps,fr:=[(0,.ptr 0 0 0),(4,.ptr 1 0 0),(5,.ptr 2 0 0),(6,.int .i64 q.k)],hp:=[some (Ag q.L q.kk),some zB8,some (nA1 q.bs q.g),some (bsB q.bs),some (gB q.g)]}
def D2(q:QA):St:={n:=Try.f28.ntmps,fr:=[(0,.ptr 0 0 0),(4,.ptr 1 0 0),(5,.ptr 2 0 0),(8,.int .i64 q.base),(9,.int .i64 q.k)],hp:=[some (Ag q.L q.kk),some zB8,some (nA1 q.bs q.g),some (bsB q.bs),some (gB q.g)]}
def BX(q:QA):St:={n:=Try.f28.ntmps,fr:=[(0,.ptr 0 0 0),(4,.ptr 1 0 0),(5,.ptr 2 0 0),(8,.int .i64 q.base),(9,.int .i64 q.k)],hp:=[some (Ag q.L q.kk),some zB8,some (nA2 q.bs q.g q.ss),some (bsB q.bs),some (gB q.g),some (ssB q.ss)]}
def nA5(bs:List AO)(g:List (List Int))(ss:List Am)(rs:List Int)(x y z w:Int):Blk:={es:=[.agg [.sl 3 0 bs.length,.sl 4 0 g.length,.sl 5 0 ss.length,.sl 7 0 rs.length,.int .i64 x,.int .i64 y,.int .i64 z,.int .i64 w]],z:=8,flat:=false}
structure QF where
 L:List Int
 kk:Nat
 bs:List AO
 g:List (List Int)
 ss:List Am
 rs:List Int
 cx:Int
 cy:Int
 cz:Int
 cw:Int
 cg:Int
 cs:Int
 cc:Int
 k:Int
 fr:List Int
 i:Nat
 j:Nat
 s:Am
 b1:Bool
 x:Int
 y:Int
def cF(q:QF):Nat->FuncId->List AV->List (Option Blk)->AN:=fun dst f args hp=>match f with
 | 15=>match args with
  | [.ptr b _ _,_]=>.call [b] [] [Ag q.L (q.kk+1)] (.int .i64 q.x)
  | _=>.no
 | 26=>match args with
  | [.sl b _ _,_]=>.call [] [b] [] (.bool q.b1)
  | _=>.no
 | _=>.no
def eF2(q:QF):List (Nat×AV):=[(149,sA q.s),(157,sA q.s),(166,sA q.s),(186,.int .i64 q.y)]
def hF(q:QF):List (Option Blk):=[some (Ag q.L q.kk),some zB8,some (nA5 q.bs q.g q.ss q.rs q.cx q.cy q.cz q.cw),some (bsB q.bs),some (gB q.g),some (ssB q.ss),some (capB q.cg q.cs q.cc),some (dB q.rs)]
def Ce(q:QF):St:={n:=Try.f28.ntmps,fr:=[(0,.ptr 0 0 0),(4,.ptr 1 0 0),(5,.ptr 2 0 0),(12,.ptr 6 0 0),(14,.int .i64 q.k)],hp:=hF q}
def Cm(q:QF):St:={n:=Try.f28.ntmps,fr:=[(0,.ptr 0 0 0),(4,.ptr 1 0 0),(5,.ptr 2 0 0),(12,.ptr 6 0 0),(14,.int .i64 q.k),(15,.sl 8 0 q.fr.length),(16,.int .i64 (iN q.i))],hp:=hF q++[some (dB q.fr)]}
def Dx(q:QF):St:={n:=Try.f28.ntmps,fr:=[(0,.ptr 0 0 0),(4,.ptr 1 0 0),(5,.ptr 2 0 0),(12,.ptr 6 0 0),(14,.int .i64 q.k),(15,.sl 8 0 q.fr.length),(16,.int .i64 (iN q.i)),(17,.int .i64 (iN q.j))],hp:=hF q++[some (dB q.fr)]}
theorem nti_0(q:QA)(h1:(CT Ux 15 [some (Ag q.L q.kk)] [AV.ptr 0 0 0,iv q.k] [some (Ag q.L q.t1)] (iv q.x))){post:Exit->St->Prop}(ht:T Ux 1 (.loop (zC (zB Try.f28) 0)) (St.mk 191 [(0,AV.ptr 0 0 0),(4,AV.ptr 1 0 0),(5,AV.ptr 2 0 0),(6,iv (i64.wrap (1+q.x)))] [some (Ag q.L q.t1),some (Blk.mk [AV.agg [AV.nils,AV.nils,AV.nils,AV.nils,iv 0,iv 0,iv 0,iv 0]] 8 true true none),some (Blk.mk [AV.agg [AV.nils,AV.nils,AV.nils,AV.nils,iv 0,iv 0,iv 0,iv 0]] 8 true true none)]) (TK Ux 1 post (zK (zB Try.f28) 0))):GoP Ux (hU [] (eA q) (cA q)) 1 (zB Try.f28) (sN26 q) post:=zR (σ:=[0,1,2]) (fz:=[]) (vars:=[0,4,5,6]) (by kernel_rfl) (aj (u2 (u2 (al (u2 (u2 (aj (k5 (al h1)) (u2 s2))))))) t8) ht
theorem ntl_0(q:QA)(h1:(decide (0<q.k)=true))(h2:(CT Ux 56 [] [iv (iN q.bs.length)] [] (AV.str q.u)))(h3:((1+q.u.size).le 9223372036854775807))(h4:(CT Ux 15 [some (Ag q.L q.kk)] [AV.ptr 0 0 0,iv 9] [some (Ag q.L q.t1)] (iv q.x)))(h5:(CT Ux 15 [some (Ag q.L q.t1)] [AV.ptr 0 0 0,iv 9] [some (Ag q.L q.t2)] (iv q.y)))(h6:((Uq bA q.bs).length=q.bs.length))(h7:(1<=[AV.agg [AV.str (ByteArray.mk #[98]++q.u),iv (i64.wrap (q.x-4)),iv (i64.wrap (q.y-4))]].length))(h8:((Uq bA q.bs).length+[AV.agg [AV.str (ByteArray.mk #[98]++q.u),iv (i64.wrap (q.x-4)),iv (i64.wrap (q.y-4))]].length<=9223372036854775807))(h9:(((Uq bA q.bs).length+[AV.agg [AV.str (ByteArray.mk #[98]++q.u),iv (i64.wrap (q.x-4)),iv (i64.wrap (q.y-4))]].length) * 32<=140737488355328))(h10:((gL q.g).length=q.g.length))(h11:((gL q.g).length+1<=9223372036854775807))(h12:(((gL q.g).length+1) * 24<=140737488355328)){post:Exit->St->Prop}{R:St->Prop}(hR:∀st,Ren 1 st (St.mk 191 [(0,AV.ptr 0 0 0),(4,AV.ptr 1 0 0),(5,AV.ptr 2 0 0),(6,iv (i64.wrap (q.k-1)))] [some (Ag q.L q.t2),some (Blk.mk [AV.agg [AV.nils,AV.nils,AV.nils,AV.nils,iv 0,iv 0,iv 0,iv 0]] 8 true true none),some (Blk.mk [AV.agg [AV.sl 3 0 ((Uq bA q.bs).length+[AV.agg [AV.str (ByteArray.mk #[98]++q.u),iv (i64.wrap (q.x-4)),iv (i64.wrap (q.y-4))]].length),AV.sl 4 0 ((gL q.g).length+1),AV.nils,AV.nils,iv 0,iv 0,iv 0,iv 0]] 8 false true none),some (Blk.mk (Uq bA q.bs++[AV.agg [AV.str (ByteArray.mk #[98]++q.u),iv (i64.wrap (q.x-4)),iv (i64.wrap (q.y-4))]]) 3 true true none),some (Blk.mk (gL q.g++[Uw []]) 1 true true none)])->R st):GoP Ux (hU [49] (eA q) (cA q)) 1 (zC (zB Try.f28) 0) (CO q) (andThen R post):=zN (σ:=[0,1,2,6,8]) (fz:=[]) (vars:=[0,4,5,6]) (by kernel_rfl) (aj (aj (u2 s2) (aj h1 (aj (u2 (u2 (u2 s2))) (aj (u2 (u2 (u2 (aj (k2 (al h2)) (aj (ak h3) (u2 (aj (ak (k3 (al h4))) (u2 (u2 (aj (ak (k3 (al h5))) (u2 (aj t4 (u2 (aj (k2 (aj h6 (aj (aj (show(nat_lit 3=nat_lit 3) by first | decide | exact S9 _) h7) (aj h8 h9)))) (u2 (al t3)))))))))))))))) (aj (u2 (u2 (ak (aj (k2 (aj h10 (aj (aj (show(nat_lit 1=nat_lit 1) by first | decide | exact S9 _) (show(nat_lit 1<=nat_lit 1) by first | exact nL rfl | decide)) (aj h11 h12)))) (u2 (al t3)))))) (al (u2 (u2 s2)))))))) (ak (k5 (aj (al t9) t3)))) hR
theorem ntx_0(q:QA)(h1:(decide (0<q.k)=false))(h2:(CT Ux 57 [some (Ag q.L q.kk),some (Blk.mk [AV.agg [AV.sl 2 0 q.bs.length,AV.sl 3 0 q.g.length,AV.nils,AV.nils,iv 0,iv 0,iv 0,iv 0]] 8 false true none),some (Blk.mk (Uq bA q.bs) 3 true true none),some (Blk.mk (gL q.g) 1 true true none)] [AV.ptr 0 0 0,AV.ptr 1 0 0] [some (Ag q.L q.t1),some (Blk.mk [AV.agg [AV.sl 2 0 q.bs.length,AV.sl 3 0 q.g2.length,AV.nils,AV.nils,iv 0,iv 0,iv 0,iv 0]] 8 false true none),some (Blk.mk (Uq bA q.bs) 3 true true none),some (Blk.mk (gL q.g2) 1 true true none)] (AV.tup [])))(h3:(CT Ux 15 [some (Ag q.L q.t1)] [AV.ptr 0 0 0,iv 3] [some (Ag q.L q.t2)] (iv q.x))){post:Exit->St->Prop}(ht:T Ux 1 (.loop (zC (zB Try.f28) 1)) (St.mk 191 [(0,AV.ptr 0 0 0),(4,AV.ptr 1 0 0),(5,AV.ptr 2 0 0),(8,iv (iN q.bs.length)),(9,iv (i64.wrap (3+q.x)))] [some (Ag q.L q.t2),some (Blk.mk [AV.agg [AV.nils,AV.nils,AV.nils,AV.nils,iv 0,iv 0,iv 0,iv 0]] 8 true true none),some (Blk.mk [AV.agg [AV.sl 3 0 q.bs.length,AV.sl 4 0 q.g2.length,AV.nils,AV.nils,iv 0,iv 0,iv 0,iv 0]] 8 false true none),some (Blk.mk (Uq bA q.bs) 3 true true none),some (Blk.mk (gL q.g2) 1 true true none)]) (TK Ux 1 post (zK (zB Try.f28) 1))):GoO Ux (hU [48] (eA q) (cA q)) 1 (zC (zB Try.f28) 0) (zK (zB Try.f28) 0) (CO q) post:=zR (σ:=[0,1,2,3,4]) (fz:=[]) (vars:=[0,4,5,8,9]) (by kernel_rfl) (aj (aj (aj (u2 s2) (al h1)) (aj (u2 (al (k5 (aj (al t9) (k2 (al h2)))))) (aj (u2 (u2 (u2 s2))) (al (u2 (aj (ak (k3 (al h3))) (u2 s2))))))) (k2 (k5 (aj (al t9) t3)))) ht
theorem nul_0(q:QA)(h1:(decide (0<q.k)=true))(h2:(CT Ux 56 [] [iv (iN q.ss.length)] [] (AV.str q.u)))(h3:((1+q.u.size).le 9223372036854775807))(h4:((iN q.ss.length==0)=true))(h5:(CT Ux 15 [some (Ag q.L q.kk)] [AV.ptr 0 0 0,iv (iN q.bs.length)] [some (Ag q.L q.t2)] (iv q.y)))(h6:(CT Ux 15 [some (Ag q.L q.t2)] [AV.ptr 0 0 0,iv (iN q.bs.length)] [some (Ag q.L q.t3)] (iv q.z)))(h7:(CT Ux 15 [some (Ag q.L q.t3)] [AV.ptr 0 0 0,iv 3] [some (Ag q.L q.t4)] (iv q.w)))(h8:((Uq sA q.ss).length=q.ss.length))(h9:(1<=[AV.agg [AV.str (ByteArray.mk #[115]++q.u),AV.bool true,iv q.y,iv q.z,iv (i64.wrap (1+q.w)),iv q.base]].length))(h10:((Uq sA q.ss).length+[AV.agg [AV.str (ByteArray.mk #[115]++q.u),AV.bool true,iv q.y,iv q.z,iv (i64.wrap (1+q.w)),iv q.base]].length<=9223372036854775807))(h11:(((Uq sA q.ss).length+[AV.agg [AV.str (ByteArray.mk #[115]++q.u),AV.bool true,iv q.y,iv q.z,iv (i64.wrap (1+q.w)),iv q.base]].length) * 56<=140737488355328)){post:Exit->St->Prop}{R:St->Prop}(hR:∀st,Ren 1 st (St.mk 191 [(0,AV.ptr 0 0 0),(4,AV.ptr 1 0 0),(5,AV.ptr 2 0 0),(8,iv (i64.wrap (q.base+i64.wrap (1+q.w)))),(9,iv (i64.wrap (q.k-1)))] [some (Ag q.L q.t4),some (Blk.mk [AV.agg [AV.nils,AV.nils,AV.nils,AV.nils,iv 0,iv 0,iv 0,iv 0]] 8 true true none),some (Blk.mk [AV.agg [AV.sl 3 0 q.bs.length,AV.sl 4 0 q.g.length,AV.sl 5 0 ((Uq sA q.ss).length+[AV.agg [AV.str (ByteArray.mk #[115]++q.u),AV.bool true,iv q.y,iv q.z,iv (i64.wrap (1+q.w)),iv q.base]].length),AV.nils,iv 0,iv 0,iv 0,iv 0]] 8 false true none),some (Blk.mk (Uq bA q.bs) 3 true true none),some (Blk.mk (gL q.g) 1 true true none),some (Blk.mk (Uq sA q.ss++[AV.agg [AV.str (ByteArray.mk #[115]++q.u),AV.bool true,iv q.y,iv q.z,iv (i64.wrap (1+q.w)),iv q.base]]) 6 true true none)])->R st):GoP Ux (hU [119,141] (eA q) (cA q)) 1 (zC (zB Try.f28) 1) (BX q) (andThen R post):=zN (σ:=[0,1,2,3,4,8]) (fz:=[]) (vars:=[0,4,5,8,9]) (by kernel_rfl) (aj (aj (u2 s2) (aj h1 (aj (u2 (u2 (u2 s2))) (aj (u2 (aj (k2 (al h2)) (aj (ak h3) (u2 (u2 (u2 (aj h4 (aj h4 (aj h4 (k3 (aj h4 (ag h4 (u2 (u2 (u2 (u2 (aj (k5 (al h5)) (u2 (u2 (u2 (u2 (aj (k5 (al h6)) (u2 (aj (ak (k3 (al h7))) (u2 (u2 (aj t7 (ak (al (k2 (show Nat.le (nat_lit 1) (nat_lit 1) from nL rfl))))))))))))))))))))))))))))))) (aj (u2 (u2 (u2 (aj t3 s2)))) (aj (u2 (u2 (u2 (u2 (aj (k2 (aj h8 (aj (aj (show(nat_lit 6=nat_lit 6) by first | decide | exact S9 _) h9) (aj h10 h11)))) (u2 (al t3))))))) (al (u2 (u2 s2))))))))) (k2 (k5 (aj (al t9) t4)))) hR
theorem nul_1(q:QA)(h1:(decide (0<q.k)=true))(h2:(CT Ux 56 [] [iv (iN q.ss.length)] [] (AV.str q.u)))(h3:((1+q.u.size).le 9223372036854775807))(h4:((iN q.ss.length==0)=false))(h5:(decide (2<iN q.ss.length)=true))(h6:(CT Ux 15 [some (Ag q.L q.kk)] [AV.ptr 0 0 0,iv 2] [some (Ag q.L q.t1)] (iv q.x)))(h7:(CT Ux 15 [some (Ag q.L q.t1)] [AV.ptr 0 0 0,iv (iN q.bs.length)] [some (Ag q.L q.t2)] (iv q.y)))(h8:(CT Ux 15 [some (Ag q.L q.t2)] [AV.ptr 0 0 0,iv (iN q.bs.length)] [some (Ag q.L q.t3)] (iv q.z)))(h9:(CT Ux 15 [some (Ag q.L q.t3)] [AV.ptr 0 0 0,iv 3] [some (Ag q.L q.t4)] (iv q.w)))(h10:((Uq sA q.ss).length=q.ss.length))(h11:(1<=[AV.agg [AV.str (ByteArray.mk #[115]++q.u),AV.bool (q.x==0),iv q.y,iv q.z,iv (i64.wrap (1+q.w)),iv q.base]].length))(h12:((Uq sA q.ss).length+[AV.agg [AV.str (ByteArray.mk #[115]++q.u),AV.bool (q.x==0),iv q.y,iv q.z,iv (i64.wrap (1+q.w)),iv q.base]].length<=9223372036854775807))(h13:(((Uq sA q.ss).length+[AV.agg [AV.str (ByteArray.mk #[115]++q.u),AV.bool (q.x==0),iv q.y,iv q.z,iv (i64.wrap (1+q.w)),iv q.base]].length) * 56<=140737488355328)){post:Exit->St->Prop}{R:St->Prop}(hR:∀st,Ren 1 st (St.mk 191 [(0,AV.ptr 0 0 0),(4,AV.ptr 1 0 0),(5,AV.ptr 2 0 0),(8,iv (i64.wrap (q.base+i64.wrap (1+q.w)))),(9,iv (i64.wrap (q.k-1)))] [some (Ag q.L q.t4),some (Blk.mk [AV.agg [AV.nils,AV.nils,AV.nils,AV.nils,iv 0,iv 0,iv 0,iv 0]] 8 true true none),some (Blk.mk [AV.agg [AV.sl 3 0 q.bs.length,AV.sl 4 0 q.g.length,AV.sl 5 0 ((Uq sA q.ss).length+[AV.agg [AV.str (ByteArray.mk #[115]++q.u),AV.bool (q.x==0),iv q.y,iv q.z,iv (i64.wrap (1+q.w)),iv q.base]].length),AV.nils,iv 0,iv 0,iv 0,iv 0]] 8 false true none),some (Blk.mk (Uq bA q.bs) 3 true true none),some (Blk.mk (gL q.g) 1 true true none),some (Blk.mk (Uq sA q.ss++[AV.agg [AV.str (ByteArray.mk #[115]++q.u),AV.bool (q.x==0),iv q.y,iv q.z,iv (i64.wrap (1+q.w)),iv q.base]]) 6 true true none)])->R st):GoP Ux (hU [119,140,147] (eA q) (cA q)) 1 (zC (zB Try.f28) 1) (BX q) (andThen R post):=zN (σ:=[0,1,2,3,4,8]) (fz:=[]) (vars:=[0,4,5,8,9]) (by kernel_rfl) (aj (aj (u2 s2) (aj h1 (aj (u2 (u2 (u2 s2))) (aj (u2 (aj (k2 (al h2)) (aj (ak h3) (u2 (u2 (u2 (ag h4 (ag h4 (ag h4 (ag h5 (aj (aj h5 (ak (k3 (al h6)))) (ag h5 (aj (aj h4 (aj h5 t2)) (ag h4 (u2 (u2 (u2 (u2 (aj (k5 (al h7)) (u2 (u2 (u2 (u2 (aj (k5 (al h8)) (u2 (aj (ak (k3 (al h9))) (u2 (u2 (aj t7 (ak (al (k2 (show Nat.le (nat_lit 1) (nat_lit 1) from nL rfl))))))))))))))))))))))))))))))))) (aj (u2 (u2 (u2 (aj t3 s2)))) (aj (u2 (u2 (u2 (u2 (aj (k2 (aj h10 (aj (aj (show(nat_lit 6=nat_lit 6) by first | decide | exact S9 _) h11) (aj h12 h13)))) (u2 (al t3))))))) (al (u2 (u2 s2))))))))) (k2 (k5 (aj (al t9) t4)))) hR
theorem nul_2(q:QA)(h1:(decide (0<q.k)=true))(h2:(CT Ux 56 [] [iv (iN q.ss.length)] [] (AV.str q.u)))(h3:((1+q.u.size).le 9223372036854775807))(h4:((iN q.ss.length==0)=false))(h5:(decide (2<iN q.ss.length)=false))(h6:(CT Ux 15 [some (Ag q.L q.kk)] [AV.ptr 0 0 0,iv (iN q.bs.length)] [some (Ag q.L q.t2)] (iv q.y)))(h7:(CT Ux 15 [some (Ag q.L q.t2)] [AV.ptr 0 0 0,iv (iN q.bs.length)] [some (Ag q.L q.t3)] (iv q.z)))(h8:(CT Ux 15 [some (Ag q.L q.t3)] [AV.ptr 0 0 0,iv 3] [some (Ag q.L q.t4)] (iv q.w)))(h9:((Uq sA q.ss).length=q.ss.length))(h10:(1<=[AV.agg [AV.str (ByteArray.mk #[115]++q.u),AV.bool false,iv q.y,iv q.z,iv (i64.wrap (1+q.w)),iv q.base]].length))(h11:((Uq sA q.ss).length+[AV.agg [AV.str (ByteArray.mk #[115]++q.u),AV.bool false,iv q.y,iv q.z,iv (i64.wrap (1+q.w)),iv q.base]].length<=9223372036854775807))(h12:(((Uq sA q.ss).length+[AV.agg [AV.str (ByteArray.mk #[115]++q.u),AV.bool false,iv q.y,iv q.z,iv (i64.wrap (1+q.w)),iv q.base]].length) * 56<=140737488355328)){post:Exit->St->Prop}{R:St->Prop}(hR:∀st,Ren 1 st (St.mk 191 [(0,AV.ptr 0 0 0),(4,AV.ptr 1 0 0),(5,AV.ptr 2 0 0),(8,iv (i64.wrap (q.base+i64.wrap (1+q.w)))),(9,iv (i64.wrap (q.k-1)))] [some (Ag q.L q.t4),some (Blk.mk [AV.agg [AV.nils,AV.nils,AV.nils,AV.nils,iv 0,iv 0,iv 0,iv 0]] 8 true true none),some (Blk.mk [AV.agg [AV.sl 3 0 q.bs.length,AV.sl 4 0 q.g.length,AV.sl 5 0 ((Uq sA q.ss).length+[AV.agg [AV.str (ByteArray.mk #[115]++q.u),AV.bool false,iv q.y,iv q.z,iv (i64.wrap (1+q.w)),iv q.base]].length),AV.nils,iv 0,iv 0,iv 0,iv 0]] 8 false true none),some (Blk.mk (Uq bA q.bs) 3 true true none),some (Blk.mk (gL q.g) 1 true true none),some (Blk.mk (Uq sA q.ss++[AV.agg [AV.str (ByteArray.mk #[115]++q.u),AV.bool false,iv q.y,iv q.z,iv (i64.wrap (1+q.w)),iv q.base]]) 6 true true none)])->R st):GoP Ux (hU [119,140,146] (eA q) (cA q)) 1 (zC (zB Try.f28) 1) (BX q) (andThen R post):=zN (σ:=[0,1,2,3,4,8]) (fz:=[]) (vars:=[0,4,5,8,9]) (by kernel_rfl) (aj (aj (u2 s2) (aj h1 (aj (u2 (u2 (u2 s2))) (aj (u2 (aj (k2 (al h2)) (aj (ak h3) (u2 (u2 (u2 (ag h4 (ag h4 (ag h4 (aj h5 (aj h5 (aj h5 (aj (aj h4 (aj h5 t2)) (ag h4 (u2 (u2 (u2 (u2 (aj (k5 (al h6)) (u2 (u2 (u2 (u2 (aj (k5 (al h7)) (u2 (aj (ak (k3 (al h8))) (u2 (u2 (aj t7 (ak (al (k2 (show Nat.le (nat_lit 1) (nat_lit 1) from nL rfl))))))))))))))))))))))))))))))))) (aj (u2 (u2 (u2 (aj t3 s2)))) (aj (u2 (u2 (u2 (u2 (aj (k2 (aj h9 (aj (aj (show(nat_lit 6=nat_lit 6) by first | decide | exact S9 _) h10) (aj h11 h12)))) (u2 (al t3))))))) (al (u2 (u2 s2))))))))) (k2 (k5 (aj (al t9) t4)))) hR
theorem nux_0(q:QA)(h1:(decide (0<q.k)=false))(h2:(CT Ux 15 [some (Ag q.L q.kk)] [AV.ptr 0 0 0,iv 4] [some (Ag q.L q.t1)] (iv q.x)))(h3:(CT Ux 15 [some (Ag q.L q.t1)] [AV.ptr 0 0 0,iv 3] [some (Ag q.L q.t2)] (iv q.y)))(h4:(CT Ux 15 [some (Ag q.L q.t2)] [AV.ptr 0 0 0,iv 3] [some (Ag q.L q.t3)] (iv q.z)))(h5:(CT Ux 15 [some (Ag q.L q.t3)] [AV.ptr 0 0 0,iv 8] [some (Ag q.L q.t4)] (iv q.w)))(h6:(q.bs.length=(Uq bA q.bs).length))(h7:(q.g.length=(gL q.g).length))(h8:(q.ss.length=(Uq sA q.ss).length))(h9:(CT Ux 58 [] [AV.agg [Uw (Uq bA q.bs),Uw (gL q.g),Uw (Uq sA q.ss),AV.nils,iv (i64.wrap (1+q.x)),iv q.y,iv q.z,iv (i64.wrap (1+q.w))]] [] (AV.tup [AV.agg [iv q.cg,AV.any,iv q.cs,iv q.cc],iv 0])))(h10:(CT Ux 15 [some (Ag q.L q.t4)] [AV.ptr 0 0 0,iv 3] [some (Ag q.L (q.t4+1))] (iv q.v5))){post:Exit->St->Prop}(ht:T Ux 1 (.loop (zC (zB Try.f28) 2)) (St.mk 191 [(0,AV.ptr 0 0 0),(4,AV.ptr 1 0 0),(5,AV.ptr 2 0 0),(12,AV.ptr 6 0 0),(14,iv (i64.wrap (1+q.v5)))] [some (Ag q.L (q.t4+1)),some (Blk.mk [AV.agg [AV.nils,AV.nils,AV.nils,AV.nils,iv 0,iv 0,iv 0,iv 0]] 8 true true none),some (Blk.mk [AV.agg [AV.sl 3 0 q.bs.length,AV.sl 4 0 q.g.length,AV.sl 5 0 q.ss.length,AV.nils,iv (i64.wrap (1+q.x)),iv q.y,iv q.z,iv (i64.wrap (1+q.w))]] 8 false true none),some (Blk.mk (Uq bA q.bs) 3 true true none),some (Blk.mk (gL q.g) 1 true true none),some (Blk.mk (Uq sA q.ss) 6 true true none),some (Blk.mk [AV.agg [iv q.cg,AV.any,iv q.cs,iv q.cc]] 4 true true none)]) (TK Ux 1 post (zK (zB Try.f28) 2))):GoO Ux (hU [118] (eA q) (cA q)) 1 (zC (zB Try.f28) 1) (zK (zB Try.f28) 1) (BX q) post:=zR (σ:=[0,1,2,3,4,5,6]) (fz:=[]) (vars:=[0,4,5,12,14]) (by kernel_rfl) (aj (aj (aj (u2 s2) (al h1)) (aj (u2 (aj (ak (k3 (al h2))) (u2 (u2 (aj (ak (k3 (al h3))) (u2 (aj (ak (k3 (al h4))) (u2 (aj (ak (k3 (al h5))) (u2 (aj t5 (u2 (al t3))))))))))))) (aj (u2 (aj (ak (aj (aj h6 (aj h7 (aj h8 t6))) (aj h9 (show(∀(blk:Blk),blk∈[]->B2 blk) by intro _ h;cases h)))) (u2 (u2 (u2 (ak (aj (k2 (show Nat.le (nat_lit 1) (nat_lit 1) from nL rfl)) s2))))))) (al (u2 (aj (ak (k3 (al h10))) (u2 s2))))))) (k2 (k5 (aj (al t9) t5)))) ht
theorem nvl_0(q:QF)(h1:(decide (0<q.k)=true))(h2:(decide (iN q.rs.length<q.cc)=true)){post:Exit->St->Prop}(ht:T Ux 1 (.loop (zC (zC (zB Try.f28) 2) 0)) (St.mk 191 [(0,AV.ptr 0 0 0),(4,AV.ptr 1 0 0),(5,AV.ptr 2 0 0),(12,AV.ptr 6 0 0),(14,iv q.k),(15,AV.nils),(16,iv 0)] [some (Ag q.L q.kk),some (Blk.mk [AV.agg [AV.nils,AV.nils,AV.nils,AV.nils,iv 0,iv 0,iv 0,iv 0]] 8 true true none),some (Blk.mk [AV.agg [AV.sl 3 0 q.bs.length,AV.sl 4 0 q.g.length,AV.sl 5 0 q.ss.length,AV.sl 7 0 q.rs.length,iv q.cx,iv q.cy,iv q.cz,iv q.cw]] 8 false true none),some (Blk.mk (Uq bA q.bs) 3 true true none),some (Blk.mk (gL q.g) 1 true true none),some (Blk.mk (Uq sA q.ss) 6 true true none),some (Blk.mk [AV.agg [iv q.cg,AV.any,iv q.cs,iv q.cc]] 4 true true none),some (Blk.mk (Uq iv q.rs) 1 true true none)]) (TK Ux 1 post (zK (zC (zB Try.f28) 2) 0))):GoP Ux (hU [251,253,265,267] (eF2 q) (cF q)) 1 (zC (zB Try.f28) 2) (Ce q) post:=zR (σ:=[0,1,2,3,4,5,6,7]) (fz:=[]) (vars:=[0,4,5,12,14,15,16]) (by kernel_rfl) (aj (aj (u2 (u2 (aj (al h1) (ag (show(true=true) by first | decide | exact S9 _) (ag (show(true=true) by first | decide | exact S9 _) (ag (show(true=true) by first | decide | exact S9 _) (ag (show(true=true) by first | decide | exact S9 _) (ag (show(true=true) by first | decide | exact S9 _) (aj (aj (show(true=true) by first | decide | exact S9 _) t3) (al (aj (show(true=true) by first | decide | exact S9 _) (al h2)))))))))))) (aj (show(true=true) by first | decide | exact S9 _) (u2 s2))) (ak (k3 (k5 (aj (al t9) t6))))) ht
theorem nvx_0(q:QF)(h1:(decide (0<q.k)=false))(h2:(q.bs.length=(Uq bA q.bs).length))(h3:(q.g.length=(gL q.g).length))(h4:(q.ss.length=(Uq sA q.ss).length))(h5:(q.rs.length=(Uq iv q.rs).length)):GoO Ux (hU [250,252,266] (eF2 q) (cF q)) 1 (zC (zB Try.f28) 2) (zK (zB Try.f28) 2) (Ce q) (Fin Ux Try.f28 1 [some (Ag q.L q.kk)] (AV.agg [Uw (Uq bA q.bs),Uw (gL q.g),Uw (Uq sA q.ss),Uw (Uq iv q.rs),iv q.cx,iv q.cy,iv q.cz,iv q.cw])):=zF (σ:=[0]) (fz:=[3,4,5,7]) (by kernel_rfl) (aj (aj (aj (u2 (u2 (aj (al h1) (aj (show(false=false) by first | decide | exact S9 _) (aj (show(false=false) by first | decide | exact S9 _) (aj (show(false=false) by first | decide | exact S9 _) (aj (show(false=false) by first | decide | exact S9 _) (aj (show(false=false) by first | decide | exact S9 _) (aj (show(false=false) by first | decide | exact S9 _) (al (aj (show(false=false) by first | decide | exact S9 _) t2))))))))))) (al (show(false=false) by first | decide | exact S9 _))) (al (u2 (al (k2 (show Nat.le (nat_lit 1) (nat_lit 1) from nL rfl)))))) (aj (aj h2 (aj h3 (aj h4 (aj h5 t5)))) t2))
theorem nvy_0(q:QF)(h1:(decide (0<q.k)=true))(h2:(decide (iN q.rs.length<q.cc)=false))(h3:(q.bs.length=(Uq bA q.bs).length))(h4:(q.g.length=(gL q.g).length))(h5:(q.ss.length=(Uq sA q.ss).length))(h6:(q.rs.length=(Uq iv q.rs).length)):GoO Ux (hU [251,253,264,266] (eF2 q) (cF q)) 1 (zC (zB Try.f28) 2) (zK (zB Try.f28) 2) (Ce q) (Fin Ux Try.f28 1 [some (Ag q.L q.kk)] (AV.agg [Uw (Uq bA q.bs),Uw (gL q.g),Uw (Uq sA q.ss),Uw (Uq iv q.rs),iv q.cx,iv q.cy,iv q.cz,iv q.cw])):=zF (σ:=[0]) (fz:=[3,4,5,7]) (by kernel_rfl) (aj (aj (aj (u2 (u2 (aj (al h1) (ag (show(true=true) by first | decide | exact S9 _) (ag (show(true=true) by first | decide | exact S9 _) (ag (show(true=true) by first | decide | exact S9 _) (ag (show(true=true) by first | decide | exact S9 _) (ag (show(true=true) by first | decide | exact S9 _) (aj (aj (show(true=true) by first | decide | exact S9 _) t3) (al (aj (show(true=true) by first | decide | exact S9 _) (al h2)))))))))))) (al (show(false=false) by first | decide | exact S9 _))) (al (u2 (al (k2 (show Nat.le (nat_lit 1) (nat_lit 1) from nL rfl)))))) (aj (aj h3 (aj h4 (aj h5 (aj h6 t5)))) t2))
theorem nwl_0(q:QF)(h1:(decide (iN q.i<iN q.ss.length)=true)){post:Exit->St->Prop}(ht:T Ux 1 (.loop (zC (zC (zC (zB Try.f28) 2) 0) 0)) (St.mk 191 [(0,AV.ptr 0 0 0),(4,AV.ptr 1 0 0),(5,AV.ptr 2 0 0),(12,AV.ptr 6 0 0),(14,iv q.k),(15,AV.sl 8 0 q.fr.length),(16,iv (iN q.i)),(17,iv 0)] [some (Ag q.L q.kk),some (Blk.mk [AV.agg [AV.nils,AV.nils,AV.nils,AV.nils,iv 0,iv 0,iv 0,iv 0]] 8 true true none),some (Blk.mk [AV.agg [AV.sl 3 0 q.bs.length,AV.sl 4 0 q.g.length,AV.sl 5 0 q.ss.length,AV.sl 7 0 q.rs.length,iv q.cx,iv q.cy,iv q.cz,iv q.cw]] 8 false true none),some (Blk.mk (Uq bA q.bs) 3 true true none),some (Blk.mk (gL q.g) 1 true true none),some (Blk.mk (Uq sA q.ss) 6 true true none),some (Blk.mk [AV.agg [iv q.cg,AV.any,iv q.cs,iv q.cc]] 4 true true none),some (Blk.mk (Uq iv q.rs) 1 true true none),some (Blk.mk (Uq iv q.fr) 1 true true none)]) (TK Ux 1 post (zK (zC (zC (zB Try.f28) 2) 0) 0))):GoP Ux (hU [281] (eF2 q) (cF q)) 1 (zC (zC (zB Try.f28) 2) 0) (Cm q) post:=zR (σ:=[0,1,2,3,4,5,6,7,8]) (fz:=[]) (vars:=[0,4,5,12,14,15,16,17]) (by kernel_rfl) (aj (aj (u2 (u2 (u2 (u2 (al t3))))) (aj h1 s2)) (k5 (k5 (aj (al t9) t7)))) ht
theorem nwx_0(q:QF)(h1:(decide (iN q.i<iN q.ss.length)=false))(h2:(CT Ux 15 [some (Ag q.L q.kk)] [AV.ptr 0 0 0,iv (iN q.fr.length)] [some (Ag q.L (q.kk+1))] (iv q.x)))(h3:(0<=q.x))(h4:(q.x<iN q.fr.length))(h5:((Uq iv q.fr)[0+q.x.toNat]?=some (iv q.y)))(h6:((Uq iv q.rs).length=q.rs.length))(h7:(1<=[iv q.y].length))(h8:((Uq iv q.rs).length+[iv q.y].length<=9223372036854775807))(h9:(((Uq iv q.rs).length+[iv q.y].length) * 8<=140737488355328)){post:Exit->St->Prop}{R:St->Prop}(hR:∀st,Ren 1 st (St.mk 191 [(0,AV.ptr 0 0 0),(4,AV.ptr 1 0 0),(5,AV.ptr 2 0 0),(12,AV.ptr 6 0 0),(14,iv (i64.wrap (q.k-1)))] [some (Ag q.L (q.kk+1)),some (Blk.mk [AV.agg [AV.nils,AV.nils,AV.nils,AV.nils,iv 0,iv 0,iv 0,iv 0]] 8 true true none),some (Blk.mk [AV.agg [AV.sl 3 0 q.bs.length,AV.sl 4 0 q.g.length,AV.sl 5 0 q.ss.length,AV.sl 7 0 ((Uq iv q.rs).length+[iv q.y].length),iv q.cx,iv q.cy,iv q.cz,iv q.cw]] 8 false true none),some (Blk.mk (Uq bA q.bs) 3 true true none),some (Blk.mk (gL q.g) 1 true true none),some (Blk.mk (Uq sA q.ss) 6 true true none),some (Blk.mk [AV.agg [iv q.cg,AV.any,iv q.cs,iv q.cc]] 4 true true none),some (Blk.mk (Uq iv q.rs++[iv q.y]) 1 true true none)])->R st):GoO Ux (hU [280] (eF2 q) (cF q)) 1 (zC (zC (zB Try.f28) 2) 0) (zK (zC (zB Try.f28) 2) 0) (Cm q) (andThen R post):=zN (σ:=[0,1,2,3,4,5,6,10]) (fz:=[]) (vars:=[0,4,5,12,14]) (by kernel_rfl) (aj (aj (aj (u2 (u2 (u2 (u2 (al t3))))) (al h1)) (aj (u2 (u2 (u2 (u2 (u2 (u2 (aj (k5 (al h2)) (aj (k2 (aj h3 h4)) (aj (ak h5) (u2 (aj (k2 (aj h6 (aj (aj (show(nat_lit 1=nat_lit 1) by first | decide | exact S9 _) h7) (aj h8 h9)))) (u2 (al t3))))))))))))) (al (u2 (u2 s2))))) (k2 (k5 (aj (al t9) t6)))) hR
theorem nxa_0(q:QF)(h1:(0<=iN q.i))(h2:(iN q.i<iN q.ss.length))(h3:((Uq sA q.ss)[0+(iN q.i).toNat]?=some (sA q.s)))(h4:(decide (iN q.j<q.s.k)=true))(h5:(q.s.dep=true))(h6:(q.rs.length=(Uq iv q.rs).length))(h7:(CT Ux 26 [] [Uw (Uq iv q.rs),iv (i64.wrap (q.s.b+iN q.j))] [] (AV.bool q.b1)))(h8:((!q.b1)=true))(h9:((Uq iv q.fr).length=q.fr.length))(h10:(1<=[iv (i64.wrap (q.s.b+iN q.j))].length))(h11:((Uq iv q.fr).length+[iv (i64.wrap (q.s.b+iN q.j))].length<=9223372036854775807))(h12:(((Uq iv q.fr).length+[iv (i64.wrap (q.s.b+iN q.j))].length) * 8<=140737488355328)){post:Exit->St->Prop}{R:St->Prop}(hR:∀st,Ren 1 st (St.mk 191 [(0,AV.ptr 0 0 0),(4,AV.ptr 1 0 0),(5,AV.ptr 2 0 0),(12,AV.ptr 6 0 0),(14,iv q.k),(15,AV.sl 8 0 ((Uq iv q.fr).length+[iv (i64.wrap (q.s.b+iN q.j))].length)),(16,iv (iN q.i)),(17,iv (i64.wrap (iN q.j+1)))] [some (Ag q.L q.kk),some (Blk.mk [AV.agg [AV.nils,AV.nils,AV.nils,AV.nils,iv 0,iv 0,iv 0,iv 0]] 8 true true none),some (Blk.mk [AV.agg [AV.sl 3 0 q.bs.length,AV.sl 4 0 q.g.length,AV.sl 5 0 q.ss.length,AV.sl 7 0 q.rs.length,iv q.cx,iv q.cy,iv q.cz,iv q.cw]] 8 false true none),some (Blk.mk (Uq bA q.bs) 3 true true none),some (Blk.mk (gL q.g) 1 true true none),some (Blk.mk (Uq sA q.ss) 6 true true none),some (Blk.mk [AV.agg [iv q.cg,AV.any,iv q.cs,iv q.cc]] 4 true true none),some (Blk.mk (Uq iv q.rs) 1 true true none),some (Blk.mk (Uq iv q.fr++[iv (i64.wrap (q.s.b+iN q.j))]) 1 true true none)])->R st):GoP Ux (hU [301,303,317,347] (eF2 q) (cF q)) 1 (zC (zC (zC (zB Try.f28) 2) 0) 0) (Dx q) (andThen R post):=zN (σ:=[0,1,2,3,4,5,6,7,10]) (fz:=[]) (vars:=[0,4,5,12,14,15,16,17]) (by kernel_rfl) (aj (aj (u2 (u2 (u2 (u2 (aj (k2 (aj h1 h2)) (u2 (aj (ak h3) (aj t3 (aj (al h4) (ag (show(true=true) by first | decide | exact S9 _) (ag (show(true=true) by first | decide | exact S9 _) (ag (show(true=true) by first | decide | exact S9 _) (aj (aj (show(true=true) by first | decide | exact S9 _) (k2 (aj h1 h2))) (ag (show(true=true) by first | decide | exact S9 _) (aj (aj (show(true=true) by first | decide | exact S9 _) (ak h3)) (al (aj (show(true=true) by first | decide | exact S9 _) t2))))))))))))))))) (aj h5 (aj (u2 (u2 (u2 (aj (k2 (aj h1 h2)) (u2 (aj (ak h3) (u2 (aj t3 s2)))))))) (aj (u2 (u2 (u2 (aj (k2 (aj h6 (ak (aj h7 (show(∀(blk:Blk),blk∈[]->B2 blk) by intro _ h;cases h))))) s2)))) (aj h8 (aj (u2 (u2 (u2 (aj (k2 (aj h9 (aj (aj (show(nat_lit 1=nat_lit 1) by first | decide | exact S9 _) h10) (aj h11 h12)))) s2)))) (al (u2 (u2 s2))))))))) (k5 (k5 (aj (al t9) t7)))) hR
theorem nxb_0(q:QF)(h1:(0<=iN q.i))(h2:(iN q.i<iN q.ss.length))(h3:((Uq sA q.ss)[0+(iN q.i).toNat]?=some (sA q.s)))(h4:(decide (iN q.j<q.s.k)=true))(h5:(q.s.dep=true))(h6:(q.rs.length=(Uq iv q.rs).length))(h7:(CT Ux 26 [] [Uw (Uq iv q.rs),iv (i64.wrap (q.s.b+iN q.j))] [] (AV.bool q.b1)))(h8:((!q.b1)=false)){post:Exit->St->Prop}{R:St->Prop}(hR:∀st,Ren 1 st (St.mk 191 [(0,AV.ptr 0 0 0),(4,AV.ptr 1 0 0),(5,AV.ptr 2 0 0),(12,AV.ptr 6 0 0),(14,iv q.k),(15,AV.sl 8 0 q.fr.length),(16,iv (iN q.i)),(17,iv (i64.wrap (iN q.j+1)))] [some (Ag q.L q.kk),some (Blk.mk [AV.agg [AV.nils,AV.nils,AV.nils,AV.nils,iv 0,iv 0,iv 0,iv 0]] 8 true true none),some (Blk.mk [AV.agg [AV.sl 3 0 q.bs.length,AV.sl 4 0 q.g.length,AV.sl 5 0 q.ss.length,AV.sl 7 0 q.rs.length,iv q.cx,iv q.cy,iv q.cz,iv q.cw]] 8 false true none),some (Blk.mk (Uq bA q.bs) 3 true true none),some (Blk.mk (gL q.g) 1 true true none),some (Blk.mk (Uq sA q.ss) 6 true true none),some (Blk.mk [AV.agg [iv q.cg,AV.any,iv q.cs,iv q.cc]] 4 true true none),some (Blk.mk (Uq iv q.rs) 1 true true none),some (Blk.mk (Uq iv q.fr) 1 true true none)])->R st):GoP Ux (hU [301,303,317,346] (eF2 q) (cF q)) 1 (zC (zC (zC (zB Try.f28) 2) 0) 0) (Dx q) (andThen R post):=zN (σ:=[0,1,2,3,4,5,6,7,8]) (fz:=[]) (vars:=[0,4,5,12,14,15,16,17]) (by kernel_rfl) (aj (aj (u2 (u2 (u2 (u2 (aj (k2 (aj h1 h2)) (u2 (aj (ak h3) (aj t3 (aj (al h4) (ag (show(true=true) by first | decide | exact S9 _) (ag (show(true=true) by first | decide | exact S9 _) (ag (show(true=true) by first | decide | exact S9 _) (aj (aj (show(true=true) by first | decide | exact S9 _) (k2 (aj h1 h2))) (ag (show(true=true) by first | decide | exact S9 _) (aj (aj (show(true=true) by first | decide | exact S9 _) (ak h3)) (al (aj (show(true=true) by first | decide | exact S9 _) t2))))))))))))))))) (aj h5 (aj (u2 (u2 (u2 (aj (k2 (aj h1 h2)) (u2 (aj (ak h3) (u2 (aj t3 s2)))))))) (aj (u2 (u2 (u2 (aj (k2 (aj h6 (ak (aj h7 (show(∀(blk:Blk),blk∈[]->B2 blk) by intro _ h;cases h))))) s2)))) (aj h8 (al (u2 (u2 s2)))))))) (k5 (k5 (aj (al t9) t7)))) hR
theorem nxx_0(q:QF)(h1:(0<=iN q.i))(h2:(iN q.i<iN q.ss.length))(h3:((Uq sA q.ss)[0+(iN q.i).toNat]?=some (sA q.s)))(h4:(decide (iN q.j<q.s.k)=true))(h5:(q.s.dep=false)){post:Exit->St->Prop}{R:St->Prop}(hR:∀st,Ren 1 st (St.mk 191 [(0,AV.ptr 0 0 0),(4,AV.ptr 1 0 0),(5,AV.ptr 2 0 0),(12,AV.ptr 6 0 0),(14,iv q.k),(15,AV.sl 8 0 q.fr.length),(16,iv (i64.wrap (iN q.i+1)))] [some (Ag q.L q.kk),some (Blk.mk [AV.agg [AV.nils,AV.nils,AV.nils,AV.nils,iv 0,iv 0,iv 0,iv 0]] 8 true true none),some (Blk.mk [AV.agg [AV.sl 3 0 q.bs.length,AV.sl 4 0 q.g.length,AV.sl 5 0 q.ss.length,AV.sl 7 0 q.rs.length,iv q.cx,iv q.cy,iv q.cz,iv q.cw]] 8 false true none),some (Blk.mk (Uq bA q.bs) 3 true true none),some (Blk.mk (gL q.g) 1 true true none),some (Blk.mk (Uq sA q.ss) 6 true true none),some (Blk.mk [AV.agg [iv q.cg,AV.any,iv q.cs,iv q.cc]] 4 true true none),some (Blk.mk (Uq iv q.rs) 1 true true none),some (Blk.mk (Uq iv q.fr) 1 true true none)])->R st):GoO Ux (hU [316,303] (eF2 q) (cF q)) 1 (zC (zC (zC (zB Try.f28) 2) 0) 0) (zK (zC (zC (zB Try.f28) 2) 0) 0) (Dx q) (andThen R post):=zN (σ:=[0,1,2,3,4,5,6,7,8]) (fz:=[]) (vars:=[0,4,5,12,14,15,16]) (by kernel_rfl) (aj (aj (aj (u2 (u2 (u2 (u2 (aj (k2 (aj h1 h2)) (u2 (aj (ak h3) (aj t3 (u2 (ag h4 (ag h4 (ag h4 (aj (aj h4 (k2 (aj h1 h2))) (ag h4 (aj (aj h4 (ak h3)) (al (aj h4 t2))))))))))))))))) (al h5)) (al (u2 (u2 s2)))) (ak (k3 (k5 (aj (al t9) t7))))) hR
theorem nxx_1(q:QF)(h1:(0<=iN q.i))(h2:(iN q.i<iN q.ss.length))(h3:((Uq sA q.ss)[0+(iN q.i).toNat]?=some (sA q.s)))(h4:(decide (iN q.j<q.s.k)=false)){post:Exit->St->Prop}{R:St->Prop}(hR:∀st,Ren 1 st (St.mk 191 [(0,AV.ptr 0 0 0),(4,AV.ptr 1 0 0),(5,AV.ptr 2 0 0),(12,AV.ptr 6 0 0),(14,iv q.k),(15,AV.sl 8 0 q.fr.length),(16,iv (i64.wrap (iN q.i+1)))] [some (Ag q.L q.kk),some (Blk.mk [AV.agg [AV.nils,AV.nils,AV.nils,AV.nils,iv 0,iv 0,iv 0,iv 0]] 8 true true none),some (Blk.mk [AV.agg [AV.sl 3 0 q.bs.length,AV.sl 4 0 q.g.length,AV.sl 5 0 q.ss.length,AV.sl 7 0 q.rs.length,iv q.cx,iv q.cy,iv q.cz,iv q.cw]] 8 false true none),some (Blk.mk (Uq bA q.bs) 3 true true none),some (Blk.mk (gL q.g) 1 true true none),some (Blk.mk (Uq sA q.ss) 6 true true none),some (Blk.mk [AV.agg [iv q.cg,AV.any,iv q.cs,iv q.cc]] 4 true true none),some (Blk.mk (Uq iv q.rs) 1 true true none),some (Blk.mk (Uq iv q.fr) 1 true true none)])->R st):GoO Ux (hU [316,302] (eF2 q) (cF q)) 1 (zC (zC (zC (zB Try.f28) 2) 0) 0) (zK (zC (zC (zB Try.f28) 2) 0) 0) (Dx q) (andThen R post):=zN (σ:=[0,1,2,3,4,5,6,7,8]) (fz:=[]) (vars:=[0,4,5,12,14,15,16]) (by kernel_rfl) (aj (aj (aj (u2 (u2 (u2 (u2 (aj (k2 (aj h1 h2)) (u2 (aj (ak h3) (aj t3 (u2 (aj h4 (aj h4 (aj h4 (aj h4 (aj h4 (aj h4 (al (aj h4 t2))))))))))))))))) (al (show(false=false) by first | decide | exact S9 _))) (al (u2 (u2 s2)))) (ak (k3 (k5 (aj (al t9) t7))))) hR
def frU(Q:QF)(fr:List Int)(i j:Nat)(s:Am)(b1:Bool):QF:={Q with fr:=fr,i:=i,j:=j,s:=s,b1:=b1}
def Bq(s:Am)(rs:List Int)(j:Nat):List Int:=((List.range j).map fun(t:Nat)=>s.b+(t:Int)).filter fun x=> !AC rs x
def CG(s:Am)(rs:List Int):List Int:=if s.dep=true then Bq s rs s.k.toNat else []
def BC(ss:List Am)(rs:List Int)(i:Nat):List Int:=(ss.take i).flatMap fun s=>CG s rs
theorem Su{s:Am}{rs:List Int}{j:Nat}:Bq s rs (j+1)=Bq s rs j++if AC rs (s.b+(j:Int))=true then [] else [s.b+(j:Int)]:=by unfold Bq;rw[Ui,TH,List.filter_append];congr 1;cases hh:AC rs (s.b+(j:Int))<;>simp[hh]
theorem Kb{ss:List Am}{rs:List Int}{i:Nat}{s:Am}(h:ss[i]?=some s):BC ss rs (i+1)=BC ss rs i++CG s rs:=by unfold BC;rw[List.take_add_one,h,List.flatMap_append];simp
theorem Qs{s:Am}{rs:List Int}{j:Nat}:(Bq s rs j).length<=j:=by unfold Bq;exact Uc (List.length_filter_le _ _) (by simp)
theorem nx_run{Q:QF}{F:List Int}(hF:F.length<=1000)(hrs:Q.rs.length<=100){i:Nat}{s:Am}(hs:Q.ss[i]?=some s)(hi:i<=100)(hk:1<=s.k/\s.k<=4)(hb:0<=s.b/\s.b<=1000){R:St->Prop}{post:Exit->St->Prop}
  (hR:∀st,Ren 1 st (Cm (frU Q (F++CG s Q.rs) (i+1) 0 s0 false))->R st):
  T Ux 1 (.loop (zC (zC (zC (zB Try.f28) 2) 0) 0)) (Dx (frU Q F i 0 s0 false)) (TK Ux 1 (andThen R post) (zK (zC (zC (zB Try.f28) 2) 0) 0)):=by
 have k0:(0:Int)<=iN i:=by simp[iN]
 have hil:=(Tw.1 hs).1;have hil':iN i<iN Q.ss.length:=by simp only[iN];omega
 have hg:(Q.ss.map sA)[0+(iN i).toNat]?=some (.agg [.str s.nm,.bool s.dep,.int .i64 s.i,.int .i64 s.o,.int .i64 s.k,.int .i64 s.b]):=by rw[TJ];exact CZ hs
 have wi:i64.wrap (iN i+1)=((i+1:Nat):Int):=zW i (by omega);have hrl:=BU Q.rs;rcases Bool.eq_false_or_eq_true s.dep with hd | hd
 .have eS:CG s Q.rs=Bq s Q.rs s.k.toNat:=by unfold CG;rw[Ts hd]
  rw[eS] at hR;have e0:F++Bq s Q.rs 0=F:=by simp[Bq]
  suffices hh:T Ux 1 (.loop (zC (zC (zC (zB Try.f28) 2) 0) 0)) (Dx (frU Q (F++Bq s Q.rs 0) i 0 s0 false)) (TK Ux 1 (andThen R post) (zK (zC (zC (zB Try.f28) 2) 0) 0)) by rw[e0] at hh;exact hh
  refine T.loop (fun j:Nat=>Dx (frU Q (F++Bq s Q.rs j) i j s0 false)) (fun j=>(j:Int)<=s.k) (fun j=>(s.k+1-j).toNat) 0 (by omega) ?_;intro j hj;by_cases h:(j:Int)<s.k
  .have dk:decide (iN j<s.k)=true:=TA h;have wx:i64.wrap (s.b+iN j)=s.b+(j:Int):=A5 _ (by simp only[iN];omega) (by simp only[iN];omega);have wj:i64.wrap (iN j+1)=((j+1:Nat):Int):=zW j (by omega);have hsucc:=Su (s:=s) (rs:=Q.rs) (j:=j);have hfl:=Qs (s:=s) (rs:=Q.rs) (j:=j);have next:∀st,Ren 1 st (Dx (frU Q (F++Bq s Q.rs (j+1)) i (j+1) s0 false))->∃j',Ren 1 st (Dx (frU Q (F++Bq s Q.rs j') i j' s0 false))/\(j':Int)<=s.k/\(s.k+1-j').toNat<(s.k+1-j).toNat:=fun st hst=>⟨j+1,hst,by omega,by omega⟩
   rw[hsucc] at next
   have hh66:=G6 Q.rs (i64.wrap (s.b+iN j)) (by omega);rw[<-wx] at next
   have hcl:=BU (F++Bq s Q.rs j);cases hh:AC Q.rs (i64.wrap (s.b+iN j)) with
   | false=>
    rw[hh] at hh66;rw[Tt (by rw[hh];simp)] at next
    have hlen:(F++Bq s Q.rs j).length<=2000:=by rw[TQ];omega
    refine T.path mix (nxa_0 (frU Q (F++Bq s Q.rs j) i j s false) k0 hil' hg dk hd (by simp only[frU,hrl]) hh66 rfl (by simp only[frU,hcl]) (by simp) (by simp only[frU,hcl,T9];omega) (by simp only[frU,hcl,T9];omega) ?_);intro st hst;refine next st ?_
    simp only[frU,wj] at hst;have e1:(F++(Bq s Q.rs j++[i64.wrap (s.b+iN j)])).length=(Uq (AV.int .i64) (F++Bq s Q.rs j)).length+[AV.int .i64 (i64.wrap (s.b+iN j))].length:=by simp;omega
    have e2:(F++(Bq s Q.rs j++[i64.wrap (s.b+iN j)])).map (AV.int .i64)=Uq (AV.int .i64) (F++Bq s Q.rs j)++[AV.int .i64 (i64.wrap (s.b+iN j))]:=by simp
    unfold Dx dB;simp only[frU];rw[e1,e2];exact hst
   | true=>
    rw[hh] at hh66;rw[Ts hh,List.append_nil] at next
    refine T.path mix (nxb_0 (frU Q (F++Bq s Q.rs j) i j s true) k0 hil' hg dk hd (by simp only[frU,hrl]) hh66 rfl ?_);intro st hst;simp only[frU,wj] at hst;exact next st hst
  .have ej:j=s.k.toNat:=by omega
   refine T.out mix (nxx_1 (frU Q (F++Bq s Q.rs j) i j s false) k0 hil' hg (Tz h) ?_);intro st hst;simp only[frU,wi] at hst;rw[ej] at hst;exact hR st hst
 .have eS:CG s Q.rs=[]:=by unfold CG;rw[Tt (by rw[hd];simp)]
  rw[eS,List.append_nil] at hR;refine T.loop (fun _:Unit=>Dx (frU Q F i 0 s0 false)) (fun _=>True) (fun _=>0) () trivial ?_;intro _ _;refine T.out mix (nxx_0 (frU Q F i 0 s false) k0 hil' hg (TA (by simp only[frU,iN];omega)) hd ?_);intro st hst;simp only[frU,wi] at hst;exact hR st hst
theorem Pv{ss:List Am}{rs:List Int}(hk:∀s∈ss,s.k<=4):∀i,i<=ss.length->(BC ss rs i).length<=4 * i:=by
 intro i;induction i with
 | zero=>intro _;simp[BC]
 | succ i ih=>
  intro h;obtain⟨s,hs⟩:∃s,ss[i]?=some s:=⟨_,Tu h⟩;rw[Kb hs,TQ];have h1:=ih (by omega);have h2:=hk s (Ty hs);have h3:(CG s rs).length<=4:=by
   unfold CG;split
   .have:=Qs (s:=s) (rs:=rs) (j:=s.k.toNat);omega
   .simp
  omega
structure SpOk(ss:List Am):Prop where
 len:ss.length<=6
 k:∀s∈ss,1<=s.k/\s.k<=4
 b:∀s∈ss,0<=s.b/\s.b<=1000
def Fg(Q:QF):Int:=(BC Q.ss Q.rs Q.ss.length).getD (Ai Q.L Q.kk (BC Q.ss Q.rs Q.ss.length).length).toNat 0
theorem nw_run{Q:QF}(hs:SpOk Q.ss)(hrs:Q.rs.length<=90)(hkk:Q.kk<=100000)(hK:0<=Q.k/\Q.k<=1000)(hne:BC Q.ss Q.rs Q.ss.length≠[]){R:St->Prop}{post:Exit->St->Prop}
  (hR:∀st,Ren 1 st (Ce {Q with kk:=Q.kk+1,rs:=Q.rs++[Fg Q],k:=Q.k-1})->R st):
  T Ux 1 (.loop (zC (zC (zB Try.f28) 2) 0)) (Cm (frU Q [] 0 0 s0 false)) (TK Ux 1 (andThen R post) (zK (zC (zB Try.f28) 2) 0)):=by
 have hsl:=hs.len;have hfl:=Pv (rs:=Q.rs) (fun s h=>(hs.k s h).2);have e0:BC Q.ss Q.rs 0=[]:=by simp[BC]
 suffices hh:T Ux 1 (.loop (zC (zC (zB Try.f28) 2) 0)) (Cm (frU Q (BC Q.ss Q.rs 0) 0 0 s0 false)) (TK Ux 1 (andThen R post) (zK (zC (zB Try.f28) 2) 0)) by rw[e0] at hh;exact hh
 refine T.loop (fun i:Nat=>Cm (frU Q (BC Q.ss Q.rs i) i 0 s0 false)) (fun i=>i<=Q.ss.length) (fun i=>Q.ss.length+1-i) 0 (TG _) ?_;intro i hi;by_cases h:i<Q.ss.length
 .obtain⟨s,hss⟩:∃s,Q.ss[i]?=some s:=⟨_,Tu h⟩;have hm:=Ty hss;have hl:=hfl i hi;refine T.path mix (nwl_0 (frU Q (BC Q.ss Q.rs i) i 0 s0 false) (TA (by simp only[frU,iN];omega)) ?_);refine nx_run (by omega) (by omega) hss (by omega) (hs.k s hm) (hs.b s hm) fun st hst=>⟨i+1,?_,h,by omega⟩
  rw[Kb hss];exact hst
 .obtain rfl:i=Q.ss.length:=by omega
  have hl:=hfl Q.ss.length (TF _);unfold Fg at hR;generalize BC Q.ss Q.rs Q.ss.length=F at hl hne hR;have hF1:1<=F.length:=List.length_pos_iff.2 hne;have n1:=A6 Q.L Q.kk F.length (by omega);have r1:=Bd Q.L Q.kk (F.length:Int) (by omega) (by omega);generalize Ai Q.L Q.kk (F.length:Int)=x at n1 r1 hR;have hrl:=BU Q.rs;have hg:(F.map (AV.int .i64))[0+x.toNat]?=some (.int .i64 (F.getD x.toNat 0)):=En (by omega);have wk:i64.wrap (Q.k-1)=Q.k-1:=A5 _ (by omega) (by omega);refine T.out mix (nwx_0 {frU Q F Q.ss.length 0 s0 false with x:=x,y:=F.getD x.toNat 0} (Tz (by simp only[frU,iN];omega)) n1 r1.1 (by simp only[frU,iN];omega) hg (by simp only[frU,hrl]) (by simp) (by simp only[frU,hrl,T9];omega) (by simp only[frU,hrl,T9];omega) ?_);intro st hst;refine hR st ?_;simp only[frU,wk] at hst;have e1:(Q.rs++[F.getD x.toNat 0]).length=(Uq (AV.int .i64) Q.rs).length+[AV.int .i64 (F.getD x.toNat 0)].length:=by simp
  have e2:(Q.rs++[F.getD x.toNat 0]).map (AV.int .i64)=Uq (AV.int .i64) Q.rs++[AV.int .i64 (F.getD x.toNat 0)]:=by simp
  unfold Ce hF nA5 dB;simp only;rw[e1,e2];exact hst
def qA(L:List Int)(kk:Nat)(bs:List AO)(g g2:List (List Int))(ss:List Am)(k base:Int)(u:ByteArray)(x y z w:Int)(t1 t2 t3 t4:Nat):QA:=⟨L,kk,t1,t2,t3,t4,bs,g,g2,ss,[],k,base,u,x,y,z,w,0,0,0,[],0,0,s0,false,0⟩
def Im(L:List Int)(kk i:Nat):AO:=⟨IW i,Ai L (kk+2 * i) 9-4,Ai L (kk+2 * i+1) 9-4⟩
def bsZ(L:List Int)(kk n:Nat):List AO:=(List.range n).map (Im L kk)
theorem KM(L:List Int)(kk n:Nat):(bsZ L kk n).length=n:=by simp[bsZ]
theorem bsZ_succ(L:List Int)(kk n:Nat):bsZ L kk (n+1)=bsZ L kk n++[Im L kk n]:=by simp[bsZ,Ui]
theorem LessB_zN:Ca zB8 (nA1 [] []):=by
 refine⟨rfl,fun _=>rfl,rfl,TF _,fun i e' h=>?_,fun h=>(by cases h),fun h=>(by cases h)⟩;match i,h with
 | 0,h=>
  simp[nA1] at h;subst h;refine⟨_,rfl,rfl,fun j c' hj=>?_⟩;match j,hj with
  | 0,hj=>simp[AV.cells] at hj;subst hj;exact⟨.nils,rfl,.nilS 3 0⟩
  | 1,hj=>simp[AV.cells] at hj;subst hj;exact⟨.nils,rfl,.nilS 4 0⟩
  | 2,hj=>simp[AV.cells] at hj;subst hj;exact⟨.nils,rfl,.refl _⟩
  | 3,hj=>simp[AV.cells] at hj;subst hj;exact⟨.nils,rfl,.refl _⟩
  | 4,hj=>simp[AV.cells] at hj;subst hj;exact⟨.int .i64 0,rfl,.refl _⟩
  | 5,hj=>simp[AV.cells] at hj;subst hj;exact⟨.int .i64 0,rfl,.refl _⟩
  | 6,hj=>simp[AV.cells] at hj;subst hj;exact⟨.int .i64 0,rfl,.refl _⟩
  | 7,hj=>simp[AV.cells] at hj;subst hj;exact⟨.int .i64 0,rfl,.refl _⟩
  | j+8,hj=>simp[AV.cells] at hj
 | i+1,h=>simp[nA1] at h
theorem ren_z(q:QA)(hb:q.bs=[])(hg:q.g=[]):Ren 1 (Fu q) (CO q):=by
 refine Ren.less rfl (by simp[Fu,CO]) (fun s=>.refl _) fun b blk' h=>?_
 match b,h with
 | 0,h=>exact .inl ⟨by simp[Fu],_,rfl,.inl (by simpa [CO,nth] using h.symm)⟩
 | 1,h=>exact .inl ⟨by simp[Fu],_,rfl,.inl (by simpa [CO,nth] using h.symm)⟩
 | 2,h=>simp only[CO,nth,Ta] at h;subst h;exact .inl ⟨by simp[Fu],_,rfl,.inr (by rw[hb,hg];exact LessB_zN)⟩
 | 3,h=>simp only[CO,nth,Ta] at h;subst h;exact .inr ⟨by simp[Fu],by simp[bsB,hb],rfl,rfl,rfl⟩
 | 4,h=>simp only[CO,nth,Ta] at h;subst h;exact .inr ⟨by simp[Fu],by simp[gB,hg,gL],rfl,rfl,rfl⟩
 | b+5,h=>simp[CO,nth] at h
theorem rng0_rep(b:Nat):Ur b []=Ba b 0:=by
 apply List.ext_getElem
 .simp[Ba]
 .intro i h1 h2;simp[Ba]
theorem Ss(i:Nat):gL (Ur i [])++[Uw []]=gL (Ur (i+1) []):=by unfold gL;rw[List.replicate_succ',TH];rfl
theorem n0_run{L:List Int}{kk K:Nat}(hK:1<=K/\K<=24)(hkk:kk<=10000){post:Exit->St->Prop}
  (hT:∀B:Int,B=(K:Int)->T Ux 1 (.loop (zC (zB Try.f28) 1)) (D2 (qA L ((Bf L K (kk+2 * K)).2+1) (bsZ L kk K) (Bf L K (kk+2 * K)).1 [] [] (3+Ai L (Bf L K (kk+2 * K)).2 3) B em 0 0 0 0 0 0 0 0)) (TK Ux 1 post (zK (zB Try.f28) 1))):
  T Ux 1 (.loop (zC (zB Try.f28) 0)) (CO (qA L kk [] [] [] [] (K:Int) 0 em 0 0 0 0 0 0 0 0)) (TK Ux 1 post (zK (zB Try.f28) 0)):=by
 suffices hh:T Ux 1 (.loop (zC (zB Try.f28) 0)) (CO (qA L (kk+2 * 0) (bsZ L kk 0) (Ur 0 []) [] [] ((K:Int)-((0:Nat):Int)) 0 em 0 0 0 0 0 0 0 0)) (TK Ux 1 post (zK (zB Try.f28) 0)) by simpa [bsZ] using hh
 refine T.loop (fun i:Nat=>CO (qA L (kk+2 * i) (bsZ L kk i) (Ur i []) [] [] ((K:Int)-(i:Int)) 0 em 0 0 0 0 0 0 0 0)) (fun i=>i<=K) (fun i=>K+1-i) 0 (TG _) ?_;intro i hi;have hbl:=KM L kk i;have hbm:((bsZ L kk i).map bA).length=i:=by simp[bsZ]
 have hgl:=BD (Ur i ([]:List Int));rw[TR] at hgl;by_cases h:i<K
 .have n1:=A6 L (kk+2 * i) 9 (by omega);have n2:=A6 L (kk+2 * i+1) 9 (by omega);have r1:=Bd L (kk+2 * i) 9 (by omega) (by omega);have r2:=Bd L (kk+2 * i+1) 9 (by omega) (by omega);have d1:=PH i (by omega);have w1:i64.wrap (Ai L (kk+2 * i) 9-4)=Ai L (kk+2 * i) 9-4:=A5 _ (by omega) (by omega);have w2:i64.wrap (Ai L (kk+2 * i+1) 9-4)=Ai L (kk+2 * i+1) 9-4:=A5 _ (by omega) (by omega);have wk:i64.wrap ((K:Int)-(i:Int)-1)=(K:Int)-((i+1:Nat):Int):=by rw[A5 _ (by omega) (by omega)];omega
  have hsz:(B8 i).size<=2:=by unfold B8;split<;>exact nL rfl
  have dd:CT Ux 56 [] [.int .i64 (iN (bsZ L kk i).length)] [] (.str (B8 i)):=by rw[hbl];exact d1
  refine T.path mix (ntl_0 (qA L (kk+2 * i) (bsZ L kk i) (Ur i []) [] [] ((K:Int)-(i:Int)) 0 (B8 i) (Ai L (kk+2 * i) 9) (Ai L (kk+2 * i+1) 9) 0 0 (kk+2 * i+1) (kk+2 * i+2) 0 0)
   (TA (by simp only[qA];omega)) dd (by show 1+(B8 i).size<=_;omega) n1 n2 (by simp only[qA,hbl,hbm]) (by simp) (by simp only[qA,hbm,T9];omega) (by simp only[qA,hbm,T9];omega)
   (by simp only[qA,hgl,TR]) (by simp only[qA,hgl];omega) (by simp only[qA,hgl];omega) ?_)
  intro st hst;refine⟨i+1,?_,h,by omega⟩;simp only[qA,wk,w1,w2] at hst;have e1:(bsZ L kk (i+1)).map bA=(bsZ L kk i).map bA++[AV.agg [AV.str (ByteArray.mk #[98]++B8 i),AV.int .i64 (Ai L (kk+2 * i) 9-4),AV.int .i64 (Ai L (kk+2 * i+1) 9-4)]]:=by rw[bsZ_succ,TH];rfl
  have e2:(bsZ L kk (i+1)).length=((bsZ L kk i).map bA).length+[AV.agg [AV.str (ByteArray.mk #[98]++B8 i),AV.int .i64 (Ai L (kk+2 * i) 9-4),AV.int .i64 (Ai L (kk+2 * i+1) 9-4)]].length:=by rw[KM,hbm];rfl
  have e3:(Ur (i+1) ([]:List Int)).length=(gL (Ur i [])).length+1:=by rw[hgl];simp
  unfold CO nA1 bsB gB;simp only[qA];rw[e1,e2,e3,<-Ss];exact hst
 .obtain rfl:i=K:=by omega
  have hr:=ring_ct (L:=L) (bs:=bsZ L kk i) (by rw[hbl];exact hK) (kk+2 * i) (by omega);rw[hbl] at hr;have hro:=OA (L:=L) (kk:=kk+2 * i) hK;have n1:=A6 L (Bf L i (kk+2 * i)).2 3 (by omega);have r1:=Bd L (Bf L i (kk+2 * i)).2 3 (by omega) (by omega);have w3:i64.wrap (3+Ai L (Bf L i (kk+2 * i)).2 3)=3+Ai L (Bf L i (kk+2 * i)).2 3:=A5 _ (by omega) (by omega);rw[<-rng0_rep] at hr
  have k:=ntx_0 (post:=post) (qA L (kk+2 * i) (bsZ L kk i) (Ur i []) (Bf L i (kk+2 * i)).1 [] ((i:Int)-(i:Int)) 0 em (Ai L (Bf L i (kk+2 * i)).2 3) 0 0 0 (Bf L i (kk+2 * i)).2 ((Bf L i (kk+2 * i)).2+1) 0 0)
   (Tz (by simp only[qA];omega)) hr n1 (by have:=hT (iN (bsZ L kk i).length) (by simp[iN,hbl]);simp only[qA,w3];exact this)
  exact T.out mix k
def spZ(L:List Int)(b:Nat)(i kk:Nat)(base:Int)(dep:Bool):Am:=⟨Fc i,dep,Ai L kk b,Ai L (kk+1) b,1+Ai L (kk+2) 3,base⟩
structure SS where
 ss:List Am
 kk:Nat
 base:Int
def stS(L:List Int)(b:Nat)(p:SS):SS:=if p.ss.length=0 then ⟨p.ss++[spZ L b p.ss.length p.kk p.base true],p.kk+3,p.base+(1+Ai L (p.kk+2) 3)⟩ else if 2<p.ss.length then ⟨p.ss++[spZ L b p.ss.length (p.kk+1) p.base (Ai L p.kk 2==0)],p.kk+4,p.base+(1+Ai L (p.kk+3) 3)⟩ else ⟨p.ss++[spZ L b p.ss.length p.kk p.base false],p.kk+3,p.base+(1+Ai L (p.kk+2) 3)⟩
def itS(L:List Int)(b:Nat)(p:SS):Nat->SS | 0=>p | n+1=>stS L b (itS L b p n)
theorem Pc{L:List Int}{b:Nat}{p:SS}:∀n,(itS L b p n).ss.length=p.ss.length+n/\(itS L b p n).kk<=p.kk+4 * n/\p.base<=(itS L b p n).base/\(itS L b p n).base<=p.base+3 * n:=by
 intro n;induction n with
 | zero=>simp[itS]
 | succ n ih=>
  obtain⟨h1,h2,h3,h4⟩:=ih;have r1:=Bd L ((itS L b p n).kk+2) 3 (by omega) (by omega);have r2:=Bd L ((itS L b p n).kk+3) 3 (by omega) (by omega);simp only[itS];unfold stS;split
  .refine⟨by simp;omega,by simp only;omega,by simp only;omega,by simp only;omega⟩
  split
  .refine⟨by simp;omega,by simp only;omega,by simp only;omega,by simp only;omega⟩
  .refine⟨by simp;omega,by simp only;omega,by simp only;omega,by simp only;omega⟩
theorem ssl_eq(ss:List Am)(s:Am):(ss++[s]).map sA=ss.map sA++[sA s]/\(ss++[s]).length=(ss.map sA).length+1:=by simp
theorem n1_step{L:List Int}{bs:List AO}(hb:1<=bs.length/\bs.length<=24){g:List (List Int)}{p:SS}(hp:p.ss.length<6)(hkk:p.kk<=100000)(hba:0<=p.base/\p.base<=1000){k:Int}(hk:0<k/\k<=10){R:St->Prop}{post:Exit->St->Prop}
  (hR:∀st,Ren 1 st (BX (qA L (stS L bs.length p).kk bs g [] (stS L bs.length p).ss (k-1) (stS L bs.length p).base em 0 0 0 0 0 0 0 0))->R st):
  T Ux 1 (zC (zB Try.f28) 1) (BX (qA L p.kk bs g [] p.ss k p.base em 0 0 0 0 0 0 0 0)) (andThen R post):=by
 obtain⟨ss,kk,base⟩:=p;simp only at hp hkk hba;have hsm:(ss.map sA).length=ss.length:=by simp
 have dd:=PH ss.length (by omega);have hsz:(B8 ss.length).size<=2:=by unfold B8;split<;>exact nL rfl
 have dk:decide (0<k)=true:=TA hk.1;have wk:i64.wrap (k-1)=k-1:=A5 _ (by omega) (by omega);have fsz:1+(B8 ss.length).size<=9223372036854775807:=by omega
 have n0:=A6 L kk bs.length (by omega);have n1:=A6 L (kk+1) bs.length (by omega);have n2:=A6 L (kk+2) bs.length (by omega);have m2:=A6 L (kk+2) 3 (by omega);have m3:=A6 L (kk+3) 3 (by omega);have c0:=A6 L kk 2 (by omega);have r2:=Bd L (kk+2) 3 (by omega) (by omega);have r3:=Bd L (kk+3) 3 (by omega) (by omega);have w2:i64.wrap (1+Ai L (kk+2) 3)=1+Ai L (kk+2) 3:=A5 _ (by omega) (by omega);have w3:i64.wrap (1+Ai L (kk+3) 3)=1+Ai L (kk+3) 3:=A5 _ (by omega) (by omega);have v2:i64.wrap (base+(1+Ai L (kk+2) 3))=base+(1+Ai L (kk+2) 3):=A5 _ (by omega) (by omega);have v3:i64.wrap (base+(1+Ai L (kk+3) 3))=base+(1+Ai L (kk+3) 3):=A5 _ (by omega) (by omega)
 have fin:∀(dep:Bool) (t:Nat) (bb:Int) (s:Am) st,s.dep=dep->Ren 1 st (St.mk 191 [(0,AV.ptr 0 0 0),(4,AV.ptr 1 0 0),(5,AV.ptr 2 0 0),(8,AV.int i64 bb),(9,AV.int i64 (k-1))] [some (Ag L t),some zB8,
   some (Blk.mk [AV.agg [AV.sl 3 0 bs.length,AV.sl 4 0 g.length,AV.sl 5 0 ((ss.map sA).length+1),AV.nils,AV.int i64 0,AV.int i64 0,AV.int i64 0,AV.int i64 0]] 8 false true none),some (bsB bs),some (gB g),some (Blk.mk (ss.map sA++[sA s]) 6 true true none)])->
   Ren 1 st (BX (qA L t bs g [] (ss++[s]) (k-1) bb em 0 0 0 0 0 0 0 0)):=fun dep t bb s st _ h=>by
  obtain⟨e1,e2⟩:=ssl_eq ss s;unfold BX nA2 ssB;simp only[qA];rw[e1,e2];exact h
 unfold stS at hR;simp only at hR;by_cases h0:ss.length=0
 .rw[Ts h0] at hR;refine T.path mix (nul_0 (qA L kk bs g [] ss k base (B8 ss.length) 0 (Ai L kk bs.length) (Ai L (kk+1) bs.length) (Ai L (kk+2) 3) 0 (kk+1) (kk+2) (kk+3)) dk dd fsz (by simp[qA,iN,h0]) n0 n1 m2 (by simp only[qA,hsm]) (by simp) (by simp only[qA,hsm,T9];omega) (by simp only[qA,hsm,T9];omega) ?_);intro st hst;simp only[qA,wk,w2,v2] at hst;exact hR st (fin true _ _ (spZ L bs.length ss.length kk base true) st rfl hst)
 .rw[Tt h0] at hR;have hz:(iN ss.length==0)=false:=by simp only[iN,T5,ne_eq];omega
  by_cases h2:2<ss.length
  .rw[Ts h2] at hR;refine T.path mix (nul_1 (qA L kk bs g [] ss k base (B8 ss.length) (Ai L kk 2) (Ai L (kk+1) bs.length) (Ai L (kk+2) bs.length) (Ai L (kk+3) 3) (kk+1) (kk+2) (kk+3) (kk+4)) dk dd fsz hz (TA (by simp only[qA,iN];omega)) c0 n1 n2 m3 (by simp only[qA,hsm]) (by simp) (by simp only[qA,hsm,T9];omega) (by simp only[qA,hsm,T9];omega) ?_);intro st hst;simp only[qA,wk,w3,v3] at hst;exact hR st (fin (Ai L kk 2==0) _ _ (spZ L bs.length ss.length (kk+1) base (Ai L kk 2==0)) st rfl hst)
  .rw[Tt h2] at hR;refine T.path mix (nul_2 (qA L kk bs g [] ss k base (B8 ss.length) 0 (Ai L kk bs.length) (Ai L (kk+1) bs.length) (Ai L (kk+2) 3) 0 (kk+1) (kk+2) (kk+3)) dk dd fsz hz (Tz (by simp only[qA,iN];omega)) n0 n1 m2 (by simp only[qA,hsm]) (by simp) (by simp only[qA,hsm,T9];omega) (by simp only[qA,hsm,T9];omega) ?_);intro st hst;simp only[qA,wk,w2,v2] at hst;exact hR st (fin false _ _ (spZ L bs.length ss.length kk base false) st rfl hst)
theorem LessB_zS{bs:List AO}{g:List (List Int)}:Ca (nA1 bs g) (nA2 bs g []):=by
 refine⟨rfl,fun _=>rfl,rfl,TF _,fun i e' h=>?_,fun h=>(by cases h),fun h=>(by cases h)⟩;match i,h with
 | 0,h=>
  simp[nA2] at h;subst h;refine⟨_,rfl,rfl,fun j c' hj=>?_⟩;match j,hj with
  | 0,hj=>simp[AV.cells] at hj;subst hj;exact⟨_,rfl,.refl _⟩
  | 1,hj=>simp[AV.cells] at hj;subst hj;exact⟨_,rfl,.refl _⟩
  | 2,hj=>simp[AV.cells] at hj;subst hj;exact⟨.nils,rfl,.nilS 5 0⟩
  | 3,hj=>simp[AV.cells] at hj;subst hj;exact⟨_,rfl,.refl _⟩
  | 4,hj=>simp[AV.cells] at hj;subst hj;exact⟨_,rfl,.refl _⟩
  | 5,hj=>simp[AV.cells] at hj;subst hj;exact⟨_,rfl,.refl _⟩
  | 6,hj=>simp[AV.cells] at hj;subst hj;exact⟨_,rfl,.refl _⟩
  | 7,hj=>simp[AV.cells] at hj;subst hj;exact⟨_,rfl,.refl _⟩
  | j+8,hj=>simp[AV.cells] at hj
 | i+1,h=>simp[nA2] at h
theorem ren_s(q:QA)(hs:q.ss=[]):Ren 1 (D2 q) (BX q):=by
 refine Ren.less rfl (by simp[D2,BX]) (fun s=>.refl _) fun b blk' h=>?_
 match b,h with
 | 0,h=>exact .inl ⟨by simp[D2],_,rfl,.inl (by simpa [BX,nth] using h.symm)⟩
 | 1,h=>exact .inl ⟨by simp[D2],_,rfl,.inl (by simpa [BX,nth] using h.symm)⟩
 | 2,h=>simp only[BX,nth,Ta] at h;subst h;exact .inl ⟨by simp[D2],_,rfl,.inr (by rw[hs];exact LessB_zS)⟩
 | 3,h=>exact .inl ⟨by simp[D2],_,rfl,.inl (by simpa [BX,nth] using h.symm)⟩
 | 4,h=>exact .inl ⟨by simp[D2],_,rfl,.inl (by simpa [BX,nth] using h.symm)⟩
 | 5,h=>simp only[BX,nth,Ta] at h;subst h;exact .inr ⟨by simp[D2],by simp[ssB,hs],rfl,rfl,rfl⟩
 | b+6,h=>simp[BX,nth] at h
theorem n1_run{L:List Int}{bs:List AO}(hb:1<=bs.length/\bs.length<=24){g:List (List Int)}{kk K:Nat}(hkk:kk<=90000)(hK:3<=K/\K<=5){base:Int}(hba:0<=base/\base<=900){post:Exit->St->Prop}
  (hX:T Ux 1 (zC (zB Try.f28) 1) (BX (qA L (itS L bs.length ⟨[],kk,base⟩ K).kk bs g [] (itS L bs.length ⟨[],kk,base⟩ K).ss 0 (itS L bs.length ⟨[],kk,base⟩ K).base em 0 0 0 0 0 0 0 0)) (andThen (fun _=>False) (TK Ux 1 post (zK (zB Try.f28) 1)))):
  T Ux 1 (.loop (zC (zB Try.f28) 1)) (D2 (qA L kk bs g [] [] (K:Int) base em 0 0 0 0 0 0 0 0)) (TK Ux 1 post (zK (zB Try.f28) 1)):=by
 refine T.less (ren_s _ rfl) ?_
 suffices hh:T Ux 1 (.loop (zC (zB Try.f28) 1)) (BX (qA L (itS L bs.length ⟨[],kk,base⟩ 0).kk bs g [] (itS L bs.length ⟨[],kk,base⟩ 0).ss ((K:Int)-((0:Nat):Int)) (itS L bs.length ⟨[],kk,base⟩ 0).base em 0 0 0 0 0 0 0 0)) (TK Ux 1 post (zK (zB Try.f28) 1)) by simpa [itS] using hh
 refine T.loop (fun m:Nat=>BX (qA L (itS L bs.length ⟨[],kk,base⟩ m).kk bs g [] (itS L bs.length ⟨[],kk,base⟩ m).ss ((K:Int)-(m:Int)) (itS L bs.length ⟨[],kk,base⟩ m).base em 0 0 0 0 0 0 0 0)) (fun m=>m<=K) (fun m=>K+1-m) 0 (TG _) ?_;intro m hm;obtain⟨h1,h2,h3,h4⟩:=Pc (L:=L) (b:=bs.length) (p:=⟨[],kk,base⟩) m;simp only[Ub,TJ] at h1 h2 h3 h4;by_cases h:m<K
 .refine n1_step hb (by omega) (by omega) (by omega) (by omega) fun st hst=>⟨m+1,?_,h,by omega⟩
  have e:(K:Int)-(m:Int)-1=(K:Int)-((m+1:Nat):Int):=by omega
  rw[e] at hst;exact hst
 .obtain rfl:m=K:=by omega
  have e:(m:Int)-(m:Int)=0:=by omega
  rw[e];exact hX.mono fun ex st hp=>by
   cases ex with
   | normal=>exact hp.elim
   | _=>exact hp
def D3(q:QF):St:={n:=Try.f28.ntmps,fr:=[(0,.ptr 0 0 0),(4,.ptr 1 0 0),(5,.ptr 2 0 0),(12,.ptr 6 0 0),(14,.int .i64 q.k)],hp:=[some (Ag q.L q.kk),some zB8,some (nA3 q.bs q.g q.ss q.cx q.cy q.cz q.cw),some (bsB q.bs),some (gB q.g),some (ssB q.ss),some (capB q.cg q.cs q.cc)]}
theorem LessB_zR{bs:List AO}{g:List (List Int)}{ss:List Am}{x y z w:Int}:Ca (nA3 bs g ss x y z w) (nA5 bs g ss [] x y z w):=by
 refine⟨rfl,fun _=>rfl,rfl,TF _,fun i e' h=>?_,fun h=>(by cases h),fun h=>(by cases h)⟩;match i,h with
 | 0,h=>
  simp[nA5] at h;subst h;refine⟨_,rfl,rfl,fun j c' hj=>?_⟩;match j,hj with
  | 0,hj=>simp[AV.cells] at hj;subst hj;exact⟨_,rfl,.refl _⟩
  | 1,hj=>simp[AV.cells] at hj;subst hj;exact⟨_,rfl,.refl _⟩
  | 2,hj=>simp[AV.cells] at hj;subst hj;exact⟨_,rfl,.refl _⟩
  | 3,hj=>simp[AV.cells] at hj;subst hj;exact⟨.nils,rfl,.nilS 7 0⟩
  | 4,hj=>simp[AV.cells] at hj;subst hj;exact⟨_,rfl,.refl _⟩
  | 5,hj=>simp[AV.cells] at hj;subst hj;exact⟨_,rfl,.refl _⟩
  | 6,hj=>simp[AV.cells] at hj;subst hj;exact⟨_,rfl,.refl _⟩
  | 7,hj=>simp[AV.cells] at hj;subst hj;exact⟨_,rfl,.refl _⟩
  | j+8,hj=>simp[AV.cells] at hj
 | i+1,h=>simp[nA5] at h
theorem ren_r(q:QF)(hs:q.rs=[]):Ren 1 (D3 q) (Ce q):=by
 refine Ren.less rfl (by simp[D3,Ce,hF]) (fun s=>.refl _) fun b blk' h=>?_
 match b,h with
 | 0,h=>exact .inl ⟨by simp[D3],_,rfl,.inl (by simpa [Ce,hF,nth] using h.symm)⟩
 | 1,h=>exact .inl ⟨by simp[D3],_,rfl,.inl (by simpa [Ce,hF,nth] using h.symm)⟩
 | 2,h=>simp only[Ce,hF,nth,Ta] at h;subst h;exact .inl ⟨by simp[D3],_,rfl,.inr (by rw[hs];exact LessB_zR)⟩
 | 3,h=>exact .inl ⟨by simp[D3],_,rfl,.inl (by simpa [Ce,hF,nth] using h.symm)⟩
 | 4,h=>exact .inl ⟨by simp[D3],_,rfl,.inl (by simpa [Ce,hF,nth] using h.symm)⟩
 | 5,h=>exact .inl ⟨by simp[D3],_,rfl,.inl (by simpa [Ce,hF,nth] using h.symm)⟩
 | 6,h=>exact .inl ⟨by simp[D3],_,rfl,.inl (by simpa [Ce,hF,nth] using h.symm)⟩
 | 7,h=>simp only[Ce,hF,nth,Ta] at h;subst h;exact .inr ⟨by simp[D3],by simp[dB,hs],rfl,rfl,rfl⟩
 | b+8,h=>simp[Ce,hF,nth] at h
theorem S1{n:Ab}(hrw:Rows n.nx)(hv:Ax n)(hrs:n.rs=[]):CT Ux 58 [] [AV.agg [Uw (Uq bA n.bs),Uw (gL n.nx),Uw (Uq sA n.ss),AV.nils,AV.int i64 n.q,AV.int i64 n.a,AV.int i64 n.d,AV.int i64 n.p]] []
  (AV.tup [AV.agg [AV.int i64 (iN (Bx n).length),AV.any,AV.int i64 (B5 n),AV.int i64 (DH (Bx n) (B5 n))],AV.int i64 0]):=by
 have h:=fleet_ct hrw hv;have h2:=h.less (res':=AV.tup [AV.agg [AV.int i64 (iN (Bx n).length),AV.any,AV.int i64 (B5 n),AV.int i64 (DH (Bx n) (B5 n))],AV.int i64 0]) ?_
 .refine h2.lessArgs rfl fun i a' ha=>?_
  match i,ha with
  | 0,ha=>
   simp at ha;subst ha;refine⟨_,rfl,Bj.agg rfl fun j c' hj=>?_⟩;match j,hj with
   | 0,hj=>simp at hj;subst hj;exact⟨_,rfl,.refl _⟩
   | 1,hj=>simp at hj;subst hj;exact⟨_,rfl,.refl _⟩
   | 2,hj=>simp at hj;subst hj;exact⟨_,rfl,.refl _⟩
   | 3,hj=>simp at hj;subst hj;rw[hrs];exact⟨.nils,rfl,.nilL⟩
   | 4,hj=>simp at hj;subst hj;exact⟨_,rfl,.refl _⟩
   | 5,hj=>simp at hj;subst hj;exact⟨_,rfl,.refl _⟩
   | 6,hj=>simp at hj;subst hj;exact⟨_,rfl,.refl _⟩
   | 7,hj=>simp at hj;subst hj;exact⟨_,rfl,.refl _⟩
   | j+8,hj=>simp at hj
  | i+1,ha=>simp at ha
 .intro φ A w v hv;cases hv with
  | imm _ _ h=>cases h
  | tup cs vs hl hh=>
   refine .tup _ vs (by simpa using hl) fun i c u hc hu=>?_
   match i,hc with
   | 0,hc=>
    simp at hc;subst hc;refine(Bj.agg (cs':=[.int .i64 (iN (Bx n).length),.any,.int .i64 (B5 n),.int .i64 (DH (Bx n) (B5 n))]) rfl fun j c' hj=>?_:Bj (AV.agg [.int .i64 (iN (Bx n).length),lI (Bx n),.int .i64 (B5 n),.int .i64 (DH (Bx n) (B5 n))]) _).2 _ _ _ _ (hh 0 _ u rfl hu);match j,hj with
    | 0,hj=>simp at hj;subst hj;exact⟨_,rfl,.refl _⟩
    | 1,hj=>simp at hj;subst hj;exact⟨lI (Bx n),rfl,.any rfl⟩
    | 2,hj=>simp at hj;subst hj;exact⟨_,rfl,.refl _⟩
    | 3,hj=>simp at hj;subst hj;exact⟨_,rfl,.refl _⟩
    | j+4,hj=>simp at hj
   | 1,hc=>exact hh 1 c u (by simpa using hc) hu
   | i+2,hc=>simp at hc
theorem n1_exit{L:List Int}{bs:List AO}{g:List (List Int)}{ss:List Am}{kk:Nat}{base:Int}{x y z w v cg cs cc:Int}(hx:0<=x/\x<=10)(hw:0<=w/\w<=10)(hv:0<=v/\v<=10)
  (n0:CT Ux 15 [some (Ag L kk)] [.ptr 0 0 0,.int .i64 4] [some (Ag L (kk+1))] (.int .i64 x)) (n1:CT Ux 15 [some (Ag L (kk+1))] [.ptr 0 0 0,.int .i64 3] [some (Ag L (kk+2))] (.int .i64 y))
  (n2:CT Ux 15 [some (Ag L (kk+2))] [.ptr 0 0 0,.int .i64 3] [some (Ag L (kk+3))] (.int .i64 z)) (n3:CT Ux 15 [some (Ag L (kk+3))] [.ptr 0 0 0,.int .i64 8] [some (Ag L (kk+4))] (.int .i64 w))
  (n4:CT Ux 15 [some (Ag L (kk+4))] [.ptr 0 0 0,.int .i64 3] [some (Ag L (kk+5))] (.int .i64 v))
  (fl:CT Ux 58 [] [AV.agg [Uw (Uq bA bs),Uw (gL g),Uw (Uq sA ss),AV.nils,AV.int i64 (1+x),AV.int i64 y,AV.int i64 z,AV.int i64 (1+w)]] [] (AV.tup [AV.agg [AV.int i64 cg,AV.any,AV.int i64 cs,AV.int i64 cc],AV.int i64 0]))
  {R:St->Prop} {post:Exit->St->Prop}
  (hT:T Ux 1 (.loop (zC (zB Try.f28) 2)) (Ce ⟨L,kk+5,bs,g,ss,[],1+x,y,z,1+w,cg,cs,cc,1+v,[],0,0,s0,false,0,0⟩) (TK Ux 1 post (zK (zB Try.f28) 2))):
  T Ux 1 (zC (zB Try.f28) 1) (BX (qA L kk bs g [] ss 0 base em 0 0 0 0 0 0 0 0)) (andThen R (TK Ux 1 post (zK (zB Try.f28) 1))):=by
 have w0:i64.wrap (1+x)=1+x:=A5 _ (by omega) (by omega);have w3:i64.wrap (1+w)=1+w:=A5 _ (by omega) (by omega);have w4:i64.wrap (1+v)=1+v:=A5 _ (by omega) (by omega);have hbl:bs.length=(bs.map bA).length:=by simp
 have hgl:g.length=(gL g).length:=(BD g).symm;have hsl:ss.length=(ss.map sA).length:=by simp
 have k:=nux_0 (post:=post) ⟨L,kk,kk+1,kk+2,kk+3,kk+4,bs,g,[],ss,[],0,base,em,x,y,z,w,cg,cs,cc,[],0,0,s0,false,v⟩ (by simp) n0 n1 n2 n3 hbl hgl hsl (by simp only[w0,w3];exact fl) n4
  (by simp only[w0,w3,w4];exact T.less (ren_r ⟨L,kk+5,bs,g,ss,[],1+x,y,z,1+w,cg,cs,cc,1+v,[],0,0,s0,false,0,0⟩ rfl) hT)
 exact T.out mix k
structure SpI(b:Nat)(b0:Int)(p:SS):Prop where
 base:p.base=b0+(p.ss.map (·.k)).sum
 el:∀(i:Nat) (s:Am),p.ss[i]?=some s->s.nm=Fc i/\(i=0->s.dep=true)/\(i=1\/i=2->s.dep=false)/\(0<=s.i/\s.i<(b:Int))/\(0<=s.o/\s.o<(b:Int))/\(1<=s.k/\s.k<=3)/\s.b=b0+((p.ss.take i).map (·.k)).sum
theorem SpI.push{b:Nat}{b0:Int}{p:SS}(h:SpI b b0 p){s:Am}{kk:Nat}(h1:s.nm=Fc p.ss.length)(h2:p.ss.length=0->s.dep=true)(h3:p.ss.length=1\/p.ss.length=2->s.dep=false)
  (h4:0<=s.i/\s.i<(b:Int)) (h5:0<=s.o/\s.o<(b:Int)) (h6:1<=s.k/\s.k<=3) (h7:s.b=p.base):SpI b b0 ⟨p.ss++[s],kk,p.base+s.k⟩:=by
 refine⟨by simp[h.base,List.sum_append];omega,fun i t ht=>?_⟩;simp only at ht ⊢
 rw[T4] at ht;split at ht
 .rename_i hi;have:=h.el i t ht;rw[List.take_append_of_le_length (by omega)];exact this
 .rename_i hi;have hil:i=p.ss.length:=by
   by_cases e:i=p.ss.length
   .exact e
   .rw[TU (by simp;omega)] at ht;cases ht
  subst hil;simp at ht;subst ht;refine⟨h1,h2,h3,h4,h5,h6,?_⟩;rw[List.take_append_of_le_length (TF _),List.take_length,h7,h.base]
theorem itS_ok{L:List Int}{b:Nat}(hb:1<=b/\b<=24){kk:Nat}{b0:Int}:∀n,SpI b b0 (itS L b ⟨[],kk,b0⟩ n):=by
 intro n;induction n with
 | zero=>exact⟨by simp[itS],fun i s h=>by simp[itS] at h⟩
 | succ n ih=>
  have r:=fun k=>Bd L k (b:Int) (by omega) (by omega)
  have r3:=fun k=>Bd L k 3 (by omega) (by omega)
  simp only[itS];unfold stS;split
  .rename_i h0;exact ih.push (s:=spZ L b _ _ _ true) rfl (fun _=>rfl) (fun h=>by omega) (r _) (r _) ⟨by have:=r3 ((itS L b ⟨[],kk,b0⟩ n).kk+2);simp only[spZ];omega,by have:=r3 ((itS L b ⟨[],kk,b0⟩ n).kk+2);simp only[spZ];omega⟩ rfl
  split
  .rename_i h0 h2;exact ih.push (s:=spZ L b _ _ _ _) rfl (fun h=>by omega) (fun h=>by omega) (r _) (r _) ⟨by have:=r3 ((itS L b ⟨[],kk,b0⟩ n).kk+1+2);simp only[spZ];omega,by have:=r3 ((itS L b ⟨[],kk,b0⟩ n).kk+1+2);simp only[spZ];omega⟩ rfl
  .rename_i h0 h2;exact ih.push (s:=spZ L b _ _ _ false) rfl (fun h=>by omega) (fun _=>rfl) (r _) (r _) ⟨by have:=r3 ((itS L b ⟨[],kk,b0⟩ n).kk+2);simp only[spZ];omega,by have:=r3 ((itS L b ⟨[],kk,b0⟩ n).kk+2);simp only[spZ];omega⟩ rfl
theorem KV{L:List Int}{kk K i:Nat}{b:AO}(h:(bsZ L kk K)[i]?=some b):i<K/\b=Im L kk i:=by
 unfold bsZ at h;rw[TE] at h;cases hr:(List.range K)[i]? with
 | none=>rw[hr] at h;cases h
 | some j=>rw[hr] at h;obtain⟨h1,h2⟩:=Tw.1 hr;simp at h1 h2;simp at h;subst h2;exact⟨h1,h.symm⟩
theorem row_ok{r:List Int}{n v:Nat}(hl:r.length<=4)(hp:r.Pairwise (· < ·))(hr:∀w∈r,0<=w/\w<(n:Int)/\w≠(v:Int)):nxB r v n=true:=by
 rw[NZ];have:fnd (AM r n v) 0 r.length=none:=by
  cases he:fnd (AM r n v) 0 r.length with
  | none=>rfl
  | some i=>
   exfalso;obtain⟨h1,_,h3⟩:=DV he;have hi:i<r.length:=by omega
   have hm:r.getD i 0∈r:=by rw[Tv,Tu hi];exact T2 hi
   obtain⟨g1,g2,g3⟩:=hr _ hm;unfold AM at h1;simp only[T6,decide_eq_true_eq,TC,beq_iff_eq] at h1;rcases h1 with h1 | h1 | h1 | ⟨h1,h2⟩
   .omega
   .omega
   .exact g3 h1
   .have:=List.pairwise_iff_getElem.1 hp (i-1) i (by omega) hi (by omega);rw[Tv,Tv,Tu hi,Tu (by omega:i-1<r.length)] at h2;simp at h2;omega
 rw[this];simpa using hl
theorem RF{L:List Int}{kk K:Nat}(hK:1<=K/\K<=24){g:List (List Int)}(hg:GI K 4 g){p:SS}(hp:SpI K (K:Int) p)(hl:3<=p.ss.length/\p.ss.length<=5){x y z w:Int}(hx:0<=x/\x<4)(hy:0<=y/\y<3)(hz:0<=z/\z<3)(hw:0<=w/\w<8):
  Ax ⟨bsZ L kk K,g,p.ss,[],1+x,y,z,1+w⟩:=by
 have hbl:=KM L kk K;have hT:∀(i:Nat) (s:Am),p.ss[i]?=some s->C7 ⟨bsZ L kk K,g,p.ss,[],1+x,y,z,1+w⟩ i s:=fun i s h=>by obtain⟨_,_,_,h4,h5,h6,h7⟩:=hp.el i s h;exact⟨by simp only[hbl];exact h4,by simp only[hbl];exact h5,by omega,by unfold AA;simp only[hbl];exact h7⟩
 have hnm:∀(i:Nat) (s:Am),p.ss[i]?=some s->s.nm=Fc i/\i<6:=fun i s h=>⟨(hp.el i s h).1,by have:=(Tw.1 h).1;omega⟩
 refine⟨Bi.2 (by simp only[hbl];omega),by simp only[hbl];exact hg.len,by simp only;omega,by simp,?_,fun i b h=>?_,fun i s h=>Oj ?_ (hT i s h),?_,?_,fun i c h=>by simp at h⟩
 .unfold Bc;simp only[TC,Bi];omega
 .obtain⟨h1,rfl⟩:=KV h;have r1:=Bd L (kk+2 * i) 9 (by omega) (by omega);have r2:=Bd L (kk+2 * i+1) 9 (by omega) (by omega);obtain⟨g1,g2,g3⟩:=hg.row i h1;exact⟨nmBk_ok i (by omega),Bi.2 (by simp only[Im];omega),Bi.2 (by simp only[Im];omega),by simp only[hbl];exact row_ok g1 g2 g3⟩
 .obtain⟨e,hi⟩:=hnm i s h;rw[e];exact nmSp_ok i hi
 .unfold B0;rw[List.nodup_append];refine⟨?_,?_,?_⟩
  .rw[List.nodup_iff_pairwise_ne,List.pairwise_iff_getElem];intro a b ha hb hab he;simp only[List.getElem_map] at he;have ga:=KV (Tu (l:=bsZ L kk K) (i:=a) (by simpa using ha));have gb:=KV (Tu (l:=bsZ L kk K) (i:=b) (by simpa using hb));rw[ga.2,gb.2] at he;have:=nmBk_inj a (by omega) b (by omega) he;omega
  .rw[List.nodup_iff_pairwise_ne,List.pairwise_iff_getElem];intro a b ha hb hab he;simp only[List.getElem_map] at he;obtain⟨ga,ha6⟩:=hnm a _ (Tu (by simpa using ha));obtain⟨gb,hb6⟩:=hnm b _ (Tu (by simpa using hb));rw[ga,gb] at he;have:=nmSp_inj a ha6 b hb6 he;omega
  .intro a ha b hb he;obtain⟨s,hs,rfl⟩:=T1.1 ha;obtain⟨t,ht,rfl⟩:=T1.1 hb;obtain⟨i,hi⟩:=List.mem_iff_getElem?.1 hs;obtain⟨j,hj⟩:=List.mem_iff_getElem?.1 ht;obtain⟨h1,rfl⟩:=KV hi;obtain⟨e,hj6⟩:=hnm j t hj;rw[e] at he;exact nm_dis i (by omega) j hj6 he
 .obtain⟨s,hs⟩:∃s,p.ss[0]?=some s:=⟨_,Tu (by omega)⟩;obtain⟨_,h2,_,_,_,h6,_⟩:=hp.el 0 s hs;refine⟨s.b,s,?_,h2 rfl,by omega,by omega⟩;rw[List.take_length];exact Ty hs
theorem M7(c i:Nat):(Ur c false).getD i false=false:=by rw[Tv,TW];split<;>rfl
theorem RZ(c:Nat)(s:Am):F0 (Ur c false) s=true:=by
 unfold F0;rw[M7,M7];have:fnd (fun j=>(Ur c false).getD (s.b+(j:Int)).toNat false) 0 s.k.toNat=none:=by
  cases he:fnd (fun j=>(Ur c false).getD (s.b+(j:Int)).toNat false) 0 s.k.toNat with
  | none=>rfl
  | some i=>have:=(DV he).1;rw[M7] at this;cases this
 rw[this];rfl
theorem hasZ_nil(x:Int):AC [] x=false:=by
 cases h:AC [] x with
 | false=>rfl
 | true=>have:=GT.1 h;simp at this
theorem Sy{s:Am}(hk:0<=s.k):((CG s []).length:Int)=if s.dep=true then s.k else 0:=by
 unfold CG Bq;split
 .rw[List.filter_eq_self.2 (fun x _=>by rw[hasZ_nil];rfl)];simp;omega
 .rfl
theorem Qc{n:Ab}(hv:Ax n)(c:Nat):∀i,i<=n.ss.length->Bl n (Ur c false) i=((BC n.ss [] i).length:Int):=by
 intro i;induction i with
 | zero=>intro _;simp[Bl,BC]
 | succ i ih=>intro h;obtain⟨s,hs⟩:∃s,n.ss[i]?=some s:=⟨_,Tu h⟩;rw[Lm hs,Kb hs,TQ,ih (by omega),RZ,Bool.and_true];have hk:=(hv.goodT i s hs).hk;have:=Sy (s:=s) (by omega);omega
theorem HN{ss:List Am}{rs:List Int}{x:Int}:∀i,i<=ss.length->(x∈BC ss rs i↔(∃s∈ss.take i,s.dep=true/\s.b<=x/\x<s.b+s.k)/\x∉rs):=by
 intro i hi;unfold BC;rw[List.mem_flatMap];constructor
 .rintro⟨s,hs,hx⟩
  unfold CG at hx;split at hx
  .rename_i hd;unfold Bq at hx;rw[List.mem_filter] at hx;obtain⟨h1,h2⟩:=hx;obtain⟨t,ht,rfl⟩:=T1.1 h1;have:=Uk.1 ht;refine⟨⟨s,hs,hd,by omega,by omega⟩,fun hm=>?_⟩;rw[GT.2 hm] at h2;cases h2
  .cases hx
 .rintro⟨⟨s,hs,hd,h1,h2⟩,hn⟩
  refine⟨s,hs,?_⟩;unfold CG Bq;rw[Ts hd,List.mem_filter];refine⟨T1.2 ⟨(x-s.b).toNat,Uk.2 (by omega),by omega⟩,?_⟩;cases hh:AC rs x with
  | false=>rfl
  | true=>exact absurd (GT.1 hh) hn
theorem nodup_le:∀{l m:List Int},l.Nodup->(∀x∈l,x∈m)->l.length<=m.length:=by
 intro l;induction l with
 | nil=>intro m _ _;simp
 | cons a l ih=>
  intro m hn hs;rw[List.nodup_cons] at hn;have ha:=hs a (by simp);have:=ih (m:=m.erase a) hn.2 fun x hx=>(List.mem_erase_of_ne (a:=x) (b:=a) (fun e=>hn.1 (by rw[<-e];exact hx))).2 (hs x (TN _ hx))
  rw[List.length_erase_of_mem ha] at this;have:0<m.length:=Uo ha;simp only[Ua];omega
theorem Sz{n:Ab}(hv:Ax n):∀i,i<=n.ss.length->(BC n.ss [] i).Nodup:=by
 intro i;induction i with
 | zero=>intro _;simp[BC]
 | succ i ih=>
  intro h;obtain⟨s,hs⟩:∃s,n.ss[i]?=some s:=⟨_,Tu h⟩;rw[Kb hs,List.nodup_append];refine⟨ih (by omega),?_,fun a ha b hb e=>?_⟩
  .unfold CG Bq;split
   .refine List.Pairwise.filter _ ?_;rw[List.pairwise_map];refine List.Pairwise.imp ?_ (List.nodup_iff_pairwise_ne.1 List.nodup_range);intro x y hxy e;omega
   .simp
  .subst e;obtain⟨⟨t,ht,_,h1,h2⟩,_⟩:=(HN i (by omega)).1 ha;obtain⟨j,hj⟩:=List.mem_iff_getElem?.1 ht;have hji:j<i:=by have:=(Tw.1 hj).1;simp at this;omega
   have hjt:n.ss[j]?=some t:=by rw[TP,Ts hji] at hj;exact hj
   have g1:=(hv.goodT j t hjt).hb;have g2:=(hv.goodT i s hs).hb;have hm:=Gn hv (i:=j+1) (j:=i) (by omega) (by omega);rw[Dk hjt] at hm;unfold CG Bq at hb;split at hb
   .rw[List.mem_filter] at hb;obtain⟨t',_,e'⟩:=T1.1 hb.1;omega
   .cases hb
theorem Qr{n:Ab}(hv:Ax n)(c:Nat){rs:List Int}(h:(rs.length:Int)<Bl n (Ur c false) n.ss.length):BC n.ss rs n.ss.length≠[]:=by
 intro he;have h1:=Qc hv c n.ss.length (TF _);have h2:=nodup_le (Sz hv n.ss.length (TF _)) (m:=rs) fun x hx=>by
  obtain⟨g1,_⟩:=(HN _ (TF _)).1 hx;by_cases hm:x∈rs
  .exact hm
  .have:=(HN (rs:=rs) _ (TF _)).2 ⟨g1,hm⟩;rw[he] at this;cases this
 omega
theorem cap_ok{n:Ab}(hrw:Rows n.nx)(hv:Ax n):1<=DH (Bx n) (B5 n)/\DH (Bx n) (B5 n)<=B5 n:=by
 have hs1:1<=B5 n:=by unfold B5;rw[Qc hv _ _ (TF _)];obtain⟨x,s,hs,hd,h1,h2⟩:=hv.dep;have hm:x∈BC n.ss [] n.ss.length:=(HN _ (TF _)).2 ⟨⟨s,hs,hd,h1,h2⟩,by simp⟩;have:=Uo hm;omega
 have hg2:(Bx n).length≠1:=by
  intro he;unfold Bx IM at he;rw[Ts hv.chk] at he;obtain⟨hg,_⟩:=IP hrw hv.chk;obtain⟨⟨_,h2,h3⟩,_⟩:=S0 hg (by intro e;rw[e] at he;simp at he);generalize B9 n.nx (Ur n.bs.length false) n.nx.length=o at he h2 h3;have hm:o.getD 0 0∈o:=by rw[Tv,Tu (by omega:0<o.length)];exact T2 (by omega)
  have h4:=h3 0 (by omega);rw[he] at h4;obtain⟨g1,g2,_⟩:=h2 _ hm;have:=(hg.row (o.getD 0 0).toNat (by omega)).2 (o.getD 0 0) (by simpa using h4);omega
 unfold DH;split
 .split<;>omega
 .omega
def nxR(Q:QF):QF:={Q with kk:=Q.kk+1,rs:=Q.rs++[Fg Q],k:=Q.k-1}
def itR(Q:QF):Nat->QF | 0=>Q | n+1=>nxR (itR Q n)
def CC(Q:QF)(rs:List Int):Ab:=⟨Q.bs,Q.g,Q.ss,rs,Q.cx,Q.cy,Q.cz,Q.cw⟩
def Is(n:Ab)(rs:List Int):Prop:=∀(i:Nat) (c:Int),rs[i]?=some c->A3 n n.ss.length c/\c∉rs.take i
theorem newR_ok{Q:QF}(hne:BC Q.ss Q.rs Q.ss.length≠[])(hl:(BC Q.ss Q.rs Q.ss.length).length<=1000):(∃s∈Q.ss,s.dep=true/\s.b<=Fg Q/\Fg Q<s.b+s.k)/\Fg Q∉Q.rs:=by
 have hp:=List.length_pos_iff.2 hne;have r:=Bd Q.L Q.kk ((BC Q.ss Q.rs Q.ss.length).length:Int) (by omega) (by omega);have hm:Fg Q∈BC Q.ss Q.rs Q.ss.length:=by unfold Fg;rw[Tv,Tu (by omega)];exact T2 _
 obtain⟨⟨s,hs,h⟩,h2⟩:=(HN _ (TF _)).1 hm;rw[List.take_length] at hs;exact⟨⟨s,hs,h⟩,h2⟩
theorem Is.push{n:Ab}{rs:List Int}(h:Is n rs){c:Int}(h1:A3 n n.ss.length c)(h2:c∉rs):Is n (rs++[c]):=by
 intro i d hd;rw[T4] at hd;split at hd
 .rename_i hi;rw[List.take_append_of_le_length (by omega)];exact h i d hd
 .rename_i hi;have hil:i=rs.length:=by
   by_cases e:i=rs.length
   .exact e
   .rw[TU (by simp;omega)] at hd;cases hd
  subst hil;simp at hd;subst hd;rw[List.take_append_of_le_length (TF _),List.take_length];exact⟨h1,h2⟩
theorem Ax.robots{n:Ab}(h:Ax n){rs:List Int}(hr:Is n rs)(hl:rs.length<=8):Ax {n with rs:=rs}:=⟨h.nb,h.nx,h.ns,hl,(by have:=h.cfg;unfold Bc at this ⊢;exact this),fun i b hb=>⟨(h.blk i b hb).nm,(h.blk i b hb).x,(h.blk i b hb).y,(h.blk i b hb).nx⟩,fun i s hs=>⟨(h.spu i s hs).nm,(h.spu i s hs).hi,(h.spu i s hs).ho,(h.spu i s hs).hk,(h.spu i s hs).hb⟩,h.nod,h.dep,hr⟩
theorem OQ(Q:QF):∀m,itR Q m={Q with kk:=Q.kk+m,rs:=(itR Q m).rs,k:=Q.k-(m:Int)}:=by
 intro m;induction m with
 | zero=>simp[itR]
 | succ m ih=>
  have e:itR Q (m+1)=nxR (itR Q m):=rfl;rw[e];generalize itR Q m=R at ih ⊢
  rw[ih];simp only[nxR];congr 1;omega
theorem Ot{Q:QF}(hv:Ax (CC Q []))(hrs:Q.rs=[]){c:Nat}{M:Nat}(hM:(M:Int)<=Bl (CC Q []) (Ur c false) Q.ss.length):∀m,m<=M->(itR Q m).rs.length=m/\Is (CC Q []) (itR Q m).rs:=by
 intro m;induction m with
 | zero=>intro _;simp only[itR];rw[hrs];exact⟨rfl,fun i c h=>by simp at h⟩
 | succ m ih=>
  intro hm;obtain⟨h1,h2⟩:=ih (by omega);have hne:=Qr hv c (rs:=(itR Q m).rs) (by rw[h1];exact Int.lt_of_lt_of_le (by omega) hM);have hfl:=Pv (ss:=Q.ss) (rs:=(itR Q m).rs) (fun s hs=>by obtain⟨j,hj⟩:=List.mem_iff_getElem?.1 hs;exact(hv.goodT j s hj).hk.2) Q.ss.length (TF _);have hns:=hv.ns;simp only[CC] at hns hne;have e:=OQ Q m;have hss:(itR Q m).ss=Q.ss:=by rw[e]
  have ok:=newR_ok (Q:=itR Q m) (by rw[hss];exact hne) (by rw[hss];omega);rw[hss] at ok;refine⟨by simp only[itR,nxR,TQ,T9,h1],?_⟩;simp only[itR,nxR];refine h2.push ?_ ok.2;obtain⟨s,hs,hd,g1,g2⟩:=ok.1;refine⟨s,?_,hd,g1,g2⟩;simp only[CC];rw[List.take_length];exact hs
def l3n(q:QF):St:={n:=Try.f28.ntmps,fr:=[(0,.ptr 0 0 0),(4,.ptr 1 0 0),(5,.ptr 2 0 0),(12,.ptr 6 0 0),(14,.int .i64 q.k),(15,.nils),(16,.int .i64 0)],hp:=hF q}
theorem F1{a b:AV}(h:Bj a b)(k s:Nat){r r':List (Nat×AV)}(hr:Bj (AX.Ao r s) (AX.Ao r' s)):Bj (AX.Ao ((k,a)::r) s) (AX.Ao ((k,b)::r') s):=by
 simp only[AX.Ao];cases Nat.beq k s with
 | true=>exact h
 | false=>exact hr
theorem ren_f(q:QF):Ren 1 (l3n q) (Cm (frU q [] 0 0 s0 false)):=by
 refine Ren.less rfl (by simp[l3n,Cm,hF]) (fun s=>?_) fun b blk' h=>?_
 .exact F1 (.refl _) _ _ (F1 (.refl _) _ _ (F1 (.refl _) _ _ (F1 (.refl _) _ _ (F1 (.refl _) _ _ (F1 (.nilS 8 0) _ _ (F1 (.refl _) _ _ (.refl _)))))))
 match b,h with
 | 0,h=>exact .inl ⟨by simp[l3n,hF],_,rfl,.inl (by simpa [Cm,frU,hF,nth] using h.symm)⟩
 | 1,h=>exact .inl ⟨by simp[l3n,hF],_,rfl,.inl (by simpa [Cm,frU,hF,nth] using h.symm)⟩
 | 2,h=>exact .inl ⟨by simp[l3n,hF],_,rfl,.inl (by simpa [Cm,frU,hF,nth] using h.symm)⟩
 | 3,h=>exact .inl ⟨by simp[l3n,hF],_,rfl,.inl (by simpa [Cm,frU,hF,nth] using h.symm)⟩
 | 4,h=>exact .inl ⟨by simp[l3n,hF],_,rfl,.inl (by simpa [Cm,frU,hF,nth] using h.symm)⟩
 | 5,h=>exact .inl ⟨by simp[l3n,hF],_,rfl,.inl (by simpa [Cm,frU,hF,nth] using h.symm)⟩
 | 6,h=>exact .inl ⟨by simp[l3n,hF],_,rfl,.inl (by simpa [Cm,frU,hF,nth] using h.symm)⟩
 | 7,h=>exact .inl ⟨by simp[l3n,hF],_,rfl,.inl (by simpa [Cm,frU,hF,nth] using h.symm)⟩
 | 8,h=>have h:some (dB [])=some blk':=h;simp only[Ta] at h;subst h;exact .inr ⟨by simp[l3n,hF],rfl,rfl,rfl,rfl⟩
 | b+9,h=>simp[Cm,frU,hF,nth] at h
theorem n2_run{Q:QF}(hv:Ax (CC Q []))(hrs:Q.rs=[]){c:Nat}(hcc:1<=Q.cc/\Q.cc<=Bl (CC Q []) (Ur c false) Q.ss.length)(hk:1<=Q.k/\Q.k<=5)(hkk:Q.kk<=90000){M:Nat}(hM:(M:Int)=if Q.k<=Q.cc then Q.k else Q.cc):
  T Ux 1 (.loop (zC (zB Try.f28) 2)) (Ce Q) (TK Ux 1 (Fin Ux Try.f28 1 [some (Ag Q.L (Q.kk+M))] (Af (CC Q (itR Q M).rs))) (zK (zB Try.f28) 2)):=by
 have hM1:(M:Int)<=Q.k/\(M:Int)<=Q.cc/\((M:Int)=Q.k\/(M:Int)=Q.cc):=by split at hM<;>omega
 have hok:=Ot hv hrs (c:=c) (M:=M) (by omega);have hns:=hv.ns;simp only[CC] at hns;refine T.loop (fun m:Nat=>Ce (itR Q m)) (fun m=>m<=M) (fun m=>M+1-m) 0 (TG _) ?_;intro m hm;obtain⟨h1,h2⟩:=hok m hm;have e:=OQ Q m;by_cases h:m<M
 .have hss:(itR Q m).ss=Q.ss:=by rw[e]
  have hkm:(itR Q m).k=Q.k-(m:Int):=by rw[e]
  have hcm:(itR Q m).cc=Q.cc:=by rw[e]
  have hkkm:(itR Q m).kk=Q.kk+m:=by rw[e]
  have hne:=Qr hv c (rs:=(itR Q m).rs) (by rw[h1];exact Int.lt_of_lt_of_le (by omega) hcc.2);simp only[CC] at hne;have hsp:SpOk (itR Q m).ss:=by
   rw[hss];refine⟨hns,fun s hs=>?_,fun s hs=>?_⟩
   .obtain⟨j,hj⟩:=List.mem_iff_getElem?.1 hs;exact(hv.goodT j s hj).hk
   .obtain⟨j,hj⟩:=List.mem_iff_getElem?.1 hs;have g:=(hv.goodT j s hj).hb;have b:=hv.bd j;have nb:=hv.nb24;have hjl:=(Tw.1 hj).1;omega
  refine T.path mix (nvl_0 (itR Q m) (TA (by rw[hkm];omega)) (TA (by simp only[iN];rw[h1,hcm];omega)) (T.less (ren_f (itR Q m)) (nw_run hsp (by omega) (by omega) (by omega) (by rw[hss];exact hne) fun st hst=>⟨m+1,hst,h,by omega⟩)))
 .obtain rfl:m=M:=by omega
  have hb:(itR Q m).bs.length=((itR Q m).bs.map bA).length:=by simp
  have hg:(itR Q m).g.length=(gL (itR Q m).g).length:=(BD _).symm;have hs:(itR Q m).ss.length=((itR Q m).ss.map sA).length:=by simp
  have hr:(itR Q m).rs.length=((itR Q m).rs.map (AV.int .i64)).length:=by simp
  have hkm:(itR Q m).k=Q.k-(m:Int):=by rw[e]
  have hcm:(itR Q m).cc=Q.cc:=by rw[e]
  have ek:Q.L=(itR Q m).L/\Q.kk+m=(itR Q m).kk/\CC Q (itR Q m).rs=CC (itR Q m) (itR Q m).rs:=by rw[e];exact⟨rfl,rfl,rfl⟩
  rw[ek.1,ek.2.1,ek.2.2];by_cases h0:(m:Int)=Q.k
  .exact T.out mix (nvx_0 (itR Q m) (Tz (by rw[hkm];omega)) hb hg hs hr)
  .exact T.out mix (nvy_0 (itR Q m) (TA (by rw[hkm];omega)) (Tz (by simp only[iN];rw[h1,hcm];omega)) hb hg hs hr)
structure L3(n:Ab):Prop where
 v:Ax n
 ln:3<=n.ss.length/\n.ss.length<=5
 d0:∀s,n.ss[0]?=some s->s.dep=true
 d1:∀s,n.ss[1]?=some s->s.dep=false
 d2:∀s,n.ss[2]?=some s->s.dep=false
 rb:n.rs≠[]
 rows:Rows n.nx
 rng:Rng n.bs.length n.nx
theorem GI.rows{n m:Nat}{g:List (List Int)}(h:GI n m g)(hm:m<=1000):Rows g:=fun v hv=>by rw[h.len] at hv;have:=(h.row v hv).1;omega
theorem net_ex(L:List Int)(kk:Nat)(hkk:kk<=5000)(most:Int)(hmo:1<=most/\most<=20):
  ∃n kk',(L3 n/\(n.bs.length:Int)=1+Ai L kk most)/\kk'<=kk+200/\CT Ux 28 [some (Ag L kk)] [.ptr 0 0 0,.int .i64 most] [some (Ag L kk')] (Af n):=by
 have hb:Try.f28.body=some (zB Try.f28):=by kernel_rfl
 have c0:=A6 L kk most (by omega);have r0:=Bd L kk most (by omega) (by omega);have w0:i64.wrap (1+Ai L kk most)=1+Ai L kk most:=A5 _ (by omega) (by omega);obtain⟨K,hK⟩:∃K:Nat,(K:Int)=1+Ai L kk most:=⟨(1+Ai L kk most).toNat,by omega⟩;have hK2:1<=K/\K<=24:=by omega
 have hro:=OA (L:=L) (kk:=kk+1+2 * K) hK2;have hbl:=KM L (kk+1) K;generalize hg:(Bf L K (kk+1+2 * K)).1=g at hro;generalize hk1:(Bf L K (kk+1+2 * K)).2=k1 at hro;have r1:=Bd L k1 3 (by omega) (by omega);obtain⟨M,hM⟩:∃M:Nat,(M:Int)=3+Ai L k1 3:=⟨(3+Ai L k1 3).toNat,by omega⟩;have hp:=itS_ok (L:=L) hK2 (kk:=k1+1) (b0:=(K:Int)) M;have hpb:=Pc (L:=L) (b:=K) (p:=⟨[],k1+1,(K:Int)⟩) M;simp only[Ub,TJ] at hpb;generalize hpp:itS L K ⟨[],k1+1,(K:Int)⟩ M=p at hp hpb;have q0:=Bd L p.kk 4 (by omega) (by omega);have q1:=Bd L (p.kk+1) 3 (by omega) (by omega);have q2:=Bd L (p.kk+2) 3 (by omega) (by omega);have q3:=Bd L (p.kk+3) 8 (by omega) (by omega);have q4:=Bd L (p.kk+4) 3 (by omega) (by omega);have e0:=A6 L p.kk 4 (by omega);have e1:=A6 L (p.kk+1) 3 (by omega);have e2:=A6 L (p.kk+2) 3 (by omega);have e3:=A6 L (p.kk+3) 8 (by omega);have e4:=A6 L (p.kk+4) 3 (by omega);generalize Ai L p.kk 4=x at q0 e0;generalize Ai L (p.kk+1) 3=y at q1 e1;generalize Ai L (p.kk+2) 3=z at q2 e2;generalize Ai L (p.kk+3) 8=w at q3 e3;generalize Ai L (p.kk+4) 3=v at q4 e4;have hrw:Rows g:=hro.1.rows (by omega);have hv:=RF (L:=L) (kk:=kk+1) hK2 hro.1 hp (by omega) (x:=x) (y:=y) (z:=z) (w:=w) q0 q1 q2 q3;have fl:=S1 (n:=⟨bsZ L (kk+1) K,g,p.ss,[],1+x,y,z,1+w⟩) hrw hv rfl;have hcap:=cap_ok (n:=⟨bsZ L (kk+1) K,g,p.ss,[],1+x,y,z,1+w⟩) hrw hv;have hslo:B5 ⟨bsZ L (kk+1) K,g,p.ss,[],1+x,y,z,1+w⟩=Bl ⟨bsZ L (kk+1) K,g,p.ss,[],1+x,y,z,1+w⟩ (Ur (Au ⟨bsZ L (kk+1) K,g,p.ss,[],1+x,y,z,1+w⟩) false) p.ss.length:=rfl;generalize Au ⟨bsZ L (kk+1) K,g,p.ss,[],1+x,y,z,1+w⟩=cel at hslo;generalize B5 ⟨bsZ L (kk+1) K,g,p.ss,[],1+x,y,z,1+w⟩=sl at fl hcap hslo;generalize Bx ⟨bsZ L (kk+1) K,g,p.ss,[],1+x,y,z,1+w⟩=gi at fl hcap;generalize DH gi sl=cc at fl hcap;obtain⟨m,hm⟩:∃m:Nat,(m:Int)=if 1+v<=cc then 1+v else cc:=⟨(if 1+v<=cc then 1+v else cc).toNat,by split<;>omega⟩
 let Q:QF:=⟨L,p.kk+5,bsZ L (kk+1) K,g,p.ss,[],1+x,y,z,1+w,iN gi.length,sl,cc,1+v,[],0,0,s0,false,0,0⟩
 have hmb:1<=m/\m<=3:=by split at hm<;>omega
 have t2:=n2_run (Q:=Q) hv rfl (c:=cel) ⟨hcap.1,hslo ▸ hcap.2⟩ ⟨by show 1<=1+v;omega,by show 1+v<=5;omega⟩ (by show p.kk+5<=90000;omega) (M:=m) hm;have rok:=Ot (Q:=Q) hv rfl (c:=cel) (M:=m) (by have:(m:Int)<=cc:=by {split at hm<;>omega};exact Int.le_trans this (hslo ▸ hcap.2)) m (TF _);refine⟨CC Q (itR Q m).rs,p.kk+5+m,⟨⟨hv.robots rok.2 (by omega),by show 3<=p.ss.length/\p.ss.length<=5;omega,fun s h=>(hp.el 0 s h).2.1 rfl,fun s h=>(hp.el 1 s h).2.2.1 (.inl rfl),fun s h=>(hp.el 2 s h).2.2.1 (.inr rfl),fun e=>by have:=rok.1;have e':(itR Q m).rs=[]:=e;rw[e'] at this;simp at this;omega,hrw,by have:=R0 L K (kk+1+2 * K);rw[hg,<-hbl] at this;exact this⟩,by rw[<-hK];show((bsZ L (kk+1) K).length:Int)=_;rw[hbl]⟩,by omega,?_⟩;refine CT.path mix Try.func28 hb (nL rfl) (nti_0 (qA L kk [] [] [] [] most 0 em (Ai L kk most) 0 0 0 (kk+1) 0 0 0) c0 ?_);have t0:=n0_run (L:=L) (kk:=kk+1) hK2 (by omega) (post:=Fin Ux Try.f28 1 [some (Ag L (p.kk+5+m))] (Af (CC Q (itR Q m).rs))) fun B hB=>by
  subst hB;rw[hg,hk1,<-hM];have hbl':1<=(bsZ L (kk+1) K).length/\(bsZ L (kk+1) K).length<=24:=by rw[hbl];exact hK2
  refine n1_run hbl' (by omega) (by omega) (by omega) ?_;rw[hbl,hpp];exact n1_exit (by omega) (by omega) (by omega) e0 e1 e2 e3 e4 fl t2
 have t1:=T.less (ren_z (qA L (kk+1) [] [] [] [] (K:Int) 0 em 0 0 0 0 0 0 0 0) rfl rfl) t0;have t1':T Ux 1 (.loop (zC (zB Try.f28) 0)) (Fu (qA L (kk+1) [] [] [] [] (i64.wrap (1+Ai L kk most)) 0 em 0 0 0 0 0 0 0 0)) (TK Ux 1 (Fin Ux Try.f28 1 [some (Ag L (p.kk+5+m))] (Af (CC Q (itR Q m).rs))) (zK (zB Try.f28) 0)):=by rw[w0,<-hK];exact t1
 exact t1'
end Go.Proofs.Ytedjkebooffjpaa

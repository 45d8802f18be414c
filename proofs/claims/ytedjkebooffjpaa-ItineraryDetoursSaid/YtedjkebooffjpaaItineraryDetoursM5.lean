/- Parts of the proof:NmF,Nm3p,NmG,NmH,NmI,Nm4p,NmJ,NmK,NmL,Nm5p,NmM. -/
import Derived.KernelRfl
import Derived.Test.YtedjkebooffjpaaProg
import Derived.Test.YtedjkebooffjpaaItineraryDetoursM4
noncomputable section
set_option linter.unusedVariables false
set_option linter.unusedSimpArgs false
open Go Go.AX Go.Proofs
set_option maxRecDepth 100000
set_option linter.unusedVariables false
set_option linter.unusedSimpArgs false
open Go.IntKind (i64 u64)
open List renaming map->Uu,replicate->Uv
open Go.AX.AV renaming lst->UA
open Go.Proofs.Try renaming prog->UB
namespace Go.Proofs.Ytedjkebooffjpaa
theorem Bi{x y z:Int}:Av x y z=true↔y<=x/\x<=z:=by unfold Av;simp
theorem baseN_bd{n:Aa}(hns:n.ss.length<=6){i:Nat}(hg:∀j s,j<i->n.ss[j]?=some s->DC n j s)(hb:n.bs.length<=24):(n.bs.length:Int)<=Az n i/\Az n i<=n.bs.length+4 * i:=by
 induction i with
 | zero=>simp[Az]
 | succ i ih=>
  obtain⟨h1,h2⟩:=ih fun j s hj hs=>hg j s (by omega) hs
  cases hs:n.ss[i]? with
  | some s=>rw[Dm hs];have:=Bi.1 (hg i s (by omega) hs).hk;omega
  | none=>
   have:Az n (i+1)=Az n i:=by unfold Az;simp[List.take_add_one,hs]
   rw[this];omega
theorem mvt_run{n:Aa}{i:Nat}(hi:i<=6){l:List MapEntry}{c:Nat}{s:Ao}(hs:n.ss[i]?=some s)(hk:1<=s.k/\s.k<=4)(hb:0<=s.b/\s.b<=1000){l2:List MapEntry}{c2:Nat}(hset:Bs (AW n i) l2)
  {R:St->Prop} {post:Exit->St->Prop}
  (hR:∀l2' c2',Bs (AW n (i+1)) l2'->∀st,Ren 0 st (CY (qV n l c l2' c2' b0 s0 [] (i+1) (s.b+s.k) 0 false 0))->R st):
  T UB 0 (.loop (zC (zC (zB Try.f93) 1) 0)) (En (qV n l c l2 c2 b0 s [] i s.b 0 false 0)) (TK UB 0 (andThen R post) (zK (zC (zB Try.f93) 1) 0)):=by
 have e0:s.b=s.b+((0:Nat):Int):=by omega
 suffices hh:T UB 0 (.loop (zC (zC (zB Try.f93) 1) 0)) (En (qV n l c l2 c2 b0 s [] i (s.b+((0:Nat):Int)) 0 false 0)) (TK UB 0 (andThen R post) (zK (zC (zB Try.f93) 1) 0)) by
  rw[<-e0] at hh;exact hh
 refine T.loop (fun p:MP=>En (qV n l c p.l2 p.c2 b0 s [] i (s.b+(p.k:Int)) p.k false 0)) (fun p=>(p.k:Int)<=s.k/\Bs (fun x=>AW n i x\/(s.dep=true/\s.b<=x/\x<s.b+(p.k:Int))) p.l2)
  (fun p=>(s.k+1-p.k).toNat) ⟨i,[],0,l2,c2,0,false⟩ ⟨by simp only;omega,hset.congr fun x=>⟨.inl,fun h=>h.elim id fun h=>by simp only at h;omega⟩⟩ ?_
 rintro⟨i',l',c',l2,c2,k,ok'⟩ ⟨hkk,hset⟩
 simp only at hkk hset
 have wb:i64.wrap (s.b+(k:Int)+1)=s.b+((k+1:Nat):Int):=by rw[A6 _ (by omega) (by omega)];omega
 have wk:i64.wrap (iN k+1)=((k+1:Nat):Int):=zW k (by omega)
 by_cases h:(k:Int)<s.k
 .have dk:decide (iN k<s.k)=true:=TD h
  have next:∀l2' c2',Bs (fun x=>AW n i x\/(s.dep=true/\s.b<=x/\x<s.b+((k+1:Nat):Int))) l2'->∀st,Ren 0 st (En (qV n l c l2' c2' b0 s [] i (s.b+((k+1:Nat):Int)) (k+1) false 0))->
    ∃j,Ren 0 st ((fun p:MP=>En (qV n l c p.l2 p.c2 b0 s [] i (s.b+(p.k:Int)) p.k false 0)) j)/\((fun p:MP=>(p.k:Int)<=s.k/\Bs (fun x=>AW n i x\/(s.dep=true/\s.b<=x/\x<s.b+(p.k:Int))) p.l2) j)/\(s.k+1-j.k).toNat<(s.k+1-k).toNat:=by
   intro l2' c2' hse st hst
   exact⟨⟨i',l',c',l2',c2',k+1,false⟩,hst,⟨by simp only;omega,hse⟩,by simp only;omega⟩
  rcases Bool.eq_false_or_eq_true s.dep with hd | hd
  .have hm : ∀ (x : MapEntry), x ∈ l2 -> A2 (TypeInfo.mk (TypeDesc.int i64) "int" 1 8 false 8 8 (some (Value.int i64 0)) true #[]).desc x.key = true /\ BT MK.b x.val := hset.ok
   refine T.path mix (mvt_0 (qV n l c l2 c2 b0 s [] i (s.b+(k:Int)) k false 0) dk hd hm ?_)
   intro st hst
   simp only[qV,wb,wk] at hst
   refine next _ _ (hset.put.congr fun x=>?_) st hst
   simp only[hd,true_and]
   constructor
   .rintro((a | a) | a)
    .exact .inl a
    .exact .inr (by omega)
    .exact .inr (by omega)
   .rintro(a | a)
    .exact .inl (.inl a)
    .by_cases e:x=s.b+(k:Int)
     .exact .inr e
     .exact .inl (.inr (by omega))
  .refine T.path mix (mvt_1 (qV n l c l2 c2 b0 s [] i (s.b+(k:Int)) k false 0) dk hd ?_)
   intro st hst
   simp only[qV,wb,wk] at hst
   refine next _ _ (hset.congr fun x=>?_) st hst
   simp only[hd]
   simp
 .have ek:(k:Int)=s.k:=by omega
  refine T.out mix (mvtx_0 (qV n l c l2 c2 b0 s [] i (s.b+(k:Int)) k false 0) (TC h) ?_)
  intro st hst
  have wi:i64.wrap (iN i+1)=((i+1:Nat):Int):=zW i (by omega)
  simp only[qV,wi,ek] at hst
  refine hR l2 c2 (hset.congr fun x=>?_) st hst
  rw[Oj hs,ek]
theorem mvs_run{n:Aa}(hnb:1<=n.bs.length/\n.bs.length<=24)(hnx:n.nx.length=n.bs.length)(hns:n.ss.length<=6)(hnr:n.rs.length<=8)(hcfg:A9 n=true)(hblk:∀i b,n.bs[i]?=some b->G7 n i b)
  {l:List MapEntry} {c:Nat} (hnm:DK (n.bs.map (·.nm)) l):
  T UB 0 (.loop (zC (zB Try.f93) 1)) (CY (qV n l c [] 0 b0 s0 [] 0 n.bs.length 0 false 0)) (TK UB 0 (Fin UB Try.f93 0 [] (.bool (AZ n))) (zK (zB Try.f93) 1)):=by
 have hl:(n.ss.map sA).length=n.ss.length:=by simp
 have hbl:(n.bs.map bA).length=n.bs.length:=by simp
 have wn1:i64.wrap (iN (n.bs.map bA).length-1)=(n.bs.length:Int)-1:=by rw[hbl];exact A6 _ (by simp only[iN];omega) (by simp only[iN];omega)
 have e0:(n.bs.length:Int)=Az n 0:=by simp[Az]
 suffices hh:T UB 0 (.loop (zC (zB Try.f93) 1)) (CY (qV n l c [] 0 b0 s0 [] 0 (Az n 0) 0 false 0)) (TK UB 0 (Fin UB Try.f93 0 [] (.bool (AZ n))) (zK (zB Try.f93) 1)) by
  rw[<-e0] at hh;exact hh
 refine T.loop (fun p:MP=>CY (qV n p.l p.c p.l2 p.c2 b0 s0 [] p.i (Az n p.i) 0 false 0))
  (fun p=>p.i<=n.ss.length/\DK (n.bs.map (·.nm)++(n.ss.take p.i).map (·.nm)) p.l/\Bs (AW n p.i) p.l2/\∀j s,j<p.i->n.ss[j]?=some s->DC n j s)
  (fun p=>n.ss.length+1-p.i) ⟨0,l,c,[],0,0,false⟩ ⟨TJ _,by simpa using hnm,Bs.nil.congr fun x=>by simp[AW],fun j s hj=>by simp at hj⟩ ?_
 rintro⟨i,l,c,l2,c2,k,ok⟩ ⟨hi,hn,hset,hgd⟩
 simp only at hi hn hset hgd
 by_cases h:i<n.ss.length
 .obtain⟨s,hs⟩:∃s,n.ss[i]?=some s:=⟨_,Tx h⟩
  have dk:decide (iN i<iN (n.ss.map sA).length)=true:=TD (by simp only[iN,hl];omega)
  have k1:(0:Int)<=iN i:=by simp[iN]
  have hg:=CZ hs
  have hm : ∀ (x : MapEntry), x ∈ l -> A2 (TypeInfo.mk TypeDesc.string "string" 1 16 true 8 8 (some (Value.string (ByteArray.mk #[]))) true #[]).desc x.key = true /\ BT (MK.i i64) x.val := hn.ok
  have c1:=Pv s.nm
  have c2':=Ef s.i 0 (i64.wrap (iN (n.bs.map bA).length-1))
  have c3:=Ef s.o 0 (i64.wrap (iN (n.bs.map bA).length-1))
  have c4:=Ef s.k 1 4
  have bad:¬DC n i s->AZ n=false:=fun hb=>Cv fun hv=>hb (hv.spu i s hs)
  have gi:∀g:DC n i s,Av s.i 0 (i64.wrap (iN (n.bs.map bA).length-1))=true:=fun g=>by rw[wn1];exact g.hi
  have go:∀g:DC n i s,Av s.o 0 (i64.wrap (iN (n.bs.map bA).length-1))=true:=fun g=>by rw[wn1];exact g.ho
  have inner:DC n i s->T UB 0 (.loop (zC (zC (zB Try.f93) 1) 0)) (En (qV n (BS .string (.string s.nm) (.int .i64 (i64.wrap (Ej .string (.string s.nm) l+1))) l c) (BN .string (.string s.nm) l c) l2 c2 b0 s [] i (Az n i) 0 false 0))
    (TK UB 0 (andThen (fun st'=>∃j,Ren 0 st' ((fun p:MP=>CY (qV n p.l p.c p.l2 p.c2 b0 s0 [] p.i (Az n p.i) 0 false 0)) j)/\((fun p:MP=>p.i<=n.ss.length/\DK (n.bs.map (·.nm)++(n.ss.take p.i).map (·.nm)) p.l/\Bs (AW n p.i) p.l2/\∀j s,j<p.i->n.ss[j]?=some s->DC n j s) j)/\n.ss.length+1-j.i<n.ss.length+1-i) (TK UB 0 (Fin UB Try.f93 0 [] (.bool (AZ n))) (zK (zB Try.f93) 1))) (zK (zC (zB Try.f93) 1) 0)):=by
   intro g
   have hbd:=baseN_bd hns hgd hnb.2
   rw[<-g.hb] at hbd ⊢
   refine mvt_run (by omega) hs (Bi.1 g.hk) (by omega) hset fun l2' c2' hse st hst=>?_
   rw[g.hb,<-Dm hs] at hst
   refine⟨⟨i+1,_,_,l2',c2',0,false⟩,hst,⟨h,?_,hse,fun j t hj ht=>?_⟩,by simp only;omega⟩
   .have:=hn.step (x:=s.nm) (n:=i64.wrap (Ej .string (.string s.nm) l+1)) (c:=c)
    simpa [List.take_add_one,hs] using this
   .by_cases e:j=i
    .subst e;rw[hs] at ht;cases ht;exact g
    .exact hgd j t (by simp only at hj;omega) ht
  cases t1:(!nmB (qV n l c l2 c2 b0 s [] i (Az n i) 0 false 0).s.nm)
  case false=>
   cases t2:(!Av (qV n l c l2 c2 b0 s [] i (Az n i) 0 false 0).s.i 0 (i64.wrap (iN (Uu bA (qV n l c l2 c2 b0 s [] i (Az n i) 0 false 0).n.bs).length-1)))
   case false=>
    cases t3:(!Av (qV n l c l2 c2 b0 s [] i (Az n i) 0 false 0).s.o 0 (i64.wrap (iN (Uu bA (qV n l c l2 c2 b0 s [] i (Az n i) 0 false 0).n.bs).length-1)))
    case false=>
     cases t4:(!Av (qV n l c l2 c2 b0 s [] i (Az n i) 0 false 0).s.k 1 4)
     case false=>
      cases t5:((qV n l c l2 c2 b0 s [] i (Az n i) 0 false 0).s.b != (qV n l c l2 c2 b0 s [] i (Az n i) 0 false 0).base)
      case false=>
       exact T.path mix (mvs_5 (qV n l c l2 c2 b0 s [] i (Az n i) 0 false 0) dk (by assumption) (by assumption) (by assumption) (by assumption) t1 (by assumption) t2 (by assumption) t3 (by assumption) t4 t5 (inner ⟨by simp_all [qV],by simp_all [qV],by simp_all [qV],by simp_all [qV],by simp_all [qV]⟩))
      case true=>
       rw[bad (fun g=>by have g1:=g.nm;have g2:=gi g;have g3:=go g;have g4:=g.hk;have g5:=g.hb;simp_all [qV])]
       exact T.out mix (mvs_4 (qV n l c l2 c2 b0 s [] i (Az n i) 0 false 0) dk (by assumption) (by assumption) (by assumption) (by assumption) t1 (by assumption) t2 (by assumption) t3 (by assumption) t4 t5)
     case true=>
      rw[bad (fun g=>by have g1:=g.nm;have g2:=gi g;have g3:=go g;have g4:=g.hk;have g5:=g.hb;simp_all [qV])]
      exact T.out mix (mvs_3 (qV n l c l2 c2 b0 s [] i (Az n i) 0 false 0) dk (by assumption) (by assumption) (by assumption) (by assumption) t1 (by assumption) t2 (by assumption) t3 (by assumption) t4)
    case true=>
     rw[bad (fun g=>by have g1:=g.nm;have g2:=gi g;have g3:=go g;have g4:=g.hk;have g5:=g.hb;simp_all [qV])]
     exact T.out mix (mvs_2 (qV n l c l2 c2 b0 s [] i (Az n i) 0 false 0) dk (by assumption) (by assumption) (by assumption) (by assumption) t1 (by assumption) t2 (by assumption) t3)
   case true=>
    rw[bad (fun g=>by have g1:=g.nm;have g2:=gi g;have g3:=go g;have g4:=g.hk;have g5:=g.hb;simp_all [qV])]
    exact T.out mix (mvs_1 (qV n l c l2 c2 b0 s [] i (Az n i) 0 false 0) dk (by assumption) (by assumption) (by assumption) (by assumption) t1 (by assumption) t2)
  case true=>
   rw[bad (fun g=>by have g1:=g.nm;have g2:=gi g;have g3:=go g;have g4:=g.hk;have g5:=g.hb;simp_all [qV])]
   exact T.out mix (mvs_0 (qV n l c l2 c2 b0 s [] i (Az n i) 0 false 0) dk (by assumption) (by assumption) (by assumption) (by assumption) t1)
 .have hin:i=n.ss.length:=by omega
  subst hin
  rw[List.take_length] at hn
  have dl:decide (iN n.ss.length<iN (n.ss.map sA).length)=false:=TC (by simp only[iN,hl];omega)
  have hsp:∀j s,n.ss[j]?=some s->DC n j s:=fun j s hj=>hgd j s (Tz.1 hj).1 hj
  have hnl:(B1 n).length=n.bs.length+n.ss.length:=by simp[B1]
  have hif:=hn.iff
  change l.length=(B1 n).length↔(B1 n).Nodup at hif
  have hle:=hn.le
  change l.length<=(B1 n).length at hle
  rw[hnl] at hif hle
  have ww:i64.wrap (iN (Uu bA n.bs).length+iN (Uu sA n.ss).length)=((n.bs.length+n.ss.length:Nat):Int):=by rw[hbl,hl,A6 _ (by simp only[iN];omega) (by simp only[iN];omega)];simp[iN]
  cases hp:decide (0<iN l2.length) with
  | true=>
   have hdep:∃x,AW n n.ss.length x:=hset.pos.1 (by have:=of_decide_eq_true hp;simp only[iN] at this;omega)
   refine T.out mix (mvsx_0 (qV n l c l2 c2 b0 s0 [] n.ss.length (Az n n.ss.length) 0 false 0) dl hp ?_)
   have hr:=NW (c2:=c2) hnr hset (iN l.length==i64.wrap (iN (Uu bA n.bs).length+iN (Uu sA n.ss).length))
   have ev:AZ n=((iN l.length==i64.wrap (iN (Uu bA n.bs).length+iN (Uu sA n.ss).length))&&@decide (∀i c,n.rs[i]?=some c->AW n n.ss.length c/\c∉n.rs.take i) (Classical.propDecidable _)):=by
    rw[ww,Bool.eq_iff_iff,Cy]
    simp only[TF,@decide_eq_true_iff _ (Classical.propDecidable _),beq_iff_eq,iN]
    constructor
    .intro hv
     exact⟨by have:=hif.2 hv.nod;omega,hv.rob⟩
    .rintro⟨h1,h2⟩
     exact⟨Bi.2 (by omega),hnx,hns,hnr,hcfg,hblk,hsp,hif.1 (by omega),hdep,h2⟩
   rw[ev]
   exact hr
  | false=>
   have hdep:¬∃x,AW n n.ss.length x:=fun hd=>by have:=hset.pos.2 hd;have:=of_decide_eq_false hp;simp only[iN] at this;omega
   refine T.out mix (mvsx_1 (qV n l c l2 c2 b0 s0 [] n.ss.length (Az n n.ss.length) 0 false 0) dl hp ?_)
   have hr:=NW (c2:=c2) hnr hset false
   rw[Cv fun hv=>hdep hv.dep]
   rw[Bool.false_and] at hr;exact hr
theorem Nz{n:Aa}(hrw:Rows n.nx):CT UB 93 [] [Ai n] [] (.bool (AZ n)):=by
 have hb:Try.f93.body=some (zB Try.f93):=by kernel_rfl
 have hn:[Ai n].length<=Try.f93.ntmps:=nL rfl
 have hbl:(n.bs.map bA).length=n.bs.length:=by simp
 have hsl:(n.ss.map sA).length=n.ss.length:=by simp
 have hrl:(n.rs.map (AV.int .i64)).length=n.rs.length:=by simp
 have hgl:=BD n.nx
 have c1:=Ef (iN (Uu bA n.bs).length) 1 24
 have c2:=vcfg_ct n
 have h0:∀{res:Bool},AZ n=res->CT UB 93 [] [Ai n] [] (.bool res)->CT UB 93 [] [Ai n] [] (.bool (AZ n)):=fun e h=>e ▸ h
 have main:Av (iN (Uu bA n.bs).length) 1 24=true->(iN (gL n.nx).length != iN (Uu bA n.bs).length)=false->decide (6<iN (Uu sA n.ss).length)=false->decide (8<iN (Uu (AV.int .i64) n.rs).length)=false->A9 n=true->
   T UB 0 (.loop (zC (zB Try.f93) 0)) (Ek (qV n [] 0 [] 0 b0 s0 [] 0 0 0 false 0)) (TK UB 0 (Fin UB Try.f93 0 [] (.bool (AZ n))) (zK (zB Try.f93) 0)):=by
  intro g1 g2 g3 g4 g5
  rw[hbl] at g1 g2
  rw[hgl] at g2
  have hnb:=Bi.1 g1
  simp only[iN] at hnb
  have hnb':1<=n.bs.length/\n.bs.length<=24:=by omega
  have hnx:n.nx.length=n.bs.length:=by simp only[iN,bne_eq_false_iff_eq] at g2;omega
  have hns:n.ss.length<=6:=by have:=of_decide_eq_false g3;simp only[iN,hsl] at this;omega
  have hnr:n.rs.length<=8:=by have:=of_decide_eq_false g4;simp only[iN,hrl] at this;omega
  refine T.loop (fun p:MP=>Ek (qV n p.l p.c [] 0 b0 s0 [] p.i 0 0 false 0)) (fun p=>p.i<=n.bs.length/\DK ((n.bs.take p.i).map (·.nm)) p.l/\∀j b,j<p.i->n.bs[j]?=some b->G7 n j b)
   (fun p=>n.bs.length+1-p.i) ⟨0,[],0,[],0,0,false⟩ ⟨TJ _,DK.nil,fun j b hj=>by simp at hj⟩ ?_
  rintro⟨i,l,c,l2,c2',k,ok⟩ ⟨hi,hnm,hgd⟩
  simp only at hi hnm hgd
  by_cases h:i<n.bs.length
  .obtain⟨b,hbb⟩:∃b,n.bs[i]?=some b:=⟨_,Tx h⟩
   have dk:decide (iN i<iN (n.bs.map bA).length)=true:=TD (by simp only[iN,hbl];omega)
   have k1:(0:Int)<=iN i:=by simp[iN]
   have hg:=KO hbb
   have hg2:(gL n.nx)[i]?=some (lI (n.nx.getD i [])):=CX (by omega)
   have hm : ∀ (x : MapEntry), x ∈ l -> A2 (TypeInfo.mk TypeDesc.string "string" 1 16 true 8 8 (some (Value.string (ByteArray.mk #[]))) true #[]).desc x.key = true /\ BT (MK.i i64) x.val := hnm.ok
   have d1:=Pv b.nm
   have d2:=Ef b.x (-9999) 9999
   have d3:=Ef b.y (-9999) 9999
   have d4:=vnext_ct (n.nx.getD i []) (iN i) (iN (n.bs.map bA).length) (hrw i (by omega))
   have wi:i64.wrap (iN i+1)=((i+1:Nat):Int):=zW i (by omega)
   have ex:nxB (n.nx.getD i []) (iN i) (iN (n.bs.map bA).length)=nxB (n.nx.getD i []) i n.bs.length:=by rw[hbl]
   have bad:¬G7 n i b->AZ n=false:=fun hb=>Cv fun hv=>hb (hv.blk i b hbb)
   have next:G7 n i b->∀st,Ren 0 st (Ek (qV n (BS .string (.string b.nm) (.int .i64 (i64.wrap (Ej .string (.string b.nm) l+1))) l c) (BN .string (.string b.nm) l c) [] 0 b0 s0 [] (i+1) 0 0 false 0))->
     ∃j,Ren 0 st ((fun p:MP=>Ek (qV n p.l p.c [] 0 b0 s0 [] p.i 0 0 false 0)) j)/\((fun p:MP=>p.i<=n.bs.length/\DK ((n.bs.take p.i).map (·.nm)) p.l/\∀j b,j<p.i->n.bs[j]?=some b->G7 n j b) j)/\n.bs.length+1-j.i<n.bs.length+1-i:=by
    intro g st hst
    refine⟨⟨i+1,_,_,[],0,0,false⟩,hst,⟨h,?_,fun j t hj ht=>?_⟩,by simp only;omega⟩
    .have:=hnm.step (x:=b.nm) (n:=i64.wrap (Ej .string (.string b.nm) l+1)) (c:=c)
     simpa [List.take_add_one,hbb] using this
    .by_cases e:j=i
     .subst e;rw[hbb] at ht;cases ht;exact g
     .exact hgd j t (by simp only at hj;omega) ht
   cases t6:(!nmB (qV n l c [] 0 b s0 (n.nx.getD i []) i 0 0 false 0).b.nm)
   case false=>
    cases t7:(!Av (qV n l c [] 0 b s0 (n.nx.getD i []) i 0 0 false 0).b.x (-9999) 9999)
    case false=>
     cases t8:(!Av (qV n l c [] 0 b s0 (n.nx.getD i []) i 0 0 false 0).b.y (-9999) 9999)
     case false=>
      cases t9:(!nxB (qV n l c [] 0 b s0 (n.nx.getD i []) i 0 0 false 0).r (iN (qV n l c [] 0 b s0 (n.nx.getD i []) i 0 0 false 0).i) (iN (Uu bA (qV n l c [] 0 b s0 (n.nx.getD i []) i 0 0 false 0).n.bs).length))
      case false=>
       exact T.path mix (mvb_4 (qV n l c [] 0 b s0 (n.nx.getD i []) i 0 0 false 0) dk (by assumption) (by assumption) (by assumption) (by assumption) t6 (by assumption) t7 (by assumption) t8 (by assumption) (by assumption) t9 (fun st hst=>by simp only[qV,wi] at hst;exact next ⟨by simp_all [qV],by simp_all [qV],by simp_all [qV],by rw[<-ex];simp_all [qV]⟩ st hst))
      case true=>
       rw[bad (fun g=>by have g1:=g.nm;have g2:=g.x;have g3:=g.y;have g4:=ex.trans g.nx;simp_all [qV])]
       exact T.out mix (mvb_3 (qV n l c [] 0 b s0 (n.nx.getD i []) i 0 0 false 0) dk (by assumption) (by assumption) (by assumption) (by assumption) t6 (by assumption) t7 (by assumption) t8 (by assumption) (by assumption) t9)
     case true=>
      rw[bad (fun g=>by have g1:=g.nm;have g2:=g.x;have g3:=g.y;have g4:=ex.trans g.nx;simp_all [qV])]
      exact T.out mix (mvb_2 (qV n l c [] 0 b s0 (n.nx.getD i []) i 0 0 false 0) dk (by assumption) (by assumption) (by assumption) (by assumption) t6 (by assumption) t7 (by assumption) t8)
    case true=>
     rw[bad (fun g=>by have g1:=g.nm;have g2:=g.x;have g3:=g.y;have g4:=ex.trans g.nx;simp_all [qV])]
     exact T.out mix (mvb_1 (qV n l c [] 0 b s0 (n.nx.getD i []) i 0 0 false 0) dk (by assumption) (by assumption) (by assumption) (by assumption) t6 (by assumption) t7)
   case true=>
    rw[bad (fun g=>by have g1:=g.nm;have g2:=g.x;have g3:=g.y;have g4:=ex.trans g.nx;simp_all [qV])]
    exact T.out mix (mvb_0 (qV n l c [] 0 b s0 (n.nx.getD i []) i 0 0 false 0) dk (by assumption) (by assumption) (by assumption) (by assumption) t6)
  .have hin:i=n.bs.length:=by omega
   subst hin
   rw[List.take_length] at hnm
   refine T.out mix (mvbx_0 (qV n l c [] 0 b0 s0 [] n.bs.length 0 0 false 0) (TC (by simp only[qV,iN,hbl];omega)) ?_)
   have hsr:=mvs_run (c:=c) hnb' hnx hns hnr g5 (fun j b hj=>hgd j b (Tz.1 hj).1 hj) hnm
   have e:∀k:Nat,k=n.bs.length->T UB 0 (.loop (zC (zB Try.f93) 1)) (CY (qV n l c [] 0 b0 s0 [] 0 (iN k) 0 false 0)) (TK UB 0 (Fin UB Try.f93 0 [] (.bool (AZ n))) (zK (zB Try.f93) 1)):=fun k hk=>by subst hk;exact hsr
   exact e _ hbl
 have f1:∀hv:AB n,Av (iN (Uu bA n.bs).length) 1 24=true:=fun hv=>by rw[hbl];exact hv.nb
 cases t10:(!Av (iN (Uu bA (qV n [] 0 [] 0 b0 s0 [] 0 0 0 false 0).n.bs).length) 1 24)
 case false=>
  cases t11:(iN (gL (qV n [] 0 [] 0 b0 s0 [] 0 0 0 false 0).n.nx).length != iN (Uu bA (qV n [] 0 [] 0 b0 s0 [] 0 0 0 false 0).n.bs).length)
  case false=>
   cases t12:decide (6<iN (Uu sA (qV n [] 0 [] 0 b0 s0 [] 0 0 0 false 0).n.ss).length)
   case false=>
    cases t13:decide (8<iN (Uu iV (qV n [] 0 [] 0 b0 s0 [] 0 0 0 false 0).n.rs).length)
    case false=>
     cases t14:(!A9 (qV n [] 0 [] 0 b0 s0 [] 0 0 0 false 0).n)
     case false=>
      first | exact CT.path mix Try.func93 hb hn (mvi_5 (qV n [] 0 [] 0 b0 s0 [] 0 0 0 false 0) (by assumption) t10 t11 t12 t13 (by assumption) t14 (main (by simp_all [qV]) (by simp_all [qV]) (by simp_all [qV]) (by simp_all [qV]) (by simp_all [qV]))) | exact h0 (Cv fun hv=>by have a1:=f1 hv;have a2:=hv.nx;have a3:=hv.ns;have a4:=hv.nr;have a5:=hv.cfg;simp only[qV,iN,hbl,hgl,hsl,hrl] at *;grind) (CT.path mix Try.func93 hb hn (mvi_5 (qV n [] 0 [] 0 b0 s0 [] 0 0 0 false 0) (by assumption) t10 t11 t12 t13 (by assumption) t14 (main (by simp_all [qV]) (by simp_all [qV]) (by simp_all [qV]) (by simp_all [qV]) (by simp_all [qV]))))
     case true=>
      first | exact CT.path mix Try.func93 hb hn (mvi_4 (qV n [] 0 [] 0 b0 s0 [] 0 0 0 false 0) (by assumption) t10 t11 t12 t13 (by assumption) t14) | exact h0 (Cv fun hv=>by have a1:=f1 hv;have a2:=hv.nx;have a3:=hv.ns;have a4:=hv.nr;have a5:=hv.cfg;simp only[qV,iN,hbl,hgl,hsl,hrl] at *;grind) (CT.path mix Try.func93 hb hn (mvi_4 (qV n [] 0 [] 0 b0 s0 [] 0 0 0 false 0) (by assumption) t10 t11 t12 t13 (by assumption) t14))
    case true=>
     first | exact CT.path mix Try.func93 hb hn (mvi_3 (qV n [] 0 [] 0 b0 s0 [] 0 0 0 false 0) (by assumption) t10 t11 t12 t13) | exact h0 (Cv fun hv=>by have a1:=f1 hv;have a2:=hv.nx;have a3:=hv.ns;have a4:=hv.nr;have a5:=hv.cfg;simp only[qV,iN,hbl,hgl,hsl,hrl] at *;grind) (CT.path mix Try.func93 hb hn (mvi_3 (qV n [] 0 [] 0 b0 s0 [] 0 0 0 false 0) (by assumption) t10 t11 t12 t13))
   case true=>
    first | exact CT.path mix Try.func93 hb hn (mvi_2 (qV n [] 0 [] 0 b0 s0 [] 0 0 0 false 0) (by assumption) t10 t11 t12) | exact h0 (Cv fun hv=>by have a1:=f1 hv;have a2:=hv.nx;have a3:=hv.ns;have a4:=hv.nr;have a5:=hv.cfg;simp only[qV,iN,hbl,hgl,hsl,hrl] at *;grind) (CT.path mix Try.func93 hb hn (mvi_2 (qV n [] 0 [] 0 b0 s0 [] 0 0 0 false 0) (by assumption) t10 t11 t12))
  case true=>
   first | exact CT.path mix Try.func93 hb hn (mvi_1 (qV n [] 0 [] 0 b0 s0 [] 0 0 0 false 0) (by assumption) t10 t11) | exact h0 (Cv fun hv=>by have a1:=f1 hv;have a2:=hv.nx;have a3:=hv.ns;have a4:=hv.nr;have a5:=hv.cfg;simp only[qV,iN,hbl,hgl,hsl,hrl] at *;grind) (CT.path mix Try.func93 hb hn (mvi_1 (qV n [] 0 [] 0 b0 s0 [] 0 0 0 false 0) (by assumption) t10 t11))
 case true=>
  first | exact CT.path mix Try.func93 hb hn (mvi_0 (qV n [] 0 [] 0 b0 s0 [] 0 0 0 false 0) (by assumption) t10) | exact h0 (Cv fun hv=>by have a1:=f1 hv;have a2:=hv.nx;have a3:=hv.ns;have a4:=hv.nr;have a5:=hv.cfg;simp only[qV,iN,hbl,hgl,hsl,hrl] at *;grind) (CT.path mix Try.func93 hb hn (mvi_0 (qV n [] 0 [] 0 b0 s0 [] 0 0 0 false 0) (by assumption) t10))
end Go.Proofs.Ytedjkebooffjpaa
set_option maxHeartbeats 4000000
namespace Go.Proofs.Ytedjkebooffjpaa
structure QY where
 n:Aa
 L:List ByteArray
 b:AM
 s:Ao
 r:List Int
 i:Nat
 k:Nat
 base:Int
 dn:Int
 x:Int
 y:Int
 u:ByteArray
 v:ByteArray
 ok:Bool
 c1:Bool
 c2:Bool
 c3:Bool
def sB(L:List ByteArray):Blk:={es:=L.map AV.str,z:=1}
def cY(q:QY):Nat->FuncId->List AV->List (Option Blk)->AG:=fun dst f args hp=>match f with
 | 140=>match args with
  | [.str s]=>.call [] [] [] (.bool (nmB s))
  | _=>.no
 | 113=>.call [] [] [] (.bool q.c1)
 | 114=>.call [] [] [] (.bool q.c2)
 | 115=>.call [] [] [] (.bool (A9 q.n))
 | 26=>.call [] [] [] (.bool q.c3)
 | 93=>.call [] [] [] (.bool q.c1)
 | 94=>.call [] [] [] (.int .i64 q.x)
 | _=>.no
def Cr(q:QY):List (Nat×AV):=[(36,bA q.b),(60,lI q.r),(69,lI q.r),(78,lI q.r),(81,.int .i64 q.x),(105,lI q.r),(109,.int .i64 q.y)]
def De(q:QY):List (Nat×AV):=[(19,bA q.b),(35,sA q.s),(49,.str q.u),(60,.str q.u),(64,.str q.v)]
def BH(q:QY):List (Nat×AV):=[(50,sA q.s),(117,sA q.s),(127,.int .i64 q.x),(137,.int .i64 q.x),(157,.int .i64 q.x)]
def ey27(q:QY):List (Nat×AV):=[(19,sA q.s)]
def Kx(q:QY):St:={n:=Try.f113.ntmps,fr:=[(0,Ai q.n)],hp:=[]}
def Dw(q:QY):St:={n:=Try.f113.ntmps,fr:=[(1,.ptr 0 0 0),(3,.int .i64 (iN q.i))],hp:=[some (nB q.n)]}
def Dp(q:QY):St:={n:=Try.f113.ntmps,fr:=[(1,.ptr 0 0 0),(3,.int .i64 (iN q.i)),(5,.int .i64 (iN q.k))],hp:=[some (nB q.n)]}
def st144(q:QY):St:={n:=Try.f114.ntmps,fr:=[(0,Ai q.n)],hp:=[]}
def lz144(q:QY):St:={n:=Try.f114.ntmps,fr:=[(1,.ptr 0 0 0),(3,.nils),(4,.int .i64 (iN q.i))],hp:=[some (nB q.n)]}
def F3(q:QY):St:={n:=Try.f114.ntmps,fr:=[(1,.ptr 0 0 0),(3,.sl 1 0 q.L.length),(4,.int .i64 (iN q.i))],hp:=[some (nB q.n),some (sB q.L)]}
def E5(q:QY):St:={n:=Try.f114.ntmps,fr:=[(1,.ptr 0 0 0),(3,.sl 1 0 q.L.length),(5,.int .i64 (iN q.i))],hp:=[some (nB q.n),some (sB q.L)]}
def HU(q:QY):St:={n:=Try.f114.ntmps,fr:=[(3,.sl 0 0 q.L.length),(6,.int .i64 (iN q.i))],hp:=[some (sB q.L)]}
def Ko(q:QY):St:={n:=Try.f114.ntmps,fr:=[(3,.sl 0 0 q.L.length),(6,.int .i64 (iN q.i)),(7,.int .i64 (iN q.k))],hp:=[some (sB q.L)]}
def G8(q:QY):St:={n:=Try.f69.ntmps,fr:=[(0,Ai q.n)],hp:=[]}
def CS(q:QY):St:={n:=Try.f69.ntmps,fr:=[(1,.ptr 0 0 0),(3,.int .i64 q.base),(4,.int .i64 q.dn),(5,.int .i64 (iN q.i))],hp:=[some (nB q.n)]}
def H4(q:QY):St:={n:=Try.f69.ntmps,fr:=[(1,.ptr 0 0 0),(4,.int .i64 q.dn),(7,.int .i64 (iN q.i))],hp:=[some (nB q.n)]}
def DE(q:QY):St:={n:=Try.f69.ntmps,fr:=[(1,.ptr 0 0 0),(4,.int .i64 q.dn),(7,.int .i64 (iN q.i)),(8,.bool q.ok),(9,.int .i64 (iN q.k))],hp:=[some (nB q.n)]}
def sy27(q:QY):St:={n:=Try.f18.ntmps,fr:=[(0,Ai q.n)],hp:=[]}
def Jm(q:QY):St:={n:=Try.f18.ntmps,fr:=[(1,.ptr 0 0 0),(3,.int .i64 q.base),(4,.int .i64 (iN q.i))],hp:=[some (nB q.n)]}
theorem O2(q:QY)(h1:(decide (iN (Uu bA q.n.bs).length<1)=true)):GoP UB (hU [23] (Cr q) (cY q)) 0 (zB Try.f113) (Kx q) (Fin UB Try.f113 0 [] (AV.bool false)):=zF (σ:=[]) (fz:=[]) (by kernel_rfl) (aj (ag t2 (aj (u2 (u2 (u2 (u2 (u2 (aj h1 (aj h1 (aj h1 (aj h1 (ag h1 (u2 (k2 (k5 (al t3)))))))))))))) (ak s2))) t2)
theorem NN(q:QY)(h1:(decide (iN (Uu bA q.n.bs).length<1)=false))(h2:(decide (24<iN (Uu bA q.n.bs).length)=true)):GoP UB (hU [22,35] (Cr q) (cY q)) 0 (zB Try.f113) (Kx q) (Fin UB Try.f113 0 [] (AV.bool false)):=zF (σ:=[]) (fz:=[]) (by kernel_rfl) (aj (ag t2 (aj (u2 (u2 (u2 (u2 (u2 (ag h1 (ag h1 (ag h1 (ag h1 (ag h1 (u2 (aj h2 (aj h2 (aj h2 (aj h2 (aj h2 (aj h2 (aj h2 (al (aj h2 t2)))))))))))))))))))) (ak s2))) t2)
theorem O0(q:QY)(h1:(decide (iN (Uu bA q.n.bs).length<1)=false))(h2:(decide (24<iN (Uu bA q.n.bs).length)=false))(h3:((iN (gL q.n.nx).length != iN (Uu bA q.n.bs).length)=true)):GoP UB (hU [22,34,51] (Cr q) (cY q)) 0 (zB Try.f113) (Kx q) (Fin UB Try.f113 0 [] (AV.bool false)):=zF (σ:=[]) (fz:=[]) (by kernel_rfl) (aj (ag t2 (aj (u2 (u2 (u2 (u2 (u2 (ag h1 (ag h1 (ag h1 (ag h1 (ag h1 (u2 (ag h2 (ag h2 (ag h2 (ag h2 (ag h2 (ag h2 (aj (aj h2 t3) (al (aj h2 t2)))))))))))))))))))) (aj h3 s2))) t2)
theorem QB(q:QY)(h1:(decide (iN (Uu bA q.n.bs).length<1)=false))(h2:(decide (24<iN (Uu bA q.n.bs).length)=false))(h3:((iN (gL q.n.nx).length != iN (Uu bA q.n.bs).length)=false)){post:Exit->St->Prop}(ht:T UB 0 (.loop (zC (zB Try.f113) 0)) (St.mk 114 [(1,AV.ptr 0 0 0),(3,iv 0)] [some (Blk.mk [Ai q.n] [UA (Uu bA q.n.bs),UA (gL q.n.nx),UA (Uu sA q.n.ss),UA (Uu iv q.n.rs),iv q.n.q,iv q.n.a,iv q.n.d,iv q.n.p].length true true none)]) (TK UB 0 post (zK (zB Try.f113) 0))):GoP UB (hU [22,34,50] (Cr q) (cY q)) 0 (zB Try.f113) (Kx q) post:=zR (σ:=[0]) (fz:=[]) (vars:=[1,3]) (by kernel_rfl) (aj (ag t2 (aj (u2 (u2 (u2 (u2 (u2 (ag h1 (ag h1 (ag h1 (ag h1 (ag h1 (u2 (ag h2 (ag h2 (ag h2 (ag h2 (ag h2 (ag h2 (aj (aj h2 t3) (al (aj h2 t2)))))))))))))))))))) (aj h3 s2))) t4) ht
theorem yrbl_0(q:QY)(h1:(decide (iN q.i<iN (Uu bA q.n.bs).length)=true))(h2:(0<=iN q.i))(h3:((Uu bA q.n.bs)[(iN q.i).toNat]?=some (AV.agg [AV.str q.b.nm,iv q.b.x,iv q.b.y])))(h4:(decide (q.b.x < -9999)=true)):GoO UB (hU [61,83] (Cr q) (cY q)) 0 (zC (zB Try.f113) 0) (zK (zB Try.f113) 0) (Dw q) (Fin UB Try.f113 0 [] (AV.bool false)):=zF (σ:=[]) (fz:=[]) (by kernel_rfl) (aj (al (aj (u2 (u2 (u2 (u2 (al t3))))) (aj h1 (aj (u2 (u2 (u2 (aj (k2 (aj h2 h3)) (u2 (ak (al (k2 (show Nat.le (nat_lit 1) (nat_lit 1) from nL rfl))))))))) (aj (u2 (u2 (u2 (u2 (aj h4 (aj h4 (aj h4 (ag h4 (u2 (k3 (aj t3 (u2 (k3 (aj t3 (u2 (k2 (k5 (al t3)))))))))))))))))) (ak s2)))))) t2)
theorem yrbl_1(q:QY)(h1:(decide (iN q.i<iN (Uu bA q.n.bs).length)=true))(h2:(0<=iN q.i))(h3:((Uu bA q.n.bs)[(iN q.i).toNat]?=some (AV.agg [AV.str q.b.nm,iv q.b.x,iv q.b.y])))(h4:(decide (q.b.x < -9999)=false))(h5:(decide (9999<q.b.x)=true)):GoO UB (hU [61,82,93] (Cr q) (cY q)) 0 (zC (zB Try.f113) 0) (zK (zB Try.f113) 0) (Dw q) (Fin UB Try.f113 0 [] (AV.bool false)):=zF (σ:=[]) (fz:=[]) (by kernel_rfl) (aj (al (aj (u2 (u2 (u2 (u2 (al t3))))) (aj h1 (aj (u2 (u2 (u2 (aj (k2 (aj h2 h3)) (u2 (ak (al (k2 (show Nat.le (nat_lit 1) (nat_lit 1) from nL rfl))))))))) (aj (u2 (u2 (u2 (u2 (ag h4 (ag h4 (ag h4 (ag h4 (u2 (aj h5 (aj h5 (aj h5 (ag h5 (u2 (k3 (aj t3 (u2 (k2 (k5 (al t3)))))))))))))))))))) (ak s2)))))) t2)
theorem yrbl_2(q:QY)(h1:(decide (iN q.i<iN (Uu bA q.n.bs).length)=true))(h2:(0<=iN q.i))(h3:((Uu bA q.n.bs)[(iN q.i).toNat]?=some (AV.agg [AV.str q.b.nm,iv q.b.x,iv q.b.y])))(h4:(decide (q.b.x < -9999)=false))(h5:(decide (9999<q.b.x)=false))(h6:(decide (q.b.y < -9999)=true)):GoO UB (hU [61,82,92,103] (Cr q) (cY q)) 0 (zC (zB Try.f113) 0) (zK (zB Try.f113) 0) (Dw q) (Fin UB Try.f113 0 [] (AV.bool false)):=zF (σ:=[]) (fz:=[]) (by kernel_rfl) (aj (al (aj (u2 (u2 (u2 (u2 (al t3))))) (aj h1 (aj (u2 (u2 (u2 (aj (k2 (aj h2 h3)) (u2 (ak (al (k2 (show Nat.le (nat_lit 1) (nat_lit 1) from nL rfl))))))))) (aj (u2 (u2 (u2 (u2 (ag h4 (ag h4 (ag h4 (ag h4 (u2 (ag h5 (ag h5 (ag h5 (ag h5 (u2 (aj h6 (aj h6 (aj h6 (ag h6 (u2 (k2 (k5 (al t3)))))))))))))))))))))) (ak s2)))))) t2)
theorem yrbl_3(q:QY)(h1:(decide (iN q.i<iN (Uu bA q.n.bs).length)=true))(h2:(0<=iN q.i))(h3:((Uu bA q.n.bs)[(iN q.i).toNat]?=some (AV.agg [AV.str q.b.nm,iv q.b.x,iv q.b.y])))(h4:(decide (q.b.x < -9999)=false))(h5:(decide (9999<q.b.x)=false))(h6:(decide (q.b.y < -9999)=false))(h7:(decide (9999<q.b.y)=true)):GoO UB (hU [61,82,92,102,113] (Cr q) (cY q)) 0 (zC (zB Try.f113) 0) (zK (zB Try.f113) 0) (Dw q) (Fin UB Try.f113 0 [] (AV.bool false)):=zF (σ:=[]) (fz:=[]) (by kernel_rfl) (aj (al (aj (u2 (u2 (u2 (u2 (al t3))))) (aj h1 (aj (u2 (u2 (u2 (aj (k2 (aj h2 h3)) (u2 (ak (al (k2 (show Nat.le (nat_lit 1) (nat_lit 1) from nL rfl))))))))) (aj (u2 (u2 (u2 (u2 (ag h4 (ag h4 (ag h4 (ag h4 (u2 (ag h5 (ag h5 (ag h5 (ag h5 (u2 (ag h6 (ag h6 (ag h6 (ag h6 (u2 (aj h7 (aj h7 (aj h7 (aj h7 (aj h7 (aj h7 (aj h7 (al (aj h7 t2)))))))))))))))))))))))))))) (ak s2)))))) t2)
theorem yrbl_4(q:QY)(h1:(decide (iN q.i<iN (Uu bA q.n.bs).length)=true))(h2:(0<=iN q.i))(h3:((Uu bA q.n.bs)[(iN q.i).toNat]?=some (AV.agg [AV.str q.b.nm,iv q.b.x,iv q.b.y])))(h4:(decide (q.b.x < -9999)=false))(h5:(decide (9999<q.b.x)=false))(h6:(decide (q.b.y < -9999)=false))(h7:(decide (9999<q.b.y)=false))(h8:((gL q.n.nx)[(iN q.i).toNat]?=some (UA (Uu iv q.r))))(h9:(decide (4<iN (Uu iv q.r).length)=true)):GoO UB (hU [61,82,92,102,112,129] (Cr q) (cY q)) 0 (zC (zB Try.f113) 0) (zK (zB Try.f113) 0) (Dw q) (Fin UB Try.f113 0 [] (AV.bool false)):=zF (σ:=[]) (fz:=[]) (by kernel_rfl) (aj (al (aj (u2 (u2 (u2 (u2 (al t3))))) (aj h1 (aj (u2 (u2 (u2 (aj (k2 (aj h2 h3)) (u2 (ak (al (k2 (show Nat.le (nat_lit 1) (nat_lit 1) from nL rfl))))))))) (aj (u2 (u2 (u2 (u2 (ag h4 (ag h4 (ag h4 (ag h4 (u2 (ag h5 (ag h5 (ag h5 (ag h5 (u2 (ag h6 (ag h6 (ag h6 (ag h6 (u2 (ag h7 (ag h7 (ag h7 (aj (aj h7 (k2 (aj h2 h8))) (ag h7 (ag h7 (ag h7 (al (aj h7 t2)))))))))))))))))))))))))))) (aj h9 s2)))))) t2)
theorem yrbl_5(q:QY)(h1:(decide (iN q.i<iN (Uu bA q.n.bs).length)=true))(h2:(0<=iN q.i))(h3:((Uu bA q.n.bs)[(iN q.i).toNat]?=some (AV.agg [AV.str q.b.nm,iv q.b.x,iv q.b.y])))(h4:(decide (q.b.x < -9999)=false))(h5:(decide (9999<q.b.x)=false))(h6:(decide (q.b.y < -9999)=false))(h7:(decide (9999<q.b.y)=false))(h8:((gL q.n.nx)[(iN q.i).toNat]?=some (UA (Uu iv q.r))))(h9:(decide (4<iN (Uu iv q.r).length)=false)){post:Exit->St->Prop}(ht:T UB 0 (.loop (zC (zC (zB Try.f113) 0) 0)) (St.mk 114 [(1,AV.ptr 0 0 0),(3,iv (iN q.i)),(5,iv 0)] [some (Blk.mk [Ai q.n] 8 true true none)]) (TK UB 0 post (zK (zC (zB Try.f113) 0) 0))):GoP UB (hU [61,82,92,102,112,128] (Cr q) (cY q)) 0 (zC (zB Try.f113) 0) (Dw q) post:=zR (σ:=[0]) (fz:=[]) (vars:=[1,3,5]) (by kernel_rfl) (aj (aj (u2 (u2 (u2 (u2 (al t3))))) (aj h1 (aj (u2 (u2 (u2 (aj (k2 (aj h2 h3)) (u2 (ak (al (k2 (show Nat.le (nat_lit 1) (nat_lit 1) from nL rfl))))))))) (aj (u2 (u2 (u2 (u2 (ag h4 (ag h4 (ag h4 (ag h4 (u2 (ag h5 (ag h5 (ag h5 (ag h5 (u2 (ag h6 (ag h6 (ag h6 (ag h6 (u2 (ag h7 (ag h7 (ag h7 (aj (aj h7 (k2 (aj h2 h8))) (ag h7 (ag h7 (ag h7 (al (aj h7 t2)))))))))))))))))))))))))))) (aj h9 s2))))) t5) ht
theorem yrbl_6(q:QY)(h1:(decide (iN q.i<iN (Uu bA q.n.bs).length)=false)):GoO UB (hU [60] (Cr q) (cY q)) 0 (zC (zB Try.f113) 0) (zK (zB Try.f113) 0) (Dw q) (Fin UB Try.f113 0 [] (AV.bool true)):=zF (σ:=[]) (fz:=[]) (by kernel_rfl) (aj (aj (aj (u2 (u2 (u2 (u2 (al t3))))) (al h1)) s2) t2)
theorem yrbm_0(q:QY)(h1:(0<=iN q.i))(h2:((gL q.n.nx)[(iN q.i).toNat]?=some (UA (Uu iv q.r))))(h3:(decide (iN q.k<iN (Uu iv q.r).length)=true))(h4:(0<=iN q.k))(h5:((Uu iv q.r)[(iN q.k).toNat]?=some (iv q.x)))(h6:(decide (q.x<0)=true)){post:Exit->St->Prop}(hP:Bl post (Fin UB Try.f113 0 [] (AV.bool false))):GoO UB (hU [145,171] (Cr q) (cY q)) 0 (zC (zC (zB Try.f113) 0) 0) (zK (zC (zB Try.f113) 0) 0) (Dp q) post:=CL (σ:=[]) (fz:=[]) (by kernel_rfl) (aj (al (aj (u2 (u2 (u2 (u2 (aj (k2 (aj h1 h2)) (u2 (u2 (al t3)))))))) (aj h3 (aj (u2 (u2 (u2 (aj (k2 (aj h1 h2)) (u2 (u2 (aj (k2 (aj h4 h5)) (u2 s2)))))))) (aj (u2 (u2 (u2 (aj h6 (aj h6 (aj h6 (aj h6 (aj h6 (ag h6 (u2 (k3 (aj t3 (u2 (k5 (k5 (k5 (al t3))))))))))))))))) (ak s2)))))) t2) hP
theorem yrbm_1(q:QY)(h1:(0<=iN q.i))(h2:((gL q.n.nx)[(iN q.i).toNat]?=some (UA (Uu iv q.r))))(h3:(decide (iN q.k<iN (Uu iv q.r).length)=true))(h4:(0<=iN q.k))(h5:((Uu iv q.r)[(iN q.k).toNat]?=some (iv q.x)))(h6:(decide (q.x<0)=false))(h7:(decide (iN (Uu bA q.n.bs).length<=q.x)=true)){post:Exit->St->Prop}(hP:Bl post (Fin UB Try.f113 0 [] (AV.bool false))):GoO UB (hU [145,170,185] (Cr q) (cY q)) 0 (zC (zC (zB Try.f113) 0) 0) (zK (zC (zB Try.f113) 0) 0) (Dp q) post:=CL (σ:=[]) (fz:=[]) (by kernel_rfl) (aj (al (aj (u2 (u2 (u2 (u2 (aj (k2 (aj h1 h2)) (u2 (u2 (al t3)))))))) (aj h3 (aj (u2 (u2 (u2 (aj (k2 (aj h1 h2)) (u2 (u2 (aj (k2 (aj h4 h5)) (u2 s2)))))))) (aj (u2 (u2 (u2 (ag h6 (ag h6 (ag h6 (ag h6 (aj (aj h6 t3) (ag h6 (u2 (aj h7 (aj h7 (aj h7 (ag h7 (u2 (k5 (k5 (k5 (al t3))))))))))))))))))) (ak s2)))))) t2) hP
theorem yrbm_2(q:QY)(h1:(0<=iN q.i))(h2:((gL q.n.nx)[(iN q.i).toNat]?=some (UA (Uu iv q.r))))(h3:(decide (iN q.k<iN (Uu iv q.r).length)=true))(h4:(0<=iN q.k))(h5:((Uu iv q.r)[(iN q.k).toNat]?=some (iv q.x)))(h6:(decide (q.x<0)=false))(h7:(decide (iN (Uu bA q.n.bs).length<=q.x)=false))(h8:((q.x==iN q.i)=true)){post:Exit->St->Prop}(hP:Bl post (Fin UB Try.f113 0 [] (AV.bool false))):GoO UB (hU [145,170,184,195] (Cr q) (cY q)) 0 (zC (zC (zB Try.f113) 0) 0) (zK (zC (zB Try.f113) 0) 0) (Dp q) post:=CL (σ:=[]) (fz:=[]) (by kernel_rfl) (aj (al (aj (u2 (u2 (u2 (u2 (aj (k2 (aj h1 h2)) (u2 (u2 (al t3)))))))) (aj h3 (aj (u2 (u2 (u2 (aj (k2 (aj h1 h2)) (u2 (u2 (aj (k2 (aj h4 h5)) (u2 s2)))))))) (aj (u2 (u2 (u2 (ag h6 (ag h6 (ag h6 (ag h6 (aj (aj h6 t3) (ag h6 (u2 (ag h7 (ag h7 (aj (aj h7 t3) (ag h7 (u2 (aj h8 (aj h8 (aj h8 (ak (k5 (k5 (aj h8 (al (aj h8 t2)))))))))))))))))))))))) (ak s2)))))) t2) hP
theorem yrbm_3(q:QY)(h1:(0<=iN q.i))(h2:((gL q.n.nx)[(iN q.i).toNat]?=some (UA (Uu iv q.r))))(h3:(decide (iN q.k<iN (Uu iv q.r).length)=true))(h4:(0<=iN q.k))(h5:((Uu iv q.r)[(iN q.k).toNat]?=some (iv q.x)))(h6:(decide (q.x<0)=false))(h7:(decide (iN (Uu bA q.n.bs).length<=q.x)=false))(h8:((q.x==iN q.i)=false))(h9:(decide (0<iN q.k)=true))(h10:(0<=i64.wrap (iN q.k-1)))(h11:((Uu iv q.r)[(i64.wrap (iN q.k-1)).toNat]?=some (iv q.y)))(h12:(decide (q.x<=q.y)=true)){post:Exit->St->Prop}(hP:Bl post (Fin UB Try.f113 0 [] (AV.bool false))):GoO UB (hU [145,170,184,194,201,227] (Cr q) (cY q)) 0 (zC (zC (zB Try.f113) 0) 0) (zK (zC (zB Try.f113) 0) 0) (Dp q) post:=CL (σ:=[]) (fz:=[]) (by kernel_rfl) (aj (al (aj (u2 (u2 (u2 (u2 (aj (k2 (aj h1 h2)) (u2 (u2 (al t3)))))))) (aj h3 (aj (u2 (u2 (u2 (aj (k2 (aj h1 h2)) (u2 (u2 (aj (k2 (aj h4 h5)) (u2 s2)))))))) (aj (u2 (u2 (u2 (ag h6 (ag h6 (ag h6 (ag h6 (aj (aj h6 t3) (ag h6 (u2 (ag h7 (ag h7 (aj (aj h7 t3) (ag h7 (u2 (ag h8 (ag h8 (ag h8 (ag h9 (ag h9 (ag h9 (ag h9 (aj (aj h9 (k2 (aj h1 h2))) (ag h9 (ag h9 (ag h9 (aj (aj h9 (k2 (aj h10 h11))) (ag h9 (aj (aj h9 t3) (aj (aj h8 (aj h9 t2)) (al (aj h8 t2)))))))))))))))))))))))))))))))) (aj h12 s2)))))) t2) hP
theorem yrbm_4(q:QY)(h1:(0<=iN q.i))(h2:((gL q.n.nx)[(iN q.i).toNat]?=some (UA (Uu iv q.r))))(h3:(decide (iN q.k<iN (Uu iv q.r).length)=true))(h4:(0<=iN q.k))(h5:((Uu iv q.r)[(iN q.k).toNat]?=some (iv q.x)))(h6:(decide (q.x<0)=false))(h7:(decide (iN (Uu bA q.n.bs).length<=q.x)=false))(h8:((q.x==iN q.i)=false))(h9:(decide (0<iN q.k)=true))(h10:(0<=i64.wrap (iN q.k-1)))(h11:((Uu iv q.r)[(i64.wrap (iN q.k-1)).toNat]?=some (iv q.y)))(h12:(decide (q.x<=q.y)=false)){post:Exit->St->Prop}{R:St->Prop}(hR:∀st,Ren 0 st (St.mk 114 [(1,AV.ptr 0 0 0),(3,iv (iN q.i)),(5,iv (i64.wrap (iN q.k+1)))] [some (Blk.mk [Ai q.n] 8 true true none)])->R st):GoP UB (hU [145,170,184,194,201,226] (Cr q) (cY q)) 0 (zC (zC (zB Try.f113) 0) 0) (Dp q) (andThen R post):=zN (σ:=[0]) (fz:=[]) (vars:=[1,3,5]) (by kernel_rfl) (aj (aj (u2 (u2 (u2 (u2 (aj (k2 (aj h1 h2)) (u2 (u2 (al t3)))))))) (aj h3 (aj (u2 (u2 (u2 (aj (k2 (aj h1 h2)) (u2 (u2 (aj (k2 (aj h4 h5)) (u2 s2)))))))) (aj (u2 (u2 (u2 (ag h6 (ag h6 (ag h6 (ag h6 (aj (aj h6 t3) (ag h6 (u2 (ag h7 (ag h7 (aj (aj h7 t3) (ag h7 (u2 (ag h8 (ag h8 (ag h8 (ag h9 (ag h9 (ag h9 (ag h9 (aj (aj h9 (k2 (aj h1 h2))) (ag h9 (ag h9 (ag h9 (aj (aj h9 (k2 (aj h10 h11))) (ag h9 (aj (aj h9 t3) (aj (aj h8 (aj h9 t2)) (al (aj h8 t2)))))))))))))))))))))))))))))))) (aj h12 (al (u2 (u2 s2)))))))) t5) hR
theorem yrbm_5(q:QY)(h1:(0<=iN q.i))(h2:((gL q.n.nx)[(iN q.i).toNat]?=some (UA (Uu iv q.r))))(h3:(decide (iN q.k<iN (Uu iv q.r).length)=true))(h4:(0<=iN q.k))(h5:((Uu iv q.r)[(iN q.k).toNat]?=some (iv q.x)))(h6:(decide (q.x<0)=false))(h7:(decide (iN (Uu bA q.n.bs).length<=q.x)=false))(h8:((q.x==iN q.i)=false))(h9:(decide (0<iN q.k)=false)){post:Exit->St->Prop}{R:St->Prop}(hR:∀st,Ren 0 st (St.mk 114 [(1,AV.ptr 0 0 0),(3,iv (iN q.i)),(5,iv (i64.wrap (iN q.k+1)))] [some (Blk.mk [Ai q.n] 8 true true none)])->R st):GoP UB (hU [145,170,184,194,200] (Cr q) (cY q)) 0 (zC (zC (zB Try.f113) 0) 0) (Dp q) (andThen R post):=zN (σ:=[0]) (fz:=[]) (vars:=[1,3,5]) (by kernel_rfl) (aj (aj (u2 (u2 (u2 (u2 (aj (k2 (aj h1 h2)) (u2 (u2 (al t3)))))))) (aj h3 (aj (u2 (u2 (u2 (aj (k2 (aj h1 h2)) (u2 (u2 (aj (k2 (aj h4 h5)) (u2 s2)))))))) (aj (u2 (u2 (u2 (ag h6 (ag h6 (ag h6 (ag h6 (aj (aj h6 t3) (ag h6 (u2 (ag h7 (ag h7 (aj (aj h7 t3) (ag h7 (u2 (ag h8 (ag h8 (ag h8 (aj h9 (aj h9 (aj h9 (aj h9 (aj h9 (aj h9 (aj h9 (aj h9 (aj h9 (aj h9 (aj h9 (aj (aj h8 (aj h9 t2)) (al (aj h8 t2)))))))))))))))))))))))))))))))) (ak (al (u2 (u2 s2)))))))) t5) hR
theorem yrbmx_0(q:QY)(h1:(0<=iN q.i))(h2:((gL q.n.nx)[(iN q.i).toNat]?=some (UA (Uu iv q.r))))(h3:(decide (iN q.k<iN (Uu iv q.r).length)=false)){post:Exit->St->Prop}{R:St->Prop}(hR:∀st,Ren 0 st (St.mk 114 [(1,AV.ptr 0 0 0),(3,iv (i64.wrap (iN q.i+1)))] [some (Blk.mk [Ai q.n] 8 true true none)])->R st):GoO UB (hU [144] (Cr q) (cY q)) 0 (zC (zC (zB Try.f113) 0) 0) (zK (zC (zB Try.f113) 0) 0) (Dp q) (andThen R post):=zN (σ:=[0]) (fz:=[]) (vars:=[1,3]) (by kernel_rfl) (aj (aj (aj (u2 (u2 (u2 (u2 (aj (k2 (aj h1 h2)) (u2 (u2 (al t3)))))))) (al h3)) (al (u2 (u2 s2)))) t4) hR
theorem yrsi_0(q:QY){post:Exit->St->Prop}(ht:T UB 0 (.loop (zC (zB Try.f114) 0)) (St.mk 66 [(1,AV.ptr 0 0 0),(3,AV.nils),(4,iv 0)] [some (Blk.mk [Ai q.n] [UA (Uu bA q.n.bs),UA (gL q.n.nx),UA (Uu sA q.n.ss),UA (Uu iv q.n.rs),iv q.n.q,iv q.n.a,iv q.n.d,iv q.n.p].length true true none)]) (TK UB 0 post (zK (zB Try.f114) 0))):GoP UB (hU [] (De q) (cY q)) 0 (zB Try.f114) (st144 q) post:=zR (σ:=[0]) (fz:=[]) (vars:=[1,3,4]) (by kernel_rfl) (aj (ag t2 (u2 s2)) t5) ht
theorem yrsz_0(q:QY)(h1:(decide (iN q.i<iN (Uu bA q.n.bs).length)=true))(h2:(0<=iN q.i))(h3:((Uu bA q.n.bs)[(iN q.i).toNat]?=some (AV.agg [AV.str q.b.nm,iv q.b.x,iv q.b.y])))(h4:(1<=[AV.str q.b.nm].length))(h5:([AV.str q.b.nm].length<=9223372036854775807))(h6:([AV.str q.b.nm].length * 16<=140737488355328)){post:Exit->St->Prop}{R:St->Prop}(hR:∀st,Ren 0 st (St.mk 66 [(1,AV.ptr 0 0 0),(3,AV.sl 1 0 [AV.str q.b.nm].length),(4,iv (i64.wrap (iN q.i+1)))] [some (Blk.mk [Ai q.n] 8 true true none),some (Blk.mk [AV.str q.b.nm] 1 true true none)])->R st):GoP UB (hU [25] (De q) (cY q)) 0 (zC (zB Try.f114) 0) (lz144 q) (andThen R post):=zN (σ:=[0,2]) (fz:=[]) (vars:=[1,3,4]) (by kernel_rfl) (aj (aj (u2 (u2 (u2 (u2 (al t3))))) (aj h1 (aj (u2 (u2 (u2 (u2 (aj (k2 (aj h2 h3)) (u2 (u2 (u2 (aj (k2 (aj (aj (show(nat_lit 1=nat_lit 1) by first | decide | exact Tc _) h4) (aj h5 h6))) s2))))))))) (al (u2 (u2 s2)))))) t6) hR
theorem yrsl_0(q:QY)(h1:(decide (iN q.i<iN (Uu bA q.n.bs).length)=true))(h2:(0<=iN q.i))(h3:((Uu bA q.n.bs)[(iN q.i).toNat]?=some (AV.agg [AV.str q.b.nm,iv q.b.x,iv q.b.y])))(h4:((Uu AV.str q.L).length=q.L.length))(h5:(1<=[AV.str q.b.nm].length))(h6:((Uu AV.str q.L).length+[AV.str q.b.nm].length<=9223372036854775807))(h7:(((Uu AV.str q.L).length+[AV.str q.b.nm].length) * 16<=140737488355328)){post:Exit->St->Prop}{R:St->Prop}(hR:∀st,Ren 0 st (St.mk 66 [(1,AV.ptr 0 0 0),(3,AV.sl 1 0 ((Uu AV.str q.L).length+[AV.str q.b.nm].length)),(4,iv (i64.wrap (iN q.i+1)))] [some (Blk.mk [Ai q.n] 8 true true none),some (Blk.mk (Uu AV.str q.L++[AV.str q.b.nm]) 1 true true none)])->R st):GoP UB (hU [25] (De q) (cY q)) 0 (zC (zB Try.f114) 0) (F3 q) (andThen R post):=zN (σ:=[0,3]) (fz:=[]) (vars:=[1,3,4]) (by kernel_rfl) (aj (aj (u2 (u2 (u2 (u2 (al t3))))) (aj h1 (aj (u2 (u2 (u2 (u2 (aj (k2 (aj h2 h3)) (u2 (u2 (u2 (aj (k2 (aj h4 (aj (aj (show(nat_lit 1=nat_lit 1) by first | decide | exact Tc _) h5) (aj h6 h7)))) s2))))))))) (al (u2 (u2 s2)))))) t6) hR
theorem yrsx_0(q:QY)(h1:(decide (iN q.i<iN (Uu bA q.n.bs).length)=false)){post:Exit->St->Prop}(ht:T UB 0 (.loop (zC (zB Try.f114) 1)) (St.mk 66 [(1,AV.ptr 0 0 0),(3,AV.sl 1 0 q.L.length),(5,iv 0)] [some (Blk.mk [Ai q.n] 8 true true none),some (Blk.mk (Uu AV.str q.L) 1 true true none)]) (TK UB 0 post (zK (zB Try.f114) 1))):GoO UB (hU [24] (De q) (cY q)) 0 (zC (zB Try.f114) 0) (zK (zB Try.f114) 0) (F3 q) post:=zR (σ:=[0,1]) (fz:=[]) (vars:=[1,3,5]) (by kernel_rfl) (aj (aj (aj (u2 (u2 (u2 (u2 (al t3))))) (al h1)) s2) t6) ht
theorem yrtl_0(q:QY)(h1:(decide (iN q.i<iN (Uu sA q.n.ss).length)=true))(h2:(0<=iN q.i))(h3:((Uu sA q.n.ss)[(iN q.i).toNat]?=some (sA q.s)))(h4:((Uu AV.str q.L).length=q.L.length))(h5:(1<=[AV.str q.s.nm].length))(h6:((Uu AV.str q.L).length+[AV.str q.s.nm].length<=9223372036854775807))(h7:(((Uu AV.str q.L).length+[AV.str q.s.nm].length) * 16<=140737488355328)){post:Exit->St->Prop}{R:St->Prop}(hR:∀st,Ren 0 st (St.mk 66 [(1,AV.ptr 0 0 0),(3,AV.sl 1 0 ((Uu AV.str q.L).length+[AV.str q.s.nm].length)),(5,iv (i64.wrap (iN q.i+1)))] [some (Blk.mk [Ai q.n] 8 true true none),some (Blk.mk (Uu AV.str q.L++[AV.str q.s.nm]) 1 true true none)])->R st):GoP UB (hU [57] (De q) (cY q)) 0 (zC (zB Try.f114) 1) (E5 q) (andThen R post):=zN (σ:=[0,3]) (fz:=[]) (vars:=[1,3,5]) (by kernel_rfl) (aj (aj (u2 (u2 (u2 (u2 (al t3))))) (aj h1 (aj (u2 (u2 (u2 (u2 (aj (k2 (aj h2 h3)) (u2 (u2 (u2 (aj (k2 (aj h4 (aj (aj (show(nat_lit 1=nat_lit 1) by first | decide | exact Tc _) h5) (aj h6 h7)))) s2))))))))) (al (u2 (u2 s2)))))) t6) hR
theorem yrtx_0(q:QY)(h1:(decide (iN q.i<iN (Uu sA q.n.ss).length)=false)){post:Exit->St->Prop}(ht:T UB 0 (.loop (zC (zB Try.f114) 2)) (St.mk 66 [(3,AV.sl 0 0 q.L.length),(6,iv 0)] [some (Blk.mk (Uu AV.str q.L) 1 true true none)]) (TK UB 0 post (zK (zB Try.f114) 2))):GoO UB (hU [56] (De q) (cY q)) 0 (zC (zB Try.f114) 1) (zK (zB Try.f114) 1) (E5 q) post:=zR (σ:=[1]) (fz:=[]) (vars:=[3,6]) (by kernel_rfl) (aj (aj (aj (u2 (u2 (u2 (u2 (al t3))))) (al h1)) s2) t4) ht
theorem yrul_0(q:QY)(h1:(decide (iN q.i<iN q.L.length)=true))(h2:(0<=iN q.i))(h3:(iN q.i<iN q.L.length))(h4:((Uu AV.str q.L)[0+(iN q.i).toNat]?=some (AV.str q.u)))(h5:(CT UB 140 [] [AV.str q.u] [] (AV.bool (nmB q.u))))(h6:((!nmB q.u)=true)):GoO UB (hU [87,103] (De q) (cY q)) 0 (zC (zB Try.f114) 2) (zK (zB Try.f114) 2) (HU q) (Fin UB Try.f114 0 [] (AV.bool false)):=zF (σ:=[]) (fz:=[]) (by kernel_rfl) (aj (al (aj (u2 (u2 (u2 (al t3)))) (aj h1 (aj (u2 (u2 (aj (k2 (aj h2 h3)) (aj (ak h4) (aj (k2 (al h5)) s2))))) (aj h6 s2))))) t2)
theorem yrul_1(q:QY)(h1:(decide (iN q.i<iN q.L.length)=true))(h2:(0<=iN q.i))(h3:(iN q.i<iN q.L.length))(h4:((Uu AV.str q.L)[0+(iN q.i).toNat]?=some (AV.str q.u)))(h5:(CT UB 140 [] [AV.str q.u] [] (AV.bool (nmB q.u))))(h6:((!nmB q.u)=false)){post:Exit->St->Prop}(ht:T UB 0 (.loop (zC (zC (zB Try.f114) 2) 0)) (St.mk 66 [(3,AV.sl 0 0 q.L.length),(6,iv (iN q.i)),(7,iv 0)] [some (Blk.mk (Uu AV.str q.L) 1 true true none)]) (TK UB 0 post (zK (zC (zB Try.f114) 2) 0))):GoP UB (hU [87,102] (De q) (cY q)) 0 (zC (zB Try.f114) 2) (HU q) post:=zR (σ:=[0]) (fz:=[]) (vars:=[3,6,7]) (by kernel_rfl) (aj (aj (u2 (u2 (u2 (al t3)))) (aj h1 (aj (u2 (u2 (aj (k2 (aj h2 h3)) (aj (ak h4) (aj (k2 (al h5)) s2))))) (aj h6 s2)))) t5) ht
theorem yrul_2(q:QY)(h1:(decide (iN q.i<iN q.L.length)=false)):GoO UB (hU [86] (De q) (cY q)) 0 (zC (zB Try.f114) 2) (zK (zB Try.f114) 2) (HU q) (Fin UB Try.f114 0 [] (AV.bool true)):=zF (σ:=[]) (fz:=[]) (by kernel_rfl) (aj (aj (aj (u2 (u2 (u2 (al t3)))) (al h1)) s2) t2)
theorem yrwl_0(q:QY)(h1:(decide (iN q.k<iN q.i)=true))(h2:(0<=iN q.i))(h3:(iN q.i<iN q.L.length))(h4:((Uu AV.str q.L)[0+(iN q.i).toNat]?=some (AV.str q.u)))(h5:(0<=iN q.k))(h6:(iN q.k<iN q.L.length))(h7:((Uu AV.str q.L)[0+(iN q.k).toNat]?=some (AV.str q.v)))(h8:((q.u.toList==q.v.toList)=true)){post:Exit->St->Prop}(hP:Bl post (Fin UB Try.f114 0 [] (AV.bool false))):GoO UB (hU [109,131] (De q) (cY q)) 0 (zC (zC (zB Try.f114) 2) 0) (zK (zC (zB Try.f114) 2) 0) (Ko q) post:=CL (σ:=[]) (fz:=[]) (by kernel_rfl) (aj (al (aj (u2 (u2 (al t3))) (aj h1 (aj (u2 (u2 (aj (k2 (aj h2 h3)) (aj (ak h4) (u2 (u2 (aj (k2 (aj h5 h6)) (aj (ak h7) (al t3))))))))) (aj h8 s2))))) t2) hP
theorem yrwl_1(q:QY)(h1:(decide (iN q.k<iN q.i)=true))(h2:(0<=iN q.i))(h3:(iN q.i<iN q.L.length))(h4:((Uu AV.str q.L)[0+(iN q.i).toNat]?=some (AV.str q.u)))(h5:(0<=iN q.k))(h6:(iN q.k<iN q.L.length))(h7:((Uu AV.str q.L)[0+(iN q.k).toNat]?=some (AV.str q.v)))(h8:((q.u.toList==q.v.toList)=false)){post:Exit->St->Prop}{R:St->Prop}(hR:∀st,Ren 0 st (St.mk 66 [(3,AV.sl 0 0 q.L.length),(6,iv (iN q.i)),(7,iv (i64.wrap (iN q.k+1)))] [some (Blk.mk (Uu AV.str q.L) 1 true true none)])->R st):GoP UB (hU [109,130] (De q) (cY q)) 0 (zC (zC (zB Try.f114) 2) 0) (Ko q) (andThen R post):=zN (σ:=[0]) (fz:=[]) (vars:=[3,6,7]) (by kernel_rfl) (aj (aj (u2 (u2 (al t3))) (aj h1 (aj (u2 (u2 (aj (k2 (aj h2 h3)) (aj (ak h4) (u2 (u2 (aj (k2 (aj h5 h6)) (aj (ak h7) (al t3))))))))) (aj h8 (al (u2 (u2 s2))))))) t5) hR
theorem yrwx_0(q:QY)(h1:(decide (iN q.k<iN q.i)=false)){post:Exit->St->Prop}{R:St->Prop}(hR:∀st,Ren 0 st (St.mk 66 [(3,AV.sl 0 0 q.L.length),(6,iv (i64.wrap (iN q.i+1)))] [some (Blk.mk (Uu AV.str q.L) 1 true true none)])->R st):GoO UB (hU [108] (De q) (cY q)) 0 (zC (zC (zB Try.f114) 2) 0) (zK (zC (zB Try.f114) 2) 0) (Ko q) (andThen R post):=zN (σ:=[0]) (fz:=[]) (vars:=[3,6]) (by kernel_rfl) (aj (aj (aj (u2 (u2 (al t3))) (al h1)) (al (u2 (u2 s2)))) t4) hR
theorem ynvi_0(q:QY)(h1:(CT UB 113 [] [Ai q.n] [] (AV.bool q.c1)))(h2:((!q.c1)=true)):GoP UB (hU [29] (BH q) (cY q)) 0 (zB Try.f69) (G8 q) (Fin UB Try.f69 0 [] (AV.bool false)):=zF (σ:=[]) (fz:=[]) (by kernel_rfl) (aj (ag t2 (aj (u2 (aj (ak (aj t9 (al h1))) (u2 (u2 (aj h2 (aj h2 (aj h2 (aj h2 (ag h2 (u2 (k3 (aj t3 (u2 (ak (k3 (aj t3 (u2 (ak (k3 (al t3)))))))))))))))))))) (ak s2))) t2)
theorem ynvi_1(q:QY)(h1:(CT UB 113 [] [Ai q.n] [] (AV.bool q.c1)))(h2:((!q.c1)=false))(h3:(decide (6<iN (Uu sA q.n.ss).length)=true)):GoP UB (hU [28,41] (BH q) (cY q)) 0 (zB Try.f69) (G8 q) (Fin UB Try.f69 0 [] (AV.bool false)):=zF (σ:=[]) (fz:=[]) (by kernel_rfl) (aj (ag t2 (aj (u2 (aj (ak (aj t9 (al h1))) (u2 (u2 (ag h2 (ag h2 (ag h2 (ag h2 (ag h2 (u2 (aj h3 (aj h3 (aj h3 (ag h3 (u2 (ak (k3 (aj t3 (u2 (ak (k3 (al t3)))))))))))))))))))))) (ak s2))) t2)
theorem ynvi_2(q:QY)(h1:(CT UB 113 [] [Ai q.n] [] (AV.bool q.c1)))(h2:((!q.c1)=false))(h3:(decide (6<iN (Uu sA q.n.ss).length)=false))(h4:(CT UB 114 [] [Ai q.n] [] (AV.bool q.c2)))(h5:((!q.c2)=true)):GoP UB (hU [28,40,51] (BH q) (cY q)) 0 (zB Try.f69) (G8 q) (Fin UB Try.f69 0 [] (AV.bool false)):=zF (σ:=[]) (fz:=[]) (by kernel_rfl) (aj (ag t2 (aj (u2 (aj (ak (aj t9 (al h1))) (u2 (u2 (ag h2 (ag h2 (ag h2 (ag h2 (ag h2 (u2 (ag h3 (aj (aj h3 (ak (aj t9 (al h4)))) (ag h3 (ag h3 (u2 (aj h5 (aj h5 (aj h5 (aj h5 (ag h5 (u2 (ak (k3 (al t3)))))))))))))))))))))))) (ak s2))) t2)
theorem ynvi_3(q:QY)(h1:(CT UB 113 [] [Ai q.n] [] (AV.bool q.c1)))(h2:((!q.c1)=false))(h3:(decide (6<iN (Uu sA q.n.ss).length)=false))(h4:(CT UB 114 [] [Ai q.n] [] (AV.bool q.c2)))(h5:((!q.c2)=false))(h6:(decide (8<iN (Uu iv q.n.rs).length)=true)):GoP UB (hU [28,40,50,63] (BH q) (cY q)) 0 (zB Try.f69) (G8 q) (Fin UB Try.f69 0 [] (AV.bool false)):=zF (σ:=[]) (fz:=[]) (by kernel_rfl) (aj (ag t2 (aj (u2 (aj (ak (aj t9 (al h1))) (u2 (u2 (ag h2 (ag h2 (ag h2 (ag h2 (ag h2 (u2 (ag h3 (aj (aj h3 (ak (aj t9 (al h4)))) (ag h3 (ag h3 (u2 (ag h5 (ag h5 (ag h5 (ag h5 (ag h5 (u2 (aj h6 (aj h6 (aj h6 (aj h6 (al (aj h6 t2))))))))))))))))))))))))))) (ak s2))) t2)
theorem ynvi_4(q:QY)(h1:(CT UB 113 [] [Ai q.n] [] (AV.bool q.c1)))(h2:((!q.c1)=false))(h3:(decide (6<iN (Uu sA q.n.ss).length)=false))(h4:(CT UB 114 [] [Ai q.n] [] (AV.bool q.c2)))(h5:((!q.c2)=false))(h6:(decide (8<iN (Uu iv q.n.rs).length)=false))(h7:(CT UB 115 [] [AV.agg [iv q.n.q,iv q.n.a,iv q.n.d,iv q.n.p]] [] (AV.bool (A9 q.n))))(h8:((!A9 q.n)=true)):GoP UB (hU [28,40,50,62,73] (BH q) (cY q)) 0 (zB Try.f69) (G8 q) (Fin UB Try.f69 0 [] (AV.bool false)):=zF (σ:=[]) (fz:=[]) (by kernel_rfl) (aj (ag t2 (aj (u2 (aj (ak (aj t9 (al h1))) (u2 (u2 (ag h2 (ag h2 (ag h2 (ag h2 (ag h2 (u2 (ag h3 (aj (aj h3 (ak (aj t9 (al h4)))) (ag h3 (ag h3 (u2 (ag h5 (ag h5 (ag h5 (ag h5 (ag h5 (u2 (ag h6 (ag h6 (aj (aj h6 (ak (aj t5 (al h7)))) (ag h6 (al (aj h6 t2))))))))))))))))))))))))))) (aj h8 s2))) t2)
theorem ynvi_5(q:QY)(h1:(CT UB 113 [] [Ai q.n] [] (AV.bool q.c1)))(h2:((!q.c1)=false))(h3:(decide (6<iN (Uu sA q.n.ss).length)=false))(h4:(CT UB 114 [] [Ai q.n] [] (AV.bool q.c2)))(h5:((!q.c2)=false))(h6:(decide (8<iN (Uu iv q.n.rs).length)=false))(h7:(CT UB 115 [] [AV.agg [iv q.n.q,iv q.n.a,iv q.n.d,iv q.n.p]] [] (AV.bool (A9 q.n))))(h8:((!A9 q.n)=false)){post:Exit->St->Prop}(ht:T UB 0 (.loop (zC (zB Try.f69) 0)) (St.mk 163 [(1,AV.ptr 0 0 0),(3,iv (iN (Uu bA q.n.bs).length)),(4,iv 0),(5,iv 0)] [some (Blk.mk [Ai q.n] [UA (Uu bA q.n.bs),UA (gL q.n.nx),UA (Uu sA q.n.ss),UA (Uu iv q.n.rs),iv q.n.q,iv q.n.a,iv q.n.d,iv q.n.p].length true true none)]) (TK UB 0 post (zK (zB Try.f69) 0))):GoP UB (hU [28,40,50,62,72] (BH q) (cY q)) 0 (zB Try.f69) (G8 q) post:=zR (σ:=[0]) (fz:=[]) (vars:=[1,3,4,5]) (by kernel_rfl) (aj (ag t2 (aj (u2 (aj (ak (aj t9 (al h1))) (u2 (u2 (ag h2 (ag h2 (ag h2 (ag h2 (ag h2 (u2 (ag h3 (aj (aj h3 (ak (aj t9 (al h4)))) (ag h3 (ag h3 (u2 (ag h5 (ag h5 (ag h5 (ag h5 (ag h5 (u2 (ag h6 (ag h6 (aj (aj h6 (ak (aj t5 (al h7)))) (ag h6 (al (aj h6 t2))))))))))))))))))))))))))) (aj h8 (aj (u2 (u2 (u2 (u2 t2)))) s2)))) t6) ht
theorem ynvl_0(q:QY)(h1:(decide (iN q.i<iN (Uu sA q.n.ss).length)=true))(h2:(0<=iN q.i))(h3:((Uu sA q.n.ss)[(iN q.i).toNat]?=some (sA q.s)))(h4:(decide (q.s.i<0)=true)):GoO UB (hU [89,111] (BH q) (cY q)) 0 (zC (zB Try.f69) 0) (zK (zB Try.f69) 0) (CS q) (Fin UB Try.f69 0 [] (AV.bool false)):=zF (σ:=[]) (fz:=[]) (by kernel_rfl) (aj (al (aj (u2 (u2 (u2 (u2 (al t3))))) (aj h1 (aj (u2 (u2 (u2 (aj (k2 (aj h2 h3)) (u2 (ak (al (k2 (show Nat.le (nat_lit 1) (nat_lit 1) from nL rfl))))))))) (aj (u2 (u2 (u2 (u2 (aj h4 (aj h4 (aj h4 (aj h4 (aj h4 (aj h4 (ag h4 (u2 (k3 (aj t3 (u2 (ak (k5 (aj t3 (u2 (k3 (aj t3 (u2 (k3 (aj t3 (u2 (ak (k3 (al t3)))))))))))))))))))))))))))) (ak s2)))))) t2)
theorem ynvl_1(q:QY)(h1:(decide (iN q.i<iN (Uu sA q.n.ss).length)=true))(h2:(0<=iN q.i))(h3:((Uu sA q.n.ss)[(iN q.i).toNat]?=some (sA q.s)))(h4:(decide (q.s.i<0)=false))(h5:(decide (iN (Uu bA q.n.bs).length<=q.s.i)=true)):GoO UB (hU [89,110,127] (BH q) (cY q)) 0 (zC (zB Try.f69) 0) (zK (zB Try.f69) 0) (CS q) (Fin UB Try.f69 0 [] (AV.bool false)):=zF (σ:=[]) (fz:=[]) (by kernel_rfl) (aj (al (aj (u2 (u2 (u2 (u2 (al t3))))) (aj h1 (aj (u2 (u2 (u2 (aj (k2 (aj h2 h3)) (u2 (ak (al (k2 (show Nat.le (nat_lit 1) (nat_lit 1) from nL rfl))))))))) (aj (u2 (u2 (u2 (u2 (ag h4 (ag h4 (ag h4 (ag h4 (ag h4 (aj (aj h4 t3) (ag h4 (u2 (aj h5 (aj h5 (aj h5 (ag h5 (u2 (ak (k5 (aj t3 (u2 (k3 (aj t3 (u2 (k3 (aj t3 (u2 (ak (k3 (al t3)))))))))))))))))))))))))))))) (ak s2)))))) t2)
theorem ynvl_2(q:QY)(h1:(decide (iN q.i<iN (Uu sA q.n.ss).length)=true))(h2:(0<=iN q.i))(h3:((Uu sA q.n.ss)[(iN q.i).toNat]?=some (sA q.s)))(h4:(decide (q.s.i<0)=false))(h5:(decide (iN (Uu bA q.n.bs).length<=q.s.i)=false))(h6:(decide (q.s.o<0)=true)):GoO UB (hU [89,110,126,137] (BH q) (cY q)) 0 (zC (zB Try.f69) 0) (zK (zB Try.f69) 0) (CS q) (Fin UB Try.f69 0 [] (AV.bool false)):=zF (σ:=[]) (fz:=[]) (by kernel_rfl) (aj (al (aj (u2 (u2 (u2 (u2 (al t3))))) (aj h1 (aj (u2 (u2 (u2 (aj (k2 (aj h2 h3)) (u2 (ak (al (k2 (show Nat.le (nat_lit 1) (nat_lit 1) from nL rfl))))))))) (aj (u2 (u2 (u2 (u2 (ag h4 (ag h4 (ag h4 (ag h4 (ag h4 (aj (aj h4 t3) (ag h4 (u2 (ag h5 (ag h5 (ag h5 (ag h5 (u2 (aj h6 (aj h6 (aj h6 (aj h6 (aj h6 (aj h6 (ag h6 (u2 (k3 (aj t3 (u2 (k3 (aj t3 (u2 (ak (k3 (al t3)))))))))))))))))))))))))))))))))) (ak s2)))))) t2)
theorem ynvl_3(q:QY)(h1:(decide (iN q.i<iN (Uu sA q.n.ss).length)=true))(h2:(0<=iN q.i))(h3:((Uu sA q.n.ss)[(iN q.i).toNat]?=some (sA q.s)))(h4:(decide (q.s.i<0)=false))(h5:(decide (iN (Uu bA q.n.bs).length<=q.s.i)=false))(h6:(decide (q.s.o<0)=false))(h7:(decide (iN (Uu bA q.n.bs).length<=q.s.o)=true)):GoO UB (hU [89,110,126,136,153] (BH q) (cY q)) 0 (zC (zB Try.f69) 0) (zK (zB Try.f69) 0) (CS q) (Fin UB Try.f69 0 [] (AV.bool false)):=zF (σ:=[]) (fz:=[]) (by kernel_rfl) (aj (al (aj (u2 (u2 (u2 (u2 (al t3))))) (aj h1 (aj (u2 (u2 (u2 (aj (k2 (aj h2 h3)) (u2 (ak (al (k2 (show Nat.le (nat_lit 1) (nat_lit 1) from nL rfl))))))))) (aj (u2 (u2 (u2 (u2 (ag h4 (ag h4 (ag h4 (ag h4 (ag h4 (aj (aj h4 t3) (ag h4 (u2 (ag h5 (ag h5 (ag h5 (ag h5 (u2 (ag h6 (ag h6 (ag h6 (ag h6 (ag h6 (aj (aj h6 t3) (ag h6 (u2 (aj h7 (aj h7 (aj h7 (ag h7 (u2 (k3 (aj t3 (u2 (ak (k3 (al t3)))))))))))))))))))))))))))))))))))) (ak s2)))))) t2)
theorem ynvl_4(q:QY)(h1:(decide (iN q.i<iN (Uu sA q.n.ss).length)=true))(h2:(0<=iN q.i))(h3:((Uu sA q.n.ss)[(iN q.i).toNat]?=some (sA q.s)))(h4:(decide (q.s.i<0)=false))(h5:(decide (iN (Uu bA q.n.bs).length<=q.s.i)=false))(h6:(decide (q.s.o<0)=false))(h7:(decide (iN (Uu bA q.n.bs).length<=q.s.o)=false))(h8:(decide (q.s.k<1)=true)):GoO UB (hU [89,110,126,136,152,163] (BH q) (cY q)) 0 (zC (zB Try.f69) 0) (zK (zB Try.f69) 0) (CS q) (Fin UB Try.f69 0 [] (AV.bool false)):=zF (σ:=[]) (fz:=[]) (by kernel_rfl) (aj (al (aj (u2 (u2 (u2 (u2 (al t3))))) (aj h1 (aj (u2 (u2 (u2 (aj (k2 (aj h2 h3)) (u2 (ak (al (k2 (show Nat.le (nat_lit 1) (nat_lit 1) from nL rfl))))))))) (aj (u2 (u2 (u2 (u2 (ag h4 (ag h4 (ag h4 (ag h4 (ag h4 (aj (aj h4 t3) (ag h4 (u2 (ag h5 (ag h5 (ag h5 (ag h5 (u2 (ag h6 (ag h6 (ag h6 (ag h6 (ag h6 (aj (aj h6 t3) (ag h6 (u2 (ag h7 (ag h7 (ag h7 (ag h7 (u2 (aj h8 (aj h8 (aj h8 (ag h8 (u2 (ak (k3 (al t3)))))))))))))))))))))))))))))))))))))) (ak s2)))))) t2)
theorem ynvl_5(q:QY)(h1:(decide (iN q.i<iN (Uu sA q.n.ss).length)=true))(h2:(0<=iN q.i))(h3:((Uu sA q.n.ss)[(iN q.i).toNat]?=some (sA q.s)))(h4:(decide (q.s.i<0)=false))(h5:(decide (iN (Uu bA q.n.bs).length<=q.s.i)=false))(h6:(decide (q.s.o<0)=false))(h7:(decide (iN (Uu bA q.n.bs).length<=q.s.o)=false))(h8:(decide (q.s.k<1)=false))(h9:(decide (4<q.s.k)=true)):GoO UB (hU [89,110,126,136,152,162,173] (BH q) (cY q)) 0 (zC (zB Try.f69) 0) (zK (zB Try.f69) 0) (CS q) (Fin UB Try.f69 0 [] (AV.bool false)):=zF (σ:=[]) (fz:=[]) (by kernel_rfl) (aj (al (aj (u2 (u2 (u2 (u2 (al t3))))) (aj h1 (aj (u2 (u2 (u2 (aj (k2 (aj h2 h3)) (u2 (ak (al (k2 (show Nat.le (nat_lit 1) (nat_lit 1) from nL rfl))))))))) (aj (u2 (u2 (u2 (u2 (ag h4 (ag h4 (ag h4 (ag h4 (ag h4 (aj (aj h4 t3) (ag h4 (u2 (ag h5 (ag h5 (ag h5 (ag h5 (u2 (ag h6 (ag h6 (ag h6 (ag h6 (ag h6 (aj (aj h6 t3) (ag h6 (u2 (ag h7 (ag h7 (ag h7 (ag h7 (u2 (ag h8 (ag h8 (ag h8 (ag h8 (u2 (aj h9 (aj h9 (aj h9 (aj h9 (al (aj h9 t2))))))))))))))))))))))))))))))))))))))))) (ak s2)))))) t2)
theorem ynvl_6(q:QY)(h1:(decide (iN q.i<iN (Uu sA q.n.ss).length)=true))(h2:(0<=iN q.i))(h3:((Uu sA q.n.ss)[(iN q.i).toNat]?=some (sA q.s)))(h4:(decide (q.s.i<0)=false))(h5:(decide (iN (Uu bA q.n.bs).length<=q.s.i)=false))(h6:(decide (q.s.o<0)=false))(h7:(decide (iN (Uu bA q.n.bs).length<=q.s.o)=false))(h8:(decide (q.s.k<1)=false))(h9:(decide (4<q.s.k)=false))(h10:((q.s.b != q.base)=true)):GoO UB (hU [89,110,126,136,152,162,172,183] (BH q) (cY q)) 0 (zC (zB Try.f69) 0) (zK (zB Try.f69) 0) (CS q) (Fin UB Try.f69 0 [] (AV.bool false)):=zF (σ:=[]) (fz:=[]) (by kernel_rfl) (aj (al (aj (u2 (u2 (u2 (u2 (al t3))))) (aj h1 (aj (u2 (u2 (u2 (aj (k2 (aj h2 h3)) (u2 (ak (al (k2 (show Nat.le (nat_lit 1) (nat_lit 1) from nL rfl))))))))) (aj (u2 (u2 (u2 (u2 (ag h4 (ag h4 (ag h4 (ag h4 (ag h4 (aj (aj h4 t3) (ag h4 (u2 (ag h5 (ag h5 (ag h5 (ag h5 (u2 (ag h6 (ag h6 (ag h6 (ag h6 (ag h6 (aj (aj h6 t3) (ag h6 (u2 (ag h7 (ag h7 (ag h7 (ag h7 (u2 (ag h8 (ag h8 (ag h8 (ag h8 (u2 (ag h9 (ag h9 (ag h9 (aj (aj h9 t3) (al (aj h9 t2))))))))))))))))))))))))))))))))))))))))) (aj h10 s2)))))) t2)
theorem ynvl_7(q:QY)(h1:(decide (iN q.i<iN (Uu sA q.n.ss).length)=true))(h2:(0<=iN q.i))(h3:((Uu sA q.n.ss)[(iN q.i).toNat]?=some (sA q.s)))(h4:(decide (q.s.i<0)=false))(h5:(decide (iN (Uu bA q.n.bs).length<=q.s.i)=false))(h6:(decide (q.s.o<0)=false))(h7:(decide (iN (Uu bA q.n.bs).length<=q.s.o)=false))(h8:(decide (q.s.k<1)=false))(h9:(decide (4<q.s.k)=false))(h10:((q.s.b != q.base)=false))(h11:(q.s.dep=true)){post:Exit->St->Prop}{R:St->Prop}(hR:∀st,Ren 0 st (St.mk 163 [(1,AV.ptr 0 0 0),(3,iv (i64.wrap (q.base+q.s.k))),(4,iv (i64.wrap (q.dn+1))),(5,iv (i64.wrap (iN q.i+1)))] [some (Blk.mk [Ai q.n] 8 true true none)])->R st):GoP UB (hU [89,110,126,136,152,162,172,182,195] (BH q) (cY q)) 0 (zC (zB Try.f69) 0) (CS q) (andThen R post):=zN (σ:=[0]) (fz:=[]) (vars:=[1,3,4,5]) (by kernel_rfl) (aj (aj (u2 (u2 (u2 (u2 (al t3))))) (aj h1 (aj (u2 (u2 (u2 (aj (k2 (aj h2 h3)) (u2 (ak (al (k2 (show Nat.le (nat_lit 1) (nat_lit 1) from nL rfl))))))))) (aj (u2 (u2 (u2 (u2 (ag h4 (ag h4 (ag h4 (ag h4 (ag h4 (aj (aj h4 t3) (ag h4 (u2 (ag h5 (ag h5 (ag h5 (ag h5 (u2 (ag h6 (ag h6 (ag h6 (ag h6 (ag h6 (aj (aj h6 t3) (ag h6 (u2 (ag h7 (ag h7 (ag h7 (ag h7 (u2 (ag h8 (ag h8 (ag h8 (ag h8 (u2 (ag h9 (ag h9 (ag h9 (aj (aj h9 t3) (al (aj h9 t2))))))))))))))))))))))))))))))))))))))))) (aj h10 (aj (u2 (u2 (u2 (aj t3 s2)))) (aj (u2 s2) (aj h11 (aj (u2 (u2 s2)) (al (u2 (u2 s2)))))))))))) t6) hR
theorem ynvl_8(q:QY)(h1:(decide (iN q.i<iN (Uu sA q.n.ss).length)=true))(h2:(0<=iN q.i))(h3:((Uu sA q.n.ss)[(iN q.i).toNat]?=some (sA q.s)))(h4:(decide (q.s.i<0)=false))(h5:(decide (iN (Uu bA q.n.bs).length<=q.s.i)=false))(h6:(decide (q.s.o<0)=false))(h7:(decide (iN (Uu bA q.n.bs).length<=q.s.o)=false))(h8:(decide (q.s.k<1)=false))(h9:(decide (4<q.s.k)=false))(h10:((q.s.b != q.base)=false))(h11:(q.s.dep=false)){post:Exit->St->Prop}{R:St->Prop}(hR:∀st,Ren 0 st (St.mk 163 [(1,AV.ptr 0 0 0),(3,iv (i64.wrap (q.base+q.s.k))),(4,iv q.dn),(5,iv (i64.wrap (iN q.i+1)))] [some (Blk.mk [Ai q.n] 8 true true none)])->R st):GoP UB (hU [89,110,126,136,152,162,172,182,194] (BH q) (cY q)) 0 (zC (zB Try.f69) 0) (CS q) (andThen R post):=zN (σ:=[0]) (fz:=[]) (vars:=[1,3,4,5]) (by kernel_rfl) (aj (aj (u2 (u2 (u2 (u2 (al t3))))) (aj h1 (aj (u2 (u2 (u2 (aj (k2 (aj h2 h3)) (u2 (ak (al (k2 (show Nat.le (nat_lit 1) (nat_lit 1) from nL rfl))))))))) (aj (u2 (u2 (u2 (u2 (ag h4 (ag h4 (ag h4 (ag h4 (ag h4 (aj (aj h4 t3) (ag h4 (u2 (ag h5 (ag h5 (ag h5 (ag h5 (u2 (ag h6 (ag h6 (ag h6 (ag h6 (ag h6 (aj (aj h6 t3) (ag h6 (u2 (ag h7 (ag h7 (ag h7 (ag h7 (u2 (ag h8 (ag h8 (ag h8 (ag h8 (u2 (ag h9 (ag h9 (ag h9 (aj (aj h9 t3) (al (aj h9 t2))))))))))))))))))))))))))))))))))))))))) (aj h10 (aj (u2 (u2 (u2 (aj t3 s2)))) (aj (u2 s2) (aj h11 (al (u2 (u2 s2))))))))))) t6) hR
theorem ynvx_0(q:QY)(h1:(decide (iN q.i<iN (Uu sA q.n.ss).length)=false)){post:Exit->St->Prop}(ht:T UB 0 (.loop (zC (zB Try.f69) 1)) (St.mk 163 [(1,AV.ptr 0 0 0),(4,iv q.dn),(7,iv 0)] [some (Blk.mk [Ai q.n] 8 true true none)]) (TK UB 0 post (zK (zB Try.f69) 1))):GoO UB (hU [88] (BH q) (cY q)) 0 (zC (zB Try.f69) 0) (zK (zB Try.f69) 0) (CS q) post:=zR (σ:=[0]) (fz:=[]) (vars:=[1,4,7]) (by kernel_rfl) (aj (aj (aj (u2 (u2 (u2 (u2 (al t3))))) (al h1)) s2) t5) ht
theorem ynwl_0(q:QY)(h1:(decide (iN q.i<iN (Uu iv q.n.rs).length)=true)){post:Exit->St->Prop}(ht:T UB 0 (.loop (zC (zC (zB Try.f69) 1) 0)) (St.mk 163 [(1,AV.ptr 0 0 0),(4,iv q.dn),(7,iv (iN q.i)),(8,AV.bool false),(9,iv 0)] [some (Blk.mk [Ai q.n] 8 true true none)]) (TK UB 0 post (zK (zC (zB Try.f69) 1) 0))):GoP UB (hU [209] (BH q) (cY q)) 0 (zC (zB Try.f69) 1) (H4 q) post:=zR (σ:=[0]) (fz:=[]) (vars:=[1,4,7,8,9]) (by kernel_rfl) (aj (aj (u2 (u2 (u2 (u2 (al t3))))) (aj h1 (u2 s2))) t7) ht
theorem ynwl_1(q:QY)(h1:(decide (iN q.i<iN (Uu iv q.n.rs).length)=false)):GoO UB (hU [208] (BH q) (cY q)) 0 (zC (zB Try.f69) 1) (zK (zB Try.f69) 1) (H4 q) (Fin UB Try.f69 0 [] (AV.bool (decide (0<q.dn)))):=zF (σ:=[]) (fz:=[]) (by kernel_rfl) (aj (aj (aj (u2 (u2 (u2 (u2 (al t3))))) (al h1)) (al (u2 (u2 s2)))) t2)
theorem ynxl_0(q:QY)(h1:(decide (iN q.k<iN (Uu sA q.n.ss).length)=true))(h2:(0<=iN q.k))(h3:((Uu sA q.n.ss)[(iN q.k).toNat]?=some (sA q.s)))(h4:(q.ok=true)){post:Exit->St->Prop}{R:St->Prop}(hR:∀st,Ren 0 st (St.mk 163 [(1,AV.ptr 0 0 0),(4,iv q.dn),(7,iv (iN q.i)),(8,AV.bool true),(9,iv (i64.wrap (iN q.k+1)))] [some (Blk.mk [Ai q.n] 8 true true none)])->R st):GoP UB (hU [223,241] (BH q) (cY q)) 0 (zC (zC (zB Try.f69) 1) 0) (DE q) (andThen R post):=zN (σ:=[0]) (fz:=[]) (vars:=[1,4,7,8,9]) (by kernel_rfl) (aj (aj (u2 (u2 (u2 (u2 (al t3))))) (aj h1 (aj (u2 (u2 (u2 (aj (k2 (aj h2 h3)) (u2 (ak (al (k2 (show Nat.le (nat_lit 1) (nat_lit 1) from nL rfl))))))))) (aj (u2 (u2 (aj h4 (aj h4 (aj h4 (k3 (k5 (aj h4 (aj h4 (ak (k5 (k5 (aj h4 (ag h4 s2)))))))))))))) (al (u2 (u2 s2))))))) t7) hR
theorem ynxl_1(q:QY)(h1:(decide (iN q.k<iN (Uu sA q.n.ss).length)=true))(h2:(0<=iN q.k))(h3:((Uu sA q.n.ss)[(iN q.k).toNat]?=some (sA q.s)))(h4:(q.ok=false))(h5:(q.s.dep=true))(h6:(0<=iN q.i))(h7:((Uu iv q.n.rs)[(iN q.i).toNat]?=some (iv q.x)))(h8:(decide (q.s.b<=q.x)=true)){post:Exit->St->Prop}{R:St->Prop}(hR:∀st,Ren 0 st (St.mk 163 [(1,AV.ptr 0 0 0),(4,iv q.dn),(7,iv (iN q.i)),(8,AV.bool (decide (q.x<i64.wrap (q.s.b+q.s.k)))),(9,iv (i64.wrap (iN q.k+1)))] [some (Blk.mk [Ai q.n] 8 true true none)])->R st):GoP UB (hU [223,240,247,267] (BH q) (cY q)) 0 (zC (zC (zB Try.f69) 1) 0) (DE q) (andThen R post):=zN (σ:=[0]) (fz:=[]) (vars:=[1,4,7,8,9]) (by kernel_rfl) (aj (aj (u2 (u2 (u2 (u2 (al t3))))) (aj h1 (aj (u2 (u2 (u2 (aj (k2 (aj h2 h3)) (u2 (ak (al (k2 (show Nat.le (nat_lit 1) (nat_lit 1) from nL rfl))))))))) (aj (u2 (u2 (ag h4 (ag h4 (ag h4 (ag h5 (ag h5 (ag h5 (aj (aj h5 (k2 (aj h6 h7))) (ag h5 (ag h5 (ag h5 (aj (aj h5 t3) (aj (aj h4 (aj h5 t2)) (ag h4 (ag h8 (ag h8 (ag h8 (aj (aj h8 (k2 (aj h6 h7))) (ag h8 (ag h8 (ag h8 (ag h8 (ag h8 (aj (aj h8 t3) (aj (aj h8 t3) (aj (aj h4 (aj h8 t2)) (ag h4 s2)))))))))))))))))))))))))))) (al (u2 (u2 s2))))))) t7) hR
theorem ynxl_2(q:QY)(h1:(decide (iN q.k<iN (Uu sA q.n.ss).length)=true))(h2:(0<=iN q.k))(h3:((Uu sA q.n.ss)[(iN q.k).toNat]?=some (sA q.s)))(h4:(q.ok=false))(h5:(q.s.dep=true))(h6:(0<=iN q.i))(h7:((Uu iv q.n.rs)[(iN q.i).toNat]?=some (iv q.x)))(h8:(decide (q.s.b<=q.x)=false)){post:Exit->St->Prop}{R:St->Prop}(hR:∀st,Ren 0 st (St.mk 163 [(1,AV.ptr 0 0 0),(4,iv q.dn),(7,iv (iN q.i)),(8,AV.bool false),(9,iv (i64.wrap (iN q.k+1)))] [some (Blk.mk [Ai q.n] 8 true true none)])->R st):GoP UB (hU [223,240,247,266] (BH q) (cY q)) 0 (zC (zC (zB Try.f69) 1) 0) (DE q) (andThen R post):=zN (σ:=[0]) (fz:=[]) (vars:=[1,4,7,8,9]) (by kernel_rfl) (aj (aj (u2 (u2 (u2 (u2 (al t3))))) (aj h1 (aj (u2 (u2 (u2 (aj (k2 (aj h2 h3)) (u2 (ak (al (k2 (show Nat.le (nat_lit 1) (nat_lit 1) from nL rfl))))))))) (aj (u2 (u2 (ag h4 (ag h4 (ag h4 (ag h5 (ag h5 (ag h5 (aj (aj h5 (k2 (aj h6 h7))) (ag h5 (ag h5 (ag h5 (aj (aj h5 t3) (aj (aj h4 (aj h5 t2)) (ag h4 (aj h8 (aj h8 (aj h8 (aj h8 (aj h8 (aj h8 (aj h8 (aj h8 (aj h8 (aj h8 (aj h8 (aj (aj h4 (aj h8 t2)) (ag h4 s2)))))))))))))))))))))))))))) (al (u2 (u2 s2))))))) t7) hR
theorem ynxl_3(q:QY)(h1:(decide (iN q.k<iN (Uu sA q.n.ss).length)=true))(h2:(0<=iN q.k))(h3:((Uu sA q.n.ss)[(iN q.k).toNat]?=some (sA q.s)))(h4:(q.ok=false))(h5:(q.s.dep=false)){post:Exit->St->Prop}{R:St->Prop}(hR:∀st,Ren 0 st (St.mk 163 [(1,AV.ptr 0 0 0),(4,iv q.dn),(7,iv (iN q.i)),(8,AV.bool false),(9,iv (i64.wrap (iN q.k+1)))] [some (Blk.mk [Ai q.n] 8 true true none)])->R st):GoP UB (hU [223,240,246] (BH q) (cY q)) 0 (zC (zC (zB Try.f69) 1) 0) (DE q) (andThen R post):=zN (σ:=[0]) (fz:=[]) (vars:=[1,4,7,8,9]) (by kernel_rfl) (aj (aj (u2 (u2 (u2 (u2 (al t3))))) (aj h1 (aj (u2 (u2 (u2 (aj (k2 (aj h2 h3)) (u2 (ak (al (k2 (show Nat.le (nat_lit 1) (nat_lit 1) from nL rfl))))))))) (aj (u2 (u2 (ag h4 (ag h4 (ag h4 (aj h5 (aj h5 (aj h5 (aj h5 (aj h5 (aj h5 (aj h5 (aj h5 (aj (aj h4 (aj h5 t2)) (ag h4 (ak (k5 (k5 (aj (aj h4 t3) (ag h4 s2)))))))))))))))))))) (al (u2 (u2 s2))))))) t7) hR
theorem ynxx_0(q:QY)(h1:(decide (iN q.k<iN (Uu sA q.n.ss).length)=false))(h2:((!q.ok)=true)){post:Exit->St->Prop}(hP:Bl post (Fin UB Try.f69 0 [] (AV.bool false))):GoO UB (hU [222,299] (BH q) (cY q)) 0 (zC (zC (zB Try.f69) 1) 0) (zK (zC (zB Try.f69) 1) 0) (DE q) post:=CL (σ:=[]) (fz:=[]) (by kernel_rfl) (aj (aj (aj (u2 (u2 (u2 (u2 (al t3))))) (al h1)) (aj (u2 (u2 (u2 (aj h2 (aj h2 (aj h2 (aj h2 (aj h2 (aj h2 (aj h2 (aj h2 (aj h2 (aj h2 (al (aj h2 t2))))))))))))))) (ak s2))) t2) hP
theorem ynxx_1(q:QY)(h1:(decide (iN q.k<iN (Uu sA q.n.ss).length)=false))(h2:((!q.ok)=false))(h3:(∀(e:AV),e∈Uu iv q.n.rs->e.cells.length=1))(h4:(0<=iN q.i))(h5:(iN q.i<=iN (Uu iv q.n.rs).length))(h6:(iN (Uu iv q.n.rs).length<=iN (Uu iv q.n.rs).length))(h7:((Uu iv q.n.rs)[(iN q.i).toNat]?=some (iv q.x)))(h8:(CT UB 26 [] [UA (List.take ((iN q.i).toNat-Int.toNat 0) (List.drop (Int.toNat 0) (Uu iv q.n.rs))),iv q.x] [] (AV.bool q.c3)))(h9:(q.c3=true)){post:Exit->St->Prop}(hP:Bl post (Fin UB Try.f69 0 [] (AV.bool false))):GoO UB (hU [222,298,321] (BH q) (cY q)) 0 (zC (zC (zB Try.f69) 1) 0) (zK (zC (zB Try.f69) 1) 0) (DE q) post:=CL (σ:=[]) (fz:=[]) (by kernel_rfl) (aj (aj (aj (u2 (u2 (u2 (u2 (al t3))))) (al h1)) (aj (u2 (u2 (u2 (ag h2 (ag h2 (ag h2 (aj (aj h2 (k2 (aj h3 (aj (Int.le_refl 0) (aj h4 (aj h5 h6)))))) (ag h2 (ag h2 (ag h2 (aj (aj h2 (k2 (aj h4 h7))) (ag h2 (aj (aj h2 (ak (k3 (al h8)))) (al (aj h2 t2))))))))))))))) (aj h9 s2))) t2) hP
theorem ynxx_2(q:QY)(h1:(decide (iN q.k<iN (Uu sA q.n.ss).length)=false))(h2:((!q.ok)=false))(h3:(∀(e:AV),e∈Uu iv q.n.rs->e.cells.length=1))(h4:(0<=iN q.i))(h5:(iN q.i<=iN (Uu iv q.n.rs).length))(h6:(iN (Uu iv q.n.rs).length<=iN (Uu iv q.n.rs).length))(h7:((Uu iv q.n.rs)[(iN q.i).toNat]?=some (iv q.x)))(h8:(CT UB 26 [] [UA (List.take ((iN q.i).toNat-Int.toNat 0) (List.drop (Int.toNat 0) (Uu iv q.n.rs))),iv q.x] [] (AV.bool q.c3)))(h9:(q.c3=false)){post:Exit->St->Prop}{R:St->Prop}(hR:∀st,Ren 0 st (St.mk 163 [(1,AV.ptr 0 0 0),(4,iv q.dn),(7,iv (i64.wrap (iN q.i+1)))] [some (Blk.mk [Ai q.n] 8 true true none)])->R st):GoO UB (hU [222,298,320] (BH q) (cY q)) 0 (zC (zC (zB Try.f69) 1) 0) (zK (zC (zB Try.f69) 1) 0) (DE q) (andThen R post):=zN (σ:=[0]) (fz:=[]) (vars:=[1,4,7]) (by kernel_rfl) (aj (aj (aj (u2 (u2 (u2 (u2 (al t3))))) (al h1)) (aj (u2 (u2 (u2 (ag h2 (ag h2 (ag h2 (aj (aj h2 (k2 (aj h3 (aj (Int.le_refl 0) (aj h4 (aj h5 h6)))))) (ag h2 (ag h2 (ag h2 (aj (aj h2 (k2 (aj h4 h7))) (ag h2 (aj (aj h2 (ak (k3 (al h8)))) (al (aj h2 t2))))))))))))))) (aj h9 (al (u2 (u2 s2)))))) t5) hR
theorem ycel_0(q:QY){post:Exit->St->Prop}(ht:T UB 0 (.loop (zC (zB Try.f18) 0)) (St.mk 24 [(1,AV.ptr 0 0 0),(3,iv (iN (Uu bA q.n.bs).length)),(4,iv 0)] [some (Blk.mk [Ai q.n] [UA (Uu bA q.n.bs),UA (gL q.n.nx),UA (Uu sA q.n.ss),UA (Uu iv q.n.rs),iv q.n.q,iv q.n.a,iv q.n.d,iv q.n.p].length true true none)]) (TK UB 0 post (zK (zB Try.f18) 0))):GoP UB (hU [] (ey27 q) (cY q)) 0 (zB Try.f18) (sy27 q) post:=zR (σ:=[0]) (fz:=[]) (vars:=[1,3,4]) (by kernel_rfl) (aj (ag t2 (aj (u2 (u2 (u2 s2))) s2)) t5) ht
theorem ycell_0(q:QY)(h1:(decide (iN q.i<iN (Uu sA q.n.ss).length)=true))(h2:(0<=iN q.i))(h3:((Uu sA q.n.ss)[(iN q.i).toNat]?=some (sA q.s))){post:Exit->St->Prop}{R:St->Prop}(hR:∀st,Ren 0 st (St.mk 24 [(1,AV.ptr 0 0 0),(3,iv (i64.wrap (q.base+q.s.k))),(4,iv (i64.wrap (iN q.i+1)))] [some (Blk.mk [Ai q.n] 8 true true none)])->R st):GoP UB (hU [25] (ey27 q) (cY q)) 0 (zC (zB Try.f18) 0) (Jm q) (andThen R post):=zN (σ:=[0]) (fz:=[]) (vars:=[1,3,4]) (by kernel_rfl) (aj (aj (u2 (u2 (u2 (u2 (al t3))))) (aj h1 (aj (u2 (u2 (u2 (u2 (aj (k2 (aj h2 h3)) (u2 (u2 (aj t3 s2)))))))) (al (u2 (u2 s2)))))) t5) hR
theorem ycell_1(q:QY)(h1:(decide (iN q.i<iN (Uu sA q.n.ss).length)=false)):GoO UB (hU [24] (ey27 q) (cY q)) 0 (zC (zB Try.f18) 0) (zK (zB Try.f18) 0) (Jm q) (Fin UB Try.f18 0 [] (iv q.base)):=zF (σ:=[]) (fz:=[]) (by kernel_rfl) (aj (aj (aj (u2 (u2 (u2 (u2 (al t3))))) (al h1)) (al (u2 s2))) t2)
def qB(n:Aa)(b:AM)(r:List Int)(i k:Nat)(x y:Int):QY:=⟨n,[],b,s0,r,i,k,0,0,x,y,⟨#[]⟩,⟨#[]⟩,false,false,false,false⟩
def qW(n:Aa)(L:List ByteArray)(b:AM)(s:Ao)(i k:Nat)(u v:ByteArray):QY:=⟨n,L,b,s,[],i,k,0,0,0,0,u,v,false,false,false,false⟩
theorem O1{a b:ByteArray}:(a.toList==b.toList)=true↔a=b:=by rw[beq_iff_eq,ByteArray.toList_eq,ByteArray.toList_eq];exact⟨fun h=>by cases a;cases b;simpa using h,fun h=>by rw[h]⟩
structure HZ(n:Aa)(i:Nat)(b:AM):Prop where
 x:Av b.x (-9999) 9999=true
 y:Av b.y (-9999) 9999=true
 ln:(n.nx.getD i []).length<=4
 nx:fnd (AK (n.nx.getD i []) n.bs.length i) 0 (n.nx.getD i []).length=none
structure BlV(n:Aa):Prop where
 nb:1<=n.bs.length/\n.bs.length<=24
 nx:n.nx.length=n.bs.length
 blk:∀i b,n.bs[i]?=some b->HZ n i b
open Classical in
def blV(n:Aa):Bool:=decide (BlV n)
theorem IJ{n:Aa}(h:¬BlV n):blV n=false:=by unfold blV;exact @TC _ (Classical.propDecidable _) h
theorem MX{n:Aa}:blV n=true↔BlV n:=by unfold blV;exact @decide_eq_true_iff _ (Classical.propDecidable _)
theorem ybm_run{n:Aa}(hrw:Rows n.nx)(hnb:n.bs.length<=24)(i:Nat)(hi:i<n.nx.length)(hi24:i<24){R:St->Prop}{post:Exit->St->Prop}
  (hy:fnd (AK (n.nx.getD i []) n.bs.length i) 0 (n.nx.getD i []).length≠none->Bl post (Fin UB Try.f113 0 [] (.bool false)))
  (hR:fnd (AK (n.nx.getD i []) n.bs.length i) 0 (n.nx.getD i []).length=none->∀st,Ren 0 st (Dw (qB n b0 [] (i+1) 0 0 0))->R st):
  T UB 0 (.loop (zC (zC (zB Try.f113) 0) 0)) (Dp (qB n b0 (n.nx.getD i []) i 0 0 0)) (TK UB 0 (andThen R post) (zK (zC (zB Try.f113) 0) 0)):=by
 have hr63:=hrw i hi;have hg2:(gL n.nx)[i]?=some (lI (n.nx.getD i [])):=CX hi;have hbl:(n.bs.map bA).length=n.bs.length:=by simp
 generalize n.nx.getD i []=r at hr63 hg2 hy hR;have hrl:=BV r;generalize hrr:fnd (AK r n.bs.length i) 0 r.length=res at hy hR;refine T.loop (fun k:Nat=>Dp (qB n b0 r i k 0 0)) (fun k=>k<=r.length/\fnd (AK r n.bs.length i) k (r.length-k)=res) (fun k=>r.length+1-k) 0 ⟨TJ _,hrr⟩ ?_
 rintro k ⟨hk,hf⟩
 have dl:((gL n.nx)[(iN i).toNat]?=some (UA (Uu (AV.int i64) r))):=hg2;by_cases h:k<r.length
 .rw[CV h] at hf;have hg:=Bu h;have dk:decide (iN k<iN (r.map (AV.int .i64)).length)=true:=TD (by simp only[iN,hrl];omega);have k1:(0:Int)<=iN k:=by simp[iN]
  have k2:(0:Int)<=iN i:=by simp[iN]
  have wk:i64.wrap (iN k+1)=((k+1:Nat):Int):=zW k (by omega);have found:AK r n.bs.length i k=true->Bl (andThen R post) (Fin UB Try.f113 0 [] (.bool false)):=by intro hb;simp only[hb] at hf;subst hf;exact hy (by simp)
  have next:AK r n.bs.length i k=false->∀st,Ren 0 st (Dp (qB n b0 r i (k+1) 0 0))->∃j,Ren 0 st (Dp (qB n b0 r i j 0 0))/\(j<=r.length/\fnd (AK r n.bs.length i) j (r.length-j)=res)/\r.length+1-j<r.length+1-k:=by intro hb st hst;simp only[hb] at hf;exact⟨k+1,hst,⟨h,hf⟩,by omega⟩
  have hp:decide (0<iN k)=true->(r.map (AV.int .i64))[(i64.wrap (iN k-1)).toNat]?=some (.int .i64 (r.getD (k-1) 0))/\0<=i64.wrap (iN k-1):=fun h0=>by
   have h0:0<k:=by have:=of_decide_eq_true h0;simp only[iN] at this;omega
   have hw:=FM k h0 (by omega);simp only[iN] at hw ⊢
   rw[hw];exact⟨by simpa using Bu (l:=r) (j:=k-1) (by omega),by omega⟩
  cases t1:decide ((qB n b0 r i k (r.getD k 0) (r.getD (k-1) 0)).x<0)
  case false=>
   cases t2:decide (iN (Uu bA (qB n b0 r i k (r.getD k 0) (r.getD (k-1) 0)).n.bs).length<=(qB n b0 r i k (r.getD k 0) (r.getD (k-1) 0)).x)
   case false=>
    cases t3:((qB n b0 r i k (r.getD k 0) (r.getD (k-1) 0)).x==iN (qB n b0 r i k (r.getD k 0) (r.getD (k-1) 0)).i)
    case false=>
     cases t4:decide (0<iN (qB n b0 r i k (r.getD k 0) (r.getD (k-1) 0)).k)
     case false=>exact T.path mix (yrbm_5 (qB n b0 r i k (r.getD k 0) (r.getD (k-1) 0)) (by first | assumption | (first | exact hg | exact(hp (by assumption)).1 | exact(hp (by assumption)).2)) (by first | assumption | (first | exact hg | exact(hp (by assumption)).1 | exact(hp (by assumption)).2)) dk (by first | assumption | (first | exact hg | exact(hp (by assumption)).1 | exact(hp (by assumption)).2)) (by first | assumption | (first | exact hg | exact(hp (by assumption)).1 | exact(hp (by assumption)).2)) t1 t2 t3 t4 (fun st hst=>by simp only[qB,wk] at hst;exact next (by simp only[qB,iN,hbl] at *;unfold AK;grind) st hst))
     case true=>
      cases t5:decide ((qB n b0 r i k (r.getD k 0) (r.getD (k-1) 0)).x<=(qB n b0 r i k (r.getD k 0) (r.getD (k-1) 0)).y)
      case false=>exact T.path mix (yrbm_4 (qB n b0 r i k (r.getD k 0) (r.getD (k-1) 0)) (by first | assumption | (first | exact hg | exact(hp (by assumption)).1 | exact(hp (by assumption)).2)) (by first | assumption | (first | exact hg | exact(hp (by assumption)).1 | exact(hp (by assumption)).2)) dk (by first | assumption | (first | exact hg | exact(hp (by assumption)).1 | exact(hp (by assumption)).2)) (by first | assumption | (first | exact hg | exact(hp (by assumption)).1 | exact(hp (by assumption)).2)) t1 t2 t3 t4 (by first | assumption | (first | exact hg | exact(hp (by assumption)).1 | exact(hp (by assumption)).2)) (by first | assumption | (first | exact hg | exact(hp (by assumption)).1 | exact(hp (by assumption)).2)) t5 (fun st hst=>by simp only[qB,wk] at hst;exact next (by simp only[qB,iN,hbl] at *;unfold AK;grind) st hst))
      case true=>exact T.out mix (yrbm_3 (qB n b0 r i k (r.getD k 0) (r.getD (k-1) 0)) (by first | assumption | (first | exact hg | exact(hp (by assumption)).1 | exact(hp (by assumption)).2)) (by first | assumption | (first | exact hg | exact(hp (by assumption)).1 | exact(hp (by assumption)).2)) dk (by first | assumption | (first | exact hg | exact(hp (by assumption)).1 | exact(hp (by assumption)).2)) (by first | assumption | (first | exact hg | exact(hp (by assumption)).1 | exact(hp (by assumption)).2)) t1 t2 t3 t4 (by first | assumption | (first | exact hg | exact(hp (by assumption)).1 | exact(hp (by assumption)).2)) (by first | assumption | (first | exact hg | exact(hp (by assumption)).1 | exact(hp (by assumption)).2)) t5 (found (by simp only[qB,iN,hbl] at *;unfold AK;grind)))
    case true=>exact T.out mix (yrbm_2 (qB n b0 r i k (r.getD k 0) (r.getD (k-1) 0)) (by first | assumption | (first | exact hg | exact(hp (by assumption)).1 | exact(hp (by assumption)).2)) (by first | assumption | (first | exact hg | exact(hp (by assumption)).1 | exact(hp (by assumption)).2)) dk (by first | assumption | (first | exact hg | exact(hp (by assumption)).1 | exact(hp (by assumption)).2)) (by first | assumption | (first | exact hg | exact(hp (by assumption)).1 | exact(hp (by assumption)).2)) t1 t2 t3 (found (by simp only[qB,iN,hbl] at *;unfold AK;grind)))
   case true=>exact T.out mix (yrbm_1 (qB n b0 r i k (r.getD k 0) (r.getD (k-1) 0)) (by first | assumption | (first | exact hg | exact(hp (by assumption)).1 | exact(hp (by assumption)).2)) (by first | assumption | (first | exact hg | exact(hp (by assumption)).1 | exact(hp (by assumption)).2)) dk (by first | assumption | (first | exact hg | exact(hp (by assumption)).1 | exact(hp (by assumption)).2)) (by first | assumption | (first | exact hg | exact(hp (by assumption)).1 | exact(hp (by assumption)).2)) t1 t2 (found (by simp only[qB,iN,hbl] at *;unfold AK;grind)))
  case true=>exact T.out mix (yrbm_0 (qB n b0 r i k (r.getD k 0) (r.getD (k-1) 0)) (by first | assumption | (first | exact hg | exact(hp (by assumption)).1 | exact(hp (by assumption)).2)) (by first | assumption | (first | exact hg | exact(hp (by assumption)).1 | exact(hp (by assumption)).2)) dk (by first | assumption | (first | exact hg | exact(hp (by assumption)).1 | exact(hp (by assumption)).2)) (by first | assumption | (first | exact hg | exact(hp (by assumption)).1 | exact(hp (by assumption)).2)) t1 (found (by simp only[qB,iN,hbl] at *;unfold AK;grind)))
 .rw[C1 h] at hf;subst hf;refine T.out mix (yrbmx_0 (qB n b0 r i k 0 0) (by simp[iN,qB]) dl (TC (by simp only[qB,iN,hrl];omega)) ?_);intro st hst;simp only[qB,zW i (show i<9223372036854775807 by omega)] at hst;exact hR rfl st hst
theorem NZ{r:List Int}{v n:Nat}:nxB r v n=(!(fnd (AK r n v) 0 r.length).isSome&&decide (r.length<=4)):=by
 have e:nxE r (v:Int) (n:Int)=Em r n v:=by funext k;unfold nxE Em;rw[Bool.or_assoc]
 unfold nxB;rw[e,QU]
theorem Lq{n:Aa}{i:Nat}{b:AM}:HZ n i b↔(Av b.x (-9999) 9999=true/\Av b.y (-9999) 9999=true/\nxB (n.nx.getD i []) i n.bs.length=true):=by
 rw[NZ];constructor
 .intro g;exact⟨g.x,g.y,by rw[g.nx];simpa using g.ln⟩
 .rintro⟨h1,h2,h3⟩
  simp only[TF,Uj,decide_eq_true_eq] at h3;exact⟨h1,h2,h3.2,by cases he:fnd (AK (n.nx.getD i []) n.bs.length i) 0 (n.nx.getD i []).length with | none=>rfl | some _=>rw[he] at h3;simp at h3⟩
theorem Sb{n:Aa}(hrw:Rows n.nx):CT UB 113 [] [Ai n] [] (.bool (blV n)):=by
 have hb:Try.f113.body=some (zB Try.f113):=by kernel_rfl
 have hn:[Ai n].length<=Try.f113.ntmps:=nL rfl;have hbl:(n.bs.map bA).length=n.bs.length:=by simp
 have hgl:=BD n.nx;have h0:∀{res:Bool},blV n=res->CT UB 113 [] [Ai n] [] (.bool res)->CT UB 113 [] [Ai n] [] (.bool (blV n)):=fun e h=>e ▸ h
 have main:decide (iN (Uu bA n.bs).length<1)=false->decide (24<iN (Uu bA n.bs).length)=false->(iN (gL n.nx).length != iN (Uu bA n.bs).length)=false->
   T UB 0 (.loop (zC (zB Try.f113) 0)) (Dw (qB n b0 [] 0 0 0 0)) (TK UB 0 (Fin UB Try.f113 0 [] (.bool (blV n))) (zK (zB Try.f113) 0)):=by
  intro g1 g2 g3;rw[hbl] at g1 g2 g3;rw[hgl] at g3;have g1:=of_decide_eq_false g1;have g2:=of_decide_eq_false g2;simp only[iN] at g1 g2;have hnb:1<=n.bs.length/\n.bs.length<=24:=by omega
  have hnx:n.nx.length=n.bs.length:=by simp only[iN,bne_eq_false_iff_eq] at g3;omega
  refine T.loop (fun i:Nat=>Dw (qB n b0 [] i 0 0 0)) (fun i=>i<=n.bs.length/\∀j b,j<i->n.bs[j]?=some b->HZ n j b) (fun i=>n.bs.length+1-i) 0 ⟨TJ _,fun j b hj=>by omega⟩ ?_
  rintro i ⟨hi,hgd⟩
  by_cases h:i<n.bs.length
  .obtain⟨b,hbb⟩:∃b,n.bs[i]?=some b:=⟨_,Tx h⟩;have dk:decide (iN i<iN (n.bs.map bA).length)=true:=TD (by simp only[iN,hbl];omega);have k1:(0:Int)<=iN i:=by simp[iN]
   have hg:=KO hbb;have hg2:(gL n.nx)[i]?=some (lI (n.nx.getD i [])):=CX (by omega);have hrl:=BV (n.nx.getD i []);have bad:¬HZ n i b->blV n=false:=fun hb=>IJ fun hv=>hb (hv.blk i b hbb)
   have inner:(Av b.x (-9999) 9999=true/\Av b.y (-9999) 9999=true/\(n.nx.getD i []).length<=4)->
     T UB 0 (.loop (zC (zC (zB Try.f113) 0) 0)) (Dp (qB n b0 (n.nx.getD i []) i 0 0 0)) (TK UB 0 (andThen (fun st'=>∃j,Ren 0 st' (Dw (qB n b0 [] j 0 0 0))/\(j<=n.bs.length/\∀k b,k<j->n.bs[k]?=some b->HZ n k b)/\n.bs.length+1-j<n.bs.length+1-i) (TK UB 0 (Fin UB Try.f113 0 [] (.bool (blV n))) (zK (zB Try.f113) 0))) (zK (zC (zB Try.f113) 0) 0)):=by
    rintro⟨w1,w2,w3⟩
    refine ybm_run hrw hnb.2 i (by omega) (by omega) (fun hne=>?_) (fun hno st hst=>⟨i+1,hst,⟨h,fun j t hj ht=>?_⟩,by omega⟩)
    .rw[bad fun g=>hne g.nx];exact fun st hst=>TK.ret hst _
    .by_cases e:j=i
     .subst e;rw[hbb] at ht;cases ht;exact⟨w1,w2,w3,hno⟩
     .exact hgd j t (by omega) ht
   cases t6:decide ((qB n b (n.nx.getD i []) i 0 0 0).b.x < -9999)
   case false=>
    cases t7:decide (9999<(qB n b (n.nx.getD i []) i 0 0 0).b.x)
    case false=>
     cases t8:decide ((qB n b (n.nx.getD i []) i 0 0 0).b.y < -9999)
     case false=>
      cases t9:decide (9999<(qB n b (n.nx.getD i []) i 0 0 0).b.y)
      case false=>
       cases t10:decide (4<iN (Uu iV (qB n b (n.nx.getD i []) i 0 0 0).r).length)
       case false=>exact T.path mix (yrbl_5 (qB n b (n.nx.getD i []) i 0 0 0) dk (by assumption) (by assumption) t6 t7 t8 t9 (by assumption) t10 (inner ⟨Bi.2 (by simp only[qB,iN,hrl] at *;grind),Bi.2 (by simp only[qB,iN,hrl] at *;grind),by simp only[qB,iN,hrl] at *;grind⟩))
       case true=>rw[bad (fun g=>by have g1:=Bi.1 g.x;have g2:=Bi.1 g.y;have g3:=g.ln;simp only[qB,iN,hrl] at *;grind)];exact T.out mix (yrbl_4 (qB n b (n.nx.getD i []) i 0 0 0) dk (by assumption) (by assumption) t6 t7 t8 t9 (by assumption) t10)
      case true=>rw[bad (fun g=>by have g1:=Bi.1 g.x;have g2:=Bi.1 g.y;have g3:=g.ln;simp only[qB,iN,hrl] at *;grind)];exact T.out mix (yrbl_3 (qB n b (n.nx.getD i []) i 0 0 0) dk (by assumption) (by assumption) t6 t7 t8 t9)
     case true=>rw[bad (fun g=>by have g1:=Bi.1 g.x;have g2:=Bi.1 g.y;have g3:=g.ln;simp only[qB,iN,hrl] at *;grind)];exact T.out mix (yrbl_2 (qB n b (n.nx.getD i []) i 0 0 0) dk (by assumption) (by assumption) t6 t7 t8)
    case true=>rw[bad (fun g=>by have g1:=Bi.1 g.x;have g2:=Bi.1 g.y;have g3:=g.ln;simp only[qB,iN,hrl] at *;grind)];exact T.out mix (yrbl_1 (qB n b (n.nx.getD i []) i 0 0 0) dk (by assumption) (by assumption) t6 t7)
   case true=>rw[bad (fun g=>by have g1:=Bi.1 g.x;have g2:=Bi.1 g.y;have g3:=g.ln;simp only[qB,iN,hrl] at *;grind)];exact T.out mix (yrbl_0 (qB n b (n.nx.getD i []) i 0 0 0) dk (by assumption) (by assumption) t6)
  .have hin:i=n.bs.length:=by omega
   subst hin;rw[MX.2 ⟨hnb,hnx,fun j b hj=>hgd j b (Tz.1 hj).1 hj⟩];exact T.out mix (yrbl_6 (qB n b0 [] n.bs.length 0 0 0) (TC (by simp only[qB,iN,hbl];omega)))
 cases t11:decide (iN (Uu bA (qB n b0 [] 0 0 0 0).n.bs).length<1)
 case false=>
  cases t12:decide (24<iN (Uu bA (qB n b0 [] 0 0 0 0).n.bs).length)
  case false=>
   cases t13:(iN (gL (qB n b0 [] 0 0 0 0).n.nx).length != iN (Uu bA (qB n b0 [] 0 0 0 0).n.bs).length)
   case false=>first | exact CT.path mix Try.func113 hb hn (QB (qB n b0 [] 0 0 0 0) t11 t12 t13 (main (by assumption) (by assumption) (by assumption))) | exact h0 (IJ fun hv=>by have a1:=hv.nb;have a2:=hv.nx;simp only[qB,iN,hbl,hgl] at *;grind) (CT.path mix Try.func113 hb hn (QB (qB n b0 [] 0 0 0 0) t11 t12 t13 (main (by assumption) (by assumption) (by assumption))))
   case true=>first | exact CT.path mix Try.func113 hb hn (O0 (qB n b0 [] 0 0 0 0) t11 t12 t13) | exact h0 (IJ fun hv=>by have a1:=hv.nb;have a2:=hv.nx;simp only[qB,iN,hbl,hgl] at *;grind) (CT.path mix Try.func113 hb hn (O0 (qB n b0 [] 0 0 0 0) t11 t12 t13))
  case true=>first | exact CT.path mix Try.func113 hb hn (NN (qB n b0 [] 0 0 0 0) t11 t12) | exact h0 (IJ fun hv=>by have a1:=hv.nb;have a2:=hv.nx;simp only[qB,iN,hbl,hgl] at *;grind) (CT.path mix Try.func113 hb hn (NN (qB n b0 [] 0 0 0 0) t11 t12))
 case true=>first | exact CT.path mix Try.func113 hb hn (O2 (qB n b0 [] 0 0 0 0) t11) | exact h0 (IJ fun hv=>by have a1:=hv.nb;have a2:=hv.nx;simp only[qB,iN,hbl,hgl] at *;grind) (CT.path mix Try.func113 hb hn (O2 (qB n b0 [] 0 0 0 0) t11))
structure NmV(n:Aa):Prop where
 al:∀x∈B1 n,nmB x=true
 nod:(B1 n).Nodup
open Classical in
def nmV(n:Aa):Bool:=decide (NmV n)
theorem nmV_f{n:Aa}(h:¬NmV n):nmV n=false:=by unfold nmV;exact @TC _ (Classical.propDecidable _) h
theorem Lh{n:Aa}:nmV n=true↔NmV n:=by unfold nmV;exact @decide_eq_true_iff _ (Classical.propDecidable _)
theorem M4(L:List ByteArray):(L.map AV.str).length=L.length:=by simp
theorem Qa{L:List ByteArray}{i:Nat}{u:ByteArray}(h:L[i]?=some u):(L.map AV.str)[0+i]?=some (.str u):=by rw[TP,TH,h];rfl
theorem yru_run{n:Aa}(hL:(B1 n).length<=100):
  T UB 0 (.loop (zC (zB Try.f114) 2)) (HU (qW n (B1 n) b0 s0 0 0 ⟨#[]⟩ ⟨#[]⟩)) (TK UB 0 (Fin UB Try.f114 0 [] (.bool (nmV n))) (zK (zB Try.f114) 2)):=by
 generalize hLL:B1 n=L at hL;have hsl:=M4 L;have bad:∀{p:Prop},¬p->(NmV n->p)->nmV n=false:=fun hp h=>nmV_f fun hv=>hp (h hv)
 refine T.loop (fun i:Nat=>HU (qW n L b0 s0 i 0 ⟨#[]⟩ ⟨#[]⟩)) (fun i=>i<=L.length/\(∀j u,j<i->L[j]?=some u->nmB u=true/\∀k v,k<j->L[k]?=some v->u≠v)) (fun i=>L.length+1-i) 0 ⟨TJ _,fun j u hj=>by omega⟩ ?_
 rintro i ⟨hi,hgd⟩
 by_cases h:i<L.length
 .obtain⟨u,hu⟩:∃u,L[i]?=some u:=⟨_,Tx h⟩;have k1:(0:Int)<=iN i:=by simp[iN]
  have k2:iN i<iN L.length:=by simp only[iN];omega
  have dk:decide (iN i<iN L.length)=true:=TD k2;have hg:=Qa hu;have c1:=rname_ct u;have hmu:u∈B1 n:=by rw[hLL];exact TB hu
  cases hnu:nmB u with
  | false=>rw[bad (p:=nmB u=true) (by rw[hnu];simp) fun hv=>hv.al u hmu];exact T.out mix (yrul_0 (qW n L b0 s0 i 0 u ⟨#[]⟩) dk k1 k2 hg c1 (by simp only[qW];rw[hnu];rfl))
  | true=>
   refine T.path mix (yrul_1 (qW n L b0 s0 i 0 u ⟨#[]⟩) dk k1 k2 hg c1 (by simp only[qW];rw[hnu];rfl) ?_);refine T.loop (fun k:Nat=>Ko (qW n L b0 s0 i k ⟨#[]⟩ ⟨#[]⟩)) (fun k=>k<=i/\∀k' v,k'<k->L[k']?=some v->u≠v) (fun k=>i+1-k) 0 ⟨TJ _,fun k' v hk=>by omega⟩ ?_
   rintro k ⟨hk,hgk⟩
   by_cases hki:k<i
   .obtain⟨v,hv⟩:∃v,L[k]?=some v:=⟨_,Tx (by omega)⟩;have k3:(0:Int)<=iN k:=by simp[iN]
    have k4:iN k<iN L.length:=by simp only[iN];omega
    have dk2:decide (iN k<iN i)=true:=TD (by simp only[iN];omega);have hg2:=Qa hv;cases he:u.toList==v.toList with
    | true=>
     refine T.out mix (yrwl_0 (qW n L b0 s0 i k u v) dk2 k1 k2 hg k3 k4 hg2 he ?_);rw[nmV_f fun hvv=>?_]
     .exact fun st hst=>TK.ret hst _
     .have huv:=O1.1 he;have hnd:=hvv.nod;rw[hLL] at hnd;have h1:=(Tz.1 hu);have h2:=(Tz.1 hv);obtain⟨a1,a2⟩:=h1;obtain⟨b1,b2⟩:=h2;have:=(List.getElem_inj hnd (h₀:=a1) (h₁:=b1)).1 (by rw[a2,b2,huv]);omega
    | false=>
     refine T.path mix (yrwl_1 (qW n L b0 s0 i k u v) dk2 k1 k2 hg k3 k4 hg2 he ?_);intro st hst;simp only[qW,zW k (show k<9223372036854775807 by omega)] at hst;refine⟨k+1,hst,⟨hki,fun k' w hk' hw=>?_⟩,by omega⟩;by_cases e:k'=k
     .subst e;rw[hv] at hw;cases hw;intro heq;rw[O1.2 heq] at he;cases he
     .exact hgk k' w (by omega) hw
   .refine T.out mix (yrwx_0 (qW n L b0 s0 i k u ⟨#[]⟩) (TC (by simp only[qW,iN];omega)) ?_);intro st hst;simp only[qW,zW i (show i<9223372036854775807 by omega)] at hst;refine⟨i+1,hst,⟨h,fun j w hj hw=>?_⟩,by omega⟩;by_cases e:j=i
    .subst e;rw[hu] at hw;cases hw;exact⟨hnu,fun k' v hk' hv=>hgk k' v (by omega) hv⟩
    .exact hgd j w (by omega) hw
 .have hin:i=L.length:=by omega
  subst hin;have hv:NmV n:=by
   refine⟨fun x hx=>?_,?_⟩
   .rw[hLL] at hx;obtain⟨j,hj⟩:=List.mem_iff_getElem?.1 hx;exact(hgd j x (Tz.1 hj).1 hj).1
   .rw[hLL,List.nodup_iff_pairwise_ne,List.pairwise_iff_getElem];intro a b ha hb hab;exact fun e=>(hgd b _ hb (Tx hb)).2 a _ hab (Tx ha) e.symm
  rw[Lh.2 hv];exact T.out mix (yrul_2 (qW n L b0 s0 L.length 0 ⟨#[]⟩ ⟨#[]⟩) (TC (by simp only[qW,iN];omega)))
theorem yrt_run{n:Aa}(hnb:n.bs.length<=24)(hns:n.ss.length<=6):
  T UB 0 (.loop (zC (zB Try.f114) 1)) (E5 (qW n (n.bs.map (·.nm)) b0 s0 0 0 ⟨#[]⟩ ⟨#[]⟩)) (TK UB 0 (Fin UB Try.f114 0 [] (.bool (nmV n))) (zK (zB Try.f114) 1)):=by
 have hsl:(n.ss.map sA).length=n.ss.length:=by simp
 have hL0:∀i,(n.bs.map (·.nm)++(n.ss.take i).map (·.nm)).length<=30:=fun i=>by simp;omega
 suffices hh:T UB 0 (.loop (zC (zB Try.f114) 1)) (E5 (qW n (n.bs.map (·.nm)++(n.ss.take 0).map (·.nm)) b0 s0 0 0 ⟨#[]⟩ ⟨#[]⟩)) (TK UB 0 (Fin UB Try.f114 0 [] (.bool (nmV n))) (zK (zB Try.f114) 1)) by simpa using hh
 refine T.loop (fun i:Nat=>E5 (qW n (n.bs.map (·.nm)++(n.ss.take i).map (·.nm)) b0 s0 i 0 ⟨#[]⟩ ⟨#[]⟩)) (fun i=>i<=n.ss.length) (fun i=>n.ss.length+1-i) 0 (TJ _) ?_;intro i hi;by_cases h:i<n.ss.length
 .obtain⟨s,hs⟩:∃s,n.ss[i]?=some s:=⟨_,Tx h⟩;have hl:=hL0 i;have e1:n.bs.map (·.nm)++(n.ss.take (i+1)).map (·.nm)=(n.bs.map (·.nm)++(n.ss.take i).map (·.nm))++[s.nm]:=by simp[List.take_add_one,hs]
  have hstep:∀st,Ren 0 st (E5 (qW n ((n.bs.map (·.nm)++(n.ss.take i).map (·.nm))++[s.nm]) b0 s0 (i+1) 0 ⟨#[]⟩ ⟨#[]⟩))->∃j,Ren 0 st (E5 (qW n (n.bs.map (·.nm)++(n.ss.take j).map (·.nm)) b0 s0 j 0 ⟨#[]⟩ ⟨#[]⟩))/\j<=n.ss.length/\n.ss.length+1-j<n.ss.length+1-i:=by intro st hst;exact⟨i+1,by rw[e1];exact hst,h,by omega⟩
  generalize n.bs.map (·.nm)++(n.ss.take i).map (·.nm)=L at hl hstep;have hll:=M4 L;refine T.path mix (yrtl_0 (qW n L b0 s i 0 ⟨#[]⟩ ⟨#[]⟩) (TD (by simp only[qW,iN,hsl];omega)) (by simp[iN]) (CZ hs) (by simp[qW]) (by simp) (by simp only[qW,hll,Uc];omega) (by simp only[qW,hll,Uc];omega) ?_);intro st hst;refine hstep st ?_;simp only[qW,zW i (show i<9223372036854775807 by omega)] at hst;simpa [E5,qW,sB,nB,Ai,lI,TM] using hst
 .have hin:i=n.ss.length:=by omega
  subst hin;rw[List.take_length];refine T.out mix (yrtx_0 (qW n (n.bs.map (·.nm)++n.ss.map (·.nm)) b0 s0 n.ss.length 0 ⟨#[]⟩ ⟨#[]⟩) (TC (by simp only[qW,iN,hsl];omega)) ?_);exact yru_run (by simp[B1];omega)
def nmS(n:Aa)(y:Nat×List ByteArray):St:=match y.2 with
 | []=>lz144 (qW n [] b0 s0 y.1 0 ⟨#[]⟩ ⟨#[]⟩)
 | _=>F3 (qW n y.2 b0 s0 y.1 0 ⟨#[]⟩ ⟨#[]⟩)
theorem MF{n:Aa}{i:Nat}{L:List ByteArray}(h:L≠[]):nmS n (i,L)=F3 (qW n L b0 s0 i 0 ⟨#[]⟩ ⟨#[]⟩):=by
 cases L with
 | nil=>exact absurd rfl h
 | cons _ _=>rfl
theorem names_ct{n:Aa}(hnb:1<=n.bs.length/\n.bs.length<=24)(hns:n.ss.length<=6):CT UB 114 [] [Ai n] [] (.bool (nmV n)):=by
 have hb:Try.f114.body=some (zB Try.f114):=by kernel_rfl
 have hn:[Ai n].length<=Try.f114.ntmps:=nL rfl;have hbl:(n.bs.map bA).length=n.bs.length:=by simp
 refine CT.path mix Try.func114 hb hn (yrsi_0 (qW n [] b0 s0 0 0 ⟨#[]⟩ ⟨#[]⟩) ?_);refine T.loop (fun y:Nat×List ByteArray=>nmS n y) (fun y=>y.1<=n.bs.length/\y.2=(n.bs.take y.1).map (·.nm)) (fun y=>n.bs.length+1-y.1) (0,[]) ⟨TJ _,by simp⟩ ?_
 rintro⟨i,L⟩ ⟨hi,hL⟩
 simp only at hi hL;have hLl:L.length=i:=by rw[hL];simp;omega
 by_cases h:i<n.bs.length
 .obtain⟨b,hbb⟩:∃b,n.bs[i]?=some b:=⟨_,Tx h⟩;have e1:(n.bs.take (i+1)).map (·.nm)=L++[b.nm]:=by rw[hL];simp[List.take_add_one,hbb]
  have dk:decide (iN i<iN (n.bs.map bA).length)=true:=TD (by simp only[iN,hbl];omega);have next:∀st,Ren 0 st (F3 (qW n (L++[b.nm]) b0 s0 (i+1) 0 ⟨#[]⟩ ⟨#[]⟩))->∃j:Nat×List ByteArray,Ren 0 st (nmS n j)/\(j.1<=n.bs.length/\j.2=(n.bs.take j.1).map (·.nm))/\n.bs.length+1-j.1<n.bs.length+1-i:=by intro st hst;exact⟨(i+1,L++[b.nm]),by rw[MF (by simp)];exact hst,⟨h,e1.symm⟩,by simp only;omega⟩
  cases hLe:L with
  | nil=>
   rw[hLe] at next
   refine T.path mix (yrsz_0 (qW n [] b s0 i 0 ⟨#[]⟩ ⟨#[]⟩) dk (by simp[iN]) (KO hbb) (by simp) (by simp) (by simp) ?_);intro st hst;refine next st ?_
   simp only[qW,zW i (show i<9223372036854775807 by omega)] at hst;simpa [F3,qW,sB,nB,Ai,lI] using hst
  | cons x L'=>
   rw[<-hLe];have hne:L≠[]:=by rw[hLe];simp
   show T UB 0 _ (nmS n (i,L)) _;rw[MF hne];have hll:=M4 L;refine T.path mix (yrsl_0 (qW n L b s0 i 0 ⟨#[]⟩ ⟨#[]⟩) dk (by simp[iN]) (KO hbb) (by simp[qW]) (by simp) (by simp only[qW,hll,Uc];omega) (by simp only[qW,hll,Uc];omega) ?_);intro st hst;refine next st ?_
   simp only[qW,zW i (show i<9223372036854775807 by omega)] at hst;simpa [F3,qW,sB,nB,Ai,lI,TM] using hst
 .have hin:i=n.bs.length:=by omega
  subst hin;rw[List.take_length] at hL;show T UB 0 _ (nmS n (n.bs.length,L)) _;rw[MF (by intro e;rw[e] at hLl;simp at hLl;omega)];refine T.out mix (yrsx_0 (qW n L b0 s0 n.bs.length 0 ⟨#[]⟩ ⟨#[]⟩) (TC (by simp only[qW,iN,hbl];omega)) ?_);have:=yrt_run hnb.2 hns;rw[<-hL] at this;exact this
def qX(n:Aa)(s:Ao)(i k:Nat)(base dn x:Int)(ok c1 c2 c3:Bool):QY:=⟨n,[],b0,s,[],i,k,base,dn,x,0,⟨#[]⟩,⟨#[]⟩,ok,c1,c2,c3⟩
structure C8(n:Aa)(i:Nat)(s:Ao):Prop where
 hi:0<=s.i/\s.i<n.bs.length
 ho:0<=s.o/\s.o<n.bs.length
 hk:1<=s.k/\s.k<=4
 hb:s.b=Az n i
theorem Qx{n:Aa}{i:Nat}{s:Ao}(g:DC n i s):C8 n i s:=by have h1:=Bi.1 g.hi;have h2:=Bi.1 g.ho;exact⟨by omega,by omega,Bi.1 g.hk,g.hb⟩
theorem Oi{n:Aa}{i:Nat}{s:Ao}(hn:nmB s.nm=true)(g:C8 n i s):DC n i s:=⟨hn,Bi.2 (by have:=g.hi;omega),Bi.2 (by have:=g.ho;omega),Bi.2 g.hk,g.hb⟩
theorem MT{n:Aa}{i:Nat}(hg:∀j s,j<i->n.ss[j]?=some s->C8 n j s)(hb:n.bs.length<=24):(n.bs.length:Int)<=Az n i/\Az n i<=n.bs.length+4 * i:=by
 induction i with
 | zero=>simp[Az]
 | succ i ih=>
  obtain⟨h1,h2⟩:=ih fun j s hj hs=>hg j s (by omega) hs
  cases hs:n.ss[i]? with
  | some s=>rw[Dm hs];have:=(hg i s (by omega) hs).hk;omega
  | none=>
   have:Az n (i+1)=Az n i:=by unfold Az;simp[List.take_add_one,hs]
   rw[this];omega
structure NP where
 i:Nat
 base:Int
 dn:Int
 ok:Bool
theorem ynx_run{n:Aa}(hns:n.ss.length<=6)(hgd:∀j s,n.ss[j]?=some s->C8 n j s)(hnb:n.bs.length<=24){i:Nat}(hi8:i<=8){x:Int}(hx:n.rs[i]?=some x){dn:Int}{R:St->Prop}{post:Exit->St->Prop}
  (hy:¬(AW n n.ss.length x/\x∉n.rs.take i)->Bl post (Fin UB Try.f69 0 [] (.bool false)))
  (hR:(AW n n.ss.length x/\x∉n.rs.take i)->∀st,Ren 0 st (H4 (qX n s0 (i+1) 0 0 dn 0 false false false false))->R st) (hrs:n.rs.length<=8):
  T UB 0 (.loop (zC (zC (zB Try.f69) 1) 0)) (DE (qX n s0 i 0 0 dn 0 false false false false)) (TK UB 0 (andThen R post) (zK (zC (zB Try.f69) 1) 0)):=by
 have hsl:(n.ss.map sA).length=n.ss.length:=by simp
 have hrl:(n.rs.map (AV.int .i64)).length=n.rs.length:=by simp
 refine T.loop (fun p:NP=>DE (qX n s0 i p.i 0 dn 0 p.ok false false false)) (fun p=>p.i<=n.ss.length/\(p.ok=true↔AW n p.i x)) (fun p=>n.ss.length+1-p.i) ⟨0,0,0,false⟩ ⟨TJ _,by simp[AW]⟩ ?_
 rintro⟨k,base,dn',ok⟩ ⟨hk,hok⟩
 simp only at hk hok;have hxg:(n.rs.map (AV.int .i64))[i]?=some (.int .i64 x):=by rw[TH,hx];rfl
 have k2:(0:Int)<=iN i:=by simp[iN]
 by_cases h:k<n.ss.length
 .obtain⟨s,hs⟩:∃s,n.ss[k]?=some s:=⟨_,Tx h⟩;have dk:decide (iN k<iN (n.ss.map sA).length)=true:=TD (by simp only[iN,hsl];omega);have k1:(0:Int)<=iN k:=by simp[iN]
  have hg:=CZ hs;have g:=hgd k s hs;have hbd:=MT (i:=k) (fun j s _ hj=>hgd j s hj) hnb;have g1:=g.hb;have g2:=g.hk;have wsum:i64.wrap (s.b+s.k)=s.b+s.k:=A6 _ (by omega) (by omega);have wk:i64.wrap (iN k+1)=((k+1:Nat):Int):=zW k (by omega);have next:∀b:Bool,(b=true↔AW n (k+1) x)->∀st,Ren 0 st (DE (qX n s0 i (k+1) 0 dn 0 b false false false))->∃j:NP,Ren 0 st (DE (qX n s0 i j.i 0 dn 0 j.ok false false false))/\(j.i<=n.ss.length/\(j.ok=true↔AW n j.i x))/\n.ss.length+1-j.i<n.ss.length+1-k:=by intro b hb st hst;exact⟨⟨k+1,0,0,b⟩,hst,⟨h,hb⟩,by simp only;omega⟩
  have hds:=Oj hs x;cases t1:(qX n s i k 0 dn x ok false false false).ok
  case false=>
   cases t2:(qX n s i k 0 dn x ok false false false).s.dep
   case false=>exact T.path mix (ynxl_3 (qX n s i k 0 dn x ok false false false) dk (by assumption) (by assumption) t1 t2 (fun st hst=>by simp only[qX,wk,wsum] at hst;(first | refine next true ?_ st hst | refine next false ?_ st hst | refine next (decide (x<s.b+s.k)) ?_ st hst);clear next hy hR hgd hst;simp only[qX] at *;rw[hds,<-hok];grind))
   case true=>
    cases t3:decide ((qX n s i k 0 dn x ok false false false).s.b<=(qX n s i k 0 dn x ok false false false).x)
    case false=>exact T.path mix (ynxl_2 (qX n s i k 0 dn x ok false false false) dk (by assumption) (by assumption) t1 t2 (by assumption) (by assumption) t3 (fun st hst=>by simp only[qX,wk,wsum] at hst;(first | refine next true ?_ st hst | refine next false ?_ st hst | refine next (decide (x<s.b+s.k)) ?_ st hst);clear next hy hR hgd hst;simp only[qX] at *;rw[hds,<-hok];grind))
    case true=>exact T.path mix (ynxl_1 (qX n s i k 0 dn x ok false false false) dk (by assumption) (by assumption) t1 t2 (by assumption) (by assumption) t3 (fun st hst=>by simp only[qX,wk,wsum] at hst;(first | refine next true ?_ st hst | refine next false ?_ st hst | refine next (decide (x<s.b+s.k)) ?_ st hst);clear next hy hR hgd hst;simp only[qX] at *;rw[hds,<-hok];grind))
  case true=>exact T.path mix (ynxl_0 (qX n s i k 0 dn x ok false false false) dk (by assumption) (by assumption) t1 (fun st hst=>by simp only[qX,wk,wsum] at hst;(first | refine next true ?_ st hst | refine next false ?_ st hst | refine next (decide (x<s.b+s.k)) ?_ st hst);clear next hy hR hgd hst;simp only[qX] at *;rw[hds,<-hok];grind))
 .have hin:k=n.ss.length:=by omega
  subst hin;have dl:decide (iN n.ss.length<iN (n.ss.map sA).length)=false:=TC (by simp only[iN,hsl];omega);have hi':=(Tz.1 hx).1;have f3:∀(e:AV),e∈Uu (AV.int i64) n.rs->e.cells.length=1:=by intro e he;obtain⟨y,_,rfl⟩:=T4.1 he;rfl
  have f5:iN i<=iN (Uu (AV.int i64) n.rs).length:=by simp only[iN,hrl];omega
  have f8:=Fl (n.rs.take i) x (by simp;omega);have f8':CT UB 26 [] [UA (List.take ((iN i).toNat-Int.toNat 0) (List.drop (Int.toNat 0) (Uu (AV.int i64) n.rs))),AV.int i64 x] [] (AV.bool (Ay (n.rs.take i) x)):=by
   have e:List.take ((iN i).toNat-Int.toNat 0) (List.drop (Int.toNat 0) (Uu (AV.int i64) n.rs))=(n.rs.take i).map (AV.int .i64):=by simp[iN,List.map_take]
   rw[e];exact f8
  cases ho:ok with
  | false=>exact T.out mix (ynxx_0 (qX n s0 i n.ss.length 0 dn x false false false false) dl rfl (hy fun hd=>by rw[ho] at hok;simp at hok;exact hok hd.1))
  | true=>
   have hd:=hok.1 ho;cases hh:Ay (n.rs.take i) x with
   | true=>rw[hh] at f8';exact T.out mix (ynxx_1 (qX n s0 i n.ss.length 0 dn x true false false true) dl rfl f3 k2 f5 (Int.le_refl _) hxg f8' rfl (hy fun hdd=>hdd.2 (G1.1 hh)))
   | false=>rw[hh] at f8';refine T.out mix (ynxx_2 (qX n s0 i n.ss.length 0 dn x true false false false) dl rfl f3 k2 f5 (Int.le_refl _) hxg f8' rfl ?_);intro st hst;simp only[qX,zW i (show i<9223372036854775807 by omega)] at hst;exact hR ⟨hd,fun hm=>by rw[G1.2 hm] at hh;cases hh⟩ st hst
theorem ynw_run{n:Aa}(hns:n.ss.length<=6)(hgd:∀j s,n.ss[j]?=some s->C8 n j s)(hnb:n.bs.length<=24)(hrs:n.rs.length<=8){dn:Int}{b:Bool}
  (hT:(∀i c,n.rs[i]?=some c->AW n n.ss.length c/\c∉n.rs.take i)->b=decide (0<dn)) (hF:¬(∀i c,n.rs[i]?=some c->AW n n.ss.length c/\c∉n.rs.take i)->b=false):
  T UB 0 (.loop (zC (zB Try.f69) 1)) (H4 (qX n s0 0 0 0 dn 0 false false false false)) (TK UB 0 (Fin UB Try.f69 0 [] (.bool b)) (zK (zB Try.f69) 1)):=by
 have hrl:(n.rs.map (AV.int .i64)).length=n.rs.length:=by simp
 refine T.loop (fun i:Nat=>H4 (qX n s0 i 0 0 dn 0 false false false false)) (fun i=>i<=n.rs.length/\∀j c,j<i->n.rs[j]?=some c->AW n n.ss.length c/\c∉n.rs.take j) (fun i=>n.rs.length+1-i) 0 ⟨TJ _,fun j c hj=>by omega⟩ ?_
 rintro i ⟨hi,hg⟩
 by_cases h:i<n.rs.length
 .obtain⟨x,hx⟩:∃x,n.rs[i]?=some x:=⟨_,Tx h⟩;refine T.path mix (ynwl_0 (qX n s0 i 0 0 dn 0 false false false false) (TD (by simp only[qX,iN,hrl];omega)) ?_);refine ynx_run hns hgd hnb (by omega) hx (fun hb=>?_) (fun hgood st hst=>⟨i+1,hst,⟨h,fun j c hj hc=>?_⟩,by omega⟩) hrs
  .rw[hF fun hh=>hb (hh i x hx)];exact fun st hst=>TK.ret hst _
  .by_cases e:j=i
   .subst e;rw[hx] at hc;cases hc;exact hgood
   .exact hg j c (by omega) hc
 .have hin:i=n.rs.length:=by omega
  subst hin;rw[hT fun j c hc=>hg j c (Tz.1 hc).1 hc];exact T.out mix (ynwl_1 (qX n s0 n.rs.length 0 0 dn 0 false false false false) (TC (by simp only[qX,iN,hrl];omega)))
theorem Kb{n:Aa}(hrw:Rows n.nx):CT UB 69 [] [Ai n] [] (.bool (AZ n)):=by
 have hb:Try.f69.body=some (zB Try.f69):=by kernel_rfl
 have hn:[Ai n].length<=Try.f69.ntmps:=nL rfl;have hbl:(n.bs.map bA).length=n.bs.length:=by simp
 have hsl:(n.ss.map sA).length=n.ss.length:=by simp
 have hrl:(n.rs.map (AV.int .i64)).length=n.rs.length:=by simp
 have c1:=Sb hrw;have c3:=rcfg_ct n;have nameB:∀(i:Nat) (b:AM),n.bs[i]?=some b->b.nm∈B1 n:=fun i b h=>by unfold B1;rw[T3];exact .inl (T4.2 ⟨b,TB h,rfl⟩)
 have nameS:∀(i:Nat) (s:Ao),n.ss[i]?=some s->s.nm∈B1 n:=fun i s h=>by unfold B1;rw[T3];exact .inr (T4.2 ⟨s,TB h,rfl⟩)
 have ofV:AB n->BlV n/\NmV n:=fun hv=>by
  have hnb:=Bi.1 hv.nb;refine⟨⟨by omega,hv.nx,fun i b hbb=>Lq.2 ⟨(hv.blk i b hbb).x,(hv.blk i b hbb).y,(hv.blk i b hbb).nx⟩⟩,⟨fun x hx=>?_,hv.nod⟩⟩;unfold B1 at hx;rw[T3] at hx;rcases hx with hx | hx
  .obtain⟨b,hbm,rfl⟩:=T4.1 hx;obtain⟨i,hi⟩:=List.mem_iff_getElem?.1 hbm;exact(hv.blk i b hi).nm
  .obtain⟨s,hsm,rfl⟩:=T4.1 hx;obtain⟨i,hi⟩:=List.mem_iff_getElem?.1 hsm;exact(hv.spu i s hi).nm
 have out:∀{res:Bool},AZ n=res->CT UB 69 [] [Ai n] [] (.bool res)->CT UB 69 [] [Ai n] [] (.bool (AZ n)):=fun e h=>e ▸ h
 cases hbv:blV n with
 | false=>rw[hbv] at c1;refine out (Cv fun hv=>?_) (CT.path mix Try.func69 hb hn (ynvi_0 (qX n s0 0 0 0 0 0 false false false false) c1 rfl));rw[MX.2 (ofV hv).1] at hbv;cases hbv
 | true=>
  rw[hbv] at c1;have hB:=MX.1 hbv;by_cases h6:6<n.ss.length
  .exact out (Cv fun hv=>by have:=hv.ns;omega) (CT.path mix Try.func69 hb hn (ynvi_1 (qX n s0 0 0 0 0 0 false true false false) c1 rfl (TD (by simp only[qX,iN,hsl];omega))))
  have d6:decide (6<iN (Uu sA n.ss).length)=false:=TC (by simp only[iN,hsl];omega);have c2:=names_ct hB.nb (show n.ss.length<=6 by omega);cases hnv:nmV n with
  | false=>rw[hnv] at c2;refine out (Cv fun hv=>?_) (CT.path mix Try.func69 hb hn (ynvi_2 (qX n s0 0 0 0 0 0 false true false false) c1 rfl d6 c2 rfl));rw[Lh.2 (ofV hv).2] at hnv;cases hnv
  | true=>
   rw[hnv] at c2;have hN:=Lh.1 hnv;by_cases h8:8<n.rs.length
   .exact out (Cv fun hv=>by have:=hv.nr;omega) (CT.path mix Try.func69 hb hn (ynvi_3 (qX n s0 0 0 0 0 0 false true true false) c1 rfl d6 c2 rfl (TD (by simp only[qX,iN,hrl];omega))))
   have d8:decide (8<iN (Uu (AV.int .i64) n.rs).length)=false:=TC (by simp only[iN,hrl];omega);cases hcv:A9 n with
   | false=>refine out (Cv fun hv=>?_) (CT.path mix Try.func69 hb hn (ynvi_4 (qX n s0 0 0 0 0 0 false true true false) c1 rfl d6 c2 rfl d8 c3 (by simp only[qX];rw[hcv];rfl)));rw[hv.cfg] at hcv;cases hcv
   | true=>
    refine CT.path mix Try.func69 hb hn (ynvi_5 (qX n s0 0 0 0 0 0 false true true false) c1 rfl d6 c2 rfl d8 c3 (by simp only[qX];rw[hcv];rfl) ?_);have e0:(iN (Uu bA n.bs).length)=Az n 0:=by simp[Az,iN]
    suffices hh:T UB 0 (.loop (zC (zB Try.f69) 0)) (CS (qX n s0 0 0 (Az n 0) 0 0 false false false false)) (TK UB 0 (Fin UB Try.f69 0 [] (.bool (AZ n))) (zK (zB Try.f69) 0)) by rw[<-e0] at hh;exact hh
    refine T.loop (fun p:NP=>CS (qX n s0 p.i 0 (Az n p.i) p.dn 0 false false false false)) (fun p=>p.i<=n.ss.length/\(0<=p.dn/\p.dn<=p.i)/\(0<p.dn↔∃s∈n.ss.take p.i,s.dep=true)/\∀j s,j<p.i->n.ss[j]?=some s->C8 n j s)
     (fun p=>n.ss.length+1-p.i) ⟨0,0,0,false⟩ ⟨TJ _,by simp,by simp,fun j s hj=>by simp at hj⟩ ?_
    rintro⟨i,base,dn,ok⟩ ⟨hi,hdn,hdep,hgd⟩
    simp only at hi hdn hdep hgd;by_cases h:i<n.ss.length
    .obtain⟨s,hs⟩:∃s,n.ss[i]?=some s:=⟨_,Tx h⟩;have dk:decide (iN i<iN (n.ss.map sA).length)=true:=TD (by simp only[iN,hsl];omega);have k1:(0:Int)<=iN i:=by simp[iN]
     have hg:=CZ hs;have hbd:=MT hgd hB.nb.2;have bad:¬C8 n i s->AZ n=false:=fun hb=>Cv fun hv=>hb (Qx (hv.spu i s hs))
     have wi:i64.wrap (iN i+1)=((i+1:Nat):Int):=zW i (by omega);have wd:i64.wrap (dn+1)=dn+1:=A6 _ (by omega) (by omega);have ex:(∃t∈n.ss.take (i+1),t.dep=true)↔(∃t∈n.ss.take i,t.dep=true)\/s.dep=true:=by
      simp only[List.take_add_one,hs,Option.toList_some,T3,Tm];constructor
      .rintro⟨t,ht | rfl,h1⟩
       .exact .inl ⟨t,ht,h1⟩
       .exact .inr h1
      .rintro(⟨t,ht,h1⟩ | h1)
       .exact⟨t,.inl ht,h1⟩
       .exact⟨s,.inr rfl,h1⟩
     have wb:C8 n i s->i64.wrap (Az n i+s.k)=Az n (i+1):=fun g=>by rw[Dm hs];have:=g.hk;have:=hB.nb.2;exact A6 _ (by omega) (by omega)
     have next:C8 n i s->∀dn',((0<=dn'/\dn'<=((i+1:Nat):Int))/\(0<dn'↔(∃t∈n.ss.take i,t.dep=true)\/s.dep=true))->∀st,Ren 0 st (CS (qX n s0 (i+1) 0 (i64.wrap (Az n i+s.k)) dn' 0 false false false false))->
       ∃j:NP,Ren 0 st (CS (qX n s0 j.i 0 (Az n j.i) j.dn 0 false false false false))/\(j.i<=n.ss.length/\(0<=j.dn/\j.dn<=j.i)/\(0<j.dn↔∃s∈n.ss.take j.i,s.dep=true)/\∀k s,k<j.i->n.ss[k]?=some s->C8 n k s)/\n.ss.length+1-j.i<n.ss.length+1-i:=by
      intro g dn' hd st hst;rw[wb g] at hst;refine⟨⟨i+1,0,dn',false⟩,hst,⟨h,hd.1,by rw[ex];exact hd.2,fun k t hk ht=>?_⟩,by simp only;omega⟩;by_cases e:k=i
      .subst e;rw[hs] at ht;cases ht;exact g
      .exact hgd k t (by simp only at hk;omega) ht
     cases t4:decide ((qX n s i 0 (Az n i) dn 0 false false false false).s.i<0)
     case false=>
      cases t5:decide (iN (Uu bA (qX n s i 0 (Az n i) dn 0 false false false false).n.bs).length<=(qX n s i 0 (Az n i) dn 0 false false false false).s.i)
      case false=>
       cases t6:decide ((qX n s i 0 (Az n i) dn 0 false false false false).s.o<0)
       case false=>
        cases t7:decide (iN (Uu bA (qX n s i 0 (Az n i) dn 0 false false false false).n.bs).length<=(qX n s i 0 (Az n i) dn 0 false false false false).s.o)
        case false=>
         cases t8:decide ((qX n s i 0 (Az n i) dn 0 false false false false).s.k<1)
         case false=>
          cases t9:decide (4<(qX n s i 0 (Az n i) dn 0 false false false false).s.k)
          case false=>
           cases t10:((qX n s i 0 (Az n i) dn 0 false false false false).s.b != (qX n s i 0 (Az n i) dn 0 false false false false).base)
           case false=>
            cases t11:(qX n s i 0 (Az n i) dn 0 false false false false).s.dep
            case false=>exact T.path mix (ynvl_8 (qX n s i 0 (Az n i) dn 0 false false false false) dk (by assumption) (by assumption) t4 t5 t6 t7 t8 t9 t10 t11 (fun st hst=>by simp only[qX,wi,wd] at hst;(first | refine next ?_ dn ?_ st hst | refine next ?_ (dn+1) ?_ st hst)<;>clear next bad hst<;>simp only[qX,iN,hbl] at * <;> first | (constructor<;>grind) | grind))
            case true=>exact T.path mix (ynvl_7 (qX n s i 0 (Az n i) dn 0 false false false false) dk (by assumption) (by assumption) t4 t5 t6 t7 t8 t9 t10 t11 (fun st hst=>by simp only[qX,wi,wd] at hst;(first | refine next ?_ dn ?_ st hst | refine next ?_ (dn+1) ?_ st hst)<;>clear next bad hst<;>simp only[qX,iN,hbl] at * <;> first | (constructor<;>grind) | grind))
           case true=>rw[bad (fun g=>by have g1:=g.hi;have g2:=g.ho;have g3:=g.hk;have g4:=g.hb;clear next bad;simp only[qX,iN,hbl] at *;grind)];exact T.out mix (ynvl_6 (qX n s i 0 (Az n i) dn 0 false false false false) dk (by assumption) (by assumption) t4 t5 t6 t7 t8 t9 t10)
          case true=>rw[bad (fun g=>by have g1:=g.hi;have g2:=g.ho;have g3:=g.hk;have g4:=g.hb;clear next bad;simp only[qX,iN,hbl] at *;grind)];exact T.out mix (ynvl_5 (qX n s i 0 (Az n i) dn 0 false false false false) dk (by assumption) (by assumption) t4 t5 t6 t7 t8 t9)
         case true=>rw[bad (fun g=>by have g1:=g.hi;have g2:=g.ho;have g3:=g.hk;have g4:=g.hb;clear next bad;simp only[qX,iN,hbl] at *;grind)];exact T.out mix (ynvl_4 (qX n s i 0 (Az n i) dn 0 false false false false) dk (by assumption) (by assumption) t4 t5 t6 t7 t8)
        case true=>rw[bad (fun g=>by have g1:=g.hi;have g2:=g.ho;have g3:=g.hk;have g4:=g.hb;clear next bad;simp only[qX,iN,hbl] at *;grind)];exact T.out mix (ynvl_3 (qX n s i 0 (Az n i) dn 0 false false false false) dk (by assumption) (by assumption) t4 t5 t6 t7)
       case true=>rw[bad (fun g=>by have g1:=g.hi;have g2:=g.ho;have g3:=g.hk;have g4:=g.hb;clear next bad;simp only[qX,iN,hbl] at *;grind)];exact T.out mix (ynvl_2 (qX n s i 0 (Az n i) dn 0 false false false false) dk (by assumption) (by assumption) t4 t5 t6)
      case true=>rw[bad (fun g=>by have g1:=g.hi;have g2:=g.ho;have g3:=g.hk;have g4:=g.hb;clear next bad;simp only[qX,iN,hbl] at *;grind)];exact T.out mix (ynvl_1 (qX n s i 0 (Az n i) dn 0 false false false false) dk (by assumption) (by assumption) t4 t5)
     case true=>rw[bad (fun g=>by have g1:=g.hi;have g2:=g.ho;have g3:=g.hk;have g4:=g.hb;clear next bad;simp only[qX,iN,hbl] at *;grind)];exact T.out mix (ynvl_0 (qX n s i 0 (Az n i) dn 0 false false false false) dk (by assumption) (by assumption) t4)
    .have hin:i=n.ss.length:=by omega
     subst hin;have hgd':∀j s,n.ss[j]?=some s->C8 n j s:=fun j s hj=>hgd j s (Tz.1 hj).1 hj
     rw[List.take_length] at hdep;have hdp:0<dn↔∃x,AW n n.ss.length x:=by
      rw[hdep];unfold AW;rw[List.take_length];constructor
      .rintro⟨s,hs,hd⟩
       obtain⟨j,hj⟩:=List.mem_iff_getElem?.1 hs;have:=(hgd' j s hj).hk;exact⟨s.b,s,hs,hd,by omega,by omega⟩
      .rintro⟨x,s,hs,hd,_⟩;exact⟨s,hs,hd⟩
     refine T.out mix (ynvx_0 (qX n s0 n.ss.length 0 (Az n n.ss.length) dn 0 false false false false) (TC (by simp only[qX,iN,hsl];omega)) ?_);refine ynw_run (by omega) hgd' hB.nb.2 (by omega) (fun hr=>?_) (fun hr=>Cv fun hv=>hr hv.rob);rw[Bool.eq_iff_iff,Cy,decide_eq_true_iff,hdp];constructor
     .intro hv;exact hv.dep
     .intro hd;refine⟨Bi.2 (by have:=hB.nb;omega),hB.nx,by omega,by omega,hcv,fun i b hbb=>?_,fun i s hs=>Oi (hN.al _ (nameS i s hs)) (hgd' i s hs),hN.nod,hd,hr⟩;have g:=Lq.1 (hB.blk i b hbb);exact⟨hN.al _ (nameB i b hbb),g.1,g.2.1,g.2.2⟩
structure QO where
 n:Aa
 s:Ao
 sh:List Bool
 i:Nat
 base:Int
 c:Int
 si:Int
 b:Bool
 b1:Bool
 b2:Bool
 L:List Int
 sl:Int
 ce:Nat
 u:ByteArray
def cO(q:QO):Nat->FuncId->List AV->List (Option Blk)->AG:=fun dst f args hp=>match f with
 | 136=>.call [] [] [] (.bool q.b)
 | 69=>.call [] [] [] (.bool q.b1)
 | 93=>.call [] [] [] (.bool q.b1)
 | 94=>.call [] [] [] (.int .i64 q.c)
 | 103=>match args with
  | [_,.lst _]=>.call [] [] [] (.tup [.int .i64 (iN q.L.length),lI q.L,.int .i64 0])
  | _=>.no
 | 18=>.call [] [] [] (.int .i64 (iN q.ce))
 | 104=>match args with
  | [_,.lst _]=>.call [] [] [] (.int .i64 q.sl)
  | _=>.no
 | _=>.no
def EN(q:QO):List (Nat×AV):=[(12,sA q.s),(17,.bool q.b1),(23,.bool q.b2),(39,.bool q.b),(14,sA q.s)]
def Ik(q:QO):List (Nat×AV):=[(17,sA q.s),(30,sA q.s)]
def st118(q:QO):St:={n:=Try.f94.ntmps,fr:=[(0,Ai q.n)],hp:=[]}
def Jb(q:QO):St:={n:=Try.f94.ntmps,fr:=[(3,.int .i64 q.base),(10,.lst (q.n.ss.map sA)),(11,.int .i64 (iN (q.n.ss.map sA).length)),(12,.int .i64 (iN q.i))],hp:=[]}
def Lu(q:QO):St:={n:=Try.f136.ntmps,fr:=[(0,Ai q.n),(1,.lst (boL q.sh)),(2,.int .i64 (iN q.i))],hp:=[]}
def IL(q:QO):St:={n:=Try.f136.ntmps,fr:=[(1,.lst (boL q.sh)),(7,.ptr 0 0 0),(8,.int .i64 q.c)],hp:=[some (spB q.s)]}
def st126(q:QO):St:={n:=Try.f104.ntmps,fr:=[(0,Ai q.n),(1,.lst (boL q.sh))],hp:=[]}
def Hw(q:QO):St:={n:=Try.f104.ntmps,fr:=[(1,.lst (boL q.sh)),(2,.ptr 0 0 0),(5,.int .i64 q.base),(6,.int .i64 (iN q.i))],hp:=[some (nB q.n)]}
def st75(q:QO):St:={n:=Try.f58.ntmps,fr:=[(0,Ai q.n)],hp:=[]}
def st73(q:QO):St:={n:=Try.f56.ntmps,fr:=[(0,.int .i64 q.c)],hp:=[]}
def lo73(q:QO):St:={n:=Try.f56.ntmps,fr:=[(0,.int .i64 q.c),(3,.str q.u)],hp:=[]}
def eO0(q:QO):List (Nat×AV):=[(18,.lst []),(28,.lst [])]
theorem occ_0(q:QO){post:Exit->St->Prop}(ht:T UB 0 (.loop (zC (zB Try.f94) 0)) (St.mk 22 [(3,iv (iN (Uu bA q.n.bs).length)),(10,UA (Uu sA q.n.ss)),(11,iv (iN (Uu sA q.n.ss).length)),(12,iv 0)] []) (TK UB 0 post (zK (zB Try.f94) 0))):GoP UB (hU [] (EN q) (cO q)) 0 (zB Try.f94) (st118 q) post:=zR (σ:=[]) (fz:=[]) (vars:=[3,10,11,12]) (by kernel_rfl) (aj (ag t2 (aj (u2 (u2 (u2 s2))) (al (u2 (u2 (u2 t2)))))) t5) ht
theorem occl_0(q:QO)(h1:(decide (iN q.i<iN (Uu sA q.n.ss).length)=true))(h2:(0<=iN q.i))(h3:((Uu sA q.n.ss)[(iN q.i).toNat]?=some (sA q.s))){post:Exit->St->Prop}{R:St->Prop}(hR:∀st,Ren 0 st (St.mk 22 [(3,iv (i64.wrap (q.base+q.s.k))),(10,UA (Uu sA q.n.ss)),(11,iv (iN (Uu sA q.n.ss).length)),(12,iv (i64.wrap (iN q.i+1)))] [])->R st):GoP UB (hU [27] (EN q) (cO q)) 0 (zC (zB Try.f94) 0) (Jb q) (andThen R post):=zN (σ:=[]) (fz:=[]) (vars:=[3,10,11,12]) (by kernel_rfl) (aj (aj (al t3) (aj h1 (aj (aj (k2 (aj h2 h3)) (u2 (ak (al (k2 (show Nat.le (nat_lit 1) (nat_lit 1) from nL rfl)))))) (aj (u2 (u2 (u2 (aj t3 s2)))) (al (u2 s2)))))) t5) hR
theorem occl_1(q:QO)(h1:(decide (iN q.i<iN (Uu sA q.n.ss).length)=false)):GoO UB (hU [26] (EN q) (cO q)) 0 (zC (zB Try.f94) 0) (zK (zB Try.f94) 0) (Jb q) (Fin UB Try.f94 0 [] (iv q.base)):=zF (σ:=[]) (fz:=[]) (by kernel_rfl) (aj (aj (aj (al t3) (al h1)) (al (u2 s2))) t2)
theorem oop_0(q:QO)(h1:(0<=iN q.i))(h2:((Uu sA q.n.ss)[(iN q.i).toNat]?=some (sA q.s)))(h3:(0<=q.s.i))(h4:((boL q.sh)[q.s.i.toNat]?=some (AV.bool q.b1)))(h5:(q.b1=true)):GoP UB (hU [39] (EN q) (cO q)) 0 (zB Try.f136) (Lu q) (Fin UB Try.f136 0 [] (AV.bool false)):=zF (σ:=[]) (fz:=[]) (by kernel_rfl) (aj (ag t2 (aj (u2 (u2 (u2 (aj (k2 (aj h1 h2)) (u2 (ak (al (k2 (show Nat.le (nat_lit 1) (nat_lit 1) from nL rfl))))))))) (aj (u2 (u2 (u2 (aj (k2 (aj h3 h4)) (u2 (u2 (aj h5 (aj h5 (aj h5 (aj h5 (aj h5 (al (aj h5 t2))))))))))))) (ak s2)))) t2)
theorem oop_1(q:QO)(h1:(0<=iN q.i))(h2:((Uu sA q.n.ss)[(iN q.i).toNat]?=some (sA q.s)))(h3:(0<=q.s.i))(h4:((boL q.sh)[q.s.i.toNat]?=some (AV.bool q.b1)))(h5:(q.b1=false))(h6:(0<=q.s.o))(h7:((boL q.sh)[q.s.o.toNat]?=some (AV.bool q.b2)))(h8:(q.b2=true)):GoP UB (hU [38,51] (EN q) (cO q)) 0 (zB Try.f136) (Lu q) (Fin UB Try.f136 0 [] (AV.bool false)):=zF (σ:=[]) (fz:=[]) (by kernel_rfl) (aj (ag t2 (aj (u2 (u2 (u2 (aj (k2 (aj h1 h2)) (u2 (ak (al (k2 (show Nat.le (nat_lit 1) (nat_lit 1) from nL rfl))))))))) (aj (u2 (u2 (u2 (aj (k2 (aj h3 h4)) (u2 (u2 (ag h5 (ag h5 (ag h5 (aj (aj h5 (k2 (aj h6 h7))) (ag h5 (al (aj h5 t2))))))))))))) (aj h8 s2)))) t2)
theorem oop_2(q:QO)(h1:(0<=iN q.i))(h2:((Uu sA q.n.ss)[(iN q.i).toNat]?=some (sA q.s)))(h3:(0<=q.s.i))(h4:((boL q.sh)[q.s.i.toNat]?=some (AV.bool q.b1)))(h5:(q.b1=false))(h6:(0<=q.s.o))(h7:((boL q.sh)[q.s.o.toNat]?=some (AV.bool q.b2)))(h8:(q.b2=false)){post:Exit->St->Prop}(ht:T UB 0 (.loop (zC (zB Try.f136) 0)) (St.mk 41 [(1,UA (boL q.sh)),(7,AV.ptr 0 0 0),(8,iv q.s.b)] [some (Blk.mk [sA q.s] 6 true true none)]) (TK UB 0 post (zK (zB Try.f136) 0))):GoP UB (hU [38,50] (EN q) (cO q)) 0 (zB Try.f136) (Lu q) post:=zR (σ:=[1]) (fz:=[]) (vars:=[1,7,8]) (by kernel_rfl) (aj (ag t2 (aj (u2 (u2 (u2 (aj (k2 (aj h1 h2)) (u2 (ak (al (k2 (show Nat.le (nat_lit 1) (nat_lit 1) from nL rfl))))))))) (aj (u2 (u2 (u2 (aj (k2 (aj h3 h4)) (u2 (u2 (ag h5 (ag h5 (ag h5 (aj (aj h5 (k2 (aj h6 h7))) (ag h5 (al (aj h5 t2))))))))))))) (aj h8 (al (u2 (u2 s2))))))) t5) ht
theorem oopl_0(q:QO)(h1:(decide (q.c<i64.wrap (q.s.b+q.s.k))=true))(h2:(0<=q.c))(h3:((boL q.sh)[q.c.toNat]?=some (AV.bool q.b)))(h4:(q.b=true)):GoO UB (hU [69,81] (EN q) (cO q)) 0 (zC (zB Try.f136) 0) (zK (zB Try.f136) 0) (IL q) (Fin UB Try.f136 0 [] (AV.bool false)):=zF (σ:=[]) (fz:=[]) (by kernel_rfl) (aj (al (aj (u2 (u2 (u2 (u2 (u2 (aj t3 (al t3))))))) (aj h1 (aj (u2 (u2 (aj (k2 (aj h2 h3)) s2))) (aj h4 s2))))) t2)
theorem oopl_1(q:QO)(h1:(decide (q.c<i64.wrap (q.s.b+q.s.k))=true))(h2:(0<=q.c))(h3:((boL q.sh)[q.c.toNat]?=some (AV.bool q.b)))(h4:(q.b=false)){post:Exit->St->Prop}{R:St->Prop}(hR:∀st,Ren 0 st (St.mk 41 [(1,UA (boL q.sh)),(7,AV.ptr 0 0 0),(8,iv (i64.wrap (q.c+1)))] [some (Blk.mk [sA q.s] 6 true true none)])->R st):GoP UB (hU [69,80] (EN q) (cO q)) 0 (zC (zB Try.f136) 0) (IL q) (andThen R post):=zN (σ:=[0]) (fz:=[]) (vars:=[1,7,8]) (by kernel_rfl) (aj (aj (u2 (u2 (u2 (u2 (u2 (aj t3 (al t3))))))) (aj h1 (aj (u2 (u2 (aj (k2 (aj h2 h3)) s2))) (aj h4 (al (u2 (u2 s2))))))) t5) hR
theorem oopl_2(q:QO)(h1:(decide (q.c<i64.wrap (q.s.b+q.s.k))=false)):GoO UB (hU [68] (EN q) (cO q)) 0 (zC (zB Try.f136) 0) (zK (zB Try.f136) 0) (IL q) (Fin UB Try.f136 0 [] (AV.bool true)):=zF (σ:=[]) (fz:=[]) (by kernel_rfl) (aj (aj (aj (u2 (u2 (u2 (u2 (u2 (aj t3 (al t3))))))) (al h1)) s2) t2)
theorem osl_0(q:QO){post:Exit->St->Prop}(ht:T UB 0 (.loop (zC (zB Try.f104) 0)) (St.mk 35 [(1,UA (boL q.sh)),(2,AV.ptr 0 0 0),(5,iv 0),(6,iv 0)] [some (Blk.mk [Ai q.n] [UA (Uu bA q.n.bs),UA (gL q.n.nx),UA (Uu sA q.n.ss),UA (Uu iv q.n.rs),iv q.n.q,iv q.n.a,iv q.n.d,iv q.n.p].length true true none)]) (TK UB 0 post (zK (zB Try.f104) 0))):GoP UB (hU [] (Ik q) (cO q)) 0 (zB Try.f104) (st126 q) post:=zR (σ:=[0]) (fz:=[]) (vars:=[1,2,5,6]) (by kernel_rfl) (aj (ag t2 (u2 s2)) t6) ht
theorem osll_0(q:QO)(h1:(decide (iN q.i<iN (Uu sA q.n.ss).length)=true))(h2:(0<=iN q.i))(h3:((Uu sA q.n.ss)[(iN q.i).toNat]?=some (sA q.s)))(h4:(q.s.dep=true))(h5:(CT UB 136 [] [Ai q.n,UA (boL q.sh),iv (iN q.i)] [] (AV.bool q.b)))(h6:(q.b=true)){post:Exit->St->Prop}{R:St->Prop}(hR:∀st,Ren 0 st (St.mk 35 [(1,UA (boL q.sh)),(2,AV.ptr 0 0 0),(5,iv (i64.wrap (q.base+q.s.k))),(6,iv (i64.wrap (iN q.i+1)))] [some (Blk.mk [Ai q.n] 8 true true none)])->R st):GoP UB (hU [23,41,51] (Ik q) (cO q)) 0 (zC (zB Try.f104) 0) (Hw q) (andThen R post):=zN (σ:=[0]) (fz:=[]) (vars:=[1,2,5,6]) (by kernel_rfl) (aj (aj (u2 (u2 (u2 (u2 (al t3))))) (aj h1 (aj (u2 (u2 (u2 (aj (k2 (aj h2 h3)) (u2 (u2 (u2 (ag h4 (ag h4 (ag h4 (aj (aj h4 (k3 (aj t9 (k2 (al h5))))) (al (aj h4 t2))))))))))))) (aj h6 (aj (u2 (u2 (u2 (u2 (aj (k2 (aj h2 h3)) (u2 (u2 (aj t3 s2)))))))) (al (u2 (u2 s2)))))))) t6) hR
theorem osll_1(q:QO)(h1:(decide (iN q.i<iN (Uu sA q.n.ss).length)=true))(h2:(0<=iN q.i))(h3:((Uu sA q.n.ss)[(iN q.i).toNat]?=some (sA q.s)))(h4:(q.s.dep=true))(h5:(CT UB 136 [] [Ai q.n,UA (boL q.sh),iv (iN q.i)] [] (AV.bool q.b)))(h6:(q.b=false)){post:Exit->St->Prop}{R:St->Prop}(hR:∀st,Ren 0 st (St.mk 35 [(1,UA (boL q.sh)),(2,AV.ptr 0 0 0),(5,iv q.base),(6,iv (i64.wrap (iN q.i+1)))] [some (Blk.mk [Ai q.n] 8 true true none)])->R st):GoP UB (hU [23,41,50] (Ik q) (cO q)) 0 (zC (zB Try.f104) 0) (Hw q) (andThen R post):=zN (σ:=[0]) (fz:=[]) (vars:=[1,2,5,6]) (by kernel_rfl) (aj (aj (u2 (u2 (u2 (u2 (al t3))))) (aj h1 (aj (u2 (u2 (u2 (aj (k2 (aj h2 h3)) (u2 (u2 (u2 (ag h4 (ag h4 (ag h4 (aj (aj h4 (k3 (aj t9 (k2 (al h5))))) (al (aj h4 t2))))))))))))) (aj h6 (al (u2 (u2 s2))))))) t6) hR
theorem osll_2(q:QO)(h1:(decide (iN q.i<iN (Uu sA q.n.ss).length)=true))(h2:(0<=iN q.i))(h3:((Uu sA q.n.ss)[(iN q.i).toNat]?=some (sA q.s)))(h4:(q.s.dep=false)){post:Exit->St->Prop}{R:St->Prop}(hR:∀st,Ren 0 st (St.mk 35 [(1,UA (boL q.sh)),(2,AV.ptr 0 0 0),(5,iv q.base),(6,iv (i64.wrap (iN q.i+1)))] [some (Blk.mk [Ai q.n] 8 true true none)])->R st):GoP UB (hU [23,40] (Ik q) (cO q)) 0 (zC (zB Try.f104) 0) (Hw q) (andThen R post):=zN (σ:=[0]) (fz:=[]) (vars:=[1,2,5,6]) (by kernel_rfl) (aj (aj (u2 (u2 (u2 (u2 (al t3))))) (aj h1 (aj (u2 (u2 (u2 (aj (k2 (aj h2 h3)) (u2 (u2 (u2 (aj h4 (aj h4 (aj h4 (aj h4 (al (aj h4 t2))))))))))))) (ak (al (u2 (u2 s2))))))) t6) hR
theorem osll_3(q:QO)(h1:(decide (iN q.i<iN (Uu sA q.n.ss).length)=false)):GoO UB (hU [22] (Ik q) (cO q)) 0 (zC (zB Try.f104) 0) (zK (zB Try.f104) 0) (Hw q) (Fin UB Try.f104 0 [] (iv q.base)):=zF (σ:=[]) (fz:=[]) (by kernel_rfl) (aj (aj (aj (u2 (u2 (u2 (u2 (al t3))))) (al h1)) (al (u2 s2))) t2)
theorem ofl_1(q:QO)(h1:(CT UB 69 [] [Ai q.n] [] (AV.bool q.b1)))(h2:((!q.b1)=false))(h3:(iN (Uu bA q.n.bs).length<=iN (Uu bA q.n.bs).length))(h4:(1 * iN (Uu bA q.n.bs).length<=281474976710656))(h5:(iN (Uu bA q.n.bs).length<=9223372036854775807))(h6:(CT UB 103 [] [UA (gL q.n.nx),UA (Uv (Uu bA q.n.bs).length (AV.bool false))] [] (AV.tup [iv (iN q.L.length),UA (Uu iv q.L),iv 0])))(h7:(CT UB 18 [] [Ai q.n] [] (iv (iN q.ce))))(h8:(0<=iN q.ce))(h9:(iN q.ce<=iN q.ce))(h10:(1 * iN q.ce<=281474976710656))(h11:(iN q.ce<=9223372036854775807))(h12:(CT UB 104 [] [Ai q.n,UA (Uv (iN q.ce).toNat (AV.bool false))] [] (iv q.sl)))(h13:(decide (0<iN q.L.length)=true)):GoP UB (hU [20,71] (eO0 q) (cO q)) 0 (zB Try.f58) (st75 q) (Fin UB Try.f58 0 [] (AV.tup [AV.agg [iv (iN q.L.length),UA (Uu iv q.L),iv q.sl,iv (if q.sl<i64.wrap (iN q.L.length-1) then q.sl else i64.wrap (iN q.L.length-1))],iv 0])):=zF (σ:=[]) (fz:=[]) (by kernel_rfl) (aj (aj (u2 t3) (aj (u2 (aj (ak (aj t9 (al h1))) s2)) (aj h2 (aj (u2 (u2 (u2 (u2 (u2 (aj (k2 (aj (show(0<=iN (Uu bA q.n.bs).length) from(Int.natCast_nonneg _)) (aj h3 (aj h4 h5)))) (aj (ak (k3 (al h6))) (u2 (u2 (u2 (u2 (u2 (u2 s2))))))))))))) (aj (u2 (u2 (u2 (u2 (aj (ak (aj t9 (al h7))) (aj (k2 (aj h8 (aj h9 (aj h10 h11)))) (aj (k2 (aj t9 (ak (al h12)))) (aj t4 (ak (al (k2 (show Nat.le (nat_lit 1) (nat_lit 1) from nL rfl)))))))))))) (aj (u2 (u2 (u2 (al t3)))) (aj (u2 s2) (aj h13 (aj (u2 (u2 (u2 (u2 (aj t3 (u2 (al t3))))))) (al (u2 (aj (k2 (show Nat.le (nat_lit 1) (nat_lit 1) from nL rfl)) t2)))))))))))) (al (aj t5 t2)))
theorem ofl_2(q:QO)(h1:(CT UB 69 [] [Ai q.n] [] (AV.bool q.b1)))(h2:((!q.b1)=false))(h3:(iN (Uu bA q.n.bs).length<=iN (Uu bA q.n.bs).length))(h4:(1 * iN (Uu bA q.n.bs).length<=281474976710656))(h5:(iN (Uu bA q.n.bs).length<=9223372036854775807))(h6:(CT UB 103 [] [UA (gL q.n.nx),UA (Uv (Uu bA q.n.bs).length (AV.bool false))] [] (AV.tup [iv (iN q.L.length),UA (Uu iv q.L),iv 0])))(h7:(CT UB 18 [] [Ai q.n] [] (iv (iN q.ce))))(h8:(0<=iN q.ce))(h9:(iN q.ce<=iN q.ce))(h10:(1 * iN q.ce<=281474976710656))(h11:(iN q.ce<=9223372036854775807))(h12:(CT UB 104 [] [Ai q.n,UA (Uv (iN q.ce).toNat (AV.bool false))] [] (iv q.sl)))(h13:(decide (0<iN q.L.length)=false)):GoP UB (hU [20,70] (eO0 q) (cO q)) 0 (zB Try.f58) (st75 q) (Fin UB Try.f58 0 [] (AV.tup [AV.agg [iv (iN q.L.length),UA (Uu iv q.L),iv q.sl,iv q.sl],iv 0])):=zF (σ:=[]) (fz:=[]) (by kernel_rfl) (aj (aj (u2 t3) (aj (u2 (aj (ak (aj t9 (al h1))) s2)) (aj h2 (aj (u2 (u2 (u2 (u2 (u2 (aj (k2 (aj (show(0<=iN (Uu bA q.n.bs).length) from(Int.natCast_nonneg _)) (aj h3 (aj h4 h5)))) (aj (ak (k3 (al h6))) (u2 (u2 (u2 (u2 (u2 (u2 s2))))))))))))) (aj (u2 (u2 (u2 (u2 (aj (ak (aj t9 (al h7))) (aj (k2 (aj h8 (aj h9 (aj h10 h11)))) (aj (k2 (aj t9 (ak (al h12)))) (aj t4 (ak (al (k2 (show Nat.le (nat_lit 1) (nat_lit 1) from nL rfl)))))))))))) (aj (u2 (u2 (u2 (al t3)))) (aj (u2 s2) (aj h13 (al (u2 (aj (k2 (show Nat.le (nat_lit 1) (nat_lit 1) from nL rfl)) t2))))))))))) (al (aj t5 t2)))
theorem odg_0(q:QO)(h1:(decide (q.c<0)=false)){post:Exit->St->Prop}(ht:T UB 0 (.loop (zC (zB Try.f56) 0)) (St.mk 23 [(0,iv q.c),(3,AV.str (ByteArray.mk #[]))] []) (TK UB 0 post (zK (zB Try.f56) 0))):GoP UB (hU [10] (eO0 q) (cO q)) 0 (zB Try.f56) (st73 q) post:=zR (σ:=[]) (fz:=[]) (vars:=[0,3]) (by kernel_rfl) (aj (u2 (aj (u2 s2) (aj h1 s2))) t3) ht
theorem odgl_0(q:QO)(h1:([AV.int IntKind.u8 (IntKind.u8.wrap (i64.wrap (48+q.c.tmod 10)))].length=1)) (h2:(([AV.int IntKind.u8 (IntKind.u8.wrap (i64.wrap (48+q.c.tmod 10)))].all fun x=>
  match x with
  | AV.int IntKind.u8 n=>decide (0<=n)&&decide (n<256)
  | x=>false) =
 true)) (h3:(((CE [AV.int IntKind.u8 (IntKind.u8.wrap (i64.wrap (48+q.c.tmod 10)))]).size+q.u.size).le 9223372036854775807)) (h4:((i64.wrap (q.c.tdiv 10)==0)=true)):∃o' st' q',go2 UB ({dec:=[(21,true)],els:=eO0 q,calls:=cO q,unroll:=false}:HT) 0 4000 (zC (zB Try.f56) 0) (zK (zB Try.f56) 0) (lo73 q)=some (o',st',q')/\q'/\Go.AX.CG UB 0 (Fin UB Try.f56 0 [] (AV.str (CE (Blk.mk [AV.int IntKind.u8 (IntKind.u8.wrap (i64.wrap (48+q.c.tmod 10)))] 1 true true none).es++q.u))) st' o':=
 zF (σ:=[]) (fz:=[]) (by kernel_rfl) (aj (al (aj (u2 (aj (ak (show((10:Int)=(0:Int)->False) by first | decide | exact Tc _)) (u2 (u2 (u2 (aj (ak (aj h1 (aj (show(nat_lit 1≠nat_lit 0) by first | decide | exact Tc _) h2))) (u2 (aj (k2 h3) s2)))))))) (aj (u2 (aj (ak (show((10:Int)=(0:Int)->False) by first | decide | exact Tc _)) s2)) (aj (u2 s2) (aj h4 (al (u2 s2))))))) t2)
theorem odgl_1(q:QO)(h1:([AV.int IntKind.u8 (IntKind.u8.wrap (i64.wrap (48+q.c.tmod 10)))].length=1)) (h2:(([AV.int IntKind.u8 (IntKind.u8.wrap (i64.wrap (48+q.c.tmod 10)))].all fun x=>
  match x with
  | AV.int IntKind.u8 n=>decide (0<=n)&&decide (n<256)
  | x=>false) =
 true)) (h3:(((CE [AV.int IntKind.u8 (IntKind.u8.wrap (i64.wrap (48+q.c.tmod 10)))]).size+q.u.size).le 9223372036854775807)) (h4:((i64.wrap (q.c.tdiv 10)==0)=false)) {post:Exit->St->Prop} {R:St->Prop} (hR:∀st,Ren 0 st (St.mk 23 [(0,AV.int i64 (i64.wrap (q.c.tdiv 10))),(3,AV.str (CE (Blk.mk [AV.int IntKind.u8 (IntKind.u8.wrap (i64.wrap (48+q.c.tmod 10)))] 1 true true none).es++q.u))] [])->R st):∃o' st' q',go UB ({dec:=[(21,false)],els:=eO0 q,calls:=cO q,unroll:=false}:HT) 0 4000 (.inl (zC (zB Try.f56) 0)) [] (lo73 q)=some (o',st',q')/\q'/\Go.AX.CG UB 0 (andThen R post) st' o':=
 zN (σ:=[]) (fz:=[]) (vars:=[0,3]) (by kernel_rfl) (aj (aj (u2 (aj (ak (show((10:Int)=(0:Int)->False) by first | decide | exact Tc _)) (u2 (u2 (u2 (aj (ak (aj h1 (aj (show(nat_lit 1≠nat_lit 0) by first | decide | exact Tc _) h2))) (u2 (aj (k2 h3) s2)))))))) (aj (u2 (aj (ak (show((10:Int)=(0:Int)->False) by first | decide | exact Tc _)) s2)) (aj (u2 s2) (al h4)))) t3) hR
def qU(n:Aa)(s:Ao)(sh:List Bool)(i:Nat)(base c:Int)(b b1 b2:Bool)(L:List Int)(sl:Int)(ce:Nat)(u:ByteArray):QO:=⟨n,s,sh,i,base,c,0,b,b1,b2,L,sl,ce,u⟩
def em:ByteArray:=⟨#[]⟩
theorem AB.goodT{n:Aa}(hv:AB n):∀j s,n.ss[j]?=some s->C8 n j s:=fun j s hj=>Qx (hv.spu j s hj)
theorem AB.nb24{n:Aa}(hv:AB n):1<=n.bs.length/\n.bs.length<=24:=by have:=Bi.1 hv.nb;omega
theorem AB.bd{n:Aa}(hv:AB n)(i:Nat):(n.bs.length:Int)<=Az n i/\Az n i<=n.bs.length+4 * i:=MT (fun j s _ hj=>hv.goodT j s hj) hv.nb24.2
def AA(n:Aa):Nat:=(Az n n.ss.length).toNat
theorem AB.cel{n:Aa}(hv:AB n):Az n n.ss.length=(AA n:Int)/\n.bs.length<=AA n/\AA n<=48:=by have h1:=hv.bd n.ss.length;have h2:=hv.ns;have h3:=hv.nb24;unfold AA;omega
theorem Gs{n:Aa}(hv:AB n){i:Nat}:∀{j:Nat},i<=j->j<=n.ss.length->Az n i<=Az n j:=by
 intro j;induction j with
 | zero=>intro h _;have:i=0:=by omega
         subst this;omega
 | succ j ih=>
  intro h hj;by_cases e:i=j+1
  .subst e;omega
  .have h1:=ih (by omega) (by omega);obtain⟨s,hs⟩:∃s,n.ss[j]?=some s:=⟨_,Tx (by omega)⟩;rw[Dm hs];have:=(hv.goodT j s hs).hk;omega
theorem IK{n:Aa}(hv:AB n):CT UB 18 [] [Ai n] [] (.int .i64 (iN (AA n))):=by
 have hsl:(n.ss.map sA).length=n.ss.length:=by simp
 have hbl:(n.bs.map bA).length=n.bs.length:=by simp
 have e0:(iN (Uu bA n.bs).length)=Az n 0:=by simp[Az,iN]
 refine CT.path mix Try.func18 (show Try.f18.body=some (zB Try.f18) by kernel_rfl) (nL rfl) (ycel_0 (qX n s0 0 0 0 0 0 false false false false) ?_)
 suffices hh:T UB 0 (.loop (zC (zB Try.f18) 0)) (Jm (qX n s0 0 0 (Az n 0) 0 0 false false false false)) (TK UB 0 (Fin UB Try.f18 0 [] (.int .i64 (iN (AA n)))) (zK (zB Try.f18) 0)) by rw[<-e0] at hh;exact hh
 have hc:=hv.cel.1;refine T.loop (fun i:Nat=>Jm (qX n s0 i 0 (Az n i) 0 0 false false false false)) (fun i=>i<=n.ss.length) (fun i=>n.ss.length+1-i) 0 (TJ _) ?_;intro i hi;have hns:=hv.ns;by_cases h:i<n.ss.length
 .obtain⟨s,hs⟩:∃s,n.ss[i]?=some s:=⟨_,Tx h⟩;have hbd:=hv.bd i;have hk:=(hv.goodT i s hs).hk;have hnb:=hv.nb24;have wb:i64.wrap (Az n i+s.k)=Az n (i+1):=by rw[Dm hs];exact A6 _ (by omega) (by omega)
  refine T.path mix (ycell_0 (qX n s i 0 (Az n i) 0 0 false false false false) (TD (by simp only[qX,iN,hsl];omega)) (by simp[iN]) (CZ hs) ?_);intro st hst;simp only[qX,wb,zW i (show i<9223372036854775807 by omega)] at hst;exact⟨i+1,hst,h,by omega⟩
 .obtain rfl:i=n.ss.length:=by omega
  have:=ycell_1 (qX n s0 n.ss.length 0 (Az n n.ss.length) 0 0 false false false false) (TC (by simp only[qX,iN,hsl];omega));simp only[qX] at this;rw[show (iN (AA n))=Az n n.ss.length from hc.symm];exact T.out mix this
theorem Pm{n:Aa}(hv:AB n):CT UB 94 [] [Ai n] [] (.int .i64 (iN (AA n))):=by
 have hsl:(n.ss.map sA).length=n.ss.length:=by simp
 have hbl:(n.bs.map bA).length=n.bs.length:=by simp
 have e0:(iN (Uu bA n.bs).length)=Az n 0:=by simp[Az,iN]
 refine CT.path mix Try.func94 (show Try.f94.body=some (zB Try.f94) by kernel_rfl) (nL rfl) (occ_0 (qU n s0 [] 0 0 0 false false false [] 0 0 em) ?_)
 suffices hh:T UB 0 (.loop (zC (zB Try.f94) 0)) (Jb (qU n s0 [] 0 (Az n 0) 0 false false false [] 0 0 em)) (TK UB 0 (Fin UB Try.f94 0 [] (.int .i64 (iN (AA n)))) (zK (zB Try.f94) 0)) by rw[<-e0] at hh;exact hh
 have hc:=hv.cel.1;refine T.loop (fun i:Nat=>Jb (qU n s0 [] i (Az n i) 0 false false false [] 0 0 em)) (fun i=>i<=n.ss.length) (fun i=>n.ss.length+1-i) 0 (TJ _) ?_;intro i hi;have hns:=hv.ns;by_cases h:i<n.ss.length
 .obtain⟨s,hs⟩:∃s,n.ss[i]?=some s:=⟨_,Tx h⟩;have hbd:=hv.bd i;have hk:=(hv.goodT i s hs).hk;have hnb:=hv.nb24;have wb:i64.wrap (Az n i+s.k)=Az n (i+1):=by rw[Dm hs];exact A6 _ (by omega) (by omega)
  refine T.path mix (occl_0 (qU n s [] i (Az n i) 0 false false false [] 0 0 em) (TD (by simp only[qU,iN,hsl];omega)) (by simp[iN]) (CZ hs) ?_);intro st hst;simp only[qU,wb,zW i (show i<9223372036854775807 by omega)] at hst;exact⟨i+1,hst,h,by omega⟩
 .obtain rfl:i=n.ss.length:=by omega
  have:=occl_1 (qU n s0 [] n.ss.length (Az n n.ss.length) 0 false false false [] 0 0 em) (TC (by simp only[qU,iN,hsl];omega));simp only[qU] at this;rw[show (iN (AA n))=Az n n.ss.length from hc.symm];exact T.out mix this
def F5(sh:List Bool)(s:Ao):Bool:= !(sh.getD s.i.toNat false)&&!(sh.getD s.o.toNat false)&&!(fnd (fun j=>sh.getD (s.b+(j:Int)).toNat false) 0 s.k.toNat).isSome
theorem open_ct{n:Aa}(hv:AB n){sh:List Bool}(hsh:sh.length=AA n){i:Nat}{s:Ao}(hs:n.ss[i]?=some s):CT UB 136 [] [Ai n,.lst (boL sh),.int .i64 (iN i)] [] (.bool (F5 sh s)):=by
 have hb:Try.f136.body=some (zB Try.f136):=by kernel_rfl
 have hn:[Ai n,.lst (boL sh),.int .i64 (iN i)].length<=Try.f136.ntmps:=nL rfl;have g:=hv.goodT i s hs;have g1:=g.hi;have g2:=g.ho;have g3:=g.hk;have g4:=g.hb;have hil:=(Tz.1 hs).1;have hc:=hv.cel;have hbd:=hv.bd i;have hm:=Gs hv (i:=i+1) (j:=n.ss.length) (by omega) (TI _);rw[Dm hs,<-g4] at hm;rw[<-g4] at hbd;have hnb:=hv.nb24;have hbt:∀c:Int,0<=c->c<AA n->(boL sh)[c.toNat]?=some (.bool (sh.getD c.toNat false)):=fun c h1 h2=>Gq (by omega)
 have k0:(0:Int)<=iN i:=by simp[iN]
 unfold F5;cases h1:sh.getD s.i.toNat false with
 | true=>exact CT.path mix Try.func136 hb hn (oop_0 (qU n s sh i 0 0 false true false [] 0 0 em) k0 (CZ hs) g1.1 (by have:=hbt s.i g1.1 (by omega);rw[h1] at this;exact this) rfl)
 | false=>
  have f1:=hbt s.i g1.1 (by omega);rw[h1] at f1;cases h2:sh.getD s.o.toNat false with
  | true=>exact CT.path mix Try.func136 hb hn (oop_1 (qU n s sh i 0 0 false false true [] 0 0 em) k0 (CZ hs) g1.1 f1 rfl g2.1 (by have:=hbt s.o g2.1 (by omega);rw[h2] at this;exact this) rfl)
  | false=>
   have f2:=hbt s.o g2.1 (by omega);rw[h2] at f2;refine CT.path mix Try.func136 hb hn (oop_2 (qU n s sh i 0 0 false false false [] 0 0 em) k0 (CZ hs) g1.1 f1 rfl g2.1 f2 rfl ?_);simp only[Tt,Bool.true_and];have e0:s.b=s.b+((0:Nat):Int):=by omega
   suffices hh:T UB 0 (.loop (zC (zB Try.f136) 0)) (IL (qU n s sh 0 0 (s.b+((0:Nat):Int)) false false false [] 0 0 em)) (TK UB 0 (Fin UB Try.f136 0 [] (.bool (!(fnd (fun j=>sh.getD (s.b+(j:Int)).toNat false) 0 s.k.toNat).isSome))) (zK (zB Try.f136) 0)) by rw[<-e0] at hh;exact hh
   generalize hrr:fnd (fun j=>sh.getD (s.b+(j:Int)).toNat false) 0 s.k.toNat=res;refine T.loop (fun k:Nat=>IL (qU n s sh 0 0 (s.b+(k:Int)) false false false [] 0 0 em)) (fun k=>k<=s.k.toNat/\fnd (fun j=>sh.getD (s.b+(j:Int)).toNat false) k (s.k.toNat-k)=res) (fun k=>s.k.toNat+1-k) 0 ⟨TJ _,hrr⟩ ?_
   rintro k ⟨hk,hf⟩
   have ws:i64.wrap (s.b+s.k)=s.b+s.k:=A6 _ (by omega) (by omega);by_cases h:k<s.k.toNat
   .rw[CV h] at hf;have dk:decide (s.b+(k:Int)<i64.wrap (s.b+s.k))=true:=by rw[ws];exact TD (by omega)
    have f3:=hbt (s.b+(k:Int)) (by omega) (by omega);cases h3:sh.getD (s.b+(k:Int)).toNat false with
    | true=>simp only[h3] at hf;subst hf;rw[h3] at f3;exact T.out mix (oopl_0 (qU n s sh 0 0 (s.b+(k:Int)) true false false [] 0 0 em) dk (by simp only[qU];omega) f3 rfl)
    | false=>
     simp only[h3] at hf;rw[h3] at f3;refine T.path mix (oopl_1 (qU n s sh 0 0 (s.b+(k:Int)) false false false [] 0 0 em) dk (by simp only[qU];omega) f3 rfl ?_);intro st hst;have w1:i64.wrap (s.b+(k:Int)+1)=s.b+((k+1:Nat):Int):=by rw[A6 _ (by omega) (by omega)];omega
     simp only[qU,w1] at hst;exact⟨k+1,hst,⟨h,hf⟩,by omega⟩
   .rw[C1 h] at hf;subst hf;exact T.out mix (oopl_2 (qU n s sh 0 0 (s.b+(k:Int)) false false false [] 0 0 em) (by have hd:decide (s.b+(k:Int)<i64.wrap (s.b+s.k))=false:=by {rw [ws];exact TC (by omega)};exact hd))
def Bk(n:Aa)(sh:List Bool)(i:Nat):Int:=((n.ss.take i).map fun s=>if (s.dep&&F5 sh s)=true then s.k else 0).sum
theorem Lj{n:Aa}{sh:List Bool}{i:Nat}{s:Ao}(h:n.ss[i]?=some s):Bk n sh (i+1)=Bk n sh i+if (s.dep&&F5 sh s)=true then s.k else 0:=by unfold Bk;simp[List.take_add_one,h,List.sum_append]
theorem sloN_bd{n:Aa}(hv:AB n){sh:List Bool}:∀i,0<=Bk n sh i/\Bk n sh i<=4 * i:=by
 intro i;induction i with
 | zero=>simp[Bk]
 | succ i ih=>
  cases hs:n.ss[i]? with
  | some s=>rw[Lj hs];have:=(hv.goodT i s hs).hk;split<;>omega
  | none=>
   have:Bk n sh (i+1)=Bk n sh i:=by unfold Bk;simp[List.take_add_one,hs]
   rw[this];omega
theorem slots_ct{n:Aa}(hv:AB n){sh:List Bool}(hsh:sh.length=AA n):CT UB 104 [] [Ai n,.lst (boL sh)] [] (.int .i64 (Bk n sh n.ss.length)):=by
 have hsl:(n.ss.map sA).length=n.ss.length:=by simp
 refine CT.path mix Try.func104 (show Try.f104.body=some (zB Try.f104) by kernel_rfl) (nL rfl) (osl_0 (qU n s0 sh 0 0 0 false false false [] 0 0 em) ?_);have e0:(0:Int)=Bk n sh 0:=by simp[Bk]
 suffices hh:T UB 0 (.loop (zC (zB Try.f104) 0)) (Hw (qU n s0 sh 0 (Bk n sh 0) 0 false false false [] 0 0 em)) (TK UB 0 (Fin UB Try.f104 0 [] (.int .i64 (Bk n sh n.ss.length))) (zK (zB Try.f104) 0)) by rw[<-e0] at hh;exact hh
 refine T.loop (fun i:Nat=>Hw (qU n s0 sh i (Bk n sh i) 0 false false false [] 0 0 em)) (fun i=>i<=n.ss.length) (fun i=>n.ss.length+1-i) 0 (TJ _) ?_;intro i hi;have hns:=hv.ns;by_cases h:i<n.ss.length
 .obtain⟨s,hs⟩:∃s,n.ss[i]?=some s:=⟨_,Tx h⟩;have hbd:=sloN_bd hv (sh:=sh) i;have hk:=(hv.goodT i s hs).hk;have hsu:=Lj (sh:=sh) hs;have dk:decide (iN i<iN (n.ss.map sA).length)=true:=TD (by simp only[iN,hsl];omega);have k1:(0:Int)<=iN i:=by simp[iN]
  have wi:i64.wrap (iN i+1)=((i+1:Nat):Int):=zW i (by omega);have wb:i64.wrap (Bk n sh i+s.k)=Bk n sh i+s.k:=A6 _ (by omega) (by omega);have co:=open_ct hv hsh hs;cases hd:s.dep with
  | true=>
   cases ho:F5 sh s with
   | true=>rw[ho] at co;refine T.path mix (osll_0 (qU n s sh i (Bk n sh i) 0 true false false [] 0 0 em) dk k1 (CZ hs) hd co rfl ?_);intro st hst;simp only[qU,wi,wb] at hst;simp only[hd,ho,Bool.and_self,if_true] at hsu;rw[<-hsu] at hst;exact⟨i+1,hst,h,by omega⟩
   | false=>rw[ho] at co;refine T.path mix (osll_1 (qU n s sh i (Bk n sh i) 0 false false false [] 0 0 em) dk k1 (CZ hs) hd co rfl ?_);intro st hst;simp only[qU,wi] at hst;simp only[hd,ho,Bool.and_false,Bool.false_eq_true,if_false,Int.add_zero] at hsu;rw[<-hsu] at hst;exact⟨i+1,hst,h,by omega⟩
  | false=>refine T.path mix (osll_2 (qU n s sh i (Bk n sh i) 0 false false false [] 0 0 em) dk k1 (CZ hs) hd ?_);intro st hst;simp only[qU,wi] at hst;simp only[hd,Bool.false_and,Bool.false_eq_true,if_false,Int.add_zero] at hsu;rw[<-hsu] at hst;exact⟨i+1,hst,h,by omega⟩
 .obtain rfl:i=n.ss.length:=by omega
  exact T.out mix (osll_3 (qU n s0 sh n.ss.length (Bk n sh n.ss.length) 0 false false false [] 0 0 em) (TC (by simp only[qU,iN,hsl];omega)))
theorem OV(k:Nat):Uv k (AV.bool false)=boL (Uv k false):=by simp[boL]
def DM(L:List Int)(sl:Int):Int:=if 0<L.length then (if sl<(L.length:Int)-1 then sl else (L.length:Int)-1) else sl
def Bw(n:Aa):List Int:=IU n.nx (Uv n.bs.length false)
def B6(n:Aa):Int:=Bk n (Uv (AA n) false) n.ss.length
theorem AB.chk{n:Aa}(hv:AB n):DD n.nx (Uv n.bs.length false)=0:=by
 have h1:=hv.nb24;have h2:=hv.nx;have hb:Ds n.nx=false:=by
  unfold Ds;cases he:fnd (Cz n.nx) 0 n.nx.length with
  | none=>rfl
  | some i=>
   obtain⟨g1,_,g3⟩:=D0 he;have hi:i<n.bs.length:=by omega
   have hg:=hv.blk i _ (Tx hi);have hr:=(Lq.2 ⟨hg.x,hg.y,hg.nx⟩).nx;unfold Cz at g1;rw[h2,hr] at g1;simp at g1
 unfold DD;rw[Tw (by omega),Tw (by rw[hb];simp),Tw (by simp[h2])]
theorem fleet_ct{n:Aa}(hrw:Rows n.nx)(hv:AB n):CT UB 58 [] [Ai n] [] (.tup [.agg [.int .i64 (iN (Bw n).length),lI (Bw n),.int .i64 (B6 n),.int .i64 (DM (Bw n) (B6 n))],.int .i64 0]):=by
 have hb:Try.f58.body=some (zB Try.f58):=by kernel_rfl
 have hn:[Ai n].length<=Try.f58.ntmps:=nL rfl;have hbl:(n.bs.map bA).length=n.bs.length:=by simp
 have c1:=Kb hrw;rw[Cy.2 hv] at c1;have h24:=hv.nb24;have c2:=RE (s:=Uv n.bs.length false) hrw;rw[hv.chk] at c2;have c2':CT UB 103 [] [UA (gL n.nx),UA (Uv (Uu bA n.bs).length (bV false))] [] (AV.tup [iV (iN (Bw n).length),UA (Uu iV (Bw n)),iV 0]):=by rw[hbl,OV];exact c2
 have c3:=IK hv;have c4:=slots_ct hv (sh:=Uv (AA n) false) (by simp);have c4':CT UB 104 [] [Ai n,UA (Uv (iN (AA n)).toNat (bV false))] [] (iV (B6 n)):=by rw[show (iN (AA n)).toNat=AA n by simp[iN],OV];exact c4
 have hc:=hv.cel;have hgl:(Bw n).length<=1000000:=by
  unfold Bw IU;rw[Tv hv.chk];obtain⟨hg,_⟩:=IV hrw hv.chk;rcases NQ n.nx (Uv n.bs.length false) n.nx.length with ⟨h,_⟩ | ⟨v,hvv,h1,_⟩
  .rw[h];simp
  .rw[h1];have:=thZ_len hg hvv;omega
 have wl:i64.wrap (iN (Bw n).length-1)=((Bw n).length:Int)-1:=A6 _ (by simp only[iN];omega) (by simp only[iN];omega);by_cases hg:0<(Bw n).length
 .have k:=ofl_1 (qU n s0 [] 0 0 0 false true false (Bw n) (B6 n) (AA n) em) c1 rfl (Int.le_refl _) (by simp only[qU,iN,hbl];omega) (by simp only[qU,iN,hbl];omega) c2' c3 (by simp[iN]) (Int.le_refl _) (by simp only[qU,iN];omega) (by simp only[qU,iN];omega) c4' (TD (by simp only[qU,iN];omega));simp only[qU,wl] at k;unfold DM;rw[Tv hg];exact CT.path mix Try.func58 hb hn k
 .have k:=ofl_2 (qU n s0 [] 0 0 0 false true false (Bw n) (B6 n) (AA n) em) c1 rfl (Int.le_refl _) (by simp only[qU,iN,hbl];omega) (by simp only[qU,iN,hbl];omega) c2' c3 (by simp[iN]) (Int.le_refl _) (by simp only[qU,iN];omega) (by simp only[qU,iN];omega) c4' (TC (by simp only[qU,iN];omega));simp only[qU] at k;unfold DM;rw[Tw hg];exact CT.path mix Try.func58 hb hn k
def Cc(n:Nat):ByteArray:=if n<10 then ⟨#[UInt8.ofNat (48+n)]⟩ else ⟨#[UInt8.ofNat (48+n / 10),UInt8.ofNat (48+n % 10)]⟩
theorem dig_w(c:Nat)(h:c<100):IntKind.u8.wrap (i64.wrap (48+(c:Int).tmod 10))=((48+c % 10:Nat):Int):=by
 have:∀c:Nat,c<100->IntKind.u8.wrap (i64.wrap (48+(c:Int).tmod 10))=((48+c % 10:Nat):Int):=by decide +kernel
 exact this c h
theorem dig_q(c:Nat)(h:c<100):i64.wrap ((c:Int).tdiv 10)=((c / 10:Nat):Int):=by
 have:∀c:Nat,c<100->i64.wrap ((c:Int).tdiv 10)=((c / 10:Nat):Int):=by decide +kernel
 exact this c h
theorem strOf1(x:Nat):CE [AV.int .u8 (x:Int)]=⟨#[UInt8.ofNat x]⟩:=by unfold CE;rfl
theorem dig_step{n:Nat}(h:n<100)(h10:10<=n):(⟨#[UInt8.ofNat (48+n / 10 % 10)]⟩:ByteArray)++(⟨#[UInt8.ofNat (48+n % 10)]⟩:ByteArray)=Cc n:=by unfold Cc;rw[Tw (by omega),Tn (by omega:n / 10<10)];rfl
def qE(c:Int)(u:ByteArray):QO:=⟨⟨[],[],[],[],0,0,0,0⟩,s0,[],0,0,c,0,false,false,false,[],0,0,u⟩
theorem PD(n:Nat)(h:n<100):CT UB 56 [] [.int .i64 (iN n)] [] (.str (Cc n)):=by
 have hb:Try.f56.body=some (zB Try.f56):=by kernel_rfl
 refine CT.path mix Try.func56 hb (nL rfl) (odg_0 (qE (iN n) em) (TC (by simp only[qE,iN];omega)) ?_);refine T.loop (fun p:Nat×ByteArray=>lo73 (qE (iN p.1) p.2)) (fun p=>(p.1=n/\p.2=⟨#[]⟩)\/(10<=n/\p.1=n / 10/\p.2=⟨#[UInt8.ofNat (48+n % 10)]⟩)) (fun p=>p.1) (n,⟨#[]⟩) (.inl ⟨rfl,rfl⟩) ?_
 rintro⟨c,u⟩ hI
 simp only at hI;have hc:c<100:=by rcases hI with ⟨h1,_⟩ | ⟨_,h1,_⟩<;>omega
 have hsz:u.size<=2:=by rcases hI with ⟨_,h1⟩ | ⟨_,_,h1⟩<;>rw[h1]<;>exact nL rfl
 have w1:=dig_w c hc;have w2:=dig_q c hc;have e1:CE [AV.int .u8 (IntKind.u8.wrap (i64.wrap (48+(iN c).tmod 10)))]=⟨#[UInt8.ofNat (48+c % 10)]⟩:=by show CE [AV.int .u8 (IntKind.u8.wrap (i64.wrap (48+(c:Int).tmod 10)))]=_;rw[w1,strOf1]
 have f2:([AV.int .u8 (IntKind.u8.wrap (i64.wrap (48+(iN c).tmod 10)))].all FK)=true:=by show([AV.int .u8 (IntKind.u8.wrap (i64.wrap (48+(c:Int).tmod 10)))].all FK)=true;rw[w1];simp[FK];omega
 have f3:(CE [AV.int .u8 (IntKind.u8.wrap (i64.wrap (48+(iN c).tmod 10)))]).size+u.size<=9223372036854775807:=by rw[e1];have:(⟨#[UInt8.ofNat (48+c % 10)]⟩:ByteArray).size=1:=rfl;omega
 by_cases hq:c / 10=0
 .have hz:(i64.wrap ((iN c).tdiv 10)==0)=true:=by show(i64.wrap ((c:Int).tdiv 10)==0)=true;rw[w2,hq];rfl
  have k:=odgl_0 (qE (iN c) u) rfl f2 f3 hz;have e:CE [AV.int .u8 (IntKind.u8.wrap (i64.wrap (48+(iN c).tmod 10)))]++u=Cc n:=by
   rw[e1];rcases hI with ⟨h1,h2⟩ | ⟨h0,h1,h2⟩
   .subst h1;subst h2;unfold Cc;rw[Tv (by omega),Tn (by omega:c<10)];rfl
   .subst h1;subst h2;exact dig_step h h0
  rw[<-e];exact T.out mix k
 .have hz:(i64.wrap ((iN c).tdiv 10)==0)=false:=by show(i64.wrap ((c:Int).tdiv 10)==0)=false;rw[w2];simp;omega
  refine T.path mix (odgl_1 (qE (iN c) u) rfl f2 f3 hz ?_);intro st hst;have w2':i64.wrap ((qE (iN c) u).c.tdiv 10)=iN (c / 10):=w2;rw[w2'] at hst;have e1':CE (bK [AV.int .u8 (IntKind.u8.wrap (i64.wrap (48+(qE (iN c) u).c.tmod 10)))] 1).es++(qE (iN c) u).u=⟨#[UInt8.ofNat (48+c % 10)]⟩++u:=by rw[<-e1];rfl
  rw[e1'] at hst;rcases hI with ⟨h1,h2⟩ | ⟨h0,h1,h2⟩
  .subst h1;subst h2;exact⟨(c / 10,_),hst,.inr ⟨by omega,rfl,rfl⟩,by simp only;omega⟩
  .exfalso;omega
def I2(i:Nat):ByteArray:=⟨#[98]⟩++Cc i
def Fj(i:Nat):ByteArray:=⟨#[115]⟩++Cc i
theorem nmBk_ok:∀i,i<24->nmB (I2 i)=true:=by decide +kernel
theorem nmSp_ok:∀i,i<6->nmB (Fj i)=true:=by decide +kernel
theorem nmBk_inj:∀i,i<24->∀j,j<24->I2 i=I2 j->i=j:=by decide +kernel
theorem nmSp_inj:∀i,i<6->∀j,j<6->Fj i=Fj j->i=j:=by decide +kernel
theorem nm_dis:∀i,i<24->∀j,j<6->I2 i≠Fj j:=by decide +kernel
structure QJ where
 L:List Int
 kk:Nat
 m1:Nat
 m2:Nat
 bs:List AM
 g:List (List Int)
 i:Nat
 k:Int
 x:Int
 y:Int
 z:Int
 r:List Int
 o:List Int
 b1:Bool
def bsB(bs:List AM):Blk:={es:=bs.map bA,z:=3}
def gB(g:List (List Int)):Blk:={es:=gL g,z:=1}
def nJ(bs:List AM)(g:List (List Int)):Blk:={es:=[.agg [.sl 2 0 bs.length,.sl 3 0 g.length,.nils,.nils,.int .i64 0,.int .i64 0,.int .i64 0,.int .i64 0]],z:=8,flat:=false}
def cJ(q:QJ):Nat->FuncId->List AV->List (Option Blk)->AG:=fun dst f args hp=>match f with
 | 15=>match args,dst with
  | [.ptr b _ _,_],35=>.call [b] [] [Ag q.L q.m1] (.int .i64 q.x)
  | [.ptr b _ _,_],46=>.call [b] [] [Ag q.L q.m1] (.int .i64 q.x)
  | [.ptr b _ _,_],49=>.call [b] [] [Ag q.L q.m2] (.int .i64 q.y)
  | [.ptr b _ _,_],51=>.call [b] [] [Ag q.L (q.m2+1)] (.int .i64 q.z)
  | _,_=>.no
 | 26=>.call [] [] [] (.bool q.b1)
 | 102=>.call [] [] [] (lI q.o)
 | _=>.no
def eJ(q:QJ):List (Nat×AV):=[(32,.lst []),(67,lI q.r),(79,lI q.r),(94,lI q.r)]
def hJ(q:QJ):List (Option Blk):=[some (Ag q.L q.kk),some (nJ q.bs q.g),some (bsB q.bs),some (gB q.g)]
def st74(q:QJ):St:={n:=Try.f57.ntmps,fr:=[(0,.ptr 0 0 0),(1,.ptr 1 0 0)],hp:=hJ q}
def It(q:QJ):St:={n:=Try.f57.ntmps,fr:=[(0,.ptr 0 0 0),(1,.ptr 1 0 0),(4,.int .i64 (iN q.bs.length)),(5,.int .i64 (iN q.i))],hp:=hJ q}
def Ck(q:QJ):St:={n:=Try.f57.ntmps,fr:=[(0,.ptr 0 0 0),(1,.ptr 1 0 0),(4,.int .i64 (iN q.bs.length)),(6,.int .i64 q.k)],hp:=hJ q}
theorem jri_0(q:QJ){post:Exit->St->Prop}(ht:T UB 4 (.loop (zC (zB Try.f57) 0)) (St.mk 98 [(0,AV.ptr 0 0 0),(1,AV.ptr 1 0 0),(4,iv (iN q.bs.length)),(5,iv 0)] [some (Ag q.L q.kk),some (Blk.mk [AV.agg [AV.sl 2 0 q.bs.length,AV.sl 3 0 q.g.length,AV.nils,AV.nils,iv 0,iv 0,iv 0,iv 0]] 8 false true none),some (Blk.mk (Uu bA q.bs) 3 true true none),some (Blk.mk (gL q.g) 1 true true none)]) (TK UB 4 post (zK (zB Try.f57) 0))):GoP UB (hU [] (eJ q) (cJ q)) 4 (zB Try.f57) (st74 q) post:=zR (σ:=[0,1,2,3]) (fz:=[]) (vars:=[0,1,4,5]) (by kernel_rfl) (aj (aj (u2 (u2 (u2 (u2 (u2 s2))))) s2) (k5 (aj (al t9) t3))) ht
theorem jrl_0(q:QJ)(h1:(decide (iN q.i<iN q.bs.length)=true))(h2:(decide (1<iN q.bs.length)=true))(h3:(iN q.bs.length=0->False))(h4:(0<=iN q.i))(h5:(iN q.i<iN q.g.length))(h6:((0+(iN q.i).toNat).succ.le (gL q.g).length)){post:Exit->St->Prop}{R:St->Prop}(hR:∀st,Ren 4 st (St.mk 98 [(0,AV.ptr 0 0 0),(1,AV.ptr 1 0 0),(4,iv (iN q.bs.length)),(5,iv (i64.wrap (iN q.i+1)))] [some (Ag q.L q.kk),some (Blk.mk [AV.agg [AV.sl 2 0 q.bs.length,AV.sl 3 0 q.g.length,AV.nils,AV.nils,iv 0,iv 0,iv 0,iv 0]] 8 false true none),some (Blk.mk (Uu bA q.bs) 3 true true none),some (Blk.mk ((gL q.g).set (0+(iN q.i).toNat) (UA [iv ((i64.wrap (iN q.i+1)).tmod (iN q.bs.length))])) 1 true true none)])->R st):GoP UB (hU [33,39,41] (eJ q) (cJ q)) 4 (zC (zB Try.f57) 0) (It q) (andThen R post):=zN (σ:=[0,1,2,3]) (fz:=[]) (vars:=[0,1,4,5]) (by kernel_rfl) (aj (aj (u2 (u2 (aj t3 (aj (al h1) (aj t3 (aj t3 (al (ak (al h2))))))))) (aj (show(true=true) by first | decide | exact Tc _) (aj (u2 (u2 (u2 (u2 (u2 (u2 (u2 (u2 (aj (k2 h3) (u2 (aj (k2 (aj h4 h5)) (al (k2 h6))))))))))))) (al (u2 (u2 s2)))))) (k5 (aj (al t9) t3))) hR
theorem jrx_0(q:QJ)(h1:(decide (iN q.i<iN q.bs.length)=false))(h2:(CT UB 15 [some (Ag q.L q.kk)] [AV.ptr 0 0 0,iv 4] [some (Ag q.L q.m1)] (iv q.x))){post:Exit->St->Prop}(ht:T UB 4 (.loop (zC (zB Try.f57) 1)) (St.mk 98 [(0,AV.ptr 0 0 0),(1,AV.ptr 1 0 0),(4,iv (iN q.bs.length)),(6,iv q.x)] [some (Ag q.L q.m1),some (Blk.mk [AV.agg [AV.sl 2 0 q.bs.length,AV.sl 3 0 q.g.length,AV.nils,AV.nils,iv 0,iv 0,iv 0,iv 0]] 8 false true none),some (Blk.mk (Uu bA q.bs) 3 true true none),some (Blk.mk (gL q.g) 1 true true none)]) (TK UB 4 post (zK (zB Try.f57) 1))):GoO UB (hU [32,40] (eJ q) (cJ q)) 4 (zC (zB Try.f57) 0) (zK (zB Try.f57) 0) (It q) post:=zR (σ:=[0,1,2,3]) (fz:=[]) (vars:=[0,1,4,6]) (by kernel_rfl) (aj (aj (aj (u2 (u2 (aj t3 (aj (al h1) (k2 (al t3)))))) (al (show(false=false) by first | decide | exact Tc _))) (al (u2 (aj (ak (k3 (al h2))) s2)))) (k5 (aj (al t9) t3))) ht
theorem jry_0(q:QJ)(h1:(decide (iN q.i<iN q.bs.length)=true))(h2:(decide (1<iN q.bs.length)=false))(h3:(CT UB 15 [some (Ag q.L q.kk)] [AV.ptr 0 0 0,iv 4] [some (Ag q.L q.m1)] (iv q.x))){post:Exit->St->Prop}(ht:T UB 4 (.loop (zC (zB Try.f57) 1)) (St.mk 98 [(0,AV.ptr 0 0 0),(1,AV.ptr 1 0 0),(4,iv (iN q.bs.length)),(6,iv q.x)] [some (Ag q.L q.m1),some (Blk.mk [AV.agg [AV.sl 2 0 q.bs.length,AV.sl 3 0 q.g.length,AV.nils,AV.nils,iv 0,iv 0,iv 0,iv 0]] 8 false true none),some (Blk.mk (Uu bA q.bs) 3 true true none),some (Blk.mk (gL q.g) 1 true true none)]) (TK UB 4 post (zK (zB Try.f57) 1))):GoO UB (hU [33,38,40] (eJ q) (cJ q)) 4 (zC (zB Try.f57) 0) (zK (zB Try.f57) 0) (It q) post:=zR (σ:=[0,1,2,3]) (fz:=[]) (vars:=[0,1,4,6]) (by kernel_rfl) (aj (aj (aj (u2 (u2 (aj t3 (aj (al h1) (aj t3 (aj t3 (al (ak (al h2))))))))) (al (show(false=false) by first | decide | exact Tc _))) (al (u2 (aj (ak (k3 (al h3))) s2)))) (k5 (aj (al t9) t3))) ht
theorem jsl_0(q:QJ)(h1:(decide (0<q.k)=true))(h2:(decide (2<iN q.bs.length)=true))(h3:(CT UB 15 [some (Ag q.L q.kk)] [AV.ptr 0 0 0,iv (iN q.bs.length)] [some (Ag q.L q.m1)] (iv q.x)))(h4:(CT UB 15 [some (Ag q.L q.m1)] [AV.ptr 0 0 0,iv (iN q.bs.length)] [some (Ag q.L q.m2)] (iv q.y)))(h5:(CT UB 15 [some (Ag q.L q.m2)] [AV.ptr 0 0 0,iv 3] [some (Ag q.L (q.m2+1))] (iv q.z)))(h6:(decide (0<q.z)=true))(h7:(iN q.bs.length=0->False))(h8:((q.x != (i64.wrap (q.x+2)).tmod (iN q.bs.length))=true))(h9:(0<=q.x))(h10:(q.x<iN q.g.length))(h11:((gL q.g)[0+q.x.toNat]?=some (UA (Uu iv q.r))))(h12:(CT UB 26 [] [UA (Uu iv q.r),iv ((i64.wrap (q.x+2)).tmod (iN q.bs.length))] [] (AV.bool q.b1)))(h13:((!q.b1)=true))(h14:(decide (iN (Uu iv q.r).length<4)=true))(h15:(CT UB 102 [] [UA (Uu iv q.r),iv ((i64.wrap (q.x+2)).tmod (iN q.bs.length))] [] (UA (Uu iv q.o))))(h16:((0+q.x.toNat).succ.le (gL q.g).length)){post:Exit->St->Prop}{R:St->Prop}(hR:∀st,Ren 4 st (St.mk 98 [(0,AV.ptr 0 0 0),(1,AV.ptr 1 0 0),(4,iv (iN q.bs.length)),(6,iv (i64.wrap (q.k-1)))] [some (Ag q.L (q.m2+1)),some (Blk.mk [AV.agg [AV.sl 2 0 q.bs.length,AV.sl 3 0 q.g.length,AV.nils,AV.nils,iv 0,iv 0,iv 0,iv 0]] 8 false true none),some (Blk.mk (Uu bA q.bs) 3 true true none),some (Blk.mk ((gL q.g).set (0+q.x.toNat) (UA (Uu iv q.o))) 1 true true none)])->R st):GoP UB (hU [77,83,105,121,145,165] (eJ q) (cJ q)) 4 (zC (zB Try.f57) 1) (Ck q) (andThen R post):=zN (σ:=[0,1,2,3]) (fz:=[]) (vars:=[0,1,4,6]) (by kernel_rfl) (aj (aj (u2 (u2 (u2 (ag h1 (ag h1 (al (aj h1 t2))))))) (aj h2 (aj (u2 (u2 (aj (k5 (al h3)) (u2 (u2 (aj (k5 (al h4)) (u2 s2))))))) (aj (u2 (aj (ak (k3 (al h5))) s2)) (aj h6 (aj (u2 (u2 (u2 (aj (k2 h7) s2)))) (aj (u2 (u2 (aj t3 (u2 (ag h8 (ag h8 (ag h8 (ag h8 (ag h8 (aj (aj h8 (k2 (aj h9 h10))) (aj (aj h8 (ak h11)) (ag h8 (aj (aj h8 (ak (k3 (al h12)))) (ag h8 (ag h8 (u2 (ag h13 (ag h13 (ag h13 (ag h13 (ag h13 (aj (aj h13 (k2 (aj h9 h10))) (aj (aj h13 (ak h11)) (ag h13 (ag h13 (al (aj h13 t2))))))))))))))))))))))))))) (aj h14 (aj (u2 (u2 (u2 (u2 (u2 (u2 (u2 (u2 (u2 (u2 (aj (k2 (aj h9 h10)) (aj (ak h11) (u2 (aj (ak (k3 (al h15))) (aj (k2 (aj h9 h10)) (al (k2 h16))))))))))))))))) (al (u2 (u2 s2)))))))))))) (k5 (aj (al t9) t3))) hR
theorem jsl_1(q:QJ)(h1:(decide (0<q.k)=true))(h2:(decide (2<iN q.bs.length)=true))(h3:(CT UB 15 [some (Ag q.L q.kk)] [AV.ptr 0 0 0,iv (iN q.bs.length)] [some (Ag q.L q.m1)] (iv q.x)))(h4:(CT UB 15 [some (Ag q.L q.m1)] [AV.ptr 0 0 0,iv (iN q.bs.length)] [some (Ag q.L q.m2)] (iv q.y)))(h5:(CT UB 15 [some (Ag q.L q.m2)] [AV.ptr 0 0 0,iv 3] [some (Ag q.L (q.m2+1))] (iv q.z)))(h6:(decide (0<q.z)=true))(h7:(iN q.bs.length=0->False))(h8:((q.x != (i64.wrap (q.x+2)).tmod (iN q.bs.length))=true))(h9:(0<=q.x))(h10:(q.x<iN q.g.length))(h11:((gL q.g)[0+q.x.toNat]?=some (UA (Uu iv q.r))))(h12:(CT UB 26 [] [UA (Uu iv q.r),iv ((i64.wrap (q.x+2)).tmod (iN q.bs.length))] [] (AV.bool q.b1)))(h13:((!q.b1)=true))(h14:(decide (iN (Uu iv q.r).length<4)=false)){post:Exit->St->Prop}{R:St->Prop}(hR:∀st,Ren 4 st (St.mk 98 [(0,AV.ptr 0 0 0),(1,AV.ptr 1 0 0),(4,iv (iN q.bs.length)),(6,iv (i64.wrap (q.k-1)))] [some (Ag q.L (q.m2+1)),some (Blk.mk [AV.agg [AV.sl 2 0 q.bs.length,AV.sl 3 0 q.g.length,AV.nils,AV.nils,iv 0,iv 0,iv 0,iv 0]] 8 false true none),some (Blk.mk (Uu bA q.bs) 3 true true none),some (Blk.mk (gL q.g) 1 true true none)])->R st):GoP UB (hU [77,83,105,121,145,164] (eJ q) (cJ q)) 4 (zC (zB Try.f57) 1) (Ck q) (andThen R post):=zN (σ:=[0,1,2,3]) (fz:=[]) (vars:=[0,1,4,6]) (by kernel_rfl) (aj (aj (u2 (u2 (u2 (ag h1 (ag h1 (al (aj h1 t2))))))) (aj h2 (aj (u2 (u2 (aj (k5 (al h3)) (u2 (u2 (aj (k5 (al h4)) (u2 s2))))))) (aj (u2 (aj (ak (k3 (al h5))) s2)) (aj h6 (aj (u2 (u2 (u2 (aj (k2 h7) s2)))) (aj (u2 (u2 (aj t3 (u2 (ag h8 (ag h8 (ag h8 (ag h8 (ag h8 (aj (aj h8 (k2 (aj h9 h10))) (aj (aj h8 (ak h11)) (ag h8 (aj (aj h8 (ak (k3 (al h12)))) (ag h8 (ag h8 (u2 (ag h13 (ag h13 (ag h13 (ag h13 (ag h13 (aj (aj h13 (k2 (aj h9 h10))) (aj (aj h13 (ak h11)) (ag h13 (ag h13 (al (aj h13 t2))))))))))))))))))))))))))) (aj h14 (al (u2 (u2 s2))))))))))) (k5 (aj (al t9) t3))) hR
theorem jsl_2(q:QJ)(h1:(decide (0<q.k)=true))(h2:(decide (2<iN q.bs.length)=true))(h3:(CT UB 15 [some (Ag q.L q.kk)] [AV.ptr 0 0 0,iv (iN q.bs.length)] [some (Ag q.L q.m1)] (iv q.x)))(h4:(CT UB 15 [some (Ag q.L q.m1)] [AV.ptr 0 0 0,iv (iN q.bs.length)] [some (Ag q.L q.m2)] (iv q.y)))(h5:(CT UB 15 [some (Ag q.L q.m2)] [AV.ptr 0 0 0,iv 3] [some (Ag q.L (q.m2+1))] (iv q.z)))(h6:(decide (0<q.z)=true))(h7:(iN q.bs.length=0->False))(h8:((q.x != (i64.wrap (q.x+2)).tmod (iN q.bs.length))=true))(h9:(0<=q.x))(h10:(q.x<iN q.g.length))(h11:((gL q.g)[0+q.x.toNat]?=some (UA (Uu iv q.r))))(h12:(CT UB 26 [] [UA (Uu iv q.r),iv ((i64.wrap (q.x+2)).tmod (iN q.bs.length))] [] (AV.bool q.b1)))(h13:((!q.b1)=false)){post:Exit->St->Prop}{R:St->Prop}(hR:∀st,Ren 4 st (St.mk 98 [(0,AV.ptr 0 0 0),(1,AV.ptr 1 0 0),(4,iv (iN q.bs.length)),(6,iv (i64.wrap (q.k-1)))] [some (Ag q.L (q.m2+1)),some (Blk.mk [AV.agg [AV.sl 2 0 q.bs.length,AV.sl 3 0 q.g.length,AV.nils,AV.nils,iv 0,iv 0,iv 0,iv 0]] 8 false true none),some (Blk.mk (Uu bA q.bs) 3 true true none),some (Blk.mk (gL q.g) 1 true true none)])->R st):GoP UB (hU [77,83,105,121,144] (eJ q) (cJ q)) 4 (zC (zB Try.f57) 1) (Ck q) (andThen R post):=zN (σ:=[0,1,2,3]) (fz:=[]) (vars:=[0,1,4,6]) (by kernel_rfl) (aj (aj (u2 (u2 (u2 (ag h1 (ag h1 (al (aj h1 t2))))))) (aj h2 (aj (u2 (u2 (aj (k5 (al h3)) (u2 (u2 (aj (k5 (al h4)) (u2 s2))))))) (aj (u2 (aj (ak (k3 (al h5))) s2)) (aj h6 (aj (u2 (u2 (u2 (aj (k2 h7) s2)))) (aj (u2 (u2 (aj t3 (u2 (ag h8 (ag h8 (ag h8 (ag h8 (ag h8 (aj (aj h8 (k2 (aj h9 h10))) (aj (aj h8 (ak h11)) (ag h8 (aj (aj h8 (ak (k3 (al h12)))) (ag h8 (ag h8 (u2 (aj h13 (aj h13 (aj h13 (aj h13 (aj h13 (aj h13 (aj h13 (aj h13 (aj h13 (al (aj h13 t2))))))))))))))))))))))))))) (ak (al (u2 (u2 s2))))))))))) (k5 (aj (al t9) t3))) hR
theorem jsl_3(q:QJ)(h1:(decide (0<q.k)=true))(h2:(decide (2<iN q.bs.length)=true))(h3:(CT UB 15 [some (Ag q.L q.kk)] [AV.ptr 0 0 0,iv (iN q.bs.length)] [some (Ag q.L q.m1)] (iv q.x)))(h4:(CT UB 15 [some (Ag q.L q.m1)] [AV.ptr 0 0 0,iv (iN q.bs.length)] [some (Ag q.L q.m2)] (iv q.y)))(h5:(CT UB 15 [some (Ag q.L q.m2)] [AV.ptr 0 0 0,iv 3] [some (Ag q.L (q.m2+1))] (iv q.z)))(h6:(decide (0<q.z)=true))(h7:(iN q.bs.length=0->False))(h8:((q.x != (i64.wrap (q.x+2)).tmod (iN q.bs.length))=false)){post:Exit->St->Prop}{R:St->Prop}(hR:∀st,Ren 4 st (St.mk 98 [(0,AV.ptr 0 0 0),(1,AV.ptr 1 0 0),(4,iv (iN q.bs.length)),(6,iv (i64.wrap (q.k-1)))] [some (Ag q.L (q.m2+1)),some (Blk.mk [AV.agg [AV.sl 2 0 q.bs.length,AV.sl 3 0 q.g.length,AV.nils,AV.nils,iv 0,iv 0,iv 0,iv 0]] 8 false true none),some (Blk.mk (Uu bA q.bs) 3 true true none),some (Blk.mk (gL q.g) 1 true true none)])->R st):GoP UB (hU [77,83,105,120] (eJ q) (cJ q)) 4 (zC (zB Try.f57) 1) (Ck q) (andThen R post):=zN (σ:=[0,1,2,3]) (fz:=[]) (vars:=[0,1,4,6]) (by kernel_rfl) (aj (aj (u2 (u2 (u2 (ag h1 (ag h1 (al (aj h1 t2))))))) (aj h2 (aj (u2 (u2 (aj (k5 (al h3)) (u2 (u2 (aj (k5 (al h4)) (u2 s2))))))) (aj (u2 (aj (ak (k3 (al h5))) s2)) (aj h6 (aj (u2 (u2 (u2 (aj (k2 h7) s2)))) (aj (u2 (u2 (aj t3 (u2 (aj h8 (aj h8 (aj h8 (aj h8 (aj h8 (aj h8 (aj h8 (aj h8 (aj h8 (aj h8 (ag h8 (u2 (ak (k3 (k5 (al t3)))))))))))))))))))) (ak (al (u2 (u2 s2))))))))))) (k5 (aj (al t9) t3))) hR
theorem jsl_4(q:QJ)(h1:(decide (0<q.k)=true))(h2:(decide (2<iN q.bs.length)=true))(h3:(CT UB 15 [some (Ag q.L q.kk)] [AV.ptr 0 0 0,iv (iN q.bs.length)] [some (Ag q.L q.m1)] (iv q.x)))(h4:(CT UB 15 [some (Ag q.L q.m1)] [AV.ptr 0 0 0,iv (iN q.bs.length)] [some (Ag q.L q.m2)] (iv q.y)))(h5:(CT UB 15 [some (Ag q.L q.m2)] [AV.ptr 0 0 0,iv 3] [some (Ag q.L (q.m2+1))] (iv q.z)))(h6:(decide (0<q.z)=false))(h7:((q.x != q.y)=true))(h8:(0<=q.x))(h9:(q.x<iN q.g.length))(h10:((gL q.g)[0+q.x.toNat]?=some (UA (Uu iv q.r))))(h11:(CT UB 26 [] [UA (Uu iv q.r),iv q.y] [] (AV.bool q.b1)))(h12:((!q.b1)=true))(h13:(decide (iN (Uu iv q.r).length<4)=true))(h14:(CT UB 102 [] [UA (Uu iv q.r),iv q.y] [] (UA (Uu iv q.o))))(h15:((0+q.x.toNat).succ.le (gL q.g).length)){post:Exit->St->Prop}{R:St->Prop}(hR:∀st,Ren 4 st (St.mk 98 [(0,AV.ptr 0 0 0),(1,AV.ptr 1 0 0),(4,iv (iN q.bs.length)),(6,iv (i64.wrap (q.k-1)))] [some (Ag q.L (q.m2+1)),some (Blk.mk [AV.agg [AV.sl 2 0 q.bs.length,AV.sl 3 0 q.g.length,AV.nils,AV.nils,iv 0,iv 0,iv 0,iv 0]] 8 false true none),some (Blk.mk (Uu bA q.bs) 3 true true none),some (Blk.mk ((gL q.g).set (0+q.x.toNat) (UA (Uu iv q.o))) 1 true true none)])->R st):GoP UB (hU [77,83,104,121,145,165] (eJ q) (cJ q)) 4 (zC (zB Try.f57) 1) (Ck q) (andThen R post):=zN (σ:=[0,1,2,3]) (fz:=[]) (vars:=[0,1,4,6]) (by kernel_rfl) (aj (aj (u2 (u2 (u2 (ag h1 (ag h1 (al (aj h1 t2))))))) (aj h2 (aj (u2 (u2 (aj (k5 (al h3)) (u2 (u2 (aj (k5 (al h4)) (u2 s2))))))) (aj (u2 (aj (ak (k3 (al h5))) s2)) (aj h6 (aj (u2 (u2 (aj t3 (u2 (ag h7 (ag h7 (ag h7 (ag h7 (ag h7 (aj (aj h7 (k2 (aj h8 h9))) (aj (aj h7 (ak h10)) (ag h7 (aj (aj h7 (ak (k3 (al h11)))) (ag h7 (ag h7 (u2 (ag h12 (ag h12 (ag h12 (ag h12 (ag h12 (aj (aj h12 (k2 (aj h8 h9))) (aj (aj h12 (ak h10)) (ag h12 (ag h12 (al (aj h12 t2))))))))))))))))))))))))))) (aj h13 (aj (u2 (u2 (u2 (u2 (u2 (u2 (u2 (u2 (u2 (u2 (aj (k2 (aj h8 h9)) (aj (ak h10) (u2 (aj (ak (k3 (al h14))) (aj (k2 (aj h8 h9)) (al (k2 h15))))))))))))))))) (al (u2 (u2 s2))))))))))) (k5 (aj (al t9) t3))) hR
theorem jsl_5(q:QJ)(h1:(decide (0<q.k)=true))(h2:(decide (2<iN q.bs.length)=true))(h3:(CT UB 15 [some (Ag q.L q.kk)] [AV.ptr 0 0 0,iv (iN q.bs.length)] [some (Ag q.L q.m1)] (iv q.x)))(h4:(CT UB 15 [some (Ag q.L q.m1)] [AV.ptr 0 0 0,iv (iN q.bs.length)] [some (Ag q.L q.m2)] (iv q.y)))(h5:(CT UB 15 [some (Ag q.L q.m2)] [AV.ptr 0 0 0,iv 3] [some (Ag q.L (q.m2+1))] (iv q.z)))(h6:(decide (0<q.z)=false))(h7:((q.x != q.y)=true))(h8:(0<=q.x))(h9:(q.x<iN q.g.length))(h10:((gL q.g)[0+q.x.toNat]?=some (UA (Uu iv q.r))))(h11:(CT UB 26 [] [UA (Uu iv q.r),iv q.y] [] (AV.bool q.b1)))(h12:((!q.b1)=true))(h13:(decide (iN (Uu iv q.r).length<4)=false)){post:Exit->St->Prop}{R:St->Prop}(hR:∀st,Ren 4 st (St.mk 98 [(0,AV.ptr 0 0 0),(1,AV.ptr 1 0 0),(4,iv (iN q.bs.length)),(6,iv (i64.wrap (q.k-1)))] [some (Ag q.L (q.m2+1)),some (Blk.mk [AV.agg [AV.sl 2 0 q.bs.length,AV.sl 3 0 q.g.length,AV.nils,AV.nils,iv 0,iv 0,iv 0,iv 0]] 8 false true none),some (Blk.mk (Uu bA q.bs) 3 true true none),some (Blk.mk (gL q.g) 1 true true none)])->R st):GoP UB (hU [77,83,104,121,145,164] (eJ q) (cJ q)) 4 (zC (zB Try.f57) 1) (Ck q) (andThen R post):=zN (σ:=[0,1,2,3]) (fz:=[]) (vars:=[0,1,4,6]) (by kernel_rfl) (aj (aj (u2 (u2 (u2 (ag h1 (ag h1 (al (aj h1 t2))))))) (aj h2 (aj (u2 (u2 (aj (k5 (al h3)) (u2 (u2 (aj (k5 (al h4)) (u2 s2))))))) (aj (u2 (aj (ak (k3 (al h5))) s2)) (aj h6 (aj (u2 (u2 (aj t3 (u2 (ag h7 (ag h7 (ag h7 (ag h7 (ag h7 (aj (aj h7 (k2 (aj h8 h9))) (aj (aj h7 (ak h10)) (ag h7 (aj (aj h7 (ak (k3 (al h11)))) (ag h7 (ag h7 (u2 (ag h12 (ag h12 (ag h12 (ag h12 (ag h12 (aj (aj h12 (k2 (aj h8 h9))) (aj (aj h12 (ak h10)) (ag h12 (ag h12 (al (aj h12 t2))))))))))))))))))))))))))) (aj h13 (al (u2 (u2 s2)))))))))) (k5 (aj (al t9) t3))) hR
theorem jsl_6(q:QJ)(h1:(decide (0<q.k)=true))(h2:(decide (2<iN q.bs.length)=true))(h3:(CT UB 15 [some (Ag q.L q.kk)] [AV.ptr 0 0 0,iv (iN q.bs.length)] [some (Ag q.L q.m1)] (iv q.x)))(h4:(CT UB 15 [some (Ag q.L q.m1)] [AV.ptr 0 0 0,iv (iN q.bs.length)] [some (Ag q.L q.m2)] (iv q.y)))(h5:(CT UB 15 [some (Ag q.L q.m2)] [AV.ptr 0 0 0,iv 3] [some (Ag q.L (q.m2+1))] (iv q.z)))(h6:(decide (0<q.z)=false))(h7:((q.x != q.y)=true))(h8:(0<=q.x))(h9:(q.x<iN q.g.length))(h10:((gL q.g)[0+q.x.toNat]?=some (UA (Uu iv q.r))))(h11:(CT UB 26 [] [UA (Uu iv q.r),iv q.y] [] (AV.bool q.b1)))(h12:((!q.b1)=false)){post:Exit->St->Prop}{R:St->Prop}(hR:∀st,Ren 4 st (St.mk 98 [(0,AV.ptr 0 0 0),(1,AV.ptr 1 0 0),(4,iv (iN q.bs.length)),(6,iv (i64.wrap (q.k-1)))] [some (Ag q.L (q.m2+1)),some (Blk.mk [AV.agg [AV.sl 2 0 q.bs.length,AV.sl 3 0 q.g.length,AV.nils,AV.nils,iv 0,iv 0,iv 0,iv 0]] 8 false true none),some (Blk.mk (Uu bA q.bs) 3 true true none),some (Blk.mk (gL q.g) 1 true true none)])->R st):GoP UB (hU [77,83,104,121,144] (eJ q) (cJ q)) 4 (zC (zB Try.f57) 1) (Ck q) (andThen R post):=zN (σ:=[0,1,2,3]) (fz:=[]) (vars:=[0,1,4,6]) (by kernel_rfl) (aj (aj (u2 (u2 (u2 (ag h1 (ag h1 (al (aj h1 t2))))))) (aj h2 (aj (u2 (u2 (aj (k5 (al h3)) (u2 (u2 (aj (k5 (al h4)) (u2 s2))))))) (aj (u2 (aj (ak (k3 (al h5))) s2)) (aj h6 (aj (u2 (u2 (aj t3 (u2 (ag h7 (ag h7 (ag h7 (ag h7 (ag h7 (aj (aj h7 (k2 (aj h8 h9))) (aj (aj h7 (ak h10)) (ag h7 (aj (aj h7 (ak (k3 (al h11)))) (ag h7 (ag h7 (u2 (aj h12 (aj h12 (aj h12 (aj h12 (aj h12 (aj h12 (aj h12 (aj h12 (aj h12 (al (aj h12 t2))))))))))))))))))))))))))) (ak (al (u2 (u2 s2)))))))))) (k5 (aj (al t9) t3))) hR
theorem jsl_7(q:QJ)(h1:(decide (0<q.k)=true))(h2:(decide (2<iN q.bs.length)=true))(h3:(CT UB 15 [some (Ag q.L q.kk)] [AV.ptr 0 0 0,iv (iN q.bs.length)] [some (Ag q.L q.m1)] (iv q.x)))(h4:(CT UB 15 [some (Ag q.L q.m1)] [AV.ptr 0 0 0,iv (iN q.bs.length)] [some (Ag q.L q.m2)] (iv q.y)))(h5:(CT UB 15 [some (Ag q.L q.m2)] [AV.ptr 0 0 0,iv 3] [some (Ag q.L (q.m2+1))] (iv q.z)))(h6:(decide (0<q.z)=false))(h7:((q.x != q.y)=false)){post:Exit->St->Prop}{R:St->Prop}(hR:∀st,Ren 4 st (St.mk 98 [(0,AV.ptr 0 0 0),(1,AV.ptr 1 0 0),(4,iv (iN q.bs.length)),(6,iv (i64.wrap (q.k-1)))] [some (Ag q.L (q.m2+1)),some (Blk.mk [AV.agg [AV.sl 2 0 q.bs.length,AV.sl 3 0 q.g.length,AV.nils,AV.nils,iv 0,iv 0,iv 0,iv 0]] 8 false true none),some (Blk.mk (Uu bA q.bs) 3 true true none),some (Blk.mk (gL q.g) 1 true true none)])->R st):GoP UB (hU [77,83,104,120] (eJ q) (cJ q)) 4 (zC (zB Try.f57) 1) (Ck q) (andThen R post):=zN (σ:=[0,1,2,3]) (fz:=[]) (vars:=[0,1,4,6]) (by kernel_rfl) (aj (aj (u2 (u2 (u2 (ag h1 (ag h1 (al (aj h1 t2))))))) (aj h2 (aj (u2 (u2 (aj (k5 (al h3)) (u2 (u2 (aj (k5 (al h4)) (u2 s2))))))) (aj (u2 (aj (ak (k3 (al h5))) s2)) (aj h6 (aj (u2 (u2 (aj t3 (u2 (aj h7 (aj h7 (aj h7 (aj h7 (aj h7 (aj h7 (aj h7 (aj h7 (aj h7 (aj h7 (ag h7 (u2 (ak (k3 (k5 (al t3)))))))))))))))))))) (ak (al (u2 (u2 s2)))))))))) (k5 (aj (al t9) t3))) hR
theorem jsl_8(q:QJ)(h1:(decide (0<q.k)=true))(h2:(decide (2<iN q.bs.length)=false)):GoO UB (hU [77,82] (eJ q) (cJ q)) 4 (zC (zB Try.f57) 1) (zK (zB Try.f57) 1) (Ck q) (Fin UB Try.f57 4 [some (Ag q.L q.kk),some (Blk.mk [AV.agg [AV.sl 2 0 q.bs.length,AV.sl 3 0 q.g.length,AV.nils,AV.nils,iv 0,iv 0,iv 0,iv 0]] 8 false true none),some (Blk.mk (Uu bA q.bs) 3 true true none),some (Blk.mk (gL q.g) 1 true true none)] (AV.tup [])):=zF (σ:=[0,1,2,3]) (fz:=[]) (by kernel_rfl) (aj (al (aj (u2 (u2 (u2 (ag h1 (ag h1 (al (aj h1 t2))))))) (al h2))) (k2 (aj (al t9) t3)))
theorem jsl_9(q:QJ)(h1:(decide (0<q.k)=false)):GoO UB (hU [76] (eJ q) (cJ q)) 4 (zC (zB Try.f57) 1) (zK (zB Try.f57) 1) (Ck q) (Fin UB Try.f57 4 [some (Ag q.L q.kk),some (Blk.mk [AV.agg [AV.sl 2 0 q.bs.length,AV.sl 3 0 q.g.length,AV.nils,AV.nils,iv 0,iv 0,iv 0,iv 0]] 8 false true none),some (Blk.mk (Uu bA q.bs) 3 true true none),some (Blk.mk (gL q.g) 1 true true none)] (AV.tup [])):=zF (σ:=[0,1,2,3]) (fz:=[]) (by kernel_rfl) (aj (al (aj (u2 (u2 (u2 (aj h1 (aj h1 (al (aj h1 t2))))))) t2)) (k2 (aj (al t9) t3)))
def qJ(L:List Int)(kk:Nat)(bs:List AM)(g:List (List Int))(i:Nat)(k x y z:Int)(r o:List Int)(b1:Bool):QJ:=⟨L,kk,kk+1,kk+2,bs,g,i,k,x,y,z,r,o,b1⟩
def jR(L:List Int)(b kk:Nat):Int:=if 0<Ae L (kk+2) 3 then (Ae L kk b+2).tmod b else Ae L (kk+1) b
def Hr(x j:Int)(g:List (List Int)):List (List Int):=if x=j then g else if Ay (g.getD x.toNat []) j=true then g else if (g.getD x.toNat []).length<4 then g.set x.toNat (BK j (g.getD x.toNat [])) else g
def Hh(L:List Int)(b:Nat)(y:List (List Int)×Nat):List (List Int)×Nat:=(Hr (Ae L y.2 b) (jR L b y.2) y.1,y.2+3)
def Bv(L:List Int)(b:Nat)(y:List (List Int)×Nat):Nat->List (List Int)×Nat | 0=>y | n+1=>Hh L b (Bv L b y n)
def A7(b i:Nat):List (List Int):=(List.range b).map fun t=>if t<i then [(((t+1) % b:Nat):Int)] else []
theorem GI.add{n:Nat}{g:List (List Int)}(h:GI n 4 g){x j:Int}(hx:0<=x/\x<n)(hj:0<=j/\j<n):GI n 4 (Hr x j g):=by
 unfold Hr;split
 .exact h
 rename_i hne;split
 .exact h
 rename_i hno;split
 .rename_i hl;have hno':j∉g.getD x.toNat []:=fun hm=>hno (G1.2 hm)
  have e:∀v,(g.set x.toNat (BK j (g.getD x.toNat []))).getD v []=if x.toNat=v then BK j (g.getD x.toNat []) else g.getD v []:=by
   intro v;rw[Ty,Ur];split
   .rename_i e;subst e;rw[Tv (by rw[h.len];omega)];rfl
   .rw[Ty]
  refine⟨by rw[T6];exact h.len,fun v hv=>?_⟩;rw[e];split
  .rename_i ev;subst ev;obtain⟨h1,h2,h3⟩:=h.row x.toNat hv;refine⟨by rw[insB_len];omega,insB_asc h2 hno',fun w hw=>?_⟩;rcases Mi.1 hw with rfl | hw
   .omega
   .exact h3 w hw
  .exact h.row v hv
 .exact h
theorem N8{L:List Int}{b kk:Nat}(hb:1<=b/\b<=24):0<=jR L b kk/\jR L b kk<b:=by
 have h1:=A3 L kk (b:Int) (by omega) (by omega);have h2:=A3 L (kk+1) (b:Int) (by omega) (by omega);unfold jR;split
 .rw[Int.tmod_eq_emod_of_nonneg (by omega)];exact⟨Int.emod_nonneg _ (by omega),Int.emod_lt_of_pos _ (by omega)⟩
 .exact h2
theorem OE{L:List Int}{b:Nat}(hb:1<=b/\b<=24){y:List (List Int)×Nat}(h:GI b 4 y.1):∀n,GI b 4 (Bv L b y n).1/\(Bv L b y n).2=y.2+3 * n:=by
 intro n;induction n with
 | zero=>exact⟨h,rfl⟩
 | succ n ih=>obtain⟨h1,h2⟩:=ih;refine⟨h1.add (A3 L _ (b:Int) (by omega) (by omega)) (N8 hb),?_⟩;simp only[Bv,Hh,h2];omega
theorem Iq(b i:Nat):(A7 b i).length=b:=by simp[A7]
theorem Lk{b i v:Nat}(h:v<b):(A7 b i).getD v []=if v<i then [(((v+1) % b:Nat):Int)] else []:=by unfold A7;rw[Ty,TH,TW h];rfl
theorem L7{b:Nat}(hb:2<=b)(i:Nat):GI b 4 (A7 b i):=by
 refine⟨Iq b i,fun v hv=>?_⟩;rw[Lk hv];split
 .refine⟨by simp,by simp,fun w hw=>?_⟩;rw[Tm] at hw;subst hw;have h1:(v+1) % b<b:=Nat.mod_lt _ (by omega);have h2:(v+1) % b≠v:=by
   by_cases e:v+1=b
   .rw[e,Nat.mod_self];omega
   .rw[Tn (by omega)];omega
  generalize (v+1) % b=u at h1 h2;omega
 .simp
theorem Rk(b:Nat):GI b 4 (A7 b 0):=⟨Iq b 0,fun v hv=>by rw[Lk hv];simp⟩
theorem rng0_set{b i:Nat}(h:i<b):(A7 b i).set i [(((i+1) % b:Nat):Int)]=A7 b (i+1):=by
 unfold A7;apply List.ext_getElem
 .simp
 .intro j h1 h2;simp only[List.getElem_set,List.getElem_map,List.getElem_range];by_cases e:i=j
  .subst e;rw[Tv rfl,Tv (by omega)]
  .rw[Tw e];by_cases hj:j<i
   .rw[Tv hj,Tv (by omega)]
   .rw[Tw hj,Tw (by omega)]
theorem PL(g:List (List Int))(v:Nat)(r:List Int):(gL g).set (0+v) (.lst (r.map (AV.int .i64)))=gL (g.set v r):=by rw[TP];unfold gL;rw[Uq];rfl
theorem js_run{L:List Int}{bs:List AM}(hb:3<=bs.length/\bs.length<=24)(kk:Nat)(hkk:kk<=100000)(K:Nat)(hK:K<=4){g0:List (List Int)}(hg0:GI bs.length 4 g0):
  T UB 4 (.loop (zC (zB Try.f57) 1)) (Ck (qJ L kk bs g0 0 (K:Int) 0 0 0 [] [] false)) (TK UB 4 (Fin UB Try.f57 4 [some (Ag L (Bv L bs.length (g0,kk) K).2),some (nJ bs (Bv L bs.length (g0,kk) K).1),some (bsB bs),some (gB (Bv L bs.length (g0,kk) K).1)] (.tup [])) (zK (zB Try.f57) 1)):=by
 have hb2:1<=bs.length/\bs.length<=24:=by omega
 have hok:=OE (L:=L) hb2 (y:=(g0,kk)) hg0
 suffices hh:T UB 4 (.loop (zC (zB Try.f57) 1)) (Ck (qJ L (Bv L bs.length (g0,kk) 0).2 bs (Bv L bs.length (g0,kk) 0).1 0 ((K:Int)-((0:Nat):Int)) 0 0 0 [] [] false)) (TK UB 4 (Fin UB Try.f57 4 [some (Ag L (Bv L bs.length (g0,kk) K).2),some (nJ bs (Bv L bs.length (g0,kk) K).1),some (bsB bs),some (gB (Bv L bs.length (g0,kk) K).1)] (.tup [])) (zK (zB Try.f57) 1)) by simpa [Bv] using hh
 refine T.loop (fun m:Nat=>Ck (qJ L (Bv L bs.length (g0,kk) m).2 bs (Bv L bs.length (g0,kk) m).1 0 ((K:Int)-(m:Int)) 0 0 0 [] [] false)) (fun m=>m<=K) (fun m=>K+1-m) 0 (TJ _) ?_;intro m hm;obtain⟨hg,hkm⟩:=hok m;simp only at hkm;by_cases h:m<K
 .have hit:Bv L bs.length (g0,kk) (m+1)=Hh L bs.length (Bv L bs.length (g0,kk) m):=rfl
  have next:∀st,Ren 4 st (Ck (qJ L (Hh L bs.length (Bv L bs.length (g0,kk) m)).2 bs (Hh L bs.length (Bv L bs.length (g0,kk) m)).1 0 ((K:Int)-((m+1:Nat):Int)) 0 0 0 [] [] false))->
    ∃j,Ren 4 st (Ck (qJ L (Bv L bs.length (g0,kk) j).2 bs (Bv L bs.length (g0,kk) j).1 0 ((K:Int)-(j:Int)) 0 0 0 [] [] false))/\j<=K/\K+1-j<K+1-m:=fun st hst=>⟨m+1,by rw[hit];exact hst,h,by omega⟩
  generalize Bv L bs.length (g0,kk) m=y at hg hkm next
  obtain⟨g,t⟩:=y;simp only at hg hkm next
  have ht:t<9223372036854775000:=by omega
  have n1:=A4 L t bs.length (by omega);have n2:=A4 L (t+1) bs.length (by omega);have n3:=A4 L (t+2) 3 (by omega);have r1:=A3 L t (bs.length:Int) (by omega) (by omega);have r2:=A3 L (t+1) (bs.length:Int) (by omega) (by omega);have hgl:=hg.len;have hj:=N8 (L:=L) hb2 (kk:=t);simp only[Hh] at next
  unfold jR at next hj
  unfold Hr at next
  generalize Ae L t (bs.length:Int)=x at n1 r1 next hj
  generalize Ae L (t+1) (bs.length:Int)=y at n2 r2 next hj
  generalize Ae L (t+2) 3=z at n3 next hj
  have hrow:(gL g)[0+x.toNat]?=some (.lst ((g.getD x.toNat []).map (AV.int .i64))):=by rw[TP];exact CX (by omega)
  have hrl:(g.getD x.toNat []).length<=4:=(hg.row x.toNat (by omega)).1;have hll:=BV (g.getD x.toNat []);have hgll:=BD g;have w2:i64.wrap (x+2)=x+2:=A6 _ (by omega) (by omega);have wk:i64.wrap ((K:Int)-(m:Int)-1)=(K:Int)-((m+1:Nat):Int):=by rw[A6 _ (by omega) (by omega)];omega
  have dk:decide (0<(K:Int)-(m:Int))=true:=TD (by omega);have d2:decide (2<iN bs.length)=true:=TD (by simp only[iN];omega);have hz0:iN bs.length=0->False:=by simp only[iN];omega
  have hxl:x<iN g.length:=by simp only[iN];omega
  have hst:(0+x.toNat).succ.le (gL g).length:=by show(0+x.toNat).succ<=_;rw[hgll];omega
  have fin:∀(E:Int) (b1:Bool),(0<=E/\E<(bs.length:Int))->Ay (g.getD x.toNat []) E=b1->CT UB 26 [] [UA (Uu (AV.int i64) (g.getD x.toNat [])),AV.int i64 E] [] (AV.bool b1):=fun E b1 _ he=>by rw[<-he];exact Fl _ _ (by omega)
  have eset:∀(E:Int) st,Ren 4 st (St.mk 98 [(0,AV.ptr 0 0 0),(1,AV.ptr 1 0 0),(4,AV.int i64 (iN bs.length)),(6,AV.int i64 ((K:Int)-((m+1:Nat):Int)))] [some (Ag L (t+2+1)),some (nJ bs g),some (bsB bs),some (Blk.mk ((gL g).set (0+x.toNat) (UA (Uu (AV.int i64) (BK E (g.getD x.toNat []))))) 1 true true none)])->
    Ren 4 st (Ck (qJ L (t+3) bs (g.set x.toNat (BK E (g.getD x.toNat []))) 0 ((K:Int)-((m+1:Nat):Int)) 0 0 0 [] [] false)):=fun E st h=>by
   have e1:nJ bs (g.set x.toNat (BK E (g.getD x.toNat [])))=nJ bs g:=by unfold nJ;rw[T6]
   rw[PL] at h;unfold Ck hJ;simp only[qJ];rw[e1];exact h
  by_cases hz:0<z
  .have eE:(x+2).tmod (bs.length:Int)=(i64.wrap (x+2)).tmod (iN bs.length):=by rw[w2]
   rw[Tv hz,eE] at hj;simp only[Tv hz,eE] at next
   by_cases hx:x=(i64.wrap (x+2)).tmod (iN bs.length)
   .rw[Tv hx] at next
    refine T.path mix (jsl_3 (qJ L t bs g 0 ((K:Int)-(m:Int)) x y z (g.getD x.toNat []) [] false) dk d2 n1 n2 n3 (TD hz) hz0 (by simp only[qJ];rw[bne_eq_false_iff_eq];exact hx) ?_);intro st hst;simp only[qJ,wk] at hst;exact next st hst
   .rw[Tw hx] at next
    have hxn:(x != (i64.wrap (x+2)).tmod (iN bs.length))=true:=by simpa using hx
    generalize hEE:(i64.wrap (x+2)).tmod (iN bs.length)=E at hj next
    have fE:=fin E _ hj rfl;rw[<-hEE] at fE;cases hh:Ay (g.getD x.toNat []) E with
    | true=>
     rw[Tv hh] at next
     rw[hEE,hh,<-hEE] at fE;refine T.path mix (jsl_2 (qJ L t bs g 0 ((K:Int)-(m:Int)) x y z (g.getD x.toNat []) [] true) dk d2 n1 n2 n3 (TD hz) hz0 hxn r1.1 hxl hrow fE rfl ?_);intro st hst;simp only[qJ,wk] at hst;exact next st hst
    | false=>
     rw[Tw (by rw[hh];simp)] at next
     rw[hEE,hh,<-hEE] at fE;by_cases hl4:(g.getD x.toNat []).length<4
     .rw[Tv hl4] at next
      have fI:=OY (g.getD x.toNat []) E (by omega);refine T.path mix (jsl_0 (qJ L t bs g 0 ((K:Int)-(m:Int)) x y z (g.getD x.toNat []) (BK E (g.getD x.toNat [])) false) dk d2 n1 n2 n3 (TD hz) hz0 hxn r1.1 hxl hrow fE rfl (TD (by simp only[qJ,iN,hll];omega)) (by simp only[qJ];rw[hEE];exact fI) hst ?_);intro st hst;simp only[qJ,wk] at hst;exact next st (eset E st hst)
     .rw[Tw hl4] at next
      refine T.path mix (jsl_1 (qJ L t bs g 0 ((K:Int)-(m:Int)) x y z (g.getD x.toNat []) [] false) dk d2 n1 n2 n3 (TD hz) hz0 hxn r1.1 hxl hrow fE rfl (TC (by simp only[qJ,iN,hll];omega)) ?_);intro st hst;simp only[qJ,wk] at hst;exact next st hst
  .rw[Tw hz] at hj;simp only[Tw hz] at next
   by_cases hx:x=y
   .rw[Tv hx] at next
    refine T.path mix (jsl_7 (qJ L t bs g 0 ((K:Int)-(m:Int)) x y z (g.getD x.toNat []) [] false) dk d2 n1 n2 n3 (TC hz) (by simp only[qJ];rw[bne_eq_false_iff_eq];exact hx) ?_);intro st hst;simp only[qJ,wk] at hst;exact next st hst
   .rw[Tw hx] at next
    have hxn:(x != y)=true:=by simpa using hx
    have fE:=fin y _ hj rfl;cases hh:Ay (g.getD x.toNat []) y with
    | true=>
     rw[Tv hh] at next
     rw[hh] at fE;refine T.path mix (jsl_6 (qJ L t bs g 0 ((K:Int)-(m:Int)) x y z (g.getD x.toNat []) [] true) dk d2 n1 n2 n3 (TC hz) hxn r1.1 hxl hrow fE rfl ?_);intro st hst;simp only[qJ,wk] at hst;exact next st hst
    | false=>
     rw[Tw (by rw[hh];simp)] at next
     rw[hh] at fE;by_cases hl4:(g.getD x.toNat []).length<4
     .rw[Tv hl4] at next
      have fI:=OY (g.getD x.toNat []) y (by omega);refine T.path mix (jsl_4 (qJ L t bs g 0 ((K:Int)-(m:Int)) x y z (g.getD x.toNat []) (BK y (g.getD x.toNat [])) false) dk d2 n1 n2 n3 (TC hz) hxn r1.1 hxl hrow fE rfl (TD (by simp only[qJ,iN,hll];omega)) fI hst ?_);intro st hst;simp only[qJ,wk] at hst;exact next st (eset y st hst)
     .rw[Tw hl4] at next
      refine T.path mix (jsl_5 (qJ L t bs g 0 ((K:Int)-(m:Int)) x y z (g.getD x.toNat []) [] false) dk d2 n1 n2 n3 (TC hz) hxn r1.1 hxl hrow fE rfl (TC (by simp only[qJ,iN,hll];omega)) ?_);intro st hst;simp only[qJ,wk] at hst;exact next st hst
 .obtain rfl:m=K:=by omega
  exact T.out mix (jsl_9 (qJ L (Bv L bs.length (g0,kk) m).2 bs (Bv L bs.length (g0,kk) m).1 0 ((m:Int)-(m:Int)) 0 0 0 [] [] false) (TC (by simp only[qJ];omega)))
def Be(L:List Int)(b kk:Nat):List (List Int)×Nat:=if b<=1 then (A7 b 0,kk+1) else if b=2 then (A7 b b,kk+1) else Bv L b (A7 b b,kk+1) (Ae L kk 4).toNat
def Rng(b:Nat)(g:List (List Int)):Prop:=1<b->∀i,i<b->(((i+1) % b:Nat):Int)∈g.getD i []
theorem addR_rng{b:Nat}{g:List (List Int)}(h:Rng b g)(x j:Int):Rng b (Hr x j g):=by
 unfold Hr;split
 .exact h
 split
 .exact h
 split
 .intro hb i hi;have:=h hb i hi;rw[Ty,Ur];split
  .rename_i e;subst e;split
   .exact Mi.2 (.inr this)
   .rename_i h2;rw[Ty,TX (by omega)] at this;cases this
  .rw[<-Ty];exact this
 .exact h
theorem NM{L:List Int}{b:Nat}{y:List (List Int)×Nat}(h:Rng b y.1):∀n,Rng b (Bv L b y n).1 | 0=>h | n+1=>addR_rng (NM h n) _ _
theorem P8(b:Nat):Rng b (A7 b b):=fun _ i hi=>by rw[Lk hi,Tv hi];exact Tm.2 rfl
theorem RY(L:List Int)(b kk:Nat):Rng b (Be L b kk).1:=by
 unfold Be;split
 .intro h;omega
 split
 .exact P8 b
 .exact NM (P8 b) _
theorem Oz{L:List Int}{b kk:Nat}(hb:1<=b/\b<=24):GI b 4 (Be L b kk).1/\kk<=(Be L b kk).2/\(Be L b kk).2<=kk+13:=by
 unfold Be;have hr:=A3 L kk 4 (by omega) (by omega);split
 .exact⟨Rk b,by simp only;omega,by simp only;omega⟩
 split
 .exact⟨L7 (by omega) b,by simp only;omega,by simp only;omega⟩
 .obtain⟨h1,h2⟩:=OE (L:=L) hb (y:=(A7 b b,kk+1)) (L7 (by omega) b) (Ae L kk 4).toNat;exact⟨h1,by rw[h2];simp only;omega,by rw[h2];simp only;omega⟩
theorem ring_ct{L:List Int}{bs:List AM}(hb:1<=bs.length/\bs.length<=24)(kk:Nat)(hkk:kk<=90000):
  CT UB 57 [some (Ag L kk),some (nJ bs (A7 bs.length 0)),some (bsB bs),some (gB (A7 bs.length 0))] [.ptr 0 0 0,.ptr 1 0 0]
   [some (Ag L (Be L bs.length kk).2),some (nJ bs (Be L bs.length kk).1),some (bsB bs),some (gB (Be L bs.length kk).1)] (.tup []):=by
 have hbd:Try.f57.body=some (zB Try.f57):=by kernel_rfl
 have n1:=A4 L kk 4 (by omega);have hr:=A3 L kk 4 (by omega) (by omega);have enJ:∀i,nJ bs (A7 bs.length i)=nJ bs (A7 bs.length 0):=fun i=>by unfold nJ;rw[Iq,Iq]
 refine CT.path mix Try.func57 hbd (nL rfl) (jri_0 (qJ L kk bs (A7 bs.length 0) 0 0 0 0 0 [] [] false) ?_);refine T.loop (fun i:Nat=>It (qJ L kk bs (A7 bs.length i) i 0 0 0 0 [] [] false)) (fun i=>i<=bs.length/\(0<i->2<=bs.length)) (fun i=>bs.length+1-i) 0 ⟨TJ _,fun h=>by omega⟩ ?_
 rintro i ⟨hi,hi2⟩
 have hgl:=BD (A7 bs.length i);have hrl:=Iq bs.length i;have leave:∀g,g=A7 bs.length i->(i=bs.length\/bs.length<=1)->T UB 4 (.loop (zC (zB Try.f57) 1)) (Ck (qJ L (kk+1) bs g 0 (Ae L kk 4) 0 0 0 [] [] false)) (TK UB 4 (Fin UB Try.f57 4 [some (Ag L (Be L bs.length kk).2),some (nJ bs (Be L bs.length kk).1),some (bsB bs),some (gB (Be L bs.length kk).1)] (.tup [])) (zK (zB Try.f57) 1)):=by
  intro g hg hor;by_cases h3:3<=bs.length
  .have hib:i=bs.length:=by omega
   have e:Be L bs.length kk=Bv L bs.length (A7 bs.length bs.length,kk+1) (Ae L kk 4).toNat:=by unfold Be;rw[Tw (by omega),Tw (by omega)]
   rw[e,hg,hib];have:=js_run (L:=L) (bs:=bs) ⟨h3,hb.2⟩ (kk+1) (by omega) (Ae L kk 4).toNat (by omega) (L7 (by omega) bs.length);rw[T0 hr.1] at this;exact this
  .have e:Be L bs.length kk=(g,kk+1):=by
    unfold Be;by_cases h1:bs.length<=1
    .rw[Tv h1,hg]
     have:i=0:=by by_cases h0:0<i
                  .have:=hi2 h0;omega
                  .omega
     rw[this]
    .rw[Tw h1,Tv (by omega),hg];have:i=bs.length:=by omega
     rw[this]
   rw[e];refine T.loop (fun _:Unit=>Ck (qJ L (kk+1) bs g 0 (Ae L kk 4) 0 0 0 [] [] false)) (fun _=>True) (fun _=>0) () trivial ?_;intro _ _;by_cases hk0:0<Ae L kk 4
   .exact T.out mix (jsl_8 (qJ L (kk+1) bs g 0 (Ae L kk 4) 0 0 0 [] [] false) (TD hk0) (TC (by simp only[qJ,iN];omega)))
   .exact T.out mix (jsl_9 (qJ L (kk+1) bs g 0 (Ae L kk 4) 0 0 0 [] [] false) (TC hk0))
 by_cases h:i<bs.length
 .by_cases h1:1<bs.length
  .refine T.path mix (jrl_0 (qJ L kk bs (A7 bs.length i) i 0 0 0 0 [] [] false) (TD (by simp only[qJ,iN];omega)) (TD (by simp only[qJ,iN];omega)) (by simp only[qJ,iN];omega) (by simp[iN]) (by simp only[qJ,iN,hrl];omega) (by show(0+(iN i).toNat).succ<=_;simp only[qJ,hgl,hrl,iN,TG];omega) ?_);intro st hst;have wi:i64.wrap (iN i+1)=((i+1:Nat):Int):=zW i (by omega);have em1:(((i+1:Nat):Int).tmod (iN bs.length))=(((i+1) % bs.length:Nat):Int):=by rw[Int.tmod_eq_emod_of_nonneg (by omega)];simp[iN]
   refine⟨i+1,?_,⟨h,fun _=>h1⟩,by omega⟩;simp only[qJ,wi,em1] at hst;have es:(gL (A7 bs.length i)).set (0+(iN i).toNat) (UA [iV (((i+1) % bs.length:Nat):Int)])=gL (A7 bs.length (i+1)):=by have:=PL (A7 bs.length i) i [(((i+1) % bs.length:Nat):Int)];rw[rng0_set h] at this;simpa [iN] using this
   rw[es] at hst;unfold It hJ;simp only[qJ];rw[enJ (i+1),<-enJ i];exact hst
  .refine T.out mix (jry_0 (qJ L kk bs (A7 bs.length i) i 0 (Ae L kk 4) 0 0 [] [] false) (TD (by simp only[qJ,iN];omega)) (TC (by simp only[qJ,iN];omega)) n1 ?_);exact leave _ rfl (.inr (by omega))
 .refine T.out mix (jrx_0 (qJ L kk bs (A7 bs.length i) i 0 (Ae L kk 4) 0 0 [] [] false) (TC (by simp only[qJ,iN];omega)) n1 ?_);exact leave _ rfl (.inl (by omega))
end Go.Proofs.Ytedjkebooffjpaa

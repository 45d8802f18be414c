/- Parts of the proof:Sj8. -/
import Derived.KernelRfl
import Derived.Test.YtedjkebooffjpaaSignalsActsM8
set_option linter.unusedVariables false
set_option linter.unusedSimpArgs false
open Go Go.AX Go.Proofs
set_option maxRecDepth 100000
set_option maxHeartbeats 1000000
set_option linter.unusedVariables false
set_option linter.unusedSimpArgs false
open Go.IntKind (i64 u64)
namespace Go.Proofs.Ytedjkebooffjpaa
theorem sac_run{n:Aa}(cl:List Bool)(bw pe ow:List Int)(qu g:List (List Int))(l:List Bool)(c d:Int)(ls:List Int)(hrw:Rows n.nx)(hl:g.length<=9223372036854775807)(hr:∀r∈g,r.length<=9223372036854775807):
  CT Try.prog 7 [] [Ad n,sgA ⟨cl,bw,pe⟩,lkA ⟨ow,qu⟩,.lst (gL g),.lst (boL l),.agg [.int .i64 c,.int .i64 d],lI ls] [] (.bool true):=by
 obtain⟨hlo,hlk,_⟩:=Pj (L:=ls) (kk:=0) (most:=6) (by decide) (by decide)
 obtain⟨hS,hmk,_⟩:=PJ (l:=ls) (kk:=AO ls 0 6) hlo.v hlo.rows (by omega)
 have hss:=hlo.v.ns
 refine sac_ct n cl bw pe ow qu g l c d ls ([],_) ?_
 have l1:∀(m:Nat) (i k:Nat) (v0:List (List Int)) (v1:List Bool) (L:Ao),v1.length=i+m->k+m<=1000000->v1.length<=100000->v0.length<=100->(∀r∈v0,r.length<=100)->
   Al (MA n cl bw pe ow qu g l c d ls) (some (.inl (.l1 v0 v1 (i:Int) k L))) ([],.bool true):=by
  intro m
  induction m with
  | zero=>
   intro i k v0 v1 L h1 h2 h3 h4 h5
   refine .to (show Ha n cl bw pe ow qu g l c d ls v0 v1 i k L=_ from ?_) (.ret _)
   unfold Ha
   rw[Af (Au (by simp only[iN];omega)),Ab (by omega),Ab (by omega),Ab hlo.rows,Ab (by omega),Ab (fun r hr=>by have:=h5 r hr;omega)]
  | succ m ih=>
   intro i k v0 v1 L h1 h2 h3 h4 h5
   refine .to (show Ha n cl bw pe ow qu g l c d ls v0 v1 i k L=_ from ?_) (ih (i+1) (k+1) v0 (v1.set (0+(i:Int).toNat) (Ag ls k 3==0)) L ?_ (by omega) ?_ h4 h5)
   .unfold Ha
    rw[Ah (AB (by simp only[iN];omega)),Ab (by omega),Ab (by omega),Ab (by simp only[iN];omega),Ab (show(0+(i:Int).toNat).succ.le (List.map AV.bool v1).length from by rw[Tn,Tv];show 0+i+1<=_;omega),zW i (by omega)]
   .rw[TV];omega
   .rw[TV];omega
 have l0:∀(j k:Nat) (L:Ao),j<=5->k+2 * j<=100000->Al (MA n cl bw pe ow qu g l c d ls) (some (.inl (.l0 (j:Int) k L))) ([],.bool true):=by
  intro j
  induction j with
  | zero=>
   intro k L _ hk
   refine .to (show E3 n cl bw pe ow qu g l c d ls 0 k L=_ from ?_) (l1 (AD ls 0 6).ss.length 0 (k+1+1) [[Ag ls k (iN (boL (mdS ls (AO ls 0 6) (AD ls 0 6)).cl).length),Ag ls (k+1) (iN (boL (mdS ls (AO ls 0 6) (AD ls 0 6)).cl).length)]] (List.replicate (List.map sA (AD ls 0 6).ss).length false) L (by rw[TG,Tn];omega) (by omega) (by rw[TG,Tn];omega) (show(1:Nat)<=100 by decide) (fun r hr=>by rw[Tb.1 hr];show(2:Nat)<=100;decide))
   unfold E3
   rw[Af (by rfl),Ab (by omega),Ab (by omega),Ab (by rw[Tn];simp only[iN];omega),Ab (by rw[Tn];simp only[iN];omega)];rfl
  | succ j ih=>
   intro k L hj hk
   have w1:i64.wrap (((j+1:Nat):Int)-1)=(j:Int):=by rw[NH (by omega) (by omega)];omega
   cases ho:owE L (Ag ls k 4) (Ag ls (k+1) (iN (boL (mdS ls (AO ls 0 6) (AD ls 0 6)).cl).length))==0 with
   | true=>
    refine .to (show E3 n cl bw pe ow qu g l c d ls _ k L=_ from ?_) (ih (k+1+1) (owJ L (Ag ls k 4) (Ag ls (k+1) (iN (boL (mdS ls (AO ls 0 6) (AD ls 0 6)).cl).length))) (by omega) (by omega))
    unfold E3
    rw[Ah (AB (by omega)),Ab (by omega),Ab (by omega),ho,Ah rfl,w1]
   | false=>
    refine .to (show E3 n cl bw pe ow qu g l c d ls _ k L=_ from ?_) (ih (k+1+1) L (by omega) (by omega))
    unfold E3
    rw[Ah (AB (by omega)),Ab (by omega),Ab (by omega),ho,Af rfl,w1]
 unfold LS
 have r5:=AP ls (mdK ls (AO ls 0 6) (AD ls 0 6)) 5 (by omega) (by omega)
 rw[Ab hrw,Ab hl,Ab hr,Ab hlo.v,Ab hlo.rows,Ab (by omega),Ab (by omega)]
 obtain⟨j,hj⟩:∃j:Nat,Ag ls (mdK ls (AO ls 0 6) (AD ls 0 6)) 5=(j:Int):=⟨_,(TN r5.1).symm⟩
 rw[hj]
 exact l0 j _ _ (by omega) (by omega)
theorem signalsActs_row(avs:List AV)(h:Fm Try.prog 6 Try.f7.params.toList avs):CT Try.prog 7 [] avs [] (.bool true):=by
 rw[Try.params7] at h
 obtain⟨a0,_,rfl,k0,h⟩:=h.consD
 obtain⟨a1,_,rfl,k1,h⟩:=h.consD
 obtain⟨a2,_,rfl,k2,h⟩:=h.consD
 obtain⟨a3,_,rfl,k3,h⟩:=h.consD
 obtain⟨a4,_,rfl,k4,h⟩:=h.consD
 obtain⟨a5,_,rfl,k5,h⟩:=h.consD
 obtain⟨a6,_,rfl,k6,h⟩:=h.consD
 obtain rfl:=h.nilD
 obtain⟨n,rfl,hrw⟩:=rdNet33 k0
 obtain⟨⟨cl,bw,pe⟩,rfl⟩:=rdSig37 k1
 obtain⟨⟨ow,qu⟩,rfl⟩:=rdLok44 k2
 obtain⟨es,hm,h3,rfl⟩:=k3.sliceD Try.underlying28
 obtain⟨g,rfl,hg⟩:=Md h3
 obtain⟨_,_,h4,rfl⟩:=k4.sliceD Try.underlying35
 obtain⟨l,rfl⟩:=N3 h4
 obtain⟨_,h5,rfl⟩:=k5.arrayD Try.underlying66
 obtain⟨_,_,rfl,g0,h5⟩:=h5.consD
 obtain⟨_,_,rfl,g1,h5⟩:=h5.consD
 obtain rfl:=h5.nilD
 obtain⟨c,_,rfl⟩:=g0.intD Try.underlying3
 obtain⟨d,_,rfl⟩:=g1.intD Try.underlying3
 obtain⟨_,_,h6,rfl⟩:=k6.sliceD Try.underlying22
 obtain⟨ls,rfl⟩:=Ho h6
 rw[Bt] at hm
 refine sac_run cl bw pe ow qu g l c d ls hrw (by simpa [maxLen] using hm) fun r hr=>?_
 obtain⟨i,hi,rfl⟩:=TZ.1 hr
 have:=hg i hi
 rwa [Tl,Tk hi] at this
end Go.Proofs.Ytedjkebooffjpaa

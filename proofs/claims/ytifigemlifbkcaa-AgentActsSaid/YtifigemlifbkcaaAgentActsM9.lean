/- Parts of the proof:Ag7m,AgR,AgS,AgU,AgV. -/
import Derived.Test.YtifigemlifbkcaaProg
import Derived.KernelRfl
import Derived.Test.YtifigemlifbkcaaAgentActsM8
set_option linter.unusedVariables false
set_option linter.unusedSimpArgs false
open Go Go.AX Go.Proofs
set_option maxRecDepth 100000
set_option maxHeartbeats 4000000
set_option linter.unusedVariables false
set_option linter.unusedSimpArgs false
namespace Go.Proofs.Ytifigemlifbkcaa
end Go.Proofs.Ytifigemlifbkcaa
namespace Go.Proofs.Ytifigemlifbkcaa
theorem rdInts{n:Nat}{es:List AV}(h:∀x∈es,ShV Try.prog n 3 x):∃L:List Int,es=L.map (AV.int .i64):=by
 induction es with
 | nil=>exact⟨[],rfl⟩
 | cons x es ih=>
  obtain⟨L,rfl⟩:=ih fun y hy=>h y (List.mem_cons_of_mem _ hy)
  obtain⟨i,_,rfl⟩:=(h x (by simp)).intD Try.underlying3
  exact⟨i::L,rfl⟩
theorem agS(a:AgD):(!(a.l==a.l&&(a.t==a.t&&(a.s==a.s&&(a.r==a.r&&(a.c==a.c&&true))))))=false:=by simp
theorem bdS(a:BdD):(!(a.c==a.c&&(a.t==a.t&&(a.s==a.s&&(a.f==a.f&&true)))))=false:=by simp
theorem deS(l:List FrD):(!decide (l=l))=false:=by simp
theorem agaO_len(x:AgD)(q:Int)(y:BdD):(agaO x q y).length≤1000000:=by
 unfold agaO
 cases x.r==0<;>cases y.f<;>exact Nat.le_of_ble_eq_true rfl
theorem driO_len(n:NetD)(x:AgD)(q:Int)(y:BdD):(driO n x q y).l.length≤1000000:=by
 unfold driO
 cases y.c == -1<;>cases y.f<;>cases y.t == -1<;>cases (!y.s&&(!(x.t == -1)&&folB n y.c x.t))<;>exact Nat.le_of_ble_eq_true rfl
theorem finO_len(x:AgD)(q:Int)(y:BdD):(finO x q y).l.length≤1000000:=by
 unfold finO
 cases y.c == -1<;>cases y.s&&!y.f<;>exact Nat.le_of_ble_eq_true rfl
theorem heO_len1(a:AgD)(q:Int)(f:FrD):(heO a q f).l.length≤1000000:=by
 unfold heO
 cases frV f&&f.r==q with
 | false=>exact Nat.zero_le _
 | true=>
  show(heaO a f).l.length≤1000000
  unfold heaO
  cases f.k==1 with
  | true=>exact Nat.le_of_ble_eq_true rfl
  | false=>cases f.k==3&&(!(a.r==0)&&(f.q==a.l&&f.f==a.r))<;>exact Nat.zero_le _
theorem acts_leaf{α:Type}{n:NetD}{x:AgD}{y:BdD}{z:FrD}{q:Int}(hrw:Rows n.nx)(hz:0≤z.q){K F:Option α}:
  (gu (0≤z.q) <|
 br (!((heO x q z).a.l==(heO x q z).a.l&&((heO x q z).a.t==(heO x q z).a.t&&((heO x q z).a.s==(heO x q z).a.s&&((heO x q z).a.r==(heO x q z).a.r&&((heO x q z).a.c==(heO x q z).a.c&&true))))))
 F
 (gu ((heO x q z).l.length≤1000000) <|
  br (!decide ((heO x q z).l=(heO x q z).l))
  F
  (gu ((agaO x q y).length≤1000000) <|
   br (!decide (agaO x q y=agaO x q y))
   F
   (gu (Rows n.nx) <|
    br (!((driO n x q y).a.l==(driO n x q y).a.l&&((driO n x q y).a.t==(driO n x q y).a.t&&((driO n x q y).a.s==(driO n x q y).a.s&&((driO n x q y).a.r==(driO n x q y).a.r&&((driO n x q y).a.c==(driO n x q y).a.c&&true))))))
    F
    (br (!((driO n x q y).b.c==(driO n x q y).b.c&&((driO n x q y).b.t==(driO n x q y).b.t&&((driO n x q y).b.s==(driO n x q y).b.s&&((driO n x q y).b.f==(driO n x q y).b.f&&true)))))
     F
     (gu ((driO n x q y).l.length≤1000000) <|
      br (!decide ((driO n x q y).l=(driO n x q y).l))
      F
      (br (!((finO x q y).a.l==(finO x q y).a.l&&((finO x q y).a.t==(finO x q y).a.t&&((finO x q y).a.s==(finO x q y).a.s&&((finO x q y).a.r==(finO x q y).a.r&&((finO x q y).a.c==(finO x q y).a.c&&true))))))
       F
       (br (!((finO x q y).b.c==(finO x q y).b.c&&((finO x q y).b.t==(finO x q y).b.t&&((finO x q y).b.s==(finO x q y).b.s&&((finO x q y).b.f==(finO x q y).b.f&&true)))))
        F
        (gu ((finO x q y).l.length≤1000000) <|
         br (!decide ((finO x q y).l=(finO x q y).l))
         F
         K)))))))))=K:=by
 rw[gu_t hz,br_f (agS _),gu_t (heO_len1 _ _ _),br_f (deS _),gu_t (agaO_len _ _ _),br_f (deS _),gu_t hrw,br_f (agS _),br_f (bdS _),gu_t (driO_len _ _ _ _),br_f (deS _),br_f (agS _),br_f (bdS _),gu_t (finO_len _ _ _),br_f (deS _)]
theorem acts_leaf2{α:Type}{n:NetD}{x:AgD}{y:BdD}{z:FrD}{q:Int}(hz:0≤z.q){K F:Option α}:
  (gu (0≤z.q) <|
 br (!((heO x q z).a.l==(heO x q z).a.l&&((heO x q z).a.t==(heO x q z).a.t&&((heO x q z).a.s==(heO x q z).a.s&&((heO x q z).a.r==(heO x q z).a.r&&((heO x q z).a.c==(heO x q z).a.c&&true))))))
 F
 (gu ((heO x q z).l.length≤1000000) <|
  br (!decide ((heO x q z).l=(heO x q z).l))
  F
  (gu ((agaO x q y).length≤1000000) <|
   br (!decide (agaO x q y=agaO x q y))
   F
   (
    br (!((driO n x q y).a.l==(driO n x q y).a.l&&((driO n x q y).a.t==(driO n x q y).a.t&&((driO n x q y).a.s==(driO n x q y).a.s&&((driO n x q y).a.r==(driO n x q y).a.r&&((driO n x q y).a.c==(driO n x q y).a.c&&true))))))
    F
    (br (!((driO n x q y).b.c==(driO n x q y).b.c&&((driO n x q y).b.t==(driO n x q y).b.t&&((driO n x q y).b.s==(driO n x q y).b.s&&((driO n x q y).b.f==(driO n x q y).b.f&&true)))))
     F
     (gu ((driO n x q y).l.length≤1000000) <|
      br (!decide ((driO n x q y).l=(driO n x q y).l))
      F
      (br (!((finO x q y).a.l==(finO x q y).a.l&&((finO x q y).a.t==(finO x q y).a.t&&((finO x q y).a.s==(finO x q y).a.s&&((finO x q y).a.r==(finO x q y).a.r&&((finO x q y).a.c==(finO x q y).a.c&&true))))))
       F
       (br (!((finO x q y).b.c==(finO x q y).b.c&&((finO x q y).b.t==(finO x q y).b.t&&((finO x q y).b.s==(finO x q y).b.s&&((finO x q y).b.f==(finO x q y).b.f&&true)))))
        F
        (gu ((finO x q y).l.length≤1000000) <|
         br (!decide ((finO x q y).l=(finO x q y).l))
         F
         K)))))))))=K:=by
 rw[gu_t hz,br_f (agS _),gu_t (heO_len1 _ _ _),br_f (deS _),gu_t (agaO_len _ _ _),br_f (deS _),br_f (agS _),br_f (bdS _),gu_t (driO_len _ _ _ _),br_f (deS _),br_f (agS _),br_f (bdS _),gu_t (finO_len _ _ _),br_f (deS _)]
theorem acts_s1(n:NetD)(x:AgD)(y:BdD)(z:FrD)(q:Int)(ls:List Int):∃a b c,actsS1 n x y z q ls=some (.inl (.l2 a b c)):=by
 obtain⟨hl,hk,_⟩:=loo_spec (L:=ls) (kk:=0) (most:=6) (by omega) (by omega)
 obtain⟨hk1,_⟩:=mdd_spec (L:=ls) (kk:=looK ls 0 6) (c:=iN (celN (looM ls 0 6))) (by omega)
 obtain⟨hz,hk2,_⟩:=frm_spec (L:=ls) (kk:=mddK ls (looK ls 0 6) (iN (celN (looM ls 0 6)))) (by omega)
 have hxl:=nxO_len hl.rows (mddM ls (looK ls 0 6) (iN (celN (looM ls 0 6)))).b.c
 unfold actsS1
 rw[gu_t hl.v,gu_t (by omega),gu_t (by omega),gu_t (by omega)]
 generalize mddK ls (looK ls 0 6) (iN (celN (looM ls 0 6)))=k1 at hk1 hz hk2 ⊢
 generalize mddM ls (looK ls 0 6) (iN (celN (looM ls 0 6)))=M at hxl ⊢
 generalize frmK ls k1=k2 at hk2 ⊢
 generalize frmM ls k1=F at hz ⊢
 generalize looM ls 0 6=N at hl hxl ⊢
 cases nextZ ls k2 4==0 with
 | true=>
  rw[br_t rfl,gu_t (by omega),gu_t hl.rows]
  cases ckE N M.b.c==0 with
  | false=>rw[br_f rfl,acts_leaf2 hz];exact⟨_,_,_,rfl⟩
  | true=>
   rw[br_t rfl]
   by_cases hp:0<(nxO N M.b.c).length
   ·have e:iN (List.map (AV.int .i64) (nxO N M.b.c)).length=((nxO N M.b.c).length:Int):=by simp[iN]
    rw[e,br_t (dec_t (by omega)),gu_t (by omega)]
    cases nextZ ls (k2+1+1) 2==0 with
    | false=>rw[br_f rfl,acts_leaf2 hz];exact⟨_,_,_,rfl⟩
    | true=>
     have hr:=nextZ_rng ls (k2+1+1+1) ((nxO N M.b.c).length:Int) (by omega) (by omega)
     rw[br_t rfl,gu_t (by omega),gu_t hr.1,el_t (getE 0 (by omega)),acts_leaf2 hz];exact⟨_,_,_,rfl⟩
   ·rw[br_f (dec_f (by simp only[iN,List.length_map];omega)),acts_leaf2 hz];exact⟨_,_,_,rfl⟩
 | false=>
  rw[br_f rfl,gu_t hl.rows]
  cases ckE N M.b.c==0 with
  | false=>rw[br_f rfl,acts_leaf2 hz];exact⟨_,_,_,rfl⟩
  | true=>
   rw[br_t rfl]
   by_cases hp:0<(nxO N M.b.c).length
   ·have e:iN (List.map (AV.int .i64) (nxO N M.b.c)).length=((nxO N M.b.c).length:Int):=by simp[iN]
    rw[e,br_t (dec_t (by omega)),gu_t (by omega)]
    cases nextZ ls (k2+1) 2==0 with
    | false=>rw[br_f rfl,acts_leaf2 hz];exact⟨_,_,_,rfl⟩
    | true=>
     have hr:=nextZ_rng ls (k2+1+1) ((nxO N M.b.c).length:Int) (by omega) (by omega)
     rw[br_t rfl,gu_t (by omega),gu_t hr.1,el_t (getE 0 (by omega)),acts_leaf2 hz];exact⟨_,_,_,rfl⟩
   ·rw[br_f (dec_f (by simp only[iN,List.length_map];omega)),acts_leaf2 hz];exact⟨_,_,_,rfl⟩
theorem acts_run(n:NetD)(x:AgD)(y:BdD)(z:FrD)(q:Int)(ls:List Int)(hrw:Rows n.nx)(hz:0≤z.q):CT Try.prog 4 [] [netA n,agA x,bdA y,frA z,.int .i64 q,lI ls] [] (.bool true):=by
 refine acts_ct n x y z q ls ([],_) ?_
 unfold actsEn
 refine .to (show actsS0 n x y z q ls=some (.inl .l1) from ?_) ?_
 ·unfold actsS0
  exact acts_leaf hrw hz
 ·obtain⟨a,b,c,e⟩:=acts_s1 n x y z q ls
  exact .to (show actsS1 n x y z q ls=_ from e) (.to (show actsS2 n x y z q ls a b c=_ from rfl) (.ret _))
theorem rdRows28{n:Nat}{es:List AV}(h:∀x∈es,ShV Try.prog (n+1) 22 x):∃g:List (List Int),es=gL g∧Rows g:=by
 have key:∃g:List (List Int),es=gL g∧∀r∈g,r.length≤9223372036854775807:=by
  induction es with
  | nil=>exact⟨[],rfl,fun r hr=>by cases hr⟩
  | cons x es ih=>
   obtain⟨g,rfl,hg⟩:=ih fun y hy=>h y (List.mem_cons_of_mem _ hy)
   obtain⟨ls,hm,hl,rfl⟩:=(h x (by simp)).sliceD Try.underlying22
   obtain⟨L,rfl⟩:=rdInts hl
   refine⟨L::g,rfl,fun r hr=>?_⟩
   rcases List.mem_cons.1 hr with rfl | hr
   ·simpa [maxLen] using hm
   ·exact hg r hr
 obtain⟨g,e,hg⟩:=key
 refine⟨g,e,fun v hv=>?_⟩
 rw[List.getD_eq_getElem?_getD,List.getElem?_eq_getElem hv]
 exact hg _ (List.getElem_mem hv)
theorem rdSpuD84{n:Nat}{a:AV}(h:ShV Try.prog (n+1) 84 a):∃x:SpuD,a=sA x:=by
 obtain⟨_,hs,rfl⟩:=h.structD Try.underlying84
 obtain⟨_,_,rfl,g0,hs⟩:=hs.consD
 obtain⟨_,_,rfl,g1,hs⟩:=hs.consD
 obtain⟨_,_,rfl,g2,hs⟩:=hs.consD
 obtain⟨_,_,rfl,g3,hs⟩:=hs.consD
 obtain⟨_,_,rfl,g4,hs⟩:=hs.consD
 obtain⟨_,_,rfl,g5,hs⟩:=hs.consD
 obtain rfl:=hs.nilD
 obtain⟨x0,_,rfl⟩:=g0.strD Try.underlying9
 obtain⟨x1,rfl⟩:=g1.boolD Try.underlying4
 obtain⟨x2,_,rfl⟩:=g2.intD Try.underlying3
 obtain⟨x3,_,rfl⟩:=g3.intD Try.underlying3
 obtain⟨x4,_,rfl⟩:=g4.intD Try.underlying3
 obtain⟨x5,_,rfl⟩:=g5.intD Try.underlying3
 exact⟨⟨x0,x1,x2,x3,x4,x5⟩,rfl⟩
theorem rdSpuDs84{n:Nat}{es:List AV}(h:∀x∈es,ShV Try.prog (n+1) 84 x):∃L:List SpuD,es=L.map sA:=by
 induction es with
 | nil=>exact⟨[],rfl⟩
 | cons x es ih=>
  obtain⟨L,rfl⟩:=ih fun y hy=>h y (List.mem_cons_of_mem _ hy)
  obtain⟨f,rfl⟩:=rdSpuD84 (h x (by simp))
  exact⟨f::L,rfl⟩
theorem rdBlkD111{n:Nat}{a:AV}(h:ShV Try.prog (n+1) 111 a):∃x:BlkD,a=bA x:=by
 obtain⟨_,hs,rfl⟩:=h.structD Try.underlying111
 obtain⟨_,_,rfl,g0,hs⟩:=hs.consD
 obtain⟨_,_,rfl,g1,hs⟩:=hs.consD
 obtain⟨_,_,rfl,g2,hs⟩:=hs.consD
 obtain rfl:=hs.nilD
 obtain⟨x0,_,rfl⟩:=g0.strD Try.underlying9
 obtain⟨x1,_,rfl⟩:=g1.intD Try.underlying3
 obtain⟨x2,_,rfl⟩:=g2.intD Try.underlying3
 exact⟨⟨x0,x1,x2⟩,rfl⟩
theorem rdBlkDs111{n:Nat}{es:List AV}(h:∀x∈es,ShV Try.prog (n+1) 111 x):∃L:List BlkD,es=L.map bA:=by
 induction es with
 | nil=>exact⟨[],rfl⟩
 | cons x es ih=>
  obtain⟨L,rfl⟩:=ih fun y hy=>h y (List.mem_cons_of_mem _ hy)
  obtain⟨f,rfl⟩:=rdBlkD111 (h x (by simp))
  exact⟨f::L,rfl⟩
theorem rdNet33{n:Nat}{a:AV}(h:ShV Try.prog (n+4) 33 a):∃x:NetD,a=netA x∧Rows x.nx:=by
 obtain⟨_,hs,rfl⟩:=h.structD Try.underlying33
 obtain⟨_,_,rfl,g0,hs⟩:=hs.consD
 obtain⟨_,_,rfl,g1,hs⟩:=hs.consD
 obtain⟨_,_,rfl,g2,hs⟩:=hs.consD
 obtain⟨_,_,rfl,g3,hs⟩:=hs.consD
 obtain⟨_,_,rfl,g4,hs⟩:=hs.consD
 obtain rfl:=hs.nilD
 obtain⟨_,_,h0,rfl⟩:=g0.sliceD Try.underlying27
 obtain⟨bs,rfl⟩:=rdBlkDs111 h0
 obtain⟨_,_,h1,rfl⟩:=g1.sliceD Try.underlying28
 obtain⟨nx,rfl,hnx⟩:=rdRows28 h1
 obtain⟨_,_,h2,rfl⟩:=g2.sliceD Try.underlying29
 obtain⟨ss,rfl⟩:=rdSpuDs84 h2
 obtain⟨_,_,h3,rfl⟩:=g3.sliceD Try.underlying22
 obtain⟨rs,rfl⟩:=rdInts h3
 obtain⟨_,h4,rfl⟩:=g4.structD Try.underlying31
 obtain⟨_,_,rfl,k0,h4⟩:=h4.consD
 obtain⟨_,_,rfl,k1,h4⟩:=h4.consD
 obtain⟨_,_,rfl,k2,h4⟩:=h4.consD
 obtain⟨_,_,rfl,k3,h4⟩:=h4.consD
 obtain rfl:=h4.nilD
 obtain⟨q,_,rfl⟩:=k0.intD Try.underlying3
 obtain⟨a,_,rfl⟩:=k1.intD Try.underlying3
 obtain⟨d,_,rfl⟩:=k2.intD Try.underlying3
 obtain⟨p,_,rfl⟩:=k3.intD Try.underlying3
 exact⟨⟨bs,nx,ss,rs,q,a,d,p⟩,rfl,hnx⟩
theorem rdAgD37{n:Nat}{a:AV}(h:ShV Try.prog (n+1) 37 a):∃x:AgD,a=agA x:=by
 obtain⟨_,hs,rfl⟩:=h.structD Try.underlying37
 obtain⟨_,_,rfl,g0,hs⟩:=hs.consD
 obtain⟨_,_,rfl,g1,hs⟩:=hs.consD
 obtain⟨_,_,rfl,g2,hs⟩:=hs.consD
 obtain⟨_,_,rfl,g3,hs⟩:=hs.consD
 obtain⟨_,_,rfl,g4,hs⟩:=hs.consD
 obtain rfl:=hs.nilD
 obtain⟨x0,_,rfl⟩:=g0.intD Try.underlying35
 obtain⟨x1,_,rfl⟩:=g1.intD Try.underlying3
 obtain⟨x2,rfl⟩:=g2.boolD Try.underlying4
 obtain⟨x3,_,rfl⟩:=g3.intD Try.underlying3
 obtain⟨x4,_,rfl⟩:=g4.intD Try.underlying3
 exact⟨⟨x0,x1,x2,x3,x4⟩,rfl⟩
theorem rdBdD40{n:Nat}{a:AV}(h:ShV Try.prog (n+1) 40 a):∃x:BdD,a=bdA x:=by
 obtain⟨_,hs,rfl⟩:=h.structD Try.underlying40
 obtain⟨_,_,rfl,g0,hs⟩:=hs.consD
 obtain⟨_,_,rfl,g1,hs⟩:=hs.consD
 obtain⟨_,_,rfl,g2,hs⟩:=hs.consD
 obtain⟨_,_,rfl,g3,hs⟩:=hs.consD
 obtain rfl:=hs.nilD
 obtain⟨x0,_,rfl⟩:=g0.intD Try.underlying3
 obtain⟨x1,_,rfl⟩:=g1.intD Try.underlying3
 obtain⟨x2,rfl⟩:=g2.boolD Try.underlying4
 obtain⟨x3,rfl⟩:=g3.boolD Try.underlying4
 exact⟨⟨x0,x1,x2,x3⟩,rfl⟩
theorem rdFrD44{n:Nat}{a:AV}(h:ShV Try.prog (n+1) 44 a):∃x:FrD,a=frA x∧0≤x.q:=by
 obtain⟨_,hs,rfl⟩:=h.structD Try.underlying44
 obtain⟨_,_,rfl,g0,hs⟩:=hs.consD
 obtain⟨_,_,rfl,g1,hs⟩:=hs.consD
 obtain⟨_,_,rfl,g2,hs⟩:=hs.consD
 obtain⟨_,_,rfl,g3,hs⟩:=hs.consD
 obtain⟨_,_,rfl,g4,hs⟩:=hs.consD
 obtain rfl:=hs.nilD
 obtain⟨x0,_,rfl⟩:=g0.intD Try.underlying3
 obtain⟨x1,_,rfl⟩:=g1.intD Try.underlying3
 obtain⟨x2,hq,rfl⟩:=g2.intD Try.underlying35
 obtain⟨x3,_,rfl⟩:=g3.intD Try.underlying3
 obtain⟨x4,_,rfl⟩:=g4.intD Try.underlying3
 exact⟨⟨x0,x1,x2,x3,x4⟩,rfl,(show(0:Int)≤x2 from by simp[Lit.wf,IntKind.min,IntKind.signed] at hq;omega)⟩
theorem agentActs_row(avs:List AV)(h:ShVs Try.prog 6 Try.f4.params.toList avs):CT Try.prog 4 [] avs [] (.bool true):=by
 rw[Try.params4] at h
 obtain⟨a,_,rfl,ka,h⟩:=h.consD
 obtain⟨b,_,rfl,kb,h⟩:=h.consD
 obtain⟨c,_,rfl,kc,h⟩:=h.consD
 obtain⟨d,_,rfl,kd,h⟩:=h.consD
 obtain⟨e,_,rfl,ke,h⟩:=h.consD
 obtain⟨f,_,rfl,kf,h⟩:=h.consD
 obtain rfl:=h.nilD
 obtain⟨n,rfl,hrw⟩:=rdNet33 ka
 obtain⟨x,rfl⟩:=rdAgD37 kb
 obtain⟨y,rfl⟩:=rdBdD40 kc
 obtain⟨z,rfl,hz⟩:=rdFrD44 kd
 obtain⟨q,_,rfl⟩:=ke.intD Try.underlying3
 obtain⟨_,_,he,rfl⟩:=kf.sliceD Try.underlying22
 obtain⟨l,rfl⟩:=rdInts he
 exact acts_run n x y z q l hrw hz
end Go.Proofs.Ytifigemlifbkcaa

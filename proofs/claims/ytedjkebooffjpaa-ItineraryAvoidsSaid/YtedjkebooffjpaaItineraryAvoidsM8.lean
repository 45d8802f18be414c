/- Parts of the proof:It12m,It13m,ItO,ItQ,ItR,SpC,SgN,Sg7m,SgO,Sg8m,SgQ,Sg9m,SgR,Sgam,SgS,SgT,Sgbm,SgU,Sgcm,SgV,RqD,SgW,Sgdm,SgX,Sh1,Si0,It14m,Si1,Ac4,M29m,M29h,Fo1m,Fo2,Av0,Av1,Av2m,Av3. -/
import Derived.Test.YtedjkebooffjpaaProg
import Derived.KernelRfl
import Derived.Test.YtedjkebooffjpaaItineraryAvoidsM7
noncomputable section
set_option linter.unusedVariables false
set_option linter.unusedSimpArgs false
open Go Go.AX Go.Proofs
set_option maxRecDepth 100000
set_option maxHeartbeats 4000000
set_option linter.unusedVariables false
set_option linter.unusedSimpArgs false
open Go.IntKind (i64 u64)
open List renaming map->Tt,drop->Tv,take->Tw
open Int renaming toNat->Ty
open Go.AX.AV renaming lst->Tz
open Go.Proofs.Try renaming prog->TA
namespace Go.Proofs.Ytedjkebooffjpaa
def leTSt(n:Ac)(q:Af)(c d:Int):Empty->St
 | x=>x.elim
def leTHd:Empty->Nat
 | x=>x.elim
def JW(n:Ac)(q:Af)(c d:Int):Option (Empty⊕Ret):=
 gu (Rows n.nx) <|
 br (shE n q != 0)
 (some (.inr ([],AV.tup [AV.nils,bV false,iV (shE n q)])))
 (br (decide (c<0))
  (some (.inr ([],AV.tup [AV.nils,bV false,iV 19])))
  (br (decide (iN (boL (shO n q)).length<=c))
   (some (.inr ([],AV.tup [AV.nils,bV false,iV 19])))
   (br (decide (d<0))
    (some (.inr ([],AV.tup [AV.nils,bV false,iV 19])))
    (br (decide (iN (Tt sA n.ss).length<=d))
     (some (.inr ([],AV.tup [AV.nils,bV false,iV 19])))
     (gu (0<=d) <|
      el (n.ss) (d.toNat) fun(x54:Av)=>
      br (plO n c==d)
      (gu (0<=pjO n c/\pjO n c<=1000) <|
       gu (0<=x54.b/\x54.b<=1000) <|
       gu (x54.k<=1000) <|
       gu ((Ae x54 (pjO n c)).length<=1000000) <|
       gu (∀(c_1:Int),c_1∈Ae x54 (pjO n c)->0<=c_1/\c_1<iN q.cl.length) <|
       br (Bh q.cl (Ae x54 (pjO n c)))
       (some (.inr ([some (bK (Tt iV (Ae x54 (pjO n c))) 1)],AV.tup [AV.sl 0 0 (Ae x54 (pjO n c)).length,bV true,iV 0])))
       (none))
      (br (decide (0<=plO n c))
       (gu (0<=plO n c) <|
        el (n.ss) ((plO n c).toNat) fun(x81:Av)=>
        el (n.ss) ((plO n c).toNat) fun(x87:Av)=>
        gu (0<=pjO n c/\pjO n c<=1000) <|
        gu (0<=x87.b/\x87.b<=1000) <|
        gu (x87.k<=1000) <|
        gu ((Tt iV (Ae x87 (pjO n c))).length+[iV x81.o].length<=9223372036854775807) <|
        gu (((Tt iV (Ae x87 (pjO n c))).length+[iV x81.o].length) * 8<=140737488355328) <|
        gu (n.bs.length<=1000/\n.bs.length<=(shO n q).length/\n.bs.length<=q.cl.length) <|
        br (iN (Tt iV (Ad n.nx (shG n.bs.length (shO n q) q.cl x81.o x54.i) x81.o x54.i).fst).length==0)
        (gu (n.bs.length<=1000/\n.bs.length<=q.cl.length) <|
         br (iN (Tt iV (Ad n.nx (shW n.bs.length q.cl x81.o) x81.o x54.i).fst).length==0)
         (some (.inr ([],AV.tup [AV.nils,bV false,iV 0])))
         (gu (∀(e:AV),e∈Tt iV (Ad n.nx (shW n.bs.length q.cl x81.o) x81.o x54.i).fst->e.cells.length=1) <|
          gu (1<=iN (Tt iV (Ad n.nx (shW n.bs.length q.cl x81.o) x81.o x54.i).fst).length) <|
          gu (0<=x54.b/\x54.b<=1000) <|
          gu (x54.k<=1000) <|
          gu ((Ae x87 (pjO n c)++[x81.o]++Tw ((Tt iV (Ad n.nx (shW n.bs.length q.cl x81.o) x81.o x54.i).fst).length-Ty 1) (Tv (Ty 1) (Ad n.nx (shW n.bs.length q.cl x81.o) x81.o x54.i).fst)++Ae x54 0).length<=1000000) <|
          gu (∀(blk:Blk),blk∈[bK [AV.any,AV.any,AV.any] 1,bK (Tt iV (Ae x87 (pjO n c)++[x81.o]++Tw ((Tt iV (Ad n.nx (shW n.bs.length q.cl x81.o) x81.o x54.i).fst).length-Ty 1) (Tv (Ty 1) (Ad n.nx (shW n.bs.length q.cl x81.o) x81.o x54.i).fst)++Ae x54 0)) 1]->BS blk) <|
          gu (∀(c_1:Int),c_1∈Ae x87 (pjO n c)++[x81.o]++Tw ((Tt iV (Ad n.nx (shW n.bs.length q.cl x81.o) x81.o x54.i).fst).length-Ty 1) (Tv (Ty 1) (Ad n.nx (shW n.bs.length q.cl x81.o) x81.o x54.i).fst)++Ae x54 0->0<=c_1/\c_1<iN q.cl.length) <|
          br (Bh q.cl (Ae x87 (pjO n c)++[x81.o]++Tw ((Tt iV (Ad n.nx (shW n.bs.length q.cl x81.o) x81.o x54.i).fst).length-Ty 1) (Tv (Ty 1) (Ad n.nx (shW n.bs.length q.cl x81.o) x81.o x54.i).fst)++Ae x54 0))
          (some (.inr ([some (bK (Tt iV (Ae x87 (pjO n c)++[x81.o]++Tw ((Tt iV (Ad n.nx (shW n.bs.length q.cl x81.o) x81.o x54.i).fst).length-Ty 1) (Tv (Ty 1) (Ad n.nx (shW n.bs.length q.cl x81.o) x81.o x54.i).fst)++Ae x54 0)) 1)],AV.tup [AV.sl 0 0 (Ae x87 (pjO n c)++[x81.o]++Tw ((Tt iV (Ad n.nx (shW n.bs.length q.cl x81.o) x81.o x54.i).fst).length-Ty 1) (Tv (Ty 1) (Ad n.nx (shW n.bs.length q.cl x81.o) x81.o x54.i).fst)++Ae x54 0).length,bV true,iV 0])))
          (none)))
        (gu (∀(e:AV),e∈Tt iV (Ad n.nx (shG n.bs.length (shO n q) q.cl x81.o x54.i) x81.o x54.i).fst->e.cells.length=1) <|
         gu (1<=iN (Tt iV (Ad n.nx (shG n.bs.length (shO n q) q.cl x81.o x54.i) x81.o x54.i).fst).length) <|
         gu (0<=x54.b/\x54.b<=1000) <|
         gu (x54.k<=1000) <|
         gu ((Ae x87 (pjO n c)++[x81.o]++Tw ((Tt iV (Ad n.nx (shG n.bs.length (shO n q) q.cl x81.o x54.i) x81.o x54.i).fst).length-Ty 1) (Tv (Ty 1) (Ad n.nx (shG n.bs.length (shO n q) q.cl x81.o x54.i) x81.o x54.i).fst)++Ae x54 0).length<=1000000) <|
         gu (∀(blk:Blk),blk∈[bK [AV.any,AV.any,AV.any] 1,bK (Tt iV (Ae x87 (pjO n c)++[x81.o]++Tw ((Tt iV (Ad n.nx (shG n.bs.length (shO n q) q.cl x81.o x54.i) x81.o x54.i).fst).length-Ty 1) (Tv (Ty 1) (Ad n.nx (shG n.bs.length (shO n q) q.cl x81.o x54.i) x81.o x54.i).fst)++Ae x54 0)) 1]->BS blk) <|
         gu (∀(c_1:Int),c_1∈Ae x87 (pjO n c)++[x81.o]++Tw ((Tt iV (Ad n.nx (shG n.bs.length (shO n q) q.cl x81.o x54.i) x81.o x54.i).fst).length-Ty 1) (Tv (Ty 1) (Ad n.nx (shG n.bs.length (shO n q) q.cl x81.o x54.i) x81.o x54.i).fst)++Ae x54 0->0<=c_1/\c_1<iN q.cl.length) <|
         br (Bh q.cl (Ae x87 (pjO n c)++[x81.o]++Tw ((Tt iV (Ad n.nx (shG n.bs.length (shO n q) q.cl x81.o x54.i) x81.o x54.i).fst).length-Ty 1) (Tv (Ty 1) (Ad n.nx (shG n.bs.length (shO n q) q.cl x81.o x54.i) x81.o x54.i).fst)++Ae x54 0))
         (some (.inr ([some (bK (Tt iV (Ae x87 (pjO n c)++[x81.o]++Tw ((Tt iV (Ad n.nx (shG n.bs.length (shO n q) q.cl x81.o x54.i) x81.o x54.i).fst).length-Ty 1) (Tv (Ty 1) (Ad n.nx (shG n.bs.length (shO n q) q.cl x81.o x54.i) x81.o x54.i).fst)++Ae x54 0)) 1)],AV.tup [AV.sl 0 0 (Ae x87 (pjO n c)++[x81.o]++Tw ((Tt iV (Ad n.nx (shG n.bs.length (shO n q) q.cl x81.o x54.i) x81.o x54.i).fst).length-Ty 1) (Tv (Ty 1) (Ad n.nx (shG n.bs.length (shO n q) q.cl x81.o x54.i) x81.o x54.i).fst)++Ae x54 0).length,bV true,iV 0])))
         (none)))
       (gu (n.bs.length<=1000/\n.bs.length<=(shO n q).length/\n.bs.length<=q.cl.length) <|
        br (iN (Tt iV (Ad n.nx (shG n.bs.length (shO n q) q.cl c x54.i) c x54.i).fst).length==0)
        (gu (n.bs.length<=1000/\n.bs.length<=q.cl.length) <|
         br (iN (Tt iV (Ad n.nx (shW n.bs.length q.cl c) c x54.i).fst).length==0)
         (some (.inr ([],AV.tup [AV.nils,bV false,iV 0])))
         (gu (∀(e:AV),e∈Tt iV (Ad n.nx (shW n.bs.length q.cl c) c x54.i).fst->e.cells.length=1) <|
          gu (1<=iN (Tt iV (Ad n.nx (shW n.bs.length q.cl c) c x54.i).fst).length) <|
          gu (0<=x54.b/\x54.b<=1000) <|
          gu (x54.k<=1000) <|
          gu (([]++Tw ((Tt iV (Ad n.nx (shW n.bs.length q.cl c) c x54.i).fst).length-Ty 1) (Tv (Ty 1) (Ad n.nx (shW n.bs.length q.cl c) c x54.i).fst)++Ae x54 0).length<=1000000) <|
          gu (∀(blk:Blk),blk∈[bK [AV.any,AV.any,AV.any] 1,bK (Tt iV ([]++Tw ((Tt iV (Ad n.nx (shW n.bs.length q.cl c) c x54.i).fst).length-Ty 1) (Tv (Ty 1) (Ad n.nx (shW n.bs.length q.cl c) c x54.i).fst)++Ae x54 0)) 1]->BS blk) <|
          gu (∀(c_1:Int),c_1∈[]++Tw ((Tt iV (Ad n.nx (shW n.bs.length q.cl c) c x54.i).fst).length-Ty 1) (Tv (Ty 1) (Ad n.nx (shW n.bs.length q.cl c) c x54.i).fst)++Ae x54 0->0<=c_1/\c_1<iN q.cl.length) <|
          br (Bh q.cl ([]++Tw ((Tt iV (Ad n.nx (shW n.bs.length q.cl c) c x54.i).fst).length-Ty 1) (Tv (Ty 1) (Ad n.nx (shW n.bs.length q.cl c) c x54.i).fst)++Ae x54 0))
          (some (.inr ([some (bK (Tt iV ([]++Tw ((Tt iV (Ad n.nx (shW n.bs.length q.cl c) c x54.i).fst).length-Ty 1) (Tv (Ty 1) (Ad n.nx (shW n.bs.length q.cl c) c x54.i).fst)++Ae x54 0)) 1)],AV.tup [AV.sl 0 0 ([]++Tw ((Tt iV (Ad n.nx (shW n.bs.length q.cl c) c x54.i).fst).length-Ty 1) (Tv (Ty 1) (Ad n.nx (shW n.bs.length q.cl c) c x54.i).fst)++Ae x54 0).length,bV true,iV 0])))
          (none)))
        (gu (∀(e:AV),e∈Tt iV (Ad n.nx (shG n.bs.length (shO n q) q.cl c x54.i) c x54.i).fst->e.cells.length=1) <|
         gu (1<=iN (Tt iV (Ad n.nx (shG n.bs.length (shO n q) q.cl c x54.i) c x54.i).fst).length) <|
         gu (0<=x54.b/\x54.b<=1000) <|
         gu (x54.k<=1000) <|
         gu (([]++Tw ((Tt iV (Ad n.nx (shG n.bs.length (shO n q) q.cl c x54.i) c x54.i).fst).length-Ty 1) (Tv (Ty 1) (Ad n.nx (shG n.bs.length (shO n q) q.cl c x54.i) c x54.i).fst)++Ae x54 0).length<=1000000) <|
         gu (∀(blk:Blk),blk∈[bK [AV.any,AV.any,AV.any] 1,bK (Tt iV ([]++Tw ((Tt iV (Ad n.nx (shG n.bs.length (shO n q) q.cl c x54.i) c x54.i).fst).length-Ty 1) (Tv (Ty 1) (Ad n.nx (shG n.bs.length (shO n q) q.cl c x54.i) c x54.i).fst)++Ae x54 0)) 1]->BS blk) <|
         gu (∀(c_1:Int),c_1∈[]++Tw ((Tt iV (Ad n.nx (shG n.bs.length (shO n q) q.cl c x54.i) c x54.i).fst).length-Ty 1) (Tv (Ty 1) (Ad n.nx (shG n.bs.length (shO n q) q.cl c x54.i) c x54.i).fst)++Ae x54 0->0<=c_1/\c_1<iN q.cl.length) <|
         br (Bh q.cl ([]++Tw ((Tt iV (Ad n.nx (shG n.bs.length (shO n q) q.cl c x54.i) c x54.i).fst).length-Ty 1) (Tv (Ty 1) (Ad n.nx (shG n.bs.length (shO n q) q.cl c x54.i) c x54.i).fst)++Ae x54 0))
         (some (.inr ([some (bK (Tt iV ([]++Tw ((Tt iV (Ad n.nx (shG n.bs.length (shO n q) q.cl c x54.i) c x54.i).fst).length-Ty 1) (Tv (Ty 1) (Ad n.nx (shG n.bs.length (shO n q) q.cl c x54.i) c x54.i).fst)++Ae x54 0)) 1)],AV.tup [AV.sl 0 0 ([]++Tw ((Tt iV (Ad n.nx (shG n.bs.length (shO n q) q.cl c x54.i) c x54.i).fst).length-Ty 1) (Tv (Ty 1) (Ad n.nx (shG n.bs.length (shO n q) q.cl c x54.i) c x54.i).fst)++Ae x54 0).length,bV true,iV 0])))
         (none)))))))))
def leTStep(n:Ac)(q:Af)(c d:Int):Empty->Option (Empty⊕Ret)
 | x=>x.elim
theorem leTEn_ok(n:Ac)(q:Af)(c d:Int)(o:Empty⊕Ret)(h:JW n q c d=some o):Arr TA Try.f30 0 (leTSt n q c d) leTHd (zB Try.f30) [] {n:=Try.f30.ntmps,fr:=AK 0 ([Aj n,sgA q,.int .i64 c,.int .i64 d]),hp:=([])} o:=
 Scr.ok h mix (
 .rn 0 [] [] [] [] (al (u2 (u2 t4))) <|
 .gu fun a0=>
 have c0:=ssh_c (q.cl) (q.bw) (q.pe) a0;
 .rn 1 [] [] [(24,hK c0 [] [])] [] (aj (u2 (u2 (aj (k2 (aj t9 (aj t4 (al (c0))))) (u2 (u2 (u2 (ak (aj (k2 n11) s2)))))))) (al (u2 (u2 s2)))) <|
 .br (fun a1=>
 .rt [55] [] [] [] [] [] (aj (aj a1 (al (u2 (k2 s2)))) (al t4)))
 (fun a1=>
 .br (fun a2=>
  .rt [54,69] [] [] [] [] [] (aj (aj a1 (aj (u2 (u2 (u2 (aj a2 (aj a2 (aj a2 (aj a2 (ag a2 (u2 (k2 (aj t3 (u2 (k5 (aj t3 s2)))))))))))))) (ak (al t4)))) (al t4)))
 (fun a2=>
  .br (fun a3=>
  .rt [54,68,81] [] [] [] [] [] (aj (aj a1 (aj (u2 (u2 (u2 (ag a2 (ag a2 (ag a2 (aj (aj a2 t3) (ag a2 (u2 (aj a3 (aj a3 (ag a3 (u2 (k5 (aj t3 s2))))))))))))))) (ak (al t4)))) (al t4)))
  (fun a3=>
  .br (fun a4=>
   .rt [54,68,80,89] [] [] [] [] [] (aj (aj a1 (aj (u2 (u2 (u2 (ag a2 (ag a2 (ag a2 (aj (aj a2 t3) (ag a2 (u2 (ag a3 (ag a3 (ag a3 (u2 (aj a4 (aj a4 (aj a4 (aj a4 (aj a4 (ag a4 s2))))))))))))))))))) (ak (al t4)))) (al t4)))
  (fun a4=>
   .rn 0 [54,68,80,88] [] [] [] (aj a1 (al (u2 (u2 (u2 (ag a2 (ag a2 (ag a2 (aj (aj a2 t3) (ag a2 (u2 (ag a3 (ag a3 (ag a3 (u2 (ag a4 (ag a4 (ag a4 (ag a4 (aj (aj a4 t3) (ag a4 s2))))))))))))))))))))) <|
   .br (fun a5=>
   .rt [68,80,88,63] [] [] [] [] [] (aj (aj a5 (al t4)) (al t4)))
   (fun a5=>
   .gu fun a6=>
   .el fun x54 a7=>
   have c1:=plc_c c a0;
   .rn 2 [68,80,88,62] [(54,sA x54)] [(59,hK c1 [] [])] [] (aj a5 (aj (u2 (u2 (u2 (aj (k2 (aj a6 (AE (f:=sA) a7))) (u2 (ak (al (k2 n11)))))))) (aj (u2 (u2 (aj (k2 (aj t9 (ak (al (c1))))) (u2 (u2 (u2 (u2 (u2 (u2 s2))))))))) (al (u2 (u2 (al t3))))))) <|
   .br (fun a8=>
    .gu fun a9=>
    .gu fun a10=>
    .gu fun a11=>
    have c2:=Dd x54 (pjO n c) a9 a10 a11;
    .rn 0 [68,80,88,131] [] [(68,hK c2 [] [])] [] (aj a8 (al (u2 (u2 (aj (k2 (aj t7 (ak (al (c2))))) s2))))) <|
    .gu fun a12=>
    .gu fun a13=>
    .br (fun a14=>
    have c3:=HW q (Ae x54 (pjO n c)) ((Ae x54 (pjO n c)).length) (show(Ae x54 (pjO n c)).length=(Ae x54 (pjO n c)).length from rfl) a12 a13 a14;
    .rt [68,80,88] [] [(71,hK c3 [4] [])] [] [4] [] (aj (al (u2 (u2 (aj (k2 (aj t4 (k2 (al (c3))))) (u2 (u2 (u2 (u2 (u2 s2))))))))) (aj t4 t2)))
    (fun a14=>
    .no))
   (fun a8=>
    .rn 2 [68,80,88,130] [] [] [] (aj a8 (u2 (aj (u2 (ak (al (k2 n11)))) (al (u2 s2))))) <|
    .br (fun a9=>
    .gu fun a10=>
    .el fun x81 a11=>
    .rn 0 [68,80,88,155] [(81,sA x81)] [] [] (aj a9 (al (u2 (u2 (u2 (aj (k2 (aj a10 (AE (f:=sA) a11))) (u2 (u2 (al (k2 (show Nat.le 1 [iv c].length from(nL rfl)))))))))))) <|
    .el fun x87 a12=>
    .gu fun a13=>
    .gu fun a14=>
    .gu fun a15=>
    .gu fun a16=>
    .gu fun a17=>
    have c2:=Dd x87 (pjO n c) a13 a14 a15;
    .rn 0 [68,80,88] [(87,sA x87)] [(90,hK c2 [] [])] [] (al (u2 (u2 (u2 (aj (k2 (aj a10 (AE (f:=sA) a12))) (u2 (u2 (aj (k2 (aj t7 (ak (al (c2))))) (u2 (u2 (aj (k2 (aj (show(Tt iv (Ae x87 (pjO n c))).length=(Ae x87 (pjO n c)).length by simp) (aj (aj (show nat_lit 1=nat_lit 1 from rfl) (show 1<=[iv x81.o].length by simp)) (aj a16 a17)))) s2))))))))))) <|
    .gu fun a18=>
    have c3:=I4 n (shO n q) (x81.o) (x81.o) (x54.i) x54 q a0 a18;
    .rn 1 [68,80,88] [] [(99,hK c3 [2,4,3,1] [])] [] (aj (u2 (aj t5 (u2 (u2 (u2 (aj (ak (k3 (aj t9 (aj t5 (ak (k5 (al (c3)))))))) s2)))))) (al (u2 (u2 s2)))) <|
    .br (fun a19=>
     .gu fun a20=>
     have c4:=IG n (x81.o) (x81.o) (x54.i) q a0 a20;
     .rn 1 [68,80,88,205] [] [(108,hK c4 [1,4] [])] [] (aj a19 (aj (u2 (aj t3 (u2 (u2 (u2 (aj (ak (k3 (aj t9 (aj t3 (ak (k3 (al (c4)))))))) s2)))))) (al (u2 (u2 s2))))) <|
     .br (fun a21=>
     .rt [68,80,88,223] [] [] [] [] [] (aj (aj a21 (al t4)) (al t4)))
     (fun a21=>
     .gu fun a22=>
     .gu fun a23=>
     .gu fun a24=>
     .gu fun a25=>
     .gu fun a26=>
     .gu fun a27=>
     .gu fun a28=>
     .br (fun a29=>
      have c5:=Dd x54 (0) (show(0:Int)<=(0:Int)/\(0:Int)<=(1000:Int) from ⟨(by first | exact nL rfl | decide),(by first | exact nL rfl | decide)⟩) a24 a25;
      have c6:=ER (Ae x87 (pjO n c)++[x81.o]) (Tw ((Tt iv (Ad n.nx (shW n.bs.length q.cl x81.o) x81.o x54.i).fst).length-Ty 1) (Tv (Ty 1) (Ad n.nx (shW n.bs.length q.cl x81.o) x81.o x54.i).fst)) (Ae x54 0) a26;
      have c7:=HW q (Ae x87 (pjO n c)++[x81.o]++Tw ((Tt iv (Ad n.nx (shW n.bs.length q.cl x81.o) x81.o x54.i).fst).length-Ty 1) (Tv (Ty 1) (Ad n.nx (shW n.bs.length q.cl x81.o) x81.o x54.i).fst)++Ae x54 0) ((Ae x87 (pjO n c)++[x81.o]++Tw ((Tt iv (Ad n.nx (shW n.bs.length q.cl x81.o) x81.o x54.i).fst).length-Ty 1) (Tv (Ty 1) (Ad n.nx (shW n.bs.length q.cl x81.o) x81.o x54.i).fst)++Ae x54 0).length) (show(Ae x87 (pjO n c)++[x81.o]++Tw ((Tt iv (Ad n.nx (shW n.bs.length q.cl x81.o) x81.o x54.i).fst).length-Ty 1) (Tv (Ty 1) (Ad n.nx (shW n.bs.length q.cl x81.o) x81.o x54.i).fst)++Ae x54 0).length=(Ae x87 (pjO n c)++[x81.o]++Tw ((Tt iv (Ad n.nx (shW n.bs.length q.cl x81.o) x81.o x54.i).fst).length-Ty 1) (Tv (Ty 1) (Ad n.nx (shW n.bs.length q.cl x81.o) x81.o x54.i).fst)++Ae x54 0).length from rfl) a26 a28 a29;
      .rt [68,80,88,222] [] [(117,hK c5 [] []),(119,hK c6 [9] [7,8]),(120,hK c7 [10] [])] [] [10] [] (aj (aj a21 (al (u2 (u2 (u2 (aj (ak (aj a22 (aj (show(0:Int)<=(1:Int) from(by first | exact nL rfl | decide)) (aj a23 (aj (show iN (Tt iv (Ad n.nx (shW n.bs.length q.cl x81.o) x81.o x54.i).fst).length<=iN (Tt iv (Ad n.nx (shW n.bs.length q.cl x81.o) x81.o x54.i).fst).length by omega) (show iN (Tt iv (Ad n.nx (shW n.bs.length q.cl x81.o) x81.o x54.i).fst).length<=iN (Tt iv (Ad n.nx (shW n.bs.length q.cl x81.o) x81.o x54.i).fst).length by omega)))))) (u2 (aj (ak (aj t7 (ak (al (c5))))) (aj t4 (aj (k2 (aj (aj (show(Tt iv (Ae x87 (pjO n c))).length+[iv x81.o].length=(Tt iv (Ae x87 (pjO n c))++[iv x81.o]).length by simp) (ak (al (show(Ae x54 0).length=(Tt iv (Ae x54 0)).length by simp)))) (aj (show CT TA 68 [some (bK [Tz (Tt iv (Ae x87 (pjO n c))++[iv x81.o]),Tz (Tw ((Tt iv (Ad n.nx (shW n.bs.length q.cl x81.o) x81.o x54.i).fst).length-Ty 1) (Tv (Ty 1) (Tt iv (Ad n.nx (shW n.bs.length q.cl x81.o) x81.o x54.i).fst))),Tz (Tt iv (Ae x54 0))] 1)] [AV.sl 0 0 3] [some (bK [AV.any,AV.any,AV.any] 1),some (bK (Tt iv (Ae x87 (pjO n c)++[x81.o]++Tw ((Tt iv (Ad n.nx (shW n.bs.length q.cl x81.o) x81.o x54.i).fst).length-Ty 1) (Tv (Ty 1) (Ad n.nx (shW n.bs.length q.cl x81.o) x81.o x54.i).fst)++Ae x54 0)) 1)] (AV.sl 1 0 (Ae x87 (pjO n c)++[x81.o]++Tw ((Tt iv (Ad n.nx (shW n.bs.length q.cl x81.o) x81.o x54.i).fst).length-Ty 1) (Tv (Ty 1) (Ad n.nx (shW n.bs.length q.cl x81.o) x81.o x54.i).fst)++Ae x54 0).length) from CT.eqs (c6) (by first | (simp only[boL,SI,Tn,List.map_take,List.map_drop,List.map_replicate,List.nil_append];done) | (simp only[boL,SI,Tn,List.map_take,List.map_drop,List.map_replicate,List.nil_append];rfl) | (simp[gL,boL,lI,sA,bA];done) | (simp[gL,boL,lI,sA,bA];rfl) | (simp only[Aj,SI,Tn,Sq,Sr];rfl)) (by first | (simp only[boL,SI,Tn,List.map_take,List.map_drop,List.map_replicate,List.nil_append];done) | (simp only[boL,SI,Tn,List.map_take,List.map_drop,List.map_replicate,List.nil_append];rfl) | (simp[gL,boL,lI,sA,bA];done) | (simp[gL,boL,lI,sA,bA];rfl) | (simp only[Aj,SI,Tn,Sq,Sr];rfl))) a27))) (aj (k2 (aj t4 (k2 (al (c7))))) (u2 (u2 (u2 (u2 (u2 s2)))))))))))))))) (aj t4 t2)))
     (fun a29=>
      .no)))
    (fun a19=>
     .rn 0 [68,80,88,204] [] [] [] (aj a19 (al (u2 (u2 s2)))) <|
     .gu fun a20=>
     .gu fun a21=>
     .gu fun a22=>
     .gu fun a23=>
     .gu fun a24=>
     .gu fun a25=>
     .gu fun a26=>
     .br (fun a27=>
     have c4:=Dd x54 (0) (show(0:Int)<=(0:Int)/\(0:Int)<=(1000:Int) from ⟨(by first | exact nL rfl | decide),(by first | exact nL rfl | decide)⟩) a22 a23;
     have c5:=ER (Ae x87 (pjO n c)++[x81.o]) (Tw ((Tt iv (Ad n.nx (shG n.bs.length (shO n q) q.cl x81.o x54.i) x81.o x54.i).fst).length-Ty 1) (Tv (Ty 1) (Ad n.nx (shG n.bs.length (shO n q) q.cl x81.o x54.i) x81.o x54.i).fst)) (Ae x54 0) a24;
     have c6:=HW q (Ae x87 (pjO n c)++[x81.o]++Tw ((Tt iv (Ad n.nx (shG n.bs.length (shO n q) q.cl x81.o x54.i) x81.o x54.i).fst).length-Ty 1) (Tv (Ty 1) (Ad n.nx (shG n.bs.length (shO n q) q.cl x81.o x54.i) x81.o x54.i).fst)++Ae x54 0) ((Ae x87 (pjO n c)++[x81.o]++Tw ((Tt iv (Ad n.nx (shG n.bs.length (shO n q) q.cl x81.o x54.i) x81.o x54.i).fst).length-Ty 1) (Tv (Ty 1) (Ad n.nx (shG n.bs.length (shO n q) q.cl x81.o x54.i) x81.o x54.i).fst)++Ae x54 0).length) (show(Ae x87 (pjO n c)++[x81.o]++Tw ((Tt iv (Ad n.nx (shG n.bs.length (shO n q) q.cl x81.o x54.i) x81.o x54.i).fst).length-Ty 1) (Tv (Ty 1) (Ad n.nx (shG n.bs.length (shO n q) q.cl x81.o x54.i) x81.o x54.i).fst)++Ae x54 0).length=(Ae x87 (pjO n c)++[x81.o]++Tw ((Tt iv (Ad n.nx (shG n.bs.length (shO n q) q.cl x81.o x54.i) x81.o x54.i).fst).length-Ty 1) (Tv (Ty 1) (Ad n.nx (shG n.bs.length (shO n q) q.cl x81.o x54.i) x81.o x54.i).fst)++Ae x54 0).length from rfl) a24 a26 a27;
     .rt [68,80,88,222] [] [(117,hK c4 [] []),(119,hK c5 [9] [7,8]),(120,hK c6 [10] [])] [] [10] [] (aj (aj a19 (al (u2 (u2 (u2 (aj (ak (aj a20 (aj (show(0:Int)<=(1:Int) from(by first | exact nL rfl | decide)) (aj a21 (aj (show iN (Tt iv (Ad n.nx (shG n.bs.length (shO n q) q.cl x81.o x54.i) x81.o x54.i).fst).length<=iN (Tt iv (Ad n.nx (shG n.bs.length (shO n q) q.cl x81.o x54.i) x81.o x54.i).fst).length by omega) (show iN (Tt iv (Ad n.nx (shG n.bs.length (shO n q) q.cl x81.o x54.i) x81.o x54.i).fst).length<=iN (Tt iv (Ad n.nx (shG n.bs.length (shO n q) q.cl x81.o x54.i) x81.o x54.i).fst).length by omega)))))) (u2 (aj (ak (aj t7 (ak (al (c4))))) (aj t4 (aj (k2 (aj (aj (show(Tt iv (Ae x87 (pjO n c))).length+[iv x81.o].length=(Tt iv (Ae x87 (pjO n c))++[iv x81.o]).length by simp) (ak (al (show(Ae x54 0).length=(Tt iv (Ae x54 0)).length by simp)))) (aj (show CT TA 68 [some (bK [Tz (Tt iv (Ae x87 (pjO n c))++[iv x81.o]),Tz (Tw ((Tt iv (Ad n.nx (shG n.bs.length (shO n q) q.cl x81.o x54.i) x81.o x54.i).fst).length-Ty 1) (Tv (Ty 1) (Tt iv (Ad n.nx (shG n.bs.length (shO n q) q.cl x81.o x54.i) x81.o x54.i).fst))),Tz (Tt iv (Ae x54 0))] 1)] [AV.sl 0 0 3] [some (bK [AV.any,AV.any,AV.any] 1),some (bK (Tt iv (Ae x87 (pjO n c)++[x81.o]++Tw ((Tt iv (Ad n.nx (shG n.bs.length (shO n q) q.cl x81.o x54.i) x81.o x54.i).fst).length-Ty 1) (Tv (Ty 1) (Ad n.nx (shG n.bs.length (shO n q) q.cl x81.o x54.i) x81.o x54.i).fst)++Ae x54 0)) 1)] (AV.sl 1 0 (Ae x87 (pjO n c)++[x81.o]++Tw ((Tt iv (Ad n.nx (shG n.bs.length (shO n q) q.cl x81.o x54.i) x81.o x54.i).fst).length-Ty 1) (Tv (Ty 1) (Ad n.nx (shG n.bs.length (shO n q) q.cl x81.o x54.i) x81.o x54.i).fst)++Ae x54 0).length) from CT.eqs (c5) (by first | (simp only[boL,SI,Tn,List.map_take,List.map_drop,List.map_replicate,List.nil_append];done) | (simp only[boL,SI,Tn,List.map_take,List.map_drop,List.map_replicate,List.nil_append];rfl) | (simp[gL,boL,lI,sA,bA];done) | (simp[gL,boL,lI,sA,bA];rfl) | (simp only[Aj,SI,Tn,Sq,Sr];rfl)) (by first | (simp only[boL,SI,Tn,List.map_take,List.map_drop,List.map_replicate,List.nil_append];done) | (simp only[boL,SI,Tn,List.map_take,List.map_drop,List.map_replicate,List.nil_append];rfl) | (simp[gL,boL,lI,sA,bA];done) | (simp[gL,boL,lI,sA,bA];rfl) | (simp only[Aj,SI,Tn,Sq,Sr];rfl))) a25))) (aj (k2 (aj t4 (k2 (al (c6))))) (u2 (u2 (u2 (u2 (u2 s2)))))))))))))))) (aj t4 t2)))
     (fun a27=>
     .no)))
    (fun a9=>
    .gu fun a10=>
    have c2:=I4 n (shO n q) c c (x54.i) x54 q a0 a10;
    .rn 1 [68,80,88,154] [] [(99,hK c2 [2,4,3,1] [])] [] (aj a9 (aj (u2 (aj t5 (u2 (u2 (u2 (aj (ak (k3 (aj t9 (aj t5 (ak (k5 (al (c2)))))))) s2)))))) (al (u2 (u2 s2))))) <|
    .br (fun a11=>
     .gu fun a12=>
     have c3:=IG n c c (x54.i) q a0 a12;
     .rn 1 [68,80,88,205] [] [(108,hK c3 [1,4] [])] [] (aj a11 (aj (u2 (aj t3 (u2 (u2 (u2 (aj (ak (k3 (aj t9 (aj t3 (ak (k3 (al (c3)))))))) s2)))))) (al (u2 (u2 s2))))) <|
     .br (fun a13=>
     .rt [68,80,88,223] [] [] [] [] [] (aj (aj a13 (al t4)) (al t4)))
     (fun a13=>
     .gu fun a14=>
     .gu fun a15=>
     .gu fun a16=>
     .gu fun a17=>
     .gu fun a18=>
     .gu fun a19=>
     .gu fun a20=>
     .br (fun a21=>
      have c4:=Dd x54 (0) (show(0:Int)<=(0:Int)/\(0:Int)<=(1000:Int) from ⟨(by first | exact nL rfl | decide),(by first | exact nL rfl | decide)⟩) a16 a17;
      have c5:=ER ([]) (Tw ((Tt iv (Ad n.nx (shW n.bs.length q.cl c) c x54.i).fst).length-Ty 1) (Tv (Ty 1) (Ad n.nx (shW n.bs.length q.cl c) c x54.i).fst)) (Ae x54 0) a18;
      have c6:=HW q ([]++Tw ((Tt iv (Ad n.nx (shW n.bs.length q.cl c) c x54.i).fst).length-Ty 1) (Tv (Ty 1) (Ad n.nx (shW n.bs.length q.cl c) c x54.i).fst)++Ae x54 0) (([]++Tw ((Tt iv (Ad n.nx (shW n.bs.length q.cl c) c x54.i).fst).length-Ty 1) (Tv (Ty 1) (Ad n.nx (shW n.bs.length q.cl c) c x54.i).fst)++Ae x54 0).length) (show([]++Tw ((Tt iv (Ad n.nx (shW n.bs.length q.cl c) c x54.i).fst).length-Ty 1) (Tv (Ty 1) (Ad n.nx (shW n.bs.length q.cl c) c x54.i).fst)++Ae x54 0).length=([]++Tw ((Tt iv (Ad n.nx (shW n.bs.length q.cl c) c x54.i).fst).length-Ty 1) (Tv (Ty 1) (Ad n.nx (shW n.bs.length q.cl c) c x54.i).fst)++Ae x54 0).length from rfl) a18 a20 a21;
      .rt [68,80,88,222] [(118,AV.tup [])] [(117,hK c4 [] []),(119,hK c5 [6] [5]),(120,hK c6 [7] [])] [] [7] [] (aj (aj a13 (al (u2 (u2 (u2 (aj (ak (aj a14 (aj (show(0:Int)<=(1:Int) from(by first | exact nL rfl | decide)) (aj a15 (aj (show iN (Tt iv (Ad n.nx (shW n.bs.length q.cl c) c x54.i).fst).length<=iN (Tt iv (Ad n.nx (shW n.bs.length q.cl c) c x54.i).fst).length by omega) (show iN (Tt iv (Ad n.nx (shW n.bs.length q.cl c) c x54.i).fst).length<=iN (Tt iv (Ad n.nx (shW n.bs.length q.cl c) c x54.i).fst).length by omega)))))) (u2 (aj (ak (aj t7 (ak (al (c4))))) (aj t4 (aj (k2 (aj (k2 (al (show(Ae x54 0).length=(Tt iv (Ae x54 0)).length by simp))) (aj (show CT TA 68 [some (bK [Tz [],Tz (Tw ((Tt iv (Ad n.nx (shW n.bs.length q.cl c) c x54.i).fst).length-Ty 1) (Tv (Ty 1) (Tt iv (Ad n.nx (shW n.bs.length q.cl c) c x54.i).fst))),Tz (Tt iv (Ae x54 0))] 1)] [AV.sl 0 0 3] [some (bK [AV.any,AV.any,AV.any] 1),some (bK (Tt iv ([]++Tw ((Tt iv (Ad n.nx (shW n.bs.length q.cl c) c x54.i).fst).length-Ty 1) (Tv (Ty 1) (Ad n.nx (shW n.bs.length q.cl c) c x54.i).fst)++Ae x54 0)) 1)] (AV.sl 1 0 ([]++Tw ((Tt iv (Ad n.nx (shW n.bs.length q.cl c) c x54.i).fst).length-Ty 1) (Tv (Ty 1) (Ad n.nx (shW n.bs.length q.cl c) c x54.i).fst)++Ae x54 0).length) from CT.eqs (c5) (by first | (simp only[boL,SI,Tn,List.map_take,List.map_drop,List.map_replicate,List.nil_append];done) | (simp only[boL,SI,Tn,List.map_take,List.map_drop,List.map_replicate,List.nil_append];rfl) | (simp[gL,boL,lI,sA,bA];done) | (simp[gL,boL,lI,sA,bA];rfl) | (simp only[Aj,SI,Tn,Sq,Sr];rfl)) (by first | (simp only[boL,SI,Tn,List.map_take,List.map_drop,List.map_replicate,List.nil_append];done) | (simp only[boL,SI,Tn,List.map_take,List.map_drop,List.map_replicate,List.nil_append];rfl) | (simp[gL,boL,lI,sA,bA];done) | (simp[gL,boL,lI,sA,bA];rfl) | (simp only[Aj,SI,Tn,Sq,Sr];rfl))) a19))) (aj (k2 (aj t4 (k2 (al (c6))))) (u2 (u2 (u2 (u2 (u2 s2)))))))))))))))) (aj t4 t2)))
     (fun a21=>
      .no)))
    (fun a11=>
     .rn 0 [68,80,88,204] [] [] [] (aj a11 (al (u2 (u2 s2)))) <|
     .gu fun a12=>
     .gu fun a13=>
     .gu fun a14=>
     .gu fun a15=>
     .gu fun a16=>
     .gu fun a17=>
     .gu fun a18=>
     .br (fun a19=>
     have c3:=Dd x54 (0) (show(0:Int)<=(0:Int)/\(0:Int)<=(1000:Int) from ⟨(by first | exact nL rfl | decide),(by first | exact nL rfl | decide)⟩) a14 a15;
     have c4:=ER ([]) (Tw ((Tt iv (Ad n.nx (shG n.bs.length (shO n q) q.cl c x54.i) c x54.i).fst).length-Ty 1) (Tv (Ty 1) (Ad n.nx (shG n.bs.length (shO n q) q.cl c x54.i) c x54.i).fst)) (Ae x54 0) a16;
     have c5:=HW q ([]++Tw ((Tt iv (Ad n.nx (shG n.bs.length (shO n q) q.cl c x54.i) c x54.i).fst).length-Ty 1) (Tv (Ty 1) (Ad n.nx (shG n.bs.length (shO n q) q.cl c x54.i) c x54.i).fst)++Ae x54 0) (([]++Tw ((Tt iv (Ad n.nx (shG n.bs.length (shO n q) q.cl c x54.i) c x54.i).fst).length-Ty 1) (Tv (Ty 1) (Ad n.nx (shG n.bs.length (shO n q) q.cl c x54.i) c x54.i).fst)++Ae x54 0).length) (show([]++Tw ((Tt iv (Ad n.nx (shG n.bs.length (shO n q) q.cl c x54.i) c x54.i).fst).length-Ty 1) (Tv (Ty 1) (Ad n.nx (shG n.bs.length (shO n q) q.cl c x54.i) c x54.i).fst)++Ae x54 0).length=([]++Tw ((Tt iv (Ad n.nx (shG n.bs.length (shO n q) q.cl c x54.i) c x54.i).fst).length-Ty 1) (Tv (Ty 1) (Ad n.nx (shG n.bs.length (shO n q) q.cl c x54.i) c x54.i).fst)++Ae x54 0).length from rfl) a16 a18 a19;
     .rt [68,80,88,222] [(118,AV.tup [])] [(117,hK c3 [] []),(119,hK c4 [6] [5]),(120,hK c5 [7] [])] [] [7] [] (aj (aj a11 (al (u2 (u2 (u2 (aj (ak (aj a12 (aj (show(0:Int)<=(1:Int) from(by first | exact nL rfl | decide)) (aj a13 (aj (show iN (Tt iv (Ad n.nx (shG n.bs.length (shO n q) q.cl c x54.i) c x54.i).fst).length<=iN (Tt iv (Ad n.nx (shG n.bs.length (shO n q) q.cl c x54.i) c x54.i).fst).length by omega) (show iN (Tt iv (Ad n.nx (shG n.bs.length (shO n q) q.cl c x54.i) c x54.i).fst).length<=iN (Tt iv (Ad n.nx (shG n.bs.length (shO n q) q.cl c x54.i) c x54.i).fst).length by omega)))))) (u2 (aj (ak (aj t7 (ak (al (c3))))) (aj t4 (aj (k2 (aj (k2 (al (show(Ae x54 0).length=(Tt iv (Ae x54 0)).length by simp))) (aj (show CT TA 68 [some (bK [Tz [],Tz (Tw ((Tt iv (Ad n.nx (shG n.bs.length (shO n q) q.cl c x54.i) c x54.i).fst).length-Ty 1) (Tv (Ty 1) (Tt iv (Ad n.nx (shG n.bs.length (shO n q) q.cl c x54.i) c x54.i).fst))),Tz (Tt iv (Ae x54 0))] 1)] [AV.sl 0 0 3] [some (bK [AV.any,AV.any,AV.any] 1),some (bK (Tt iv ([]++Tw ((Tt iv (Ad n.nx (shG n.bs.length (shO n q) q.cl c x54.i) c x54.i).fst).length-Ty 1) (Tv (Ty 1) (Ad n.nx (shG n.bs.length (shO n q) q.cl c x54.i) c x54.i).fst)++Ae x54 0)) 1)] (AV.sl 1 0 ([]++Tw ((Tt iv (Ad n.nx (shG n.bs.length (shO n q) q.cl c x54.i) c x54.i).fst).length-Ty 1) (Tv (Ty 1) (Ad n.nx (shG n.bs.length (shO n q) q.cl c x54.i) c x54.i).fst)++Ae x54 0).length) from CT.eqs (c4) (by first | (simp only[boL,SI,Tn,List.map_take,List.map_drop,List.map_replicate,List.nil_append];done) | (simp only[boL,SI,Tn,List.map_take,List.map_drop,List.map_replicate,List.nil_append];rfl) | (simp[gL,boL,lI,sA,bA];done) | (simp[gL,boL,lI,sA,bA];rfl) | (simp only[Aj,SI,Tn,Sq,Sr];rfl)) (by first | (simp only[boL,SI,Tn,List.map_take,List.map_drop,List.map_replicate,List.nil_append];done) | (simp only[boL,SI,Tn,List.map_take,List.map_drop,List.map_replicate,List.nil_append];rfl) | (simp[gL,boL,lI,sA,bA];done) | (simp[gL,boL,lI,sA,bA];rfl) | (simp only[Aj,SI,Tn,Sq,Sr];rfl))) a17))) (aj (k2 (aj t4 (k2 (al (c5))))) (u2 (u2 (u2 (u2 (u2 s2)))))))))))))))) (aj t4 t2)))
     (fun a19=>
     .no)))))))))) (by kernel_rfl)
theorem OY(n:Ac)(q:Af)(c d:Int)(r:Ret)(h:Ax (leTStep n q c d) (JW n q c d) r):CT TA 30 ([]) ([Aj n,sgA q,.int .i64 c,.int .i64 d]) r.1 r.2:=
 CT.mach (fn:=Try.f30) (c:=zB Try.f30) (S:=leTSt n q c d) (hd:=leTHd) Try.func30 (by kernel_rfl) (nL rfl)
  (fun s o ho=>match s,ho with
   | x,_=>x.elim)
  (fun o ho=>leTEn_ok n q c d o ho) h
def leFSt(n:Ac)(q:Af)(c d:Int):Empty->St
 | x=>x.elim
def leFHd:Empty->Nat
 | x=>x.elim
def KD(n:Ac)(q:Af)(c d:Int):Option (Empty⊕Ret):=
 gu (Rows n.nx) <|
 br (shE n q != 0)
 (some (.inr ([],AV.tup [AV.nils,bV false,iV (shE n q)])))
 (br (decide (c<0))
  (some (.inr ([],AV.tup [AV.nils,bV false,iV 19])))
  (br (decide (iN (boL (shO n q)).length<=c))
   (some (.inr ([],AV.tup [AV.nils,bV false,iV 19])))
   (br (decide (d<0))
    (some (.inr ([],AV.tup [AV.nils,bV false,iV 19])))
    (br (decide (iN (Tt sA n.ss).length<=d))
     (some (.inr ([],AV.tup [AV.nils,bV false,iV 19])))
     (gu (0<=d) <|
      el (n.ss) (d.toNat) fun(x54:Av)=>
      br (plO n c==d)
      (gu (0<=pjO n c/\pjO n c<=1000) <|
       gu (0<=x54.b/\x54.b<=1000) <|
       gu (x54.k<=1000) <|
       gu ((Ae x54 (pjO n c)).length<=1000000) <|
       gu (∀(c_1:Int),c_1∈Ae x54 (pjO n c)->0<=c_1/\c_1<iN q.cl.length) <|
       br (Bh q.cl (Ae x54 (pjO n c)))
       (none)
       (some (.inr ([],AV.tup [AV.nils,bV false,iV 0]))))
      (br (decide (0<=plO n c))
       (gu (0<=plO n c) <|
        el (n.ss) ((plO n c).toNat) fun(x81:Av)=>
        el (n.ss) ((plO n c).toNat) fun(x87:Av)=>
        gu (0<=pjO n c/\pjO n c<=1000) <|
        gu (0<=x87.b/\x87.b<=1000) <|
        gu (x87.k<=1000) <|
        gu ((Tt iV (Ae x87 (pjO n c))).length+[iV x81.o].length<=9223372036854775807) <|
        gu (((Tt iV (Ae x87 (pjO n c))).length+[iV x81.o].length) * 8<=140737488355328) <|
        gu (n.bs.length<=1000/\n.bs.length<=(shO n q).length/\n.bs.length<=q.cl.length) <|
        br (iN (Tt iV (Ad n.nx (shG n.bs.length (shO n q) q.cl x81.o x54.i) x81.o x54.i).fst).length==0)
        (gu (n.bs.length<=1000/\n.bs.length<=q.cl.length) <|
         br (iN (Tt iV (Ad n.nx (shW n.bs.length q.cl x81.o) x81.o x54.i).fst).length==0)
         (some (.inr ([],AV.tup [AV.nils,bV false,iV 0])))
         (gu (∀(e:AV),e∈Tt iV (Ad n.nx (shW n.bs.length q.cl x81.o) x81.o x54.i).fst->e.cells.length=1) <|
          gu (1<=iN (Tt iV (Ad n.nx (shW n.bs.length q.cl x81.o) x81.o x54.i).fst).length) <|
          gu (0<=x54.b/\x54.b<=1000) <|
          gu (x54.k<=1000) <|
          gu ((Ae x87 (pjO n c)++[x81.o]++Tw ((Tt iV (Ad n.nx (shW n.bs.length q.cl x81.o) x81.o x54.i).fst).length-Ty 1) (Tv (Ty 1) (Ad n.nx (shW n.bs.length q.cl x81.o) x81.o x54.i).fst)++Ae x54 0).length<=1000000) <|
          gu (∀(blk:Blk),blk∈[bK [AV.any,AV.any,AV.any] 1,bK (Tt iV (Ae x87 (pjO n c)++[x81.o]++Tw ((Tt iV (Ad n.nx (shW n.bs.length q.cl x81.o) x81.o x54.i).fst).length-Ty 1) (Tv (Ty 1) (Ad n.nx (shW n.bs.length q.cl x81.o) x81.o x54.i).fst)++Ae x54 0)) 1]->BS blk) <|
          gu (∀(c_1:Int),c_1∈Ae x87 (pjO n c)++[x81.o]++Tw ((Tt iV (Ad n.nx (shW n.bs.length q.cl x81.o) x81.o x54.i).fst).length-Ty 1) (Tv (Ty 1) (Ad n.nx (shW n.bs.length q.cl x81.o) x81.o x54.i).fst)++Ae x54 0->0<=c_1/\c_1<iN q.cl.length) <|
          br (Bh q.cl (Ae x87 (pjO n c)++[x81.o]++Tw ((Tt iV (Ad n.nx (shW n.bs.length q.cl x81.o) x81.o x54.i).fst).length-Ty 1) (Tv (Ty 1) (Ad n.nx (shW n.bs.length q.cl x81.o) x81.o x54.i).fst)++Ae x54 0))
          (none)
          (some (.inr ([],AV.tup [AV.nils,bV false,iV 0])))))
        (gu (∀(e:AV),e∈Tt iV (Ad n.nx (shG n.bs.length (shO n q) q.cl x81.o x54.i) x81.o x54.i).fst->e.cells.length=1) <|
         gu (1<=iN (Tt iV (Ad n.nx (shG n.bs.length (shO n q) q.cl x81.o x54.i) x81.o x54.i).fst).length) <|
         gu (0<=x54.b/\x54.b<=1000) <|
         gu (x54.k<=1000) <|
         gu ((Ae x87 (pjO n c)++[x81.o]++Tw ((Tt iV (Ad n.nx (shG n.bs.length (shO n q) q.cl x81.o x54.i) x81.o x54.i).fst).length-Ty 1) (Tv (Ty 1) (Ad n.nx (shG n.bs.length (shO n q) q.cl x81.o x54.i) x81.o x54.i).fst)++Ae x54 0).length<=1000000) <|
         gu (∀(blk:Blk),blk∈[bK [AV.any,AV.any,AV.any] 1,bK (Tt iV (Ae x87 (pjO n c)++[x81.o]++Tw ((Tt iV (Ad n.nx (shG n.bs.length (shO n q) q.cl x81.o x54.i) x81.o x54.i).fst).length-Ty 1) (Tv (Ty 1) (Ad n.nx (shG n.bs.length (shO n q) q.cl x81.o x54.i) x81.o x54.i).fst)++Ae x54 0)) 1]->BS blk) <|
         gu (∀(c_1:Int),c_1∈Ae x87 (pjO n c)++[x81.o]++Tw ((Tt iV (Ad n.nx (shG n.bs.length (shO n q) q.cl x81.o x54.i) x81.o x54.i).fst).length-Ty 1) (Tv (Ty 1) (Ad n.nx (shG n.bs.length (shO n q) q.cl x81.o x54.i) x81.o x54.i).fst)++Ae x54 0->0<=c_1/\c_1<iN q.cl.length) <|
         br (Bh q.cl (Ae x87 (pjO n c)++[x81.o]++Tw ((Tt iV (Ad n.nx (shG n.bs.length (shO n q) q.cl x81.o x54.i) x81.o x54.i).fst).length-Ty 1) (Tv (Ty 1) (Ad n.nx (shG n.bs.length (shO n q) q.cl x81.o x54.i) x81.o x54.i).fst)++Ae x54 0))
         (none)
         (some (.inr ([],AV.tup [AV.nils,bV false,iV 0])))))
       (gu (n.bs.length<=1000/\n.bs.length<=(shO n q).length/\n.bs.length<=q.cl.length) <|
        br (iN (Tt iV (Ad n.nx (shG n.bs.length (shO n q) q.cl c x54.i) c x54.i).fst).length==0)
        (gu (n.bs.length<=1000/\n.bs.length<=q.cl.length) <|
         br (iN (Tt iV (Ad n.nx (shW n.bs.length q.cl c) c x54.i).fst).length==0)
         (some (.inr ([],AV.tup [AV.nils,bV false,iV 0])))
         (gu (∀(e:AV),e∈Tt iV (Ad n.nx (shW n.bs.length q.cl c) c x54.i).fst->e.cells.length=1) <|
          gu (1<=iN (Tt iV (Ad n.nx (shW n.bs.length q.cl c) c x54.i).fst).length) <|
          gu (0<=x54.b/\x54.b<=1000) <|
          gu (x54.k<=1000) <|
          gu (([]++Tw ((Tt iV (Ad n.nx (shW n.bs.length q.cl c) c x54.i).fst).length-Ty 1) (Tv (Ty 1) (Ad n.nx (shW n.bs.length q.cl c) c x54.i).fst)++Ae x54 0).length<=1000000) <|
          gu (∀(blk:Blk),blk∈[bK [AV.any,AV.any,AV.any] 1,bK (Tt iV ([]++Tw ((Tt iV (Ad n.nx (shW n.bs.length q.cl c) c x54.i).fst).length-Ty 1) (Tv (Ty 1) (Ad n.nx (shW n.bs.length q.cl c) c x54.i).fst)++Ae x54 0)) 1]->BS blk) <|
          gu (∀(c_1:Int),c_1∈[]++Tw ((Tt iV (Ad n.nx (shW n.bs.length q.cl c) c x54.i).fst).length-Ty 1) (Tv (Ty 1) (Ad n.nx (shW n.bs.length q.cl c) c x54.i).fst)++Ae x54 0->0<=c_1/\c_1<iN q.cl.length) <|
          br (Bh q.cl ([]++Tw ((Tt iV (Ad n.nx (shW n.bs.length q.cl c) c x54.i).fst).length-Ty 1) (Tv (Ty 1) (Ad n.nx (shW n.bs.length q.cl c) c x54.i).fst)++Ae x54 0))
          (none)
          (some (.inr ([],AV.tup [AV.nils,bV false,iV 0])))))
        (gu (∀(e:AV),e∈Tt iV (Ad n.nx (shG n.bs.length (shO n q) q.cl c x54.i) c x54.i).fst->e.cells.length=1) <|
         gu (1<=iN (Tt iV (Ad n.nx (shG n.bs.length (shO n q) q.cl c x54.i) c x54.i).fst).length) <|
         gu (0<=x54.b/\x54.b<=1000) <|
         gu (x54.k<=1000) <|
         gu (([]++Tw ((Tt iV (Ad n.nx (shG n.bs.length (shO n q) q.cl c x54.i) c x54.i).fst).length-Ty 1) (Tv (Ty 1) (Ad n.nx (shG n.bs.length (shO n q) q.cl c x54.i) c x54.i).fst)++Ae x54 0).length<=1000000) <|
         gu (∀(blk:Blk),blk∈[bK [AV.any,AV.any,AV.any] 1,bK (Tt iV ([]++Tw ((Tt iV (Ad n.nx (shG n.bs.length (shO n q) q.cl c x54.i) c x54.i).fst).length-Ty 1) (Tv (Ty 1) (Ad n.nx (shG n.bs.length (shO n q) q.cl c x54.i) c x54.i).fst)++Ae x54 0)) 1]->BS blk) <|
         gu (∀(c_1:Int),c_1∈[]++Tw ((Tt iV (Ad n.nx (shG n.bs.length (shO n q) q.cl c x54.i) c x54.i).fst).length-Ty 1) (Tv (Ty 1) (Ad n.nx (shG n.bs.length (shO n q) q.cl c x54.i) c x54.i).fst)++Ae x54 0->0<=c_1/\c_1<iN q.cl.length) <|
         br (Bh q.cl ([]++Tw ((Tt iV (Ad n.nx (shG n.bs.length (shO n q) q.cl c x54.i) c x54.i).fst).length-Ty 1) (Tv (Ty 1) (Ad n.nx (shG n.bs.length (shO n q) q.cl c x54.i) c x54.i).fst)++Ae x54 0))
         (none)
         (some (.inr ([],AV.tup [AV.nils,bV false,iV 0])))))))))))
def leFStep(n:Ac)(q:Af)(c d:Int):Empty->Option (Empty⊕Ret)
 | x=>x.elim
theorem leFEn_ok(n:Ac)(q:Af)(c d:Int)(o:Empty⊕Ret)(h:KD n q c d=some o):Arr TA Try.f30 0 (leFSt n q c d) leFHd (zB Try.f30) [] {n:=Try.f30.ntmps,fr:=AK 0 ([Aj n,sgA q,.int .i64 c,.int .i64 d]),hp:=([])} o:=
 Scr.ok h mix (
 .rn 0 [] [] [] [] (al (u2 (u2 t4))) <|
 .gu fun a0=>
 have c0:=ssh_c (q.cl) (q.bw) (q.pe) a0;
 .rn 1 [] [] [(24,hK c0 [] [])] [] (aj (u2 (u2 (aj (k2 (aj t9 (aj t4 (al (c0))))) (u2 (u2 (u2 (ak (aj (k2 n11) s2)))))))) (al (u2 (u2 s2)))) <|
 .br (fun a1=>
 .rt [55] [] [] [] [] [] (aj (aj a1 (al (u2 (k2 s2)))) (al t4)))
 (fun a1=>
 .br (fun a2=>
  .rt [54,69] [] [] [] [] [] (aj (aj a1 (aj (u2 (u2 (u2 (aj a2 (aj a2 (aj a2 (aj a2 (ag a2 (u2 (k2 (aj t3 (u2 (k5 (aj t3 s2)))))))))))))) (ak (al t4)))) (al t4)))
 (fun a2=>
  .br (fun a3=>
  .rt [54,68,81] [] [] [] [] [] (aj (aj a1 (aj (u2 (u2 (u2 (ag a2 (ag a2 (ag a2 (aj (aj a2 t3) (ag a2 (u2 (aj a3 (aj a3 (ag a3 (u2 (k5 (aj t3 s2))))))))))))))) (ak (al t4)))) (al t4)))
  (fun a3=>
  .br (fun a4=>
   .rt [54,68,80,89] [] [] [] [] [] (aj (aj a1 (aj (u2 (u2 (u2 (ag a2 (ag a2 (ag a2 (aj (aj a2 t3) (ag a2 (u2 (ag a3 (ag a3 (ag a3 (u2 (aj a4 (aj a4 (aj a4 (aj a4 (aj a4 (ag a4 s2))))))))))))))))))) (ak (al t4)))) (al t4)))
  (fun a4=>
   .rn 0 [54,68,80,88] [] [] [] (aj a1 (al (u2 (u2 (u2 (ag a2 (ag a2 (ag a2 (aj (aj a2 t3) (ag a2 (u2 (ag a3 (ag a3 (ag a3 (u2 (ag a4 (ag a4 (ag a4 (ag a4 (aj (aj a4 t3) (ag a4 s2))))))))))))))))))))) <|
   .br (fun a5=>
   .rt [68,80,88,63] [] [] [] [] [] (aj (aj a5 (al t4)) (al t4)))
   (fun a5=>
   .gu fun a6=>
   .el fun x54 a7=>
   have c1:=plc_c c a0;
   .rn 2 [68,80,88,62] [(54,sA x54)] [(59,hK c1 [] [])] [] (aj a5 (aj (u2 (u2 (u2 (aj (k2 (aj a6 (AE (f:=sA) a7))) (u2 (ak (al (k2 n11)))))))) (aj (u2 (u2 (aj (k2 (aj t9 (ak (al (c1))))) (u2 (u2 (u2 (u2 (u2 (u2 s2))))))))) (al (u2 (u2 (al t3))))))) <|
   .br (fun a8=>
    .gu fun a9=>
    .gu fun a10=>
    .gu fun a11=>
    have c2:=Dd x54 (pjO n c) a9 a10 a11;
    .rn 0 [68,80,88,131] [] [(68,hK c2 [] [])] [] (aj a8 (al (u2 (u2 (aj (k2 (aj t7 (ak (al (c2))))) s2))))) <|
    .gu fun a12=>
    .gu fun a13=>
    .br (fun a14=>
    .no)
    (fun a14=>
    have c3:=Il q (Ae x54 (pjO n c)) ((Ae x54 (pjO n c)).length) (show(Ae x54 (pjO n c)).length=(Ae x54 (pjO n c)).length from rfl) a12 a13 a14;
    .rt [68,80,88] [] [(71,hK c3 [4] [])] [] [] [] (aj (al (u2 (u2 (aj (k2 (aj t4 (k2 (al (c3))))) (u2 (u2 (u2 (u2 (u2 s2))))))))) (al t4))))
   (fun a8=>
    .rn 2 [68,80,88,130] [] [] [] (aj a8 (u2 (aj (u2 (ak (al (k2 n11)))) (al (u2 s2))))) <|
    .br (fun a9=>
    .gu fun a10=>
    .el fun x81 a11=>
    .rn 0 [68,80,88,155] [(81,sA x81)] [] [] (aj a9 (al (u2 (u2 (u2 (aj (k2 (aj a10 (AE (f:=sA) a11))) (u2 (u2 (al (k2 (show Nat.le 1 [iv c].length from(nL rfl)))))))))))) <|
    .el fun x87 a12=>
    .gu fun a13=>
    .gu fun a14=>
    .gu fun a15=>
    .gu fun a16=>
    .gu fun a17=>
    have c2:=Dd x87 (pjO n c) a13 a14 a15;
    .rn 0 [68,80,88] [(87,sA x87)] [(90,hK c2 [] [])] [] (al (u2 (u2 (u2 (aj (k2 (aj a10 (AE (f:=sA) a12))) (u2 (u2 (aj (k2 (aj t7 (ak (al (c2))))) (u2 (u2 (aj (k2 (aj (show(Tt iv (Ae x87 (pjO n c))).length=(Ae x87 (pjO n c)).length by simp) (aj (aj (show nat_lit 1=nat_lit 1 from rfl) (show 1<=[iv x81.o].length by simp)) (aj a16 a17)))) s2))))))))))) <|
    .gu fun a18=>
    have c3:=I4 n (shO n q) (x81.o) (x81.o) (x54.i) x54 q a0 a18;
    .rn 1 [68,80,88] [] [(99,hK c3 [2,4,3,1] [])] [] (aj (u2 (aj t5 (u2 (u2 (u2 (aj (ak (k3 (aj t9 (aj t5 (ak (k5 (al (c3)))))))) s2)))))) (al (u2 (u2 s2)))) <|
    .br (fun a19=>
     .gu fun a20=>
     have c4:=IG n (x81.o) (x81.o) (x54.i) q a0 a20;
     .rn 1 [68,80,88,205] [] [(108,hK c4 [1,4] [])] [] (aj a19 (aj (u2 (aj t3 (u2 (u2 (u2 (aj (ak (k3 (aj t9 (aj t3 (ak (k3 (al (c4)))))))) s2)))))) (al (u2 (u2 s2))))) <|
     .br (fun a21=>
     .rt [68,80,88,223] [] [] [] [] [] (aj (aj a21 (al t4)) (al t4)))
     (fun a21=>
     .gu fun a22=>
     .gu fun a23=>
     .gu fun a24=>
     .gu fun a25=>
     .gu fun a26=>
     .gu fun a27=>
     .gu fun a28=>
     .br (fun a29=>
      .no)
     (fun a29=>
      have c5:=Dd x54 (0) (show(0:Int)<=(0:Int)/\(0:Int)<=(1000:Int) from ⟨(by first | exact nL rfl | decide),(by first | exact nL rfl | decide)⟩) a24 a25;
      have c6:=ER (Ae x87 (pjO n c)++[x81.o]) (Tw ((Tt iv (Ad n.nx (shW n.bs.length q.cl x81.o) x81.o x54.i).fst).length-Ty 1) (Tv (Ty 1) (Ad n.nx (shW n.bs.length q.cl x81.o) x81.o x54.i).fst)) (Ae x54 0) a26;
      have c7:=Il q (Ae x87 (pjO n c)++[x81.o]++Tw ((Tt iv (Ad n.nx (shW n.bs.length q.cl x81.o) x81.o x54.i).fst).length-Ty 1) (Tv (Ty 1) (Ad n.nx (shW n.bs.length q.cl x81.o) x81.o x54.i).fst)++Ae x54 0) ((Ae x87 (pjO n c)++[x81.o]++Tw ((Tt iv (Ad n.nx (shW n.bs.length q.cl x81.o) x81.o x54.i).fst).length-Ty 1) (Tv (Ty 1) (Ad n.nx (shW n.bs.length q.cl x81.o) x81.o x54.i).fst)++Ae x54 0).length) (show(Ae x87 (pjO n c)++[x81.o]++Tw ((Tt iv (Ad n.nx (shW n.bs.length q.cl x81.o) x81.o x54.i).fst).length-Ty 1) (Tv (Ty 1) (Ad n.nx (shW n.bs.length q.cl x81.o) x81.o x54.i).fst)++Ae x54 0).length=(Ae x87 (pjO n c)++[x81.o]++Tw ((Tt iv (Ad n.nx (shW n.bs.length q.cl x81.o) x81.o x54.i).fst).length-Ty 1) (Tv (Ty 1) (Ad n.nx (shW n.bs.length q.cl x81.o) x81.o x54.i).fst)++Ae x54 0).length from rfl) a26 a28 a29;
      .rt [68,80,88,222] [] [(117,hK c5 [] []),(119,hK c6 [9] [7,8]),(120,hK c7 [10] [])] [] [] [] (aj (aj a21 (al (u2 (u2 (u2 (aj (ak (aj a22 (aj (show(0:Int)<=(1:Int) from(by first | exact nL rfl | decide)) (aj a23 (aj (show iN (Tt iv (Ad n.nx (shW n.bs.length q.cl x81.o) x81.o x54.i).fst).length<=iN (Tt iv (Ad n.nx (shW n.bs.length q.cl x81.o) x81.o x54.i).fst).length by omega) (show iN (Tt iv (Ad n.nx (shW n.bs.length q.cl x81.o) x81.o x54.i).fst).length<=iN (Tt iv (Ad n.nx (shW n.bs.length q.cl x81.o) x81.o x54.i).fst).length by omega)))))) (u2 (aj (ak (aj t7 (ak (al (c5))))) (aj t4 (aj (k2 (aj (aj (show(Tt iv (Ae x87 (pjO n c))).length+[iv x81.o].length=(Tt iv (Ae x87 (pjO n c))++[iv x81.o]).length by simp) (ak (al (show(Ae x54 0).length=(Tt iv (Ae x54 0)).length by simp)))) (aj (show CT TA 68 [some (bK [Tz (Tt iv (Ae x87 (pjO n c))++[iv x81.o]),Tz (Tw ((Tt iv (Ad n.nx (shW n.bs.length q.cl x81.o) x81.o x54.i).fst).length-Ty 1) (Tv (Ty 1) (Tt iv (Ad n.nx (shW n.bs.length q.cl x81.o) x81.o x54.i).fst))),Tz (Tt iv (Ae x54 0))] 1)] [AV.sl 0 0 3] [some (bK [AV.any,AV.any,AV.any] 1),some (bK (Tt iv (Ae x87 (pjO n c)++[x81.o]++Tw ((Tt iv (Ad n.nx (shW n.bs.length q.cl x81.o) x81.o x54.i).fst).length-Ty 1) (Tv (Ty 1) (Ad n.nx (shW n.bs.length q.cl x81.o) x81.o x54.i).fst)++Ae x54 0)) 1)] (AV.sl 1 0 (Ae x87 (pjO n c)++[x81.o]++Tw ((Tt iv (Ad n.nx (shW n.bs.length q.cl x81.o) x81.o x54.i).fst).length-Ty 1) (Tv (Ty 1) (Ad n.nx (shW n.bs.length q.cl x81.o) x81.o x54.i).fst)++Ae x54 0).length) from CT.eqs (c6) (by first | (simp only[boL,SI,Tn,List.map_take,List.map_drop,List.map_replicate,List.nil_append];done) | (simp only[boL,SI,Tn,List.map_take,List.map_drop,List.map_replicate,List.nil_append];rfl) | (simp[gL,boL,lI,sA,bA];done) | (simp[gL,boL,lI,sA,bA];rfl) | (simp only[Aj,SI,Tn,Sq,Sr];rfl)) (by first | (simp only[boL,SI,Tn,List.map_take,List.map_drop,List.map_replicate,List.nil_append];done) | (simp only[boL,SI,Tn,List.map_take,List.map_drop,List.map_replicate,List.nil_append];rfl) | (simp[gL,boL,lI,sA,bA];done) | (simp[gL,boL,lI,sA,bA];rfl) | (simp only[Aj,SI,Tn,Sq,Sr];rfl))) a27))) (aj (k2 (aj t4 (k2 (al (c7))))) (u2 (u2 (u2 (u2 (u2 s2)))))))))))))))) (al t4)))))
    (fun a19=>
     .rn 0 [68,80,88,204] [] [] [] (aj a19 (al (u2 (u2 s2)))) <|
     .gu fun a20=>
     .gu fun a21=>
     .gu fun a22=>
     .gu fun a23=>
     .gu fun a24=>
     .gu fun a25=>
     .gu fun a26=>
     .br (fun a27=>
     .no)
     (fun a27=>
     have c4:=Dd x54 (0) (show(0:Int)<=(0:Int)/\(0:Int)<=(1000:Int) from ⟨(by first | exact nL rfl | decide),(by first | exact nL rfl | decide)⟩) a22 a23;
     have c5:=ER (Ae x87 (pjO n c)++[x81.o]) (Tw ((Tt iv (Ad n.nx (shG n.bs.length (shO n q) q.cl x81.o x54.i) x81.o x54.i).fst).length-Ty 1) (Tv (Ty 1) (Ad n.nx (shG n.bs.length (shO n q) q.cl x81.o x54.i) x81.o x54.i).fst)) (Ae x54 0) a24;
     have c6:=Il q (Ae x87 (pjO n c)++[x81.o]++Tw ((Tt iv (Ad n.nx (shG n.bs.length (shO n q) q.cl x81.o x54.i) x81.o x54.i).fst).length-Ty 1) (Tv (Ty 1) (Ad n.nx (shG n.bs.length (shO n q) q.cl x81.o x54.i) x81.o x54.i).fst)++Ae x54 0) ((Ae x87 (pjO n c)++[x81.o]++Tw ((Tt iv (Ad n.nx (shG n.bs.length (shO n q) q.cl x81.o x54.i) x81.o x54.i).fst).length-Ty 1) (Tv (Ty 1) (Ad n.nx (shG n.bs.length (shO n q) q.cl x81.o x54.i) x81.o x54.i).fst)++Ae x54 0).length) (show(Ae x87 (pjO n c)++[x81.o]++Tw ((Tt iv (Ad n.nx (shG n.bs.length (shO n q) q.cl x81.o x54.i) x81.o x54.i).fst).length-Ty 1) (Tv (Ty 1) (Ad n.nx (shG n.bs.length (shO n q) q.cl x81.o x54.i) x81.o x54.i).fst)++Ae x54 0).length=(Ae x87 (pjO n c)++[x81.o]++Tw ((Tt iv (Ad n.nx (shG n.bs.length (shO n q) q.cl x81.o x54.i) x81.o x54.i).fst).length-Ty 1) (Tv (Ty 1) (Ad n.nx (shG n.bs.length (shO n q) q.cl x81.o x54.i) x81.o x54.i).fst)++Ae x54 0).length from rfl) a24 a26 a27;
     .rt [68,80,88,222] [] [(117,hK c4 [] []),(119,hK c5 [9] [7,8]),(120,hK c6 [10] [])] [] [] [] (aj (aj a19 (al (u2 (u2 (u2 (aj (ak (aj a20 (aj (show(0:Int)<=(1:Int) from(by first | exact nL rfl | decide)) (aj a21 (aj (show iN (Tt iv (Ad n.nx (shG n.bs.length (shO n q) q.cl x81.o x54.i) x81.o x54.i).fst).length<=iN (Tt iv (Ad n.nx (shG n.bs.length (shO n q) q.cl x81.o x54.i) x81.o x54.i).fst).length by omega) (show iN (Tt iv (Ad n.nx (shG n.bs.length (shO n q) q.cl x81.o x54.i) x81.o x54.i).fst).length<=iN (Tt iv (Ad n.nx (shG n.bs.length (shO n q) q.cl x81.o x54.i) x81.o x54.i).fst).length by omega)))))) (u2 (aj (ak (aj t7 (ak (al (c4))))) (aj t4 (aj (k2 (aj (aj (show(Tt iv (Ae x87 (pjO n c))).length+[iv x81.o].length=(Tt iv (Ae x87 (pjO n c))++[iv x81.o]).length by simp) (ak (al (show(Ae x54 0).length=(Tt iv (Ae x54 0)).length by simp)))) (aj (show CT TA 68 [some (bK [Tz (Tt iv (Ae x87 (pjO n c))++[iv x81.o]),Tz (Tw ((Tt iv (Ad n.nx (shG n.bs.length (shO n q) q.cl x81.o x54.i) x81.o x54.i).fst).length-Ty 1) (Tv (Ty 1) (Tt iv (Ad n.nx (shG n.bs.length (shO n q) q.cl x81.o x54.i) x81.o x54.i).fst))),Tz (Tt iv (Ae x54 0))] 1)] [AV.sl 0 0 3] [some (bK [AV.any,AV.any,AV.any] 1),some (bK (Tt iv (Ae x87 (pjO n c)++[x81.o]++Tw ((Tt iv (Ad n.nx (shG n.bs.length (shO n q) q.cl x81.o x54.i) x81.o x54.i).fst).length-Ty 1) (Tv (Ty 1) (Ad n.nx (shG n.bs.length (shO n q) q.cl x81.o x54.i) x81.o x54.i).fst)++Ae x54 0)) 1)] (AV.sl 1 0 (Ae x87 (pjO n c)++[x81.o]++Tw ((Tt iv (Ad n.nx (shG n.bs.length (shO n q) q.cl x81.o x54.i) x81.o x54.i).fst).length-Ty 1) (Tv (Ty 1) (Ad n.nx (shG n.bs.length (shO n q) q.cl x81.o x54.i) x81.o x54.i).fst)++Ae x54 0).length) from CT.eqs (c5) (by first | (simp only[boL,SI,Tn,List.map_take,List.map_drop,List.map_replicate,List.nil_append];done) | (simp only[boL,SI,Tn,List.map_take,List.map_drop,List.map_replicate,List.nil_append];rfl) | (simp[gL,boL,lI,sA,bA];done) | (simp[gL,boL,lI,sA,bA];rfl) | (simp only[Aj,SI,Tn,Sq,Sr];rfl)) (by first | (simp only[boL,SI,Tn,List.map_take,List.map_drop,List.map_replicate,List.nil_append];done) | (simp only[boL,SI,Tn,List.map_take,List.map_drop,List.map_replicate,List.nil_append];rfl) | (simp[gL,boL,lI,sA,bA];done) | (simp[gL,boL,lI,sA,bA];rfl) | (simp only[Aj,SI,Tn,Sq,Sr];rfl))) a25))) (aj (k2 (aj t4 (k2 (al (c6))))) (u2 (u2 (u2 (u2 (u2 s2)))))))))))))))) (al t4)))))
    (fun a9=>
    .gu fun a10=>
    have c2:=I4 n (shO n q) c c (x54.i) x54 q a0 a10;
    .rn 1 [68,80,88,154] [] [(99,hK c2 [2,4,3,1] [])] [] (aj a9 (aj (u2 (aj t5 (u2 (u2 (u2 (aj (ak (k3 (aj t9 (aj t5 (ak (k5 (al (c2)))))))) s2)))))) (al (u2 (u2 s2))))) <|
    .br (fun a11=>
     .gu fun a12=>
     have c3:=IG n c c (x54.i) q a0 a12;
     .rn 1 [68,80,88,205] [] [(108,hK c3 [1,4] [])] [] (aj a11 (aj (u2 (aj t3 (u2 (u2 (u2 (aj (ak (k3 (aj t9 (aj t3 (ak (k3 (al (c3)))))))) s2)))))) (al (u2 (u2 s2))))) <|
     .br (fun a13=>
     .rt [68,80,88,223] [] [] [] [] [] (aj (aj a13 (al t4)) (al t4)))
     (fun a13=>
     .gu fun a14=>
     .gu fun a15=>
     .gu fun a16=>
     .gu fun a17=>
     .gu fun a18=>
     .gu fun a19=>
     .gu fun a20=>
     .br (fun a21=>
      .no)
     (fun a21=>
      have c4:=Dd x54 (0) (show(0:Int)<=(0:Int)/\(0:Int)<=(1000:Int) from ⟨(by first | exact nL rfl | decide),(by first | exact nL rfl | decide)⟩) a16 a17;
      have c5:=ER ([]) (Tw ((Tt iv (Ad n.nx (shW n.bs.length q.cl c) c x54.i).fst).length-Ty 1) (Tv (Ty 1) (Ad n.nx (shW n.bs.length q.cl c) c x54.i).fst)) (Ae x54 0) a18;
      have c6:=Il q ([]++Tw ((Tt iv (Ad n.nx (shW n.bs.length q.cl c) c x54.i).fst).length-Ty 1) (Tv (Ty 1) (Ad n.nx (shW n.bs.length q.cl c) c x54.i).fst)++Ae x54 0) (([]++Tw ((Tt iv (Ad n.nx (shW n.bs.length q.cl c) c x54.i).fst).length-Ty 1) (Tv (Ty 1) (Ad n.nx (shW n.bs.length q.cl c) c x54.i).fst)++Ae x54 0).length) (show([]++Tw ((Tt iv (Ad n.nx (shW n.bs.length q.cl c) c x54.i).fst).length-Ty 1) (Tv (Ty 1) (Ad n.nx (shW n.bs.length q.cl c) c x54.i).fst)++Ae x54 0).length=([]++Tw ((Tt iv (Ad n.nx (shW n.bs.length q.cl c) c x54.i).fst).length-Ty 1) (Tv (Ty 1) (Ad n.nx (shW n.bs.length q.cl c) c x54.i).fst)++Ae x54 0).length from rfl) a18 a20 a21;
      .rt [68,80,88,222] [(118,AV.tup [])] [(117,hK c4 [] []),(119,hK c5 [6] [5]),(120,hK c6 [7] [])] [] [] [] (aj (aj a13 (al (u2 (u2 (u2 (aj (ak (aj a14 (aj (show(0:Int)<=(1:Int) from(by first | exact nL rfl | decide)) (aj a15 (aj (show iN (Tt iv (Ad n.nx (shW n.bs.length q.cl c) c x54.i).fst).length<=iN (Tt iv (Ad n.nx (shW n.bs.length q.cl c) c x54.i).fst).length by omega) (show iN (Tt iv (Ad n.nx (shW n.bs.length q.cl c) c x54.i).fst).length<=iN (Tt iv (Ad n.nx (shW n.bs.length q.cl c) c x54.i).fst).length by omega)))))) (u2 (aj (ak (aj t7 (ak (al (c4))))) (aj t4 (aj (k2 (aj (k2 (al (show(Ae x54 0).length=(Tt iv (Ae x54 0)).length by simp))) (aj (show CT TA 68 [some (bK [Tz [],Tz (Tw ((Tt iv (Ad n.nx (shW n.bs.length q.cl c) c x54.i).fst).length-Ty 1) (Tv (Ty 1) (Tt iv (Ad n.nx (shW n.bs.length q.cl c) c x54.i).fst))),Tz (Tt iv (Ae x54 0))] 1)] [AV.sl 0 0 3] [some (bK [AV.any,AV.any,AV.any] 1),some (bK (Tt iv ([]++Tw ((Tt iv (Ad n.nx (shW n.bs.length q.cl c) c x54.i).fst).length-Ty 1) (Tv (Ty 1) (Ad n.nx (shW n.bs.length q.cl c) c x54.i).fst)++Ae x54 0)) 1)] (AV.sl 1 0 ([]++Tw ((Tt iv (Ad n.nx (shW n.bs.length q.cl c) c x54.i).fst).length-Ty 1) (Tv (Ty 1) (Ad n.nx (shW n.bs.length q.cl c) c x54.i).fst)++Ae x54 0).length) from CT.eqs (c5) (by first | (simp only[boL,SI,Tn,List.map_take,List.map_drop,List.map_replicate,List.nil_append];done) | (simp only[boL,SI,Tn,List.map_take,List.map_drop,List.map_replicate,List.nil_append];rfl) | (simp[gL,boL,lI,sA,bA];done) | (simp[gL,boL,lI,sA,bA];rfl) | (simp only[Aj,SI,Tn,Sq,Sr];rfl)) (by first | (simp only[boL,SI,Tn,List.map_take,List.map_drop,List.map_replicate,List.nil_append];done) | (simp only[boL,SI,Tn,List.map_take,List.map_drop,List.map_replicate,List.nil_append];rfl) | (simp[gL,boL,lI,sA,bA];done) | (simp[gL,boL,lI,sA,bA];rfl) | (simp only[Aj,SI,Tn,Sq,Sr];rfl))) a19))) (aj (k2 (aj t4 (k2 (al (c6))))) (u2 (u2 (u2 (u2 (u2 s2)))))))))))))))) (al t4)))))
    (fun a11=>
     .rn 0 [68,80,88,204] [] [] [] (aj a11 (al (u2 (u2 s2)))) <|
     .gu fun a12=>
     .gu fun a13=>
     .gu fun a14=>
     .gu fun a15=>
     .gu fun a16=>
     .gu fun a17=>
     .gu fun a18=>
     .br (fun a19=>
     .no)
     (fun a19=>
     have c3:=Dd x54 (0) (show(0:Int)<=(0:Int)/\(0:Int)<=(1000:Int) from ⟨(by first | exact nL rfl | decide),(by first | exact nL rfl | decide)⟩) a14 a15;
     have c4:=ER ([]) (Tw ((Tt iv (Ad n.nx (shG n.bs.length (shO n q) q.cl c x54.i) c x54.i).fst).length-Ty 1) (Tv (Ty 1) (Ad n.nx (shG n.bs.length (shO n q) q.cl c x54.i) c x54.i).fst)) (Ae x54 0) a16;
     have c5:=Il q ([]++Tw ((Tt iv (Ad n.nx (shG n.bs.length (shO n q) q.cl c x54.i) c x54.i).fst).length-Ty 1) (Tv (Ty 1) (Ad n.nx (shG n.bs.length (shO n q) q.cl c x54.i) c x54.i).fst)++Ae x54 0) (([]++Tw ((Tt iv (Ad n.nx (shG n.bs.length (shO n q) q.cl c x54.i) c x54.i).fst).length-Ty 1) (Tv (Ty 1) (Ad n.nx (shG n.bs.length (shO n q) q.cl c x54.i) c x54.i).fst)++Ae x54 0).length) (show([]++Tw ((Tt iv (Ad n.nx (shG n.bs.length (shO n q) q.cl c x54.i) c x54.i).fst).length-Ty 1) (Tv (Ty 1) (Ad n.nx (shG n.bs.length (shO n q) q.cl c x54.i) c x54.i).fst)++Ae x54 0).length=([]++Tw ((Tt iv (Ad n.nx (shG n.bs.length (shO n q) q.cl c x54.i) c x54.i).fst).length-Ty 1) (Tv (Ty 1) (Ad n.nx (shG n.bs.length (shO n q) q.cl c x54.i) c x54.i).fst)++Ae x54 0).length from rfl) a16 a18 a19;
     .rt [68,80,88,222] [(118,AV.tup [])] [(117,hK c3 [] []),(119,hK c4 [6] [5]),(120,hK c5 [7] [])] [] [] [] (aj (aj a11 (al (u2 (u2 (u2 (aj (ak (aj a12 (aj (show(0:Int)<=(1:Int) from(by first | exact nL rfl | decide)) (aj a13 (aj (show iN (Tt iv (Ad n.nx (shG n.bs.length (shO n q) q.cl c x54.i) c x54.i).fst).length<=iN (Tt iv (Ad n.nx (shG n.bs.length (shO n q) q.cl c x54.i) c x54.i).fst).length by omega) (show iN (Tt iv (Ad n.nx (shG n.bs.length (shO n q) q.cl c x54.i) c x54.i).fst).length<=iN (Tt iv (Ad n.nx (shG n.bs.length (shO n q) q.cl c x54.i) c x54.i).fst).length by omega)))))) (u2 (aj (ak (aj t7 (ak (al (c3))))) (aj t4 (aj (k2 (aj (k2 (al (show(Ae x54 0).length=(Tt iv (Ae x54 0)).length by simp))) (aj (show CT TA 68 [some (bK [Tz [],Tz (Tw ((Tt iv (Ad n.nx (shG n.bs.length (shO n q) q.cl c x54.i) c x54.i).fst).length-Ty 1) (Tv (Ty 1) (Tt iv (Ad n.nx (shG n.bs.length (shO n q) q.cl c x54.i) c x54.i).fst))),Tz (Tt iv (Ae x54 0))] 1)] [AV.sl 0 0 3] [some (bK [AV.any,AV.any,AV.any] 1),some (bK (Tt iv ([]++Tw ((Tt iv (Ad n.nx (shG n.bs.length (shO n q) q.cl c x54.i) c x54.i).fst).length-Ty 1) (Tv (Ty 1) (Ad n.nx (shG n.bs.length (shO n q) q.cl c x54.i) c x54.i).fst)++Ae x54 0)) 1)] (AV.sl 1 0 ([]++Tw ((Tt iv (Ad n.nx (shG n.bs.length (shO n q) q.cl c x54.i) c x54.i).fst).length-Ty 1) (Tv (Ty 1) (Ad n.nx (shG n.bs.length (shO n q) q.cl c x54.i) c x54.i).fst)++Ae x54 0).length) from CT.eqs (c4) (by first | (simp only[boL,SI,Tn,List.map_take,List.map_drop,List.map_replicate,List.nil_append];done) | (simp only[boL,SI,Tn,List.map_take,List.map_drop,List.map_replicate,List.nil_append];rfl) | (simp[gL,boL,lI,sA,bA];done) | (simp[gL,boL,lI,sA,bA];rfl) | (simp only[Aj,SI,Tn,Sq,Sr];rfl)) (by first | (simp only[boL,SI,Tn,List.map_take,List.map_drop,List.map_replicate,List.nil_append];done) | (simp only[boL,SI,Tn,List.map_take,List.map_drop,List.map_replicate,List.nil_append];rfl) | (simp[gL,boL,lI,sA,bA];done) | (simp[gL,boL,lI,sA,bA];rfl) | (simp only[Aj,SI,Tn,Sq,Sr];rfl))) a17))) (aj (k2 (aj t4 (k2 (al (c5))))) (u2 (u2 (u2 (u2 (u2 s2)))))))))))))))) (al t4)))))))))))) (by kernel_rfl)
theorem leF_ct(n:Ac)(q:Af)(c d:Int)(r:Ret)(h:Ax (leFStep n q c d) (KD n q c d) r):CT TA 30 ([]) ([Aj n,sgA q,.int .i64 c,.int .i64 d]) r.1 r.2:=
 CT.mach (fn:=Try.f30) (c:=zB Try.f30) (S:=leFSt n q c d) (hd:=leFHd) Try.func30 (by kernel_rfl) (nL rfl)
  (fun s o ho=>match s,ho with
   | x,_=>x.elim)
  (fun o ho=>leFEn_ok n q c d o ho) h
end Go.Proofs.Ytedjkebooffjpaa
namespace Go.Proofs.Ytedjkebooffjpaa
theorem chkZ_ok{n:Ac}(hv:AA n){sh:List Bool}(hl:sh.length=n.bs.length){a b:Int}(ha:0<=a/\a<(n.bs.length:Int))(hb:0<=b/\b<(n.bs.length:Int)):C4 n.nx sh a b=0:=by
 have h:=hv.chk
 have hn:=hv.nx
 unfold DF at h
 unfold C4
 split at h
 .cases h
 .rename_i h1
  split at h
  .cases h
  .rename_i h2
   rw[Su h1,Su h2,Su (by omega)]
theorem J7{n:Ac}(hv:AA n){sh:List Bool}(hl:sh.length=n.bs.length){a b:Int}(ha:0<=a/\a<(n.bs.length:Int))(hb:0<=b/\b<(n.bs.length:Int)):(Ad n.nx sh a b).1=AW n.nx sh a.toNat b.toNat:=by
 unfold Ad AW Jv
 rw[Ss (chkZ_ok hv hl ha hb)]
 split<;>rfl
theorem E8(p:List Int):Tw ((Tt (AV.int i64) p).length-Ty 1) (Tv (Ty 1) p)=p.tail:=by
 rw[show Ty 1=1 from rfl,List.drop_one,Sy,List.take_of_length_le (by rw[List.length_tail];exact SG _)]
theorem EW{p:List Int}:(iN (Tt (AV.int i64) p).length==0)=decide (p=[]):=by
 cases p with
 | nil=>rfl
 | cons x r=>rw[Sq,Ta];simp[iN];omega
theorem OI{n:Ac}(hv:AA n)(hrw:Rows n.nx){sh:List Bool}(hl:sh.length=n.bs.length){a b:Nat}(ha:a<n.bs.length)(hb:b<n.bs.length):(AW n.nx sh a b).length<=100:=by
 have hn:=hv.nx
 have h24:=hv.nb24
 rcases JL hv hrw hl ha hb with h | ⟨_,h⟩
 .rw[h];exact SH _
 .have:=h.len
  have hD:=(EE (okg hv hrw hl).1 (goal:=b) (by omega)).bnd a (by omega)
  unfold dsS at this
  omega
theorem GB{n:Ac}(hv:AA n)(hrw:Rows n.nx){s:Af}{blk goal:Int}(hb:0<=blk/\blk<(n.bs.length:Int))(hg:0<=goal/\goal<(n.bs.length:Int)):(AD n s blk goal).length<=100:=by
 unfold AD
 split
 .exact OI hv hrw (H1 _ _ _) (by omega) (by omega)
 .exact OI hv hrw (Ha _ _ _ _) (by omega) (by omega)
theorem EQ(l:List Int):∀(blk:Blk),blk∈[Blk.mk [AV.any,AV.any,AV.any] 1 true true none,Blk.mk (Tt (AV.int .i64) l) 1 true true none]->BS blk:=fun blk hb=>by
 rcases SY.1 hb with rfl | hb
 .intro e he c hc
  simp only[SY,List.not_mem_nil,or_false,or_self] at he
  subst he
  rw[Sk.1 hc];rfl
 .exact IK l blk hb
def D0(n:Ac)(s:Af)(c sp:Int):List Int×Bool:=if A2 n s c sp=0 then BM n s c sp else ([],false)
theorem ON{n:Ac}{s:Af}{c sp:Int}(h:A2 n s c sp=0):Cg n s=true/\(0<=c/\c<(Au n:Int))/\0<=sp/\sp<(n.ss.length:Int):=by
 unfold A2 at h
 split at h
 .rename_i h1
  split at h
  .rename_i h2;exact⟨h1,h2⟩
  .cases h
 .cases h
theorem leg_bad{n:Ac}{s:Af}{c d:Int}(hrw:Rows n.nx)(h:A2 n s c d≠0):CT TA 30 [] [Aj n,sgA s,.int .i64 c,.int .i64 d] [] (.tup [.nils,.bool false,.int .i64 (A2 n s c d)]):=by
 refine OY n s c d ([],_) (.val ?_)
 unfold JW shE shO
 rw[Aa hrw]
 unfold A2 at h ⊢
 cases hs:Cg n s with
 | false=>rw[Su (by simp),Su (by simp)];rfl
 | true=>
  rw[hs,Ss rfl] at h
  rw[Ss rfl,Ss rfl,Ss rfl,Ak (by rfl)]
  have hlc:=(HY hs).2.1.lc
  have hlen:=He s
  split at h
  .exact absurd rfl h
  .rename_i h2
   rw[Su h2]
   by_cases h3:c<0
   .rw[An (AF h3)]
   by_cases h4:(Au n:Int)<=c
   .rw[Ak (Ar h3),An (AF (by rw[Ct];simp only[iN];omega))]
   by_cases h5:d<0
   .rw[Ak (Ar h3),Ak (Ar (by rw[Ct];simp only[iN];omega)),An (AF h5)]
   .rw[Ak (Ar h3),Ak (Ar (by rw[Ct];simp only[iN];omega)),Ak (Ar h5),An (AF (by rw[Sy];simp only[iN];omega))]
theorem CT.ren{f:FuncId}{hin hout:List (Option Blk)}{args:List AV}{res:AV}{st1:St}(h:CT TA f hin args hout res)(hr:Ren hin.length ⟨1,[(0,res)],hout⟩ st1):CT TA f hin args st1.hp (AX.Al st1.fr 0):=by
 intro φ A w vs hA hh ho hl hv
 refine(h φ A w vs hA hh ho hl hv).mono fun e w' ⟨v,φ',he,C⟩=>?_
 have hrel:Rel A w.heap.size hin.length φ' ⟨1,[(0,res)],hout⟩ {tmps:=#[v],defers:=[]} w':=by
  refine⟨rfl,rfl,fun s=>?_,C.heap,C.out,C.keep.size,C.own⟩
  cases s with
  | zero=>exact C.val
  | succ s=>exact .imm _ _ (.unk _)
 obtain⟨φ2,r2,hm,tr⟩:=hr A w.heap.size φ' _ w' C.len hrel
 refine⟨v,φ2,he,⟨fun b hb=>(tr.par b hb).trans (C.par b hb),C.keep,fun r hr2=>?_,r2.heap,r2.slot 0,r2.out,hm,r2.own⟩⟩
 rcases tr.mutd r hr2 with h1 | h1
 .exact C.mutd r h1
 .exact .inr (Tc C.keep.size h1)
theorem CT.frz{f:FuncId}{args:List AV}{es:List AV}{n:Nat}{b:Bool}{x:Int}(h:CT TA f [] args [some (Blk.mk es 1 true true none)] (.tup [.sl 0 0 n,.bool b,.int .i64 x]))(hn:n=es.length):CT TA f [] args [] (.tup [.lst es,.bool b,.int .i64 x]):=
 CT.ren h (Ren.of (st':=⟨1,[(0,.tup [.lst es,.bool b,.int .i64 x])],[]⟩) [] [0] [0] (p:=(n=es.length/\True/\True/\True)/\True) rfl ⟨⟨hn,trivial,trivial,trivial⟩,trivial⟩ rfl rfl rfl)
def lrT(n:Ac)(s:Af)(c d:Int):Ret:=match AZ n s c d with
 | none=>([],.tup [.nils,.bool false,.int .i64 0])
 | some l=>([some (Blk.mk (l.map (AV.int .i64)) 1 true true none)],.tup [.sl 0 0 l.length,.bool true,.int .i64 0])
theorem leg_T{n:Ac}{s:Af}{c d:Int}(hrw:Rows n.nx)(h:A2 n s c d=0)(hpas:∀l,AZ n s c d=some l->Bh s.cl l=true):CT TA 30 [] [Aj n,sgA s,.int .i64 c,.int .i64 d] (lrT n s c d).1 (lrT n s c d).2:=by
 obtain⟨hsb,hc,hd⟩:=ON h
 obtain⟨hv,hS,l1,l2,l3,l4,l5⟩:=HY hsb
 have hlc:=hS.lc
 have hlen:=He s
 have hce:=hv.cel
 have h24:=hv.nb24
 have hck:=Pb hv hc.1 hc.2
 have hs:=Bg s0 (show d.toNat<n.ss.length by omega)
 have gi:=(hv.goodT _ _ hs).hi
 have gb:=hv.sb hs
 have hR:=@LA n hv hrw s c d hc hd
 have hslt:=F6 (n.ss.getD d.toNat s0) 0
 unfold lrT
 have k:=OY n s c d
 unfold JW shE shO plO pjO at k
 rw[Aa hrw,Ss hsb,Ss hsb,Ak (by rfl),Ak (Ar (by omega)),Ak (Ar (by rw[Ct];simp only[iN];omega)),Ak (Ar (by omega)),Ak (Ar (by rw[Sy];simp only[iN];omega)),Aa hd.1,AY hs,Ss hck,Ss hck] at k
 have eG:∀blk:Int,0<=blk/\blk<(n.bs.length:Int)->(Ad n.nx (shG n.bs.length (Cz s) s.cl blk (n.ss.getD d.toNat s0).i) blk (n.ss.getD d.toNat s0).i).1=AW n.nx (shP n s blk (n.ss.getD d.toNat s0).i) blk.toNat (n.ss.getD d.toNat s0).i.toNat:=fun blk hb=>J7 hv (Ha n s blk _) hb (by omega)
 have eW:∀blk:Int,0<=blk/\blk<(n.bs.length:Int)->(Ad n.nx (shW n.bs.length s.cl blk) blk (n.ss.getD d.toNat s0).i).1=AW n.nx (shQ n s blk) blk.toNat (n.ss.getD d.toNat s0).i.toNat:=fun blk hb=>J7 hv (H1 n s blk) hb (by omega)
 generalize hx:n.ss.getD d.toNat s0=x at *
 cases hp:plF n c with
 | none=>
  have hb:=Js hv hc.1 hc.2 hp
  have hR0:AZ n s c d=if AD n s c x.i=[] then none else some ((AD n s c x.i).tail++Ae x 0):=by unfold AZ;rw[hp];simp only[hx]
  have hPl:=GB hv hrw (s:=s) ⟨hc.1,hb⟩ (goal:=x.i) (by omega)
  rw[Ox hp,Ak (S5.2 (by omega)),Ak (by rfl),Aa ⟨by omega,by omega,by omega⟩,eG c ⟨hc.1,hb⟩,EW] at k
  by_cases hP:AW n.nx (shP n s c x.i) c.toNat x.i.toNat=[]
  .have eL:AD n s c x.i=AW n.nx (shQ n s c) c.toNat x.i.toNat:=by unfold AD;rw[Ss hP]
   rw[An (AF hP),Aa ⟨by omega,by omega⟩,eW c ⟨hc.1,hb⟩,EW,<-eL] at k
   by_cases hQ:AD n s c x.i=[]
   .rw[hR0,Ss hQ]
    rw[An (AF hQ)] at k
    exact k ([],_) (.ret _)
   .have hr:AZ n s c d=some ([]++(AD n s c x.i).tail++Ae x 0):=by rw[hR0,Su hQ];rfl
    have hrg:=hR hr
    rw[<-hlc] at hrg
    have hlen2:([]++(AD n s c x.i).tail++Ae x 0).length<=1000000:=by simp only[SO,Tb,List.length_tail,hslt];omega
    rw[Ak (Ar hQ),Aa (BX _),Aa (by simp only[iN,Sy];have:=List.length_pos_iff.2 hQ;omega),Aa (by omega),Aa (by omega),E8,Aa hlen2,Aa (EQ _),Aa hrg,An (hpas _ hr)] at k
    rw[hr]
    exact k ([_],_) (.ret _)
  .have eL:AD n s c x.i=AW n.nx (shP n s c x.i) c.toNat x.i.toNat:=by unfold AD;rw[Su hP]
   rw[Ak (Ar hP),<-eL] at k
   rw[<-eL] at hP
   have hr:AZ n s c d=some ([]++(AD n s c x.i).tail++Ae x 0):=by rw[hR0,Su hP];rfl
   have hrg:=hR hr
   rw[<-hlc] at hrg
   have hlen2:([]++(AD n s c x.i).tail++Ae x 0).length<=1000000:=by simp only[SO,Tb,List.length_tail,hslt];omega
   rw[Aa (BX _),Aa (by simp only[iN,Sy];have:=List.length_pos_iff.2 hP;omega),Aa (by omega),Aa (by omega),E8,Aa hlen2,Aa (EQ _),Aa hrg,An (hpas _ hr)] at k
   rw[hr]
   exact k ([_],_) (.ret _)
 | some i=>
  obtain⟨t,ht,hg,h1,h2,hil⟩:=Is hp
  have gt:=(hv.goodT _ _ ht).ho
  have tb:=hv.sb ht
  obtain⟨e1,e2⟩:=OZ hp
  rw[hg] at e2
  have hst:=F6 t (c-t.b+1)
  rw[e1,e2] at k
  by_cases hid:(i:Int)=d
  .have hxt:x=t:=by rw[<-hx,<-hg];congr 1;omega
   have hr:AZ n s c d=some (Ae x (c-t.b+1)):=by unfold AZ;rw[hp];simp only[hg,hxt];rw[Ss hid]
   have hrg:=hR hr
   rw[<-hlc] at hrg
   rw[An (beq_iff_eq.2 hid),Aa ⟨by omega,by omega⟩,Aa (by omega),Aa (by omega),Aa (by rw[hxt];rw[hst];omega),Aa hrg,An (hpas _ hr)] at k
   rw[hr]
   exact k ([_],_) (.ret _)
  have hR0:AZ n s c d=if AD n s t.o x.i=[] then none else some (Ae t (c-t.b+1)++([t.o]++((AD n s t.o x.i).tail++Ae x 0))):=by unfold AZ;rw[hp];simp only[hx,hg];rw[Su hid]
  have hPl:=GB hv hrw (s:=s) (blk:=t.o) (by omega) (goal:=x.i) (by omega)
  have hto:(0:Int)<=t.o/\t.o<(n.bs.length:Int):=by omega
  rw[Ak (S5.2 hid),An (AF (by omega)),Aa (by omega),SE,AY ht,AY ht,Aa ⟨by omega,by omega⟩,Aa (by omega),Aa (by omega),Aa (by simp only[Sy,Ta,Tb,hst];omega),Aa (by simp only[Sy,Ta,Tb,hst];omega),Aa ⟨by omega,by omega,by omega⟩,eG t.o hto,EW] at k
  by_cases hP:AW n.nx (shP n s t.o x.i) t.o.toNat x.i.toNat=[]
  .have eL:AD n s t.o x.i=AW n.nx (shQ n s t.o) t.o.toNat x.i.toNat:=by unfold AD;rw[Ss hP]
   rw[An (AF hP),Aa ⟨by omega,by omega⟩,eW t.o hto,EW,<-eL] at k
   by_cases hQ:AD n s t.o x.i=[]
   .rw[hR0,Ss hQ]
    rw[An (AF hQ)] at k
    exact k ([],_) (.ret _)
   .have hr:AZ n s c d=some (Ae t (c-t.b+1)++[t.o]++(AD n s t.o x.i).tail++Ae x 0):=by rw[hR0,Su hQ];simp only[List.append_assoc]
    have hrg:=hR hr
    rw[<-hlc] at hrg
    have hlen2:(Ae t (c-t.b+1)++[t.o]++(AD n s t.o x.i).tail++Ae x 0).length<=1000000:=by simp only[SO,Ta,Tb,List.length_tail,hslt,hst];omega
    rw[Ak (Ar hQ),Aa (BX _),Aa (by simp only[iN,Sy];have:=List.length_pos_iff.2 hQ;omega),Aa (by omega),Aa (by omega),E8,Aa hlen2,Aa (EQ _),Aa hrg,An (hpas _ hr)] at k
    rw[hr]
    exact k ([_],_) (.ret _)
  .have eL:AD n s t.o x.i=AW n.nx (shP n s t.o x.i) t.o.toNat x.i.toNat:=by unfold AD;rw[Su hP]
   rw[Ak (Ar hP),<-eL] at k
   rw[<-eL] at hP
   have hr:AZ n s c d=some (Ae t (c-t.b+1)++[t.o]++(AD n s t.o x.i).tail++Ae x 0):=by rw[hR0,Su hP];simp only[List.append_assoc]
   have hrg:=hR hr
   rw[<-hlc] at hrg
   have hlen2:(Ae t (c-t.b+1)++[t.o]++(AD n s t.o x.i).tail++Ae x 0).length<=1000000:=by simp only[SO,Ta,Tb,List.length_tail,hslt,hst];omega
   rw[Aa (BX _),Aa (by simp only[iN,Sy];have:=List.length_pos_iff.2 hP;omega),Aa (by omega),Aa (by omega),E8,Aa hlen2,Aa (EQ _),Aa hrg,An (hpas _ hr)] at k
   rw[hr]
   exact k ([_],_) (.ret _)
theorem leg_F{n:Ac}{s:Af}{c d:Int}(hrw:Rows n.nx)(h:A2 n s c d=0)(hpas:∀l,AZ n s c d=some l->Bh s.cl l=false):CT TA 30 [] [Aj n,sgA s,.int .i64 c,.int .i64 d] [] (.tup [.nils,.bool false,.int .i64 0]):=by
 obtain⟨hsb,hc,hd⟩:=ON h
 obtain⟨hv,hS,l1,l2,l3,l4,l5⟩:=HY hsb
 have hlc:=hS.lc
 have hlen:=He s
 have hce:=hv.cel
 have h24:=hv.nb24
 have hck:=Pb hv hc.1 hc.2
 have hs:=Bg s0 (show d.toNat<n.ss.length by omega)
 have gi:=(hv.goodT _ _ hs).hi
 have gb:=hv.sb hs
 have hR:=@LA n hv hrw s c d hc hd
 have hslt:=F6 (n.ss.getD d.toNat s0) 0
 have k:=leF_ct n s c d
 unfold KD shE shO plO pjO at k
 rw[Aa hrw,Ss hsb,Ss hsb,Ak (by rfl),Ak (Ar (by omega)),Ak (Ar (by rw[Ct];simp only[iN];omega)),Ak (Ar (by omega)),Ak (Ar (by rw[Sy];simp only[iN];omega)),Aa hd.1,AY hs,Ss hck,Ss hck] at k
 have eG:∀blk:Int,0<=blk/\blk<(n.bs.length:Int)->(Ad n.nx (shG n.bs.length (Cz s) s.cl blk (n.ss.getD d.toNat s0).i) blk (n.ss.getD d.toNat s0).i).1=AW n.nx (shP n s blk (n.ss.getD d.toNat s0).i) blk.toNat (n.ss.getD d.toNat s0).i.toNat:=fun blk hb=>J7 hv (Ha n s blk _) hb (by omega)
 have eW:∀blk:Int,0<=blk/\blk<(n.bs.length:Int)->(Ad n.nx (shW n.bs.length s.cl blk) blk (n.ss.getD d.toNat s0).i).1=AW n.nx (shQ n s blk) blk.toNat (n.ss.getD d.toNat s0).i.toNat:=fun blk hb=>J7 hv (H1 n s blk) hb (by omega)
 generalize hx:n.ss.getD d.toNat s0=x at *
 cases hp:plF n c with
 | none=>
  have hb:=Js hv hc.1 hc.2 hp
  have hR0:AZ n s c d=if AD n s c x.i=[] then none else some ((AD n s c x.i).tail++Ae x 0):=by unfold AZ;rw[hp];simp only[hx]
  have hPl:=GB hv hrw (s:=s) ⟨hc.1,hb⟩ (goal:=x.i) (by omega)
  rw[Ox hp,Ak (S5.2 (by omega)),Ak (by rfl),Aa ⟨by omega,by omega,by omega⟩,eG c ⟨hc.1,hb⟩,EW] at k
  by_cases hP:AW n.nx (shP n s c x.i) c.toNat x.i.toNat=[]
  .have eL:AD n s c x.i=AW n.nx (shQ n s c) c.toNat x.i.toNat:=by unfold AD;rw[Ss hP]
   rw[An (AF hP),Aa ⟨by omega,by omega⟩,eW c ⟨hc.1,hb⟩,EW,<-eL] at k
   by_cases hQ:AD n s c x.i=[]
   .rw[An (AF hQ)] at k
    exact k ([],_) (.ret _)
   .have hr:AZ n s c d=some ([]++(AD n s c x.i).tail++Ae x 0):=by rw[hR0,Su hQ];rfl
    have hrg:=hR hr
    rw[<-hlc] at hrg
    have hlen2:([]++(AD n s c x.i).tail++Ae x 0).length<=1000000:=by simp only[SO,Tb,List.length_tail,hslt];omega
    rw[Ak (Ar hQ),Aa (BX _),Aa (by simp only[iN,Sy];have:=List.length_pos_iff.2 hQ;omega),Aa (by omega),Aa (by omega),E8,Aa hlen2,Aa (EQ _),Aa hrg,Ak (hpas _ hr)] at k
    exact k ([],_) (.ret _)
  .have eL:AD n s c x.i=AW n.nx (shP n s c x.i) c.toNat x.i.toNat:=by unfold AD;rw[Su hP]
   rw[Ak (Ar hP),<-eL] at k
   rw[<-eL] at hP
   have hr:AZ n s c d=some ([]++(AD n s c x.i).tail++Ae x 0):=by rw[hR0,Su hP];rfl
   have hrg:=hR hr
   rw[<-hlc] at hrg
   have hlen2:([]++(AD n s c x.i).tail++Ae x 0).length<=1000000:=by simp only[SO,Tb,List.length_tail,hslt];omega
   rw[Aa (BX _),Aa (by simp only[iN,Sy];have:=List.length_pos_iff.2 hP;omega),Aa (by omega),Aa (by omega),E8,Aa hlen2,Aa (EQ _),Aa hrg,Ak (hpas _ hr)] at k
   exact k ([],_) (.ret _)
 | some i=>
  obtain⟨t,ht,hg,h1,h2,hil⟩:=Is hp
  have gt:=(hv.goodT _ _ ht).ho
  have tb:=hv.sb ht
  obtain⟨e1,e2⟩:=OZ hp
  rw[hg] at e2
  have hst:=F6 t (c-t.b+1)
  rw[e1,e2] at k
  by_cases hid:(i:Int)=d
  .have hxt:x=t:=by rw[<-hx,<-hg];congr 1;omega
   have hr:AZ n s c d=some (Ae x (c-t.b+1)):=by unfold AZ;rw[hp];simp only[hg,hxt];rw[Ss hid]
   have hrg:=hR hr
   rw[<-hlc] at hrg
   rw[An (beq_iff_eq.2 hid),Aa ⟨by omega,by omega⟩,Aa (by omega),Aa (by omega),Aa (by rw[hxt];rw[hst];omega),Aa hrg,Ak (hpas _ hr)] at k
   exact k ([],_) (.ret _)
  have hR0:AZ n s c d=if AD n s t.o x.i=[] then none else some (Ae t (c-t.b+1)++([t.o]++((AD n s t.o x.i).tail++Ae x 0))):=by unfold AZ;rw[hp];simp only[hx,hg];rw[Su hid]
  have hPl:=GB hv hrw (s:=s) (blk:=t.o) (by omega) (goal:=x.i) (by omega)
  have hto:(0:Int)<=t.o/\t.o<(n.bs.length:Int):=by omega
  rw[Ak (S5.2 hid),An (AF (by omega)),Aa (by omega),SE,AY ht,AY ht,Aa ⟨by omega,by omega⟩,Aa (by omega),Aa (by omega),Aa (by simp only[Sy,Ta,Tb,hst];omega),Aa (by simp only[Sy,Ta,Tb,hst];omega),Aa ⟨by omega,by omega,by omega⟩,eG t.o hto,EW] at k
  by_cases hP:AW n.nx (shP n s t.o x.i) t.o.toNat x.i.toNat=[]
  .have eL:AD n s t.o x.i=AW n.nx (shQ n s t.o) t.o.toNat x.i.toNat:=by unfold AD;rw[Ss hP]
   rw[An (AF hP),Aa ⟨by omega,by omega⟩,eW t.o hto,EW,<-eL] at k
   by_cases hQ:AD n s t.o x.i=[]
   .rw[An (AF hQ)] at k
    exact k ([],_) (.ret _)
   .have hr:AZ n s c d=some (Ae t (c-t.b+1)++[t.o]++(AD n s t.o x.i).tail++Ae x 0):=by rw[hR0,Su hQ];simp only[List.append_assoc]
    have hrg:=hR hr
    rw[<-hlc] at hrg
    have hlen2:(Ae t (c-t.b+1)++[t.o]++(AD n s t.o x.i).tail++Ae x 0).length<=1000000:=by simp only[SO,Ta,Tb,List.length_tail,hslt,hst];omega
    rw[Ak (Ar hQ),Aa (BX _),Aa (by simp only[iN,Sy];have:=List.length_pos_iff.2 hQ;omega),Aa (by omega),Aa (by omega),E8,Aa hlen2,Aa (EQ _),Aa hrg,Ak (hpas _ hr)] at k
    exact k ([],_) (.ret _)
  .have eL:AD n s t.o x.i=AW n.nx (shP n s t.o x.i) t.o.toNat x.i.toNat:=by unfold AD;rw[Su hP]
   rw[Ak (Ar hP),<-eL] at k
   rw[<-eL] at hP
   have hr:AZ n s c d=some (Ae t (c-t.b+1)++[t.o]++(AD n s t.o x.i).tail++Ae x 0):=by rw[hR0,Su hP];simp only[List.append_assoc]
   have hrg:=hR hr
   rw[<-hlc] at hrg
   have hlen2:(Ae t (c-t.b+1)++[t.o]++(AD n s t.o x.i).tail++Ae x 0).length<=1000000:=by simp only[SO,Ta,Tb,List.length_tail,hslt,hst];omega
   rw[Aa (BX _),Aa (by simp only[iN,Sy];have:=List.length_pos_iff.2 hP;omega),Aa (by omega),Aa (by omega),E8,Aa hlen2,Aa (EQ _),Aa hrg,Ak (hpas _ hr)] at k
   exact k ([],_) (.ret _)
theorem leg_y{n:Ac}{s:Af}{c d:Int}(hrw:Rows n.nx)(h:A2 n s c d=0)(hy:(BM n s c d).2=true):CT TA 30 [] [Aj n,sgA s,.int .i64 c,.int .i64 d] [some (Blk.mk ((BM n s c d).1.map (AV.int .i64)) 1 true true none)] (.tup [.sl 0 0 (BM n s c d).1.length,.bool true,.int .i64 0]):=by
 obtain⟨hl,hp⟩:=GE.1 hy
 have k:=leg_T hrw h fun l hl'=>by rw[hl] at hl';cases hl';exact hp
 unfold lrT at k
 rw[hl] at k
 exact k
theorem leg_n{n:Ac}{s:Af}{c d:Int}(hrw:Rows n.nx)(h:A2 n s c d=0)(hy:(BM n s c d).2=false):CT TA 30 [] [Aj n,sgA s,.int .i64 c,.int .i64 d] [] (.tup [.nils,.bool false,.int .i64 0]):=by
 cases hr:AZ n s c d with
 | none=>
  have k:=leg_T hrw h fun l hl=>by rw[hr] at hl;cases hl
  unfold lrT at k
  rw[hr] at k
  exact k
 | some l=>
  have hp:Bh s.cl l=false:=by
   cases hp:Bh s.cl l with
   | false=>rfl
   | true=>
    unfold BM at hy
    rw[hr] at hy
    simp only[hp] at hy
    cases hy
  exact leg_F hrw h fun l' hl=>by rw[hr] at hl;cases hl;exact hp
theorem KH{n:Ac}(cl:List Bool)(bw pe:List Int)(c d:Int)(hrw:Rows n.nx):CT TA 30 [] [Aj n,sgA ⟨cl,bw,pe⟩,.int .i64 c,.int .i64 d] [] (.tup [lI (D0 n ⟨cl,bw,pe⟩ c d).1,.bool (D0 n ⟨cl,bw,pe⟩ c d).2,.int .i64 (A2 n ⟨cl,bw,pe⟩ c d)]):=by
 generalize hs:(⟨cl,bw,pe⟩:Af)=s
 unfold D0
 by_cases h:A2 n s c d=0
 .rw[Ss h,h]
  cases hy:(BM n s c d).2 with
  | true=>exact CT.frz (leg_y hrw h hy) (Sy ..).symm
  | false=>
   rw[GE.2 hy]
   exact CT.w2 (res:=.tup [.nils,.bool false,.int .i64 0]) (leg_n hrw h hy)
 .rw[Su h]
  exact CT.w2 (res:=.tup [.nils,.bool false,.int .i64 (A2 n s c d)]) (leg_bad hrw h)
theorem Iq{n:Ac}(hv:AA n){s:Af}(h:A9 n s):Cg n s=true:=PA.2 ⟨hv,h⟩
theorem wrD{a:Int}(h1:0<=a)(h2:a<=1000):i64.wrap (a-1)=a-1:=Fz (by omega) (by omega)
theorem NH(sh:List Bool):∀(e:AV),e∈boL sh->e.cells.length=1:=fun e he=>by
 unfold boL at he;obtain⟨b,_,rfl⟩:=S0.1 he;rfl
theorem rdInts{n:Nat}{es:List AV}(h:∀x∈es,ShV TA n 3 x):∃L:List Int,es=L.map (AV.int .i64):=by
 induction es with
 | nil=>exact⟨[],rfl⟩
 | cons x es ih=>
  obtain⟨L,rfl⟩:=ih fun y hy=>h y (SM _ hy)
  obtain⟨i,_,rfl⟩:=(h x (by simp)).intD Try.underlying3
  exact⟨i::L,rfl⟩
theorem NC(n:Ac):∃s:Af,s=FC n:=⟨_,rfl⟩
@[irreducible] def nsJ(n:Ac):Af:=Classical.choose (NC n)
theorem K2(n:Ac):nsJ n=FC n:=by unfold nsJ;exact S8 (NC n)
@[irreducible] def anJ(n:Ac)(s:Af)(x:Int):Af:=anO n s x
@[irreducible] def clJ(s:Af)(c d:Int):Af:=clS s c d
@[irreducible] def nlJ(c:Int):Aq:=nlS c
theorem n19_j(c:Int):CT TA 17 [] [.int .i64 c] [] (.tup [lkA (nlJ c),.int .i64 (nlE c)]):=by unfold nlJ;exact n19_c c
@[irreducible] def owJ(l:Aq)(r c:Int):Aq:=owO l r c
theorem own_j(ow:List Int)(qu:List (List Int))(r c:Int):CT TA 19 [] [lkA ⟨ow,qu⟩,.int .i64 r,.int .i64 c] [] (.tup [lkA (owJ ⟨ow,qu⟩ r c),.int .i64 (owE ⟨ow,qu⟩ r c)]):=by unfold owJ;exact own_c ow qu r c
def kBs:List AL:=[⟨ByteArray.mk #[97],0,0⟩,⟨ByteArray.mk #[98],0,0⟩,⟨ByteArray.mk #[99],0,0⟩,⟨ByteArray.mk #[101],0,0⟩]
def kNN:Ac:=⟨kBs,[[1],[2],[3],[0]],[⟨ByteArray.mk #[100],true,2,3,2,4⟩],[],1,0,0,1⟩
theorem Li:AA kNN:=by
 refine⟨by kernel_rfl,rfl,by decide,by decide,by kernel_rfl,fun i b h=>?_,fun i s h=>?_,by decide,⟨4,⟨_,Sk.2 rfl,rfl,by decide,by decide⟩⟩,fun i c h=>by cases h⟩
 .match i,h with
  | 0,h=>cases h;exact⟨by kernel_rfl,by kernel_rfl,by kernel_rfl,by kernel_rfl⟩
  | 1,h=>cases h;exact⟨by kernel_rfl,by kernel_rfl,by kernel_rfl,by kernel_rfl⟩
  | 2,h=>cases h;exact⟨by kernel_rfl,by kernel_rfl,by kernel_rfl,by kernel_rfl⟩
  | 3,h=>cases h;exact⟨by kernel_rfl,by kernel_rfl,by kernel_rfl,by kernel_rfl⟩
 .match i,h with
  | 0,h=>cases h;exact⟨by kernel_rfl,by kernel_rfl,by kernel_rfl,by kernel_rfl,by kernel_rfl⟩
theorem Lo:Rows kNN.nx:=by
 intro v hv
 match v,hv with
 | 0,_=>decide
 | 1,_=>decide
 | 2,_=>decide
 | 3,_=>decide
def kSg:Af:=⟨[false,false,false,false,false,false],[-1,-1,-1,-1,-1,-1],[]⟩
theorem Ng:FC kNN=kSg:=by kernel_rfl
theorem kSg_ok:A9 kNN kSg:=Ng ▸ OK kNN
theorem net_less:Bj (.agg [.lst (kBs.map bA),.lst (gL [[1],[2],[3],[0]]),.lst ([⟨ByteArray.mk #[100],true,2,3,2,4⟩].map sA),.nils,.int .i64 1,.int .i64 0,.int .i64 0,.int .i64 1]) (Aj kNN):=by
 refine Bj.agg (cs:=[.lst (kBs.map bA),.lst (gL [[1],[2],[3],[0]]),.lst ([⟨ByteArray.mk #[100],true,2,3,2,4⟩].map sA),.nils,.int .i64 1,.int .i64 0,.int .i64 0,.int .i64 1]) (cs':=[.lst (kBs.map bA),.lst (gL [[1],[2],[3],[0]]),.lst ([⟨ByteArray.mk #[100],true,2,3,2,4⟩].map sA),.lst [],.int .i64 1,.int .i64 0,.int .i64 0,.int .i64 1]) rfl fun i c h=>?_
 match i,h with
 | 0,h=>cases h;exact⟨_,rfl,.refl _⟩
 | 1,h=>cases h;exact⟨_,rfl,.refl _⟩
 | 2,h=>cases h;exact⟨_,rfl,.refl _⟩
 | 3,h=>cases h;exact⟨_,rfl,.nilL⟩
 | 4,h=>cases h;exact⟨_,rfl,.refl _⟩
 | 5,h=>cases h;exact⟨_,rfl,.refl _⟩
 | 6,h=>cases h;exact⟨_,rfl,.refl _⟩
 | 7,h=>cases h;exact⟨_,rfl,.refl _⟩
theorem Lr{f:FuncId}{xs:List AV}{res:AV}(h:CT TA f [] (Aj kNN::xs) [] res):CT TA f [] (.agg [.lst (kBs.map bA),.lst (gL [[1],[2],[3],[0]]),.lst ([⟨ByteArray.mk #[100],true,2,3,2,4⟩].map sA),.nils,.int .i64 1,.int .i64 0,.int .i64 0,.int .i64 1]::xs) [] res:=by
 refine CT.lessArgs h rfl fun i a ha=>?_
 cases i with
 | zero=>cases ha;exact⟨_,rfl,net_less⟩
 | succ i=>exact⟨a,ha,.refl a⟩
theorem r20n_k(bs:List AL)(h:bs=kBs):CT TA 31 [] [.agg [.lst (bs.map bA),.lst (gL [[1],[2],[3],[0]]),.lst ([⟨ByteArray.mk #[100],true,2,3,2,4⟩].map sA),.nils,.int .i64 1,.int .i64 0,.int .i64 0,.int .i64 1]] [] (.tup [sgA ⟨[false,false,false,false,false,false],[-1,-1,-1,-1,-1,-1],[]⟩,.int .i64 0]):=by
 subst h
 have h:=MX (n:=kNN) Lo
 have e1:nsS kNN=kSg:=by unfold nsS;rw[CJ.2 Li];exact Ng
 have e2:nsE kNN=0:=by unfold nsE;rw[CJ.2 Li];rfl
 rw[e1,e2] at h
 exact Lr h
theorem Ob{c:Int}(h:0<=c/\c<6):A2 kNN kSg c 0=0:=by
 unfold A2
 rw[Ss (Iq Li kSg_ok),Ss]
 have e:Au kNN=6:=by kernel_rfl
 rw[e]
 exact⟨h,by decide,by decide⟩
theorem leg_k1(bs:List AL)(h:bs=kBs):CT TA 30 [] [.agg [.lst (bs.map bA),.lst (gL [[1],[2],[3],[0]]),.lst ([⟨ByteArray.mk #[100],true,2,3,2,4⟩].map sA),.nils,.int .i64 1,.int .i64 0,.int .i64 0,.int .i64 1],sgA ⟨[false,false,false,false,false,false],[-1,-1,-1,-1,-1,-1],[]⟩,.int .i64 0,.int .i64 0] [] (.tup [lI [1,2,4,5],.bool true,.int .i64 0]):=by
 subst h
 have h:=KH (n:=kNN) kSg.cl kSg.bw kSg.pe 0 0 Lo
 have e:A2 kNN kSg 0 0=0:=Ob ⟨by decide,by decide⟩
 have e2:D0 kNN kSg 0 0=([1,2,4,5],true):=by unfold D0;rw[Ss e];kernel_rfl
 rw[show (⟨kSg.cl,kSg.bw,kSg.pe⟩:Af)=kSg from rfl,e,e2] at h
 exact Lr h
theorem leg_k2(bs:List AL)(h:bs=kBs):CT TA 30 [] [.agg [.lst (bs.map bA),.lst (gL [[1],[2],[3],[0]]),.lst ([⟨ByteArray.mk #[100],true,2,3,2,4⟩].map sA),.nils,.int .i64 1,.int .i64 0,.int .i64 0,.int .i64 1],sgA ⟨[false,false,false,false,false,false],[-1,-1,-1,-1,-1,-1],[]⟩,.int .i64 4,.int .i64 0] [] (.tup [lI [5],.bool true,.int .i64 0]):=by
 subst h
 have h:=KH (n:=kNN) kSg.cl kSg.bw kSg.pe 4 0 Lo
 have e:A2 kNN kSg 4 0=0:=Ob ⟨by decide,by decide⟩
 have e2:D0 kNN kSg 4 0=([5],true):=by unfold D0;rw[Ss e];kernel_rfl
 rw[show (⟨kSg.cl,kSg.bw,kSg.pe⟩:Af)=kSg from rfl,e,e2] at h
 exact Lr h
theorem si_k1:CT TA 22 [] [lI [1,2,4,5],lI [1,2,4,5]] [] (.bool true):=L3 _ (by decide)
theorem si_k2:CT TA 22 [] [lI [5],lI [5]] [] (.bool true):=L3 _ (by decide)
inductive CC where
 | l0
 | l1
 | l2
 | l3
 | l4
def Dm:CC->St
 | .l0  =>St.mk 75 [(1,AV.ptr 0 0 0),(2,iv 0)] [some (bK [AV.agg [AV.nils,Tz [Tz [iv 1],Tz [iv 2],Tz [iv 3],Tz [iv 0]],Tz [AV.agg [AV.str (ByteArray.mk #[100]),bV true,iv 2,iv 3,iv 2,iv 4]],AV.nils,iv 1,iv 0,iv 0,iv 1]] 8)]
 | .l1  =>St.mk 75 [(1,AV.ptr 0 0 0),(2,iv 1)] [some (Blk.mk [AV.agg [AV.sl 1 0 1,Tz [Tz [iv 1],Tz [iv 2],Tz [iv 3],Tz [iv 0]],Tz [AV.agg [AV.str (ByteArray.mk #[100]),bV true,iv 2,iv 3,iv 2,iv 4]],AV.nils,iv 1,iv 0,iv 0,iv 1]] 8 false true none),some (bK [AV.agg [AV.str ((ByteArray.mk #[97,98,99,101]).extract (Ty 0) (Ty 1)),iv 0,iv 0]] 3)]
 | .l2  =>St.mk 75 [(1,AV.ptr 0 0 0),(2,iv 2)] [some (Blk.mk [AV.agg [AV.sl 1 0 2,Tz [Tz [iv 1],Tz [iv 2],Tz [iv 3],Tz [iv 0]],Tz [AV.agg [AV.str (ByteArray.mk #[100]),bV true,iv 2,iv 3,iv 2,iv 4]],AV.nils,iv 1,iv 0,iv 0,iv 1]] 8 false true none),some (bK [AV.agg [AV.str ((ByteArray.mk #[97,98,99,101]).extract (Ty 0) (Ty 1)),iv 0,iv 0],AV.agg [AV.str ((ByteArray.mk #[97,98,99,101]).extract (Ty 1) (Ty 2)),iv 0,iv 0]] 3)]
 | .l3  =>St.mk 75 [(1,AV.ptr 0 0 0),(2,iv 3)] [some (Blk.mk [AV.agg [AV.sl 1 0 3,Tz [Tz [iv 1],Tz [iv 2],Tz [iv 3],Tz [iv 0]],Tz [AV.agg [AV.str (ByteArray.mk #[100]),bV true,iv 2,iv 3,iv 2,iv 4]],AV.nils,iv 1,iv 0,iv 0,iv 1]] 8 false true none),some (bK [AV.agg [AV.str ((ByteArray.mk #[97,98,99,101]).extract (Ty 0) (Ty 1)),iv 0,iv 0],AV.agg [AV.str ((ByteArray.mk #[97,98,99,101]).extract (Ty 1) (Ty 2)),iv 0,iv 0],AV.agg [AV.str ((ByteArray.mk #[97,98,99,101]).extract (Ty 2) (Ty 3)),iv 0,iv 0]] 3)]
 | .l4  =>St.mk 75 [(1,AV.ptr 0 0 0),(2,iv 4)] [some (bK [AV.agg [Tz [AV.agg [AV.str ((ByteArray.mk #[97,98,99,101]).extract (Ty 0) (Ty 1)),iv 0,iv 0],AV.agg [AV.str ((ByteArray.mk #[97,98,99,101]).extract (Ty 1) (Ty 2)),iv 0,iv 0],AV.agg [AV.str ((ByteArray.mk #[97,98,99,101]).extract (Ty 2) (Ty 3)),iv 0,iv 0],AV.agg [AV.str ((ByteArray.mk #[97,98,99,101]).extract (Ty 3) (Ty 4)),iv 0,iv 0]],Tz [Tz [iv 1],Tz [iv 2],Tz [iv 3],Tz [iv 0]],Tz [AV.agg [AV.str (ByteArray.mk #[100]),bV true,iv 2,iv 3,iv 2,iv 4]],AV.nils,iv 1,iv 0,iv 0,iv 1]] 8)]
def FR:CC->Nat
 | .l0  =>0
 | .l1  =>0
 | .l2  =>0
 | .l3  =>0
 | .l4  =>0
def k24En:Option (CC⊕Ret):=
 some (.inl (.l0))
def Mz:Option (CC⊕Ret):=
 some (.inl (.l1))
def Lv:Option (CC⊕Ret):=
 some (.inl (.l2))
def Ld:Option (CC⊕Ret):=
 some (.inl (.l3))
def LX:Option (CC⊕Ret):=
 some (.inl (.l4))
def Jw:Option (CC⊕Ret):=
 gu ([AL.mk ((ByteArray.mk #[(97:UInt8),(98:UInt8),(99:UInt8),(101:UInt8)]).extract (Ty (0:Int)) (Ty (1:Int))) (0:Int) (0:Int),AL.mk ((ByteArray.mk #[(97:UInt8),(98:UInt8),(99:UInt8),(101:UInt8)]).extract (Ty (1:Int)) (Ty (2:Int))) (0:Int) (0:Int),AL.mk ((ByteArray.mk #[(97:UInt8),(98:UInt8),(99:UInt8),(101:UInt8)]).extract (Ty (2:Int)) (Ty (3:Int))) (0:Int) (0:Int),AL.mk ((ByteArray.mk #[(97:UInt8),(98:UInt8),(99:UInt8),(101:UInt8)]).extract (Ty (3:Int)) (Ty (4:Int))) (0:Int) (0:Int)]=kBs) <|
 some (.inr ([],bV true))
def Oz:CC->Option (CC⊕Ret)
 | .l0  =>Mz
 | .l1  =>Lv
 | .l2  =>Ld
 | .l3  =>LX
 | .l4  =>Jw
theorem k24En_ok(o:CC⊕Ret)(h:k24En=some o):Arr TA Try.f27 0 (Dm) FR (zB Try.f27) [] {n:=Try.f27.ntmps,fr:=AK 0 ([]),hp:=([])} o:=
 AQ.ok h mix (
 .lp [] [(11,Tz []),(12,Tz []),(13,Tz []),(14,Tz []),(15,Tz []),(17,Tz [])] [] [] [] [0] [1,2] (aj (u2 (aj (ak (k3 (aj t5 (ak (u2 (ak (aj t4 (ak (al (k2 n11)))))))))) s2)) t4)) (by kernel_rfl)
theorem k24S0_ok(o:CC⊕Ret)(h:Mz=some o):Arr TA Try.f27 0 (Dm) FR (Ay Try.f27 0) (.rnd (Ay Try.f27 0)::AN Try.f27 0) (Dm (.l0)) o:=
 AQ.ok h mix (
 .lp [] [] [] [] [] [0,2] [1,2] (aj (aj (u2 s2) (ak (aj (u2 (u2 (u2 (u2 (u2 (aj (k2 (aj (show(0:Int)<=(0:Int) from(by first | exact nL rfl | decide)) (aj (show(0:Int)<=(1:Int) from(by first | exact nL rfl | decide)) (show(1:Int)<=(4:Int) from(by first | exact nL rfl | decide))))) (u2 (u2 (aj (k2 (aj (aj (show nat_lit 3=nat_lit 3 from rfl) (show nat_lit 1<=nat_lit 1 from(by first | exact nL rfl | decide))) (aj (show nat_lit 1<=nat_lit 9223372036854775807 from(by first | exact nL rfl | decide)) (show nat_lit 32<=nat_lit 140737488355328 from(by first | exact nL rfl | decide))))) (u2 (al t3))))))))))) (al (u2 (u2 s2)))))) (k2 (aj (al t9) t2)))) (by kernel_rfl)
theorem k24S1_ok(o:CC⊕Ret)(h:Lv=some o):Arr TA Try.f27 0 (Dm) FR (Ay Try.f27 0) (.rnd (Ay Try.f27 0)::AN Try.f27 0) (Dm (.l1)) o:=
 AQ.ok h mix (
 .lp [] [] [] [] [] [0,3] [1,2] (aj (aj (u2 s2) (ak (aj (u2 (u2 (u2 (u2 (u2 (aj (k2 (aj (show(0:Int)<=(1:Int) from(by first | exact nL rfl | decide)) (aj (show(1:Int)<=(2:Int) from(by first | exact nL rfl | decide)) (show(2:Int)<=(4:Int) from(by first | exact nL rfl | decide))))) (u2 (u2 (aj (k2 (aj (show nat_lit 1=nat_lit 1 from rfl) (aj (aj (show nat_lit 3=nat_lit 3 from rfl) (show nat_lit 1<=nat_lit 1 from(by first | exact nL rfl | decide))) (aj (show nat_lit 2<=nat_lit 9223372036854775807 from(by first | exact nL rfl | decide)) (show nat_lit 64<=nat_lit 140737488355328 from(by first | exact nL rfl | decide)))))) (u2 (al t3))))))))))) (al (u2 (u2 s2)))))) (k2 (aj (al t9) t2)))) (by kernel_rfl)
theorem k24S2_ok(o:CC⊕Ret)(h:Ld=some o):Arr TA Try.f27 0 (Dm) FR (Ay Try.f27 0) (.rnd (Ay Try.f27 0)::AN Try.f27 0) (Dm (.l2)) o:=
 AQ.ok h mix (
 .lp [] [] [] [] [] [0,3] [1,2] (aj (aj (u2 s2) (ak (aj (u2 (u2 (u2 (u2 (u2 (aj (k2 (aj (show(0:Int)<=(2:Int) from(by first | exact nL rfl | decide)) (aj (show(2:Int)<=(3:Int) from(by first | exact nL rfl | decide)) (show(3:Int)<=(4:Int) from(by first | exact nL rfl | decide))))) (u2 (u2 (aj (k2 (aj (show nat_lit 2=nat_lit 2 from rfl) (aj (aj (show nat_lit 3=nat_lit 3 from rfl) (show nat_lit 1<=nat_lit 1 from(by first | exact nL rfl | decide))) (aj (show nat_lit 3<=nat_lit 9223372036854775807 from(by first | exact nL rfl | decide)) (show nat_lit 96<=nat_lit 140737488355328 from(by first | exact nL rfl | decide)))))) (u2 (al t3))))))))))) (al (u2 (u2 s2)))))) (k2 (aj (al t9) t2)))) (by kernel_rfl)
theorem k24S3_ok(o:CC⊕Ret)(h:LX=some o):Arr TA Try.f27 0 (Dm) FR (Ay Try.f27 0) (.rnd (Ay Try.f27 0)::AN Try.f27 0) (Dm (.l3)) o:=
 AQ.ok h mix (
 .lp [] [] [] [] [] [0,1000003] [1,2] (aj (aj (u2 s2) (ak (aj (u2 (u2 (u2 (u2 (u2 (aj (k2 (aj (show(0:Int)<=(3:Int) from(by first | exact nL rfl | decide)) (aj (show(3:Int)<=(4:Int) from(by first | exact nL rfl | decide)) (show(4:Int)<=(4:Int) from(by first | exact nL rfl | decide))))) (u2 (u2 (aj (k2 (aj (show nat_lit 3=nat_lit 3 from rfl) (aj (aj (show nat_lit 3=nat_lit 3 from rfl) (show nat_lit 1<=nat_lit 1 from(by first | exact nL rfl | decide))) (aj (show nat_lit 4<=nat_lit 9223372036854775807 from(by first | exact nL rfl | decide)) (show nat_lit 128<=nat_lit 140737488355328 from(by first | exact nL rfl | decide)))))) (u2 (al t3))))))))))) (al (u2 (u2 s2)))))) (k2 (al (al (aj (show nat_lit 4=nat_lit 4 from rfl) t8)))))) (by kernel_rfl)
theorem k24S4_ok(o:CC⊕Ret)(h:Jw=some o):Arr TA Try.f27 0 (Dm) FR (Ay Try.f27 0) (.rnd (Ay Try.f27 0)::AN Try.f27 0) (Dm (.l4)) o:=
 AQ.ok h mix (
 .rn 0 [] [] [] [] (al (u2 s2)) <|
 .gu fun a0=>
 have c0:=r20n_k ([AL.mk ((ByteArray.mk #[97,98,99,101]).extract (Ty 0) (Ty 1)) 0 0,AL.mk ((ByteArray.mk #[97,98,99,101]).extract (Ty 1) (Ty 2)) 0 0,AL.mk ((ByteArray.mk #[97,98,99,101]).extract (Ty 2) (Ty 3)) 0 0,AL.mk ((ByteArray.mk #[97,98,99,101]).extract (Ty 3) (Ty 4)) 0 0]) a0;
 have c1:=leg_k1 ([AL.mk ((ByteArray.mk #[97,98,99,101]).extract (Ty 0) (Ty 1)) 0 0,AL.mk ((ByteArray.mk #[97,98,99,101]).extract (Ty 1) (Ty 2)) 0 0,AL.mk ((ByteArray.mk #[97,98,99,101]).extract (Ty 2) (Ty 3)) 0 0,AL.mk ((ByteArray.mk #[97,98,99,101]).extract (Ty 3) (Ty 4)) 0 0]) a0;
 have c2:=leg_k2 ([AL.mk ((ByteArray.mk #[97,98,99,101]).extract (Ty 0) (Ty 1)) 0 0,AL.mk ((ByteArray.mk #[97,98,99,101]).extract (Ty 1) (Ty 2)) 0 0,AL.mk ((ByteArray.mk #[97,98,99,101]).extract (Ty 2) (Ty 3)) 0 0,AL.mk ((ByteArray.mk #[97,98,99,101]).extract (Ty 3) (Ty 4)) 0 0]) a0;
 have c3:=si_k1;
 have c4:=si_k2;
 .rt [] [(67,Tz []),(72,Tz [])] [(36,hK c0 [] []),(42,hK c1 [] []),(49,hK c2 [] []),(68,hK c3 [] []),(73,hK c4 [] [])] [] [] [] (aj (ak (aj (u2 (aj (ak (aj t9 (al (c0)))) (u2 (u2 (u2 (ak (aj (k2 n11) s2))))))) (aj (u2 (u2 (aj (k2 (aj t9 (aj t4 (k2 (al (c1)))))) (u2 (u2 (u2 (u2 (u2 (u2 s2))))))))) (aj (u2 (u2 (aj (k2 (aj t9 (aj t4 (k2 (al (c2)))))) (u2 (u2 (u2 (u2 (u2 (u2 s2))))))))) (al (u2 (u2 (u2 (aj t3 (aj t3 (aj t3 (u2 (aj t3 (aj t3 (u2 (aj t3 (aj t3 (u2 (aj t3 (u2 (aj (k5 (al (c3))) (aj t3 (u2 (aj t3 (u2 (aj (k5 (al (c4))) (aj t3 s2))))))))))))))))))))))))))) t2)) (by kernel_rfl)
theorem k24_ct(r:Ret)(h:Ax (Oz) (k24En) r):CT TA 27 ([]) ([]) r.1 r.2:=
 CT.mach (fn:=Try.f27) (c:=zB Try.f27) (S:=Dm) (hd:=FR) Try.func27 (by kernel_rfl) (nL rfl)
  (fun s o ho=>match s,ho with
   | .l0,ho=>k24S0_ok  o ho
   | .l1,ho=>k24S1_ok  o ho
   | .l2,ho=>k24S2_ok  o ho
   | .l3,ho=>k24S3_ok  o ho
   | .l4,ho=>k24S4_ok  o ho
  )
  (fun o ho=>k24En_ok o ho) h
theorem OD:CT TA 27 [] [] [] (.bool true):=by
 refine k24_ct ([],_) ?_
 show Ax Oz (some (.inl .l0)) ([],.bool true)
 refine .to (show Mz=some (.inl .l1) from rfl) (.to (show Lv=some (.inl .l2) from rfl) (.to (show Ld=some (.inl .l3) from rfl) (.to (show LX=some (.inl .l4) from rfl) ?_)))
 refine .to (show Jw=_ from ?_) (.ret _)
 unfold Jw
 rw[Aa (by kernel_rfl)]
@[irreducible] def lgL(n:Ac)(s:Af)(c d:Int):List Int:=(D0 n s c d).1
@[irreducible] def lgB(n:Ac)(s:Af)(c d:Int):Bool:=(D0 n s c d).2
theorem leg_j{n:Ac}(cl:List Bool)(bw pe:List Int)(c d:Int)(hrw:Rows n.nx):CT TA 30 [] [Aj n,sgA ⟨cl,bw,pe⟩,.int .i64 c,.int .i64 d] [] (.tup [lI (lgL n ⟨cl,bw,pe⟩ c d),.bool (lgB n ⟨cl,bw,pe⟩ c d),.int .i64 (A2 n ⟨cl,bw,pe⟩ c d)]):=by
 unfold lgL lgB;exact KH cl bw pe c d hrw
theorem r20n_j{n:Ac}(hv:AA n)(hrw:Rows n.nx):CT TA 31 [] [Aj n] [] (.tup [sgA (nsJ n),.int .i64 0]):=by
 have h:=MX (n:=n) hrw
 have e1:nsS n=FC n:=by unfold nsS;rw[CJ.2 hv];rfl
 have e2:nsE n=0:=by unfold nsE;rw[CJ.2 hv];rfl
 rw[e1,e2] at h
 rw[K2]
 exact h
theorem ask_c(ow:List Int)(qu:List (List Int))(r c:Int):CT TA 61 [] [lkA ⟨ow,qu⟩,.int .i64 r,.int .i64 c] [] (.tup [lkA (asO ⟨ow,qu⟩ r c),.int .i64 (asE ⟨ow,qu⟩ r c)]):=by
 generalize hs:(⟨ow,qu⟩:Aq)=l
 have k:=ask_ct l r c
 unfold MG at k
 unfold asO
 have hbad:asE l r c≠0->(.tup [lkA (if asE l r c=0 then asS l r c else ⟨[],[]⟩),.int .i64 (asE l r c)]:AV)=wk2 (.tup [.agg [.nils,.nils],.int .i64 (asE l r c)]):=fun h=>by rw[Su h];rfl
 by_cases h1:k9E l r c=0
 case neg=>
  have e:asE l r c=k9E l r c:=by unfold asE;rw[Su h1]
  rw[hbad (by rw[e];exact h1),e]
  exact CT.w2 (k ([],_) (.val (by rw[An (Ti.2 h1)])))
 obtain⟨hb,hr,hc0,hc1⟩:=Jt h1
 obtain⟨hlen,h48⟩:=Oc hb
 have hrows:=Ny hb
 have eE:asE l r c=if 0<=atZ l.qu r\/l.ow.getD c.toNat 0=r then 24 else 0:=by unfold asE;rw[Ss h1]
 have hrw:∀x∈l.qu,x.length<=1000:=fun x hx=>by have:=hrows x hx;omega
 have hd:0<=c/\c.toNat<l.qu.length:=⟨hc0,by omega⟩
 have hq8:(l.qu.getD c.toNat []).length<=8:=hrows _ (Sz (Bg ([]:List Int) hd.2))
 rw[h1,Ak (by rfl),Aa (by omega),Aa hrw] at k
 by_cases h2:0<=atZ l.qu r
 .have e:asE l r c=24:=by rw[eE,Ss (.inl h2)]
  rw[hbad (by rw[e];decide),e]
  exact CT.w2 (k ([],_) (.val (by rw[An (AF h2)])))
 rw[Ak (Ar h2),Aa hc0,AY (Bg 0 (show c.toNat<l.ow.length by omega))] at k
 by_cases h3:l.ow.getD c.toNat 0=r
 .have e:asE l r c=24:=by rw[eE,Ss (.inr h3)]
  rw[hbad (by rw[e];decide),e]
  exact CT.w2 (k ([],_) (.val (by rw[An (beq_iff_eq.2 h3)])))
 have e:asE l r c=0:=by rw[eE,Su (by rintro(h | h)<;>contradiction)]
 rw[Ss e,e]
 have hA:(l.qu.take c.toNat).length=c.toNat:=by rw[SX];omega
 have hB:(l.qu.drop (c.toNat+1)).length=l.qu.length-(c.toNat+1):=Si
 have t4:tau [] 2 2=4:=rfl
 have m1:Tt (Du (tau [] 2)) (AG (l.qu.take c.toNat) 2 (l.qu.getD c.toNat []).length (l.qu.drop (c.toNat+1)))=AG (l.qu.take c.toNat) 4 (l.qu.getD c.toNat []).length (l.qu.drop (c.toNat+1)):=M8 ..
 rw[m1,Ak (S5.2 h3),Aa (by omega),Aa hd,Aa (show ∀e∈AG (l.qu.take c.toNat) 4 (l.qu.getD c.toNat []).length (l.qu.drop (c.toNat+1)),∀c∈e.cells,Be 5 3 c=true from IV (by decide) _ _ _),
  Aa (by simp only[iN];omega),Aa (by rw[show 0+c.toNat=(l.qu.take c.toNat).length by omega];exact mix_get ..),Aa (by rw[Sy];simp only[Ta,Tb];omega),Aa (by rw[Sy];simp only[Ta,Tb];omega),
  Aa (show(0+c.toNat).succ.le _ from by rw[HA];show 0+c.toNat+1<=_;omega)] at k
 exact k _ (.ret _)
@[irreducible] def asJ(l:Aq)(r c:Int):Aq:=asO l r c
theorem ask_j(ow:List Int)(qu:List (List Int))(r c:Int):CT TA 61 [] [lkA ⟨ow,qu⟩,.int .i64 r,.int .i64 c] [] (.tup [lkA (asJ ⟨ow,qu⟩ r c),.int .i64 (asE ⟨ow,qu⟩ r c)]):=by unfold asJ;exact ask_c ow qu r c
theorem rann_j{n:Ac}(cl:List Bool)(bw pe:List Int)(x:Int)(hrw:Rows n.nx):CT TA 59 [] [Aj n,sgA ⟨cl,bw,pe⟩,.int .i64 x] [] (.tup [sgA (anJ n ⟨cl,bw,pe⟩ x),.int .i64 (anE n ⟨cl,bw,pe⟩ x)]):=by unfold anJ;exact rann_c cl bw pe x hrw
theorem rshs_j(cl:List Bool)(bw pe:List Int)(c d:Int)(h1:cl.length<=1000000)(h2:bw.length<=1000000)(h3:pe.length<=1000000)(hc:0<=c)(hc1:c<(cl.length:Int))(hc2:c<(bw.length:Int)):
  CT TA 60 [] [sgA ⟨cl,bw,pe⟩,.int .i64 c,.int .i64 d] [] (sgA (clJ ⟨cl,bw,pe⟩ c d)):=by unfold clJ;exact rshs_c cl bw pe c d h1 h2 h3 hc hc1 hc2
inductive Df where
 | l0 (v0:Int) (v1:Nat) (v2:Af)
 | l1 (v0:Int) (v1:Nat) (v2:Af)
 | l2 (v0:Int) (v1:Nat) (v2:Af) (v3:Aq)
def E9(l:List Int)(kk:Nat)(n:Ac):Df->St
 | .l0 v0 v1 v2=>St.mk 99 [(0,AV.ptr 0 0 0),(3,AV.ptr 1 0 0),(4,AV.ptr 2 0 0),(5,AV.ptr 3 0 0),(6,AV.ptr 4 0 0),(8,iv (iN (boL (nsJ n).cl).length)),(9,iv v0)] [some (Ah l v1),some (bK [Aj n] 8),some (bK [AV.agg [AV.nils,AV.nils,AV.nils]] 3),some (bK [AV.agg [AV.nils,AV.nils]] 2),some (bK [AV.agg [Tz (Tt bV v2.cl),Tz (Tt iv v2.bw),Tz (Tt iv v2.pe)]] 3)]
 | .l1 v0 v1 v2=>St.mk 99 [(0,AV.ptr 0 0 0),(4,AV.ptr 1 0 0),(5,AV.ptr 2 0 0),(6,AV.ptr 3 0 0),(8,iv (iN (boL (nsJ n).cl).length)),(12,iv v0)] [some (Ah l v1),some (bK [AV.agg [AV.nils,AV.nils,AV.nils]] 3),some (bK [AV.agg [AV.nils,AV.nils]] 2),some (bK [AV.agg [Tz (Tt bV v2.cl),Tz (Tt iv v2.bw),Tz (Tt iv v2.pe)]] 3)]
 | .l2 v0 v1 v2 v3=>St.mk 99 [(0,AV.ptr 0 0 0),(4,AV.ptr 1 0 0),(5,AV.ptr 2 0 0),(6,AV.ptr 3 0 0),(8,iv (iN (boL (nsJ n).cl).length)),(13,AV.ptr 4 0 0),(15,iv v0)] [some (Ah l v1),some (bK [AV.agg [AV.nils,AV.nils,AV.nils]] 3),some (bK [AV.agg [AV.nils,AV.nils]] 2),some (bK [AV.agg [Tz (Tt bV v2.cl),Tz (Tt iv v2.bw),Tz (Tt iv v2.pe)]] 3),some (bK [AV.agg [Tz (Tt iv v3.ow),Tz (Tt lI v3.qu)]] 2)]
def Hw:Df->Nat
 | .l0 _ _ _=>0
 | .l1 _ _ _=>1
 | .l2 _ _ _ _=>2
def LL(l:List Int)(kk:Nat)(n:Ac):Option (Df⊕Ret):=
 gu (AA n) <|
 gu (Rows n.nx) <|
 gu (kk<9223372036854775807) <|
 some (.inl (.l0 (Ag l kk 4) (kk+1) (nsJ n)))
def Hl(l:List Int)(kk:Nat)(n:Ac)(v0:Int)(v1:Nat)(v2:Af):Option (Df⊕Ret):=
 br (decide (0<v0))
 (gu (v1<9223372036854775807) <|
  gu (Rows n.nx) <|
  br (anE n v2 (Ag l v1 (iN (Tt bA n.bs).length))==0)
  (some (.inl (.l0 (i64.wrap (v0-1)) (v1+1) (anJ n v2 (Ag l v1 (iN (Tt bA n.bs).length))))))
  (some (.inl (.l0 (i64.wrap (v0-1)) (v1+1) v2))))
 (gu (v1<9223372036854775807) <|
  some (.inl (.l1 (Ag l v1 3) (v1+1) v2)))
def GT(l:List Int)(kk:Nat)(n:Ac)(v0:Int)(v1:Nat)(v2:Af):Option (Df⊕Ret):=
 br (decide (0<v0))
 (gu (v1<9223372036854775807) <|
  gu (v2.cl.length<=1000000) <|
  gu (v2.bw.length<=1000000) <|
  gu (v2.pe.length<=1000000) <|
  gu (0<=Ag l v1 (iN (boL (nsJ n).cl).length)) <|
  gu (Ag l v1 (iN (boL (nsJ n).cl).length)<iN v2.cl.length) <|
  gu (Ag l v1 (iN (boL (nsJ n).cl).length)<iN v2.bw.length) <|
  some (.inl (.l1 (i64.wrap (v0-1)) (v1+1) (clJ v2 (Ag l v1 (iN (boL (nsJ n).cl).length)) (-1)))))
 (gu (v1<9223372036854775807) <|
  some (.inl (.l2 (Ag l v1 4) (v1+1) v2 (nlJ (iN (boL (nsJ n).cl).length)))))
def Hr(l:List Int)(kk:Nat)(n:Ac)(v0:Int)(v1:Nat)(v2:Af)(v3:Aq):Option (Df⊕Ret):=
 br (decide (0<v0))
 (gu (v1<9223372036854775807) <|
  gu (v1+1<9223372036854775807) <|
  br (owE v3 (Ag l v1 4) (Ag l (v1+1) (iN (boL (nsJ n).cl).length))==0)
  (gu (v1+1+1<9223372036854775807) <|
   gu (v1+1+1+1<9223372036854775807) <|
   br (asE (owJ v3 (Ag l v1 4) (Ag l (v1+1) (iN (boL (nsJ n).cl).length))) (i64.wrap (4+Ag l (v1+1+1) 4)) (Ag l (v1+1+1+1) (iN (boL (nsJ n).cl).length))==0)
   (some (.inl (.l2 (i64.wrap (v0-1)) (v1+1+1+1+1) v2 (asJ (owJ v3 (Ag l v1 4) (Ag l (v1+1) (iN (boL (nsJ n).cl).length))) (i64.wrap (4+Ag l (v1+1+1) 4)) (Ag l (v1+1+1+1) (iN (boL (nsJ n).cl).length))))))
   (some (.inl (.l2 (i64.wrap (v0-1)) (v1+1+1+1+1) v2 (owJ v3 (Ag l v1 4) (Ag l (v1+1) (iN (boL (nsJ n).cl).length)))))))
  (gu (v1+1+1<9223372036854775807) <|
   gu (v1+1+1+1<9223372036854775807) <|
   br (asE v3 (i64.wrap (4+Ag l (v1+1+1) 4)) (Ag l (v1+1+1+1) (iN (boL (nsJ n).cl).length))==0)
   (some (.inl (.l2 (i64.wrap (v0-1)) (v1+1+1+1+1) v2 (asJ v3 (i64.wrap (4+Ag l (v1+1+1) 4)) (Ag l (v1+1+1+1) (iN (boL (nsJ n).cl).length))))))
   (some (.inl (.l2 (i64.wrap (v0-1)) (v1+1+1+1+1) v2 v3)))))
 (some (.inr ([some (bK [AV.agg [Tz (Tt iV l),iV (iN v1)]] 2)],AV.tup [AV.agg [Tz (Tt bV v2.cl),Tz (Tt iV v2.bw),Tz (Tt iV v2.pe)],AV.agg [Tz (Tt iV v3.ow),Tz (Tt lI v3.qu)]])))
def JG(l:List Int)(kk:Nat)(n:Ac):Df->Option (Df⊕Ret)
 | .l0 v0 v1 v2=>Hl l kk n v0 v1 v2
 | .l1 v0 v1 v2=>GT l kk n v0 v1 v2
 | .l2 v0 v1 v2 v3=>Hr l kk n v0 v1 v2 v3
theorem m29En_ok(l:List Int)(kk:Nat)(n:Ac)(o:Df⊕Ret)(h:LL l kk n=some o):Arr TA Try.f29 1 (E9 l kk n) Hw (zB Try.f29) [] {n:=Try.f29.ntmps,fr:=AK 0 ([.ptr 0 0 0,Aj n]),hp:=([some (Ah l kk)])} o:=
 Scr.ok h mix (
 .rn 0 [] [] [] [] (al (u2 t3)) <|
 .gu fun a0=>
 .gu fun a1=>
 have c0:=r20n_j a0 a1;
 .rn 1 [] [] [(22,hK c0 [] [])] [] (aj (u2 (aj (ak (aj t9 (al (c0)))) (u2 (u2 (u2 (ak (aj (k2 n11) s2))))))) (al (u2 (u2 (u2 s2))))) <|
 .gu fun a2=>
 have c1:=A4 l (kk) (4) a2;
 .lp [] [] [(29,hK c1 [0] [])] [] [] [0,1,2,3,4] [0,3,4,5,6,8,9] (aj (al (u2 (aj (ak (k3 (al (c1)))) s2))) (ak (k3 t9)))) (by kernel_rfl)
theorem m29S0_ok(l:List Int)(kk:Nat)(n:Ac)(v0:Int)(v1:Nat)(v2:Af)(o:Df⊕Ret)(h:Hl l kk n v0 v1 v2=some o):Arr TA Try.f29 1 (E9 l kk n) Hw (Ay Try.f29 0) (.rnd (Ay Try.f29 0)::AN Try.f29 0) (E9 l kk n (.l0 v0 v1 v2)) o:=
 Scr.ok h mix (
 .rn 0 [] [] [] [] (al (u2 s2)) <|
 .br (fun a0=>
 .gu fun a1=>
 .gu fun a2=>
 have c0:=A4 l v1 (iN (Tt bA n.bs).length) a1;
 have c1:=rann_j (v2.cl) (v2.bw) (v2.pe) (Ag l v1 (iN (Tt bA n.bs).length)) a2;
 .rn 1 [63] [] [(41,hK c0 [0] []),(42,hK c1 [] [])] [] (aj a0 (aj (u2 (u2 (u2 (u2 (u2 (u2 (aj (k5 (al (c0))) (aj (k3 (aj t9 (aj t4 (ak (al (c1)))))) (u2 (u2 (u2 (ak (aj (k2 n11) s2))))))))))))) (al (u2 s2)))) <|
 .br (fun a3=>
  .lp [93] [] [] [] [] [0,1,2,3,4] [0,3,4,5,6,8,9] (aj (aj a3 (aj (u2 (al (k2 (show Nat.le 1 [AV.agg [Tz (Tt bV v2.cl),Tz (Tt iv v2.bw),Tz (Tt iv v2.pe)]].length from(nL rfl))))) (al (u2 (u2 s2))))) (ak (k3 t9))))
 (fun a3=>
  .lp [92] [] [] [] [] [0,1,2,3,4] [0,3,4,5,6,8,9] (aj (aj a3 (al (u2 (u2 s2)))) (ak (k3 t9)))))
 (fun a0=>
 .gu fun a1=>
 have c0:=A4 l v1 (3) a1;
 .lp [62] [] [(49,hK c0 [0] [])] [] [] [0,2,3,4] [0,4,5,6,8,12] (aj (aj a0 (al (u2 (aj (ak (k3 (al (c0)))) s2)))) (k2 t9)))) (by kernel_rfl)
theorem m29S1_ok(l:List Int)(kk:Nat)(n:Ac)(v0:Int)(v1:Nat)(v2:Af)(o:Df⊕Ret)(h:GT l kk n v0 v1 v2=some o):Arr TA Try.f29 1 (E9 l kk n) Hw (Ay Try.f29 1) (.rnd (Ay Try.f29 1)::AN Try.f29 1) (E9 l kk n (.l1 v0 v1 v2)) o:=
 Scr.ok h mix (
 .rn 0 [] [] [] [] (al (u2 s2)) <|
 .br (fun a0=>
 .gu fun a1=>
 .gu fun a2=>
 .gu fun a3=>
 .gu fun a4=>
 .gu fun a5=>
 .gu fun a6=>
 .gu fun a7=>
 have c0:=A4 l v1 (iN (boL (nsJ n).cl).length) a1;
 have c1:=rshs_j (v2.cl) (v2.bw) (v2.pe) (Ag l v1 (iN (boL (nsJ n).cl).length)) (-1) a2 a3 a4 a5 a6 a7;
 .lp [103] [] [(57,hK c0 [0] []),(58,hK c1 [] [])] [] [] [0,1,2,3] [0,4,5,6,8,12] (aj (aj a0 (aj (u2 (u2 (u2 (aj (k5 (al (c0))) (aj (k2 (aj t4 (k2 (al (c1))))) (al (k2 (show Nat.le 1 [AV.agg [Tz (Tt bV v2.cl),Tz (Tt iv v2.bw),Tz (Tt iv v2.pe)]].length from(nL rfl))))))))) (al (u2 (u2 s2))))) (k2 t9)))
 (fun a0=>
 have c0:=n19_j (iN (boL (nsJ n).cl).length);
 .rn 0 [102] [] [(61,hK c0 [] [])] [] (aj a0 (al (u2 (aj (k2 (al (c0))) (u2 (u2 (u2 (ak (aj (k2 n11) s2))))))))) <|
 .gu fun a1=>
 have c1:=A4 l v1 (4) a1;
 .lp [] [] [(65,hK c1 [0] [])] [] [] [0,1,2,3,4] [0,4,5,6,8,13,15] (aj (al (u2 (aj (ak (k3 (al (c1)))) s2))) (ak (k3 t9))))) (by kernel_rfl)
theorem m29S2_ok(l:List Int)(kk:Nat)(n:Ac)(v0:Int)(v1:Nat)(v2:Af)(v3:Aq)(o:Df⊕Ret)(h:Hr l kk n v0 v1 v2 v3=some o):Arr TA Try.f29 1 (E9 l kk n) Hw (Ay Try.f29 2) (.rnd (Ay Try.f29 2)::AN Try.f29 2) (E9 l kk n (.l2 v0 v1 v2 v3)) o:=
 Scr.ok h mix (
 .rn 0 [] [] [] [] (al (u2 s2)) <|
 .br (fun a0=>
 .gu fun a1=>
 .gu fun a2=>
 have c0:=A4 l v1 (4) a1;
 have c1:=A4 l (v1+1) (iN (boL (nsJ n).cl).length) a2;
 have c2:=own_j (v3.ow) (v3.qu) (Ag l v1 4) (Ag l (v1+1) (iN (boL (nsJ n).cl).length));
 .rn 1 [135] [] [(73,hK c0 [0] []),(76,hK c1 [0] []),(77,hK c2 [] [])] [] (aj a0 (aj (u2 (u2 (aj (ak (k3 (al (c0)))) (u2 (u2 (aj (k5 (al (c1))) (aj (k3 (aj t3 (k2 (al (c2))))) (u2 (u2 (u2 (ak (aj (k2 n11) s2)))))))))))) (al (u2 s2)))) <|
 .br (fun a3=>
  .rn 0 [163] [] [] [] (aj a3 (al (u2 (al (k2 (show Nat.le 1 [AV.agg [Tz (Tt iv v3.ow),Tz (Tt lI v3.qu)]].length from(nL rfl))))))) <|
  .gu fun a4=>
  .gu fun a5=>
  have c3:=A4 l (v1+1+1) (4) a4;
  have c4:=A4 l (v1+1+1+1) (iN (boL (nsJ n).cl).length) a5;
  have c5:=ask_j ((owJ v3 (Ag l v1 4) (Ag l (v1+1) (iN (boL (nsJ n).cl).length))).ow) ((owJ v3 (Ag l v1 4) (Ag l (v1+1) (iN (boL (nsJ n).cl).length))).qu) (i64.wrap (4+Ag l (v1+1+1) 4)) (Ag l (v1+1+1+1) (iN (boL (nsJ n).cl).length));
  .rn 1 [] [] [(86,hK c3 [0] []),(90,hK c4 [0] []),(91,hK c5 [] [])] [] (aj (u2 (u2 (aj (ak (k3 (al (c3)))) (u2 (u2 (u2 (aj (k5 (al (c4))) (aj (k3 (aj t3 (k2 (al (c5))))) (u2 (u2 (u2 (ak (aj (k2 n11) s2))))))))))))) (al (u2 s2))) <|
  .br (fun a6=>
  .lp [191] [] [] [] [] [0,1,2,3,4] [0,4,5,6,8,13,15] (aj (aj a6 (aj (u2 (al (k2 (show Nat.le 1 [AV.agg [Tz (Tt iv (owJ v3 (Ag l v1 4) (Ag l (v1+1) (iN (boL (nsJ n).cl).length))).ow),Tz (gL (owJ v3 (Ag l v1 4) (Ag l (v1+1) (iN (boL (nsJ n).cl).length))).qu)]].length from(nL rfl))))) (al (u2 (u2 s2))))) (ak (k3 t9))))
  (fun a6=>
  .lp [190] [] [] [] [] [0,1,2,3,4] [0,4,5,6,8,13,15] (aj (aj a6 (al (u2 (u2 s2)))) (ak (k3 t9)))))
 (fun a3=>
  .gu fun a4=>
  .gu fun a5=>
  have c3:=A4 l (v1+1+1) (4) a4;
  have c4:=A4 l (v1+1+1+1) (iN (boL (nsJ n).cl).length) a5;
  have c5:=ask_j (v3.ow) (v3.qu) (i64.wrap (4+Ag l (v1+1+1) 4)) (Ag l (v1+1+1+1) (iN (boL (nsJ n).cl).length));
  .rn 1 [162] [] [(86,hK c3 [0] []),(90,hK c4 [0] []),(91,hK c5 [] [])] [] (aj a3 (aj (u2 (u2 (aj (ak (k3 (al (c3)))) (u2 (u2 (u2 (aj (k5 (al (c4))) (aj (k3 (aj t3 (k2 (al (c5))))) (u2 (u2 (u2 (ak (aj (k2 n11) s2))))))))))))) (al (u2 s2)))) <|
  .br (fun a6=>
  .lp [191] [] [] [] [] [0,1,2,3,4] [0,4,5,6,8,13,15] (aj (aj a6 (aj (u2 (al (k2 (show Nat.le 1 [AV.agg [Tz (Tt iv v3.ow),Tz (Tt lI v3.qu)]].length from(nL rfl))))) (al (u2 (u2 s2))))) (ak (k3 t9))))
  (fun a6=>
  .lp [190] [] [] [] [] [0,1,2,3,4] [0,4,5,6,8,13,15] (aj (aj a6 (al (u2 (u2 s2)))) (ak (k3 t9))))))
 (fun a0=>
 .rt [134] [] [] [] [0] [] (aj (aj a0 (al (u2 (u2 (aj (k2 n11) (al (k2 n11))))))) (aj (aj t4 (al t3)) t2)))) (by kernel_rfl)
theorem m29_ct(l:List Int)(kk:Nat)(n:Ac)(r:Ret)(h:Ax (JG l kk n) (LL l kk n) r):CT TA 29 ([some (Ah l kk)]) ([.ptr 0 0 0,Aj n]) r.1 r.2:=
 CT.mach (fn:=Try.f29) (c:=zB Try.f29) (S:=E9 l kk n) (hd:=Hw) Try.func29 (by kernel_rfl) (nL rfl)
  (fun s o ho=>match s,ho with
   | .l0 v0 v1 v2,ho=>m29S0_ok l kk n v0 v1 v2 o ho
   | .l1 v0 v1 v2,ho=>m29S1_ok l kk n v0 v1 v2 o ho
   | .l2 v0 v1 v2 v3,ho=>m29S2_ok l kk n v0 v1 v2 v3 o ho
  )
  (fun o ho=>m29En_ok l kk n o ho) h
theorem an_keep{n:Ac}{s:Af}{x:Int}(hv:AA n)(hs:A9 n s)(h0:anE n s x=0):A9 n (anJ n s x):=by
 obtain⟨_,hx,hsh⟩:=anE_ok h0
 have hg:=JZ hv hs x.toNat
 rw[hsh,SW hx.1] at hg
 have hg2:=hg.symm
 rw[Bool.or_eq_false_iff] at hg2
 unfold anJ anO
 rw[Ss h0]
 exact anS_ok hs hx hg2.1 fun hm=>by rw[CM.2 hm] at hg2;cases hg2.2
theorem ow_keep{l:Aq}{r c:Int}(h:Cc l)(he:owE l r c=0):Cc (owJ l r c)/\(owJ l r c).ow.length=l.ow.length:=by
 unfold owJ owO
 rw[Ss he]
 exact⟨h.own he,S3 ..⟩
theorem Oj{l:Aq}{r c:Int}(h:Cc l)(he:asE l r c=0):Cc (asJ l r c)/\(asJ l r c).ow.length=l.ow.length:=by
 unfold asJ asO
 rw[Ss he]
 exact⟨h.ask he,rfl⟩
theorem m29_c2{l:List Int}{kk:Nat}{n:Ac}(s:Af):∀(j k1:Nat) (w:Aq),j<=4->k1+5 * j<=1000000->Cc w->
  ∃(w':Aq) (k2:Nat),Cc w'/\w'.ow.length=w.ow.length/\k2<=k1+4 * j/\Ax (JG l kk n) (some (.inl (.l2 (j:Int) k1 s w))) ([some (Ah l k2)],.tup [sgA s,lkA w']):=by
 intro j
 induction j with
 | zero=>
  intro k1 w _ _ hw
  refine⟨w,k1,hw,rfl,by omega,.to (show Hr l kk n _ k1 s w=_ from ?_) (.ret _)⟩
  unfold Hr
  rw[Ak (Ar (by omega))];rfl
 | succ j ih=>
  intro k1 w hj hk hw
  have hdec:i64.wrap (((j+1:Nat):Int)-1)=(j:Int):=by rw[wrD (by omega) (by omega)];omega
  have hstep:∃w2:Aq,Cc w2/\w2.ow.length=w.ow.length/\Hr l kk n ((j+1:Nat):Int) k1 s w=some (.inl (.l2 (j:Int) (k1+1+1+1+1) s w2)):=by
   unfold Hr
   rw[An (AF (by omega)),Aa (by omega),Aa (by omega),hdec]
   by_cases h1:owE w (Ag l k1 4) (Ag l (k1+1) (iN (boL (nsJ n).cl).length))=0
   .obtain⟨g1,g2⟩:=ow_keep hw h1
    rw[An (beq_iff_eq.2 h1),Aa (by omega),Aa (by omega)]
    by_cases h2:asE (owJ w (Ag l k1 4) (Ag l (k1+1) (iN (boL (nsJ n).cl).length))) (i64.wrap (4+Ag l (k1+1+1) 4)) (Ag l (k1+1+1+1) (iN (boL (nsJ n).cl).length))=0
    .obtain⟨g3,g4⟩:=Oj g1 h2
     exact⟨_,g3,g4.trans g2,by rw[An (beq_iff_eq.2 h2)]⟩
    .exact⟨_,g1,g2,by rw[Ak (S5.2 h2)]⟩
   .rw[Ak (S5.2 h1),Aa (by omega),Aa (by omega)]
    by_cases h2:asE w (i64.wrap (4+Ag l (k1+1+1) 4)) (Ag l (k1+1+1+1) (iN (boL (nsJ n).cl).length))=0
    .obtain⟨g3,g4⟩:=Oj hw h2
     exact⟨_,g3,g4,by rw[An (beq_iff_eq.2 h2)]⟩
    .exact⟨_,hw,rfl,by rw[Ak (S5.2 h2)]⟩
  obtain⟨w2,ok2,l2,he⟩:=hstep
  obtain⟨w',k',ok',l',hk',hm⟩:=ih (k1+1+1+1+1) w2 (by omega) (by omega) ok2
  exact⟨w',k',ok',l'.trans l2,by omega,.to he hm⟩
theorem m29_c1{l:List Int}{kk:Nat}{n:Ac}(hv:AA n):∀(j k1:Nat) (s:Af),j<=4->k1+100+5 * j<=1000000->A9 n s->
  ∃(s':Af) (w':Aq) (k2:Nat),A9 n s'/\Cc w'/\w'.ow.length=Au n/\k2<=k1+j+1+12/\Ax (JG l kk n) (some (.inl (.l1 (j:Int) k1 s))) ([some (Ah l k2)],.tup [sgA s',lkA w']):=by
 have hcel:=FN hv
 have h24:=hv.nb24
 have hns:(boL (nsJ n).cl).length=Au n:=by rw[Ct,K2];exact SP ..
 intro j
 induction j with
 | zero=>
  intro k1 s _ _ hs
  have r:=A5 l k1 4 (by omega) (by omega)
  have hnl:nlJ (iN (boL (nsJ n).cl).length)=⟨List.replicate (Au n) (-1),List.replicate (Au n) []⟩:=by
   unfold nlJ nlS
   rw[hns,Ss (by simp only[iN];omega)]
   simp only[iN,SE]
  obtain⟨w',k2,h1,h2,h3,hm⟩:=m29_c2 (l:=l) (kk:=kk) (n:=n) s (Ag l k1 4).toNat (k1+1) (nlJ (iN (boL (nsJ n).cl).length)) (by omega) (by omega) (by rw[hnl];exact nlS_ok hcel.1)
  refine⟨s,w',k2,hs,h1,by rw[h2,hnl];exact SP ..,by omega,.to (show GT l kk n _ k1 s=_ from ?_) hm⟩
  unfold GT
  rw[Ak (Ar (by omega)),Aa (by omega),SW r.1]
 | succ j ih=>
  intro k1 s hj hk hs
  have lc:=hs.lc
  have lb:=hs.lb
  have pl:=hs.pl
  have hdec:i64.wrap (((j+1:Nat):Int)-1)=(j:Int):=by rw[wrD (by omega) (by omega)];omega
  have r:=A5 l k1 (iN (boL (nsJ n).cl).length) (by rw[hns];simp only[iN];omega) (by rw[hns];simp only[iN];omega)
  have r2:Ag l k1 (iN (boL (nsJ n).cl).length)<(Au n:Int):=by have:=r.2;rw[hns] at this ⊢;exact this
  obtain⟨s',w',k',a,b,c,d,hm⟩:=ih (k1+1) (clJ s (Ag l k1 (iN (boL (nsJ n).cl).length)) (-1)) (by omega) (by omega) (by unfold clJ;exact clS_ok hs ⟨r.1,r2⟩ ⟨by omega,by omega⟩)
  refine⟨s',w',k',a,b,c,by omega,.to (show GT l kk n _ k1 s=_ from ?_) hm⟩
  unfold GT
  rw[An (AF (by omega)),Aa (by omega),Aa (by omega),Aa (by omega),Aa (by omega),Aa r.1,Aa (by simp only[iN] at r2 ⊢;omega),Aa (by simp only[iN] at r2 ⊢;omega),hdec]
theorem m29_c0{l:List Int}{kk:Nat}{n:Ac}(hv:AA n)(hrw:Rows n.nx):∀(j k1:Nat) (s:Af),j<=4->k1+200+5 * j<=1000000->A9 n s->
  ∃(s':Af) (w':Aq) (k2:Nat),A9 n s'/\Cc w'/\w'.ow.length=Au n/\k2<=k1+j+20/\Ax (JG l kk n) (some (.inl (.l0 (j:Int) k1 s))) ([some (Ah l k2)],.tup [sgA s',lkA w']):=by
 have h24:=hv.nb24
 intro j
 induction j with
 | zero=>
  intro k1 s _ _ hs
  have r:=A5 l k1 3 (by omega) (by omega)
  obtain⟨s',w',k2,a,b,c,d,hm⟩:=m29_c1 (l:=l) (kk:=kk) hv (Ag l k1 3).toNat (k1+1) s (by omega) (by omega) hs
  refine⟨s',w',k2,a,b,c,by omega,.to (show Hl l kk n _ k1 s=_ from ?_) hm⟩
  unfold Hl
  rw[Ak (Ar (by omega)),Aa (by omega),SW r.1]
 | succ j ih=>
  intro k1 s hj hk hs
  have hdec:i64.wrap (((j+1:Nat):Int)-1)=(j:Int):=by rw[wrD (by omega) (by omega)];omega
  have hstep:∃s2:Af,A9 n s2/\Hl l kk n ((j+1:Nat):Int) k1 s=some (.inl (.l0 (j:Int) (k1+1) s2)):=by
   unfold Hl
   rw[An (AF (by omega)),Aa (by omega),Aa hrw,hdec]
   by_cases h0:anE n s (Ag l k1 (iN (Tt bA n.bs).length))=0
   .exact⟨_,an_keep hv hs h0,by rw[An (beq_iff_eq.2 h0)]⟩
   .exact⟨s,hs,by rw[Ak (S5.2 h0)]⟩
  obtain⟨s2,ok2,he⟩:=hstep
  obtain⟨s',w',k',a,b,c,d,hm⟩:=ih (k1+1) s2 (by omega) (by omega) ok2
  exact⟨s',w',k',a,b,c,by omega,.to he hm⟩
theorem I5(l:List Int)(kk:Nat)(n:Ac):∃p:(Af×Aq)×Nat,AA n->Rows n.nx->kk<=5000->A9 n p.1.1/\Cc p.1.2/\p.1.2.ow.length=Au n/\p.2<=kk+40/\CT TA 29 [some (Ah l kk)] [.ptr 0 0 0,Aj n] [some (Ah l p.2)] (.tup [sgA p.1.1,lkA p.1.2]):=by
 by_cases h:AA n/\Rows n.nx/\kk<=5000
 .obtain⟨hv,hrw,hk⟩:=h
  have r:=A5 l kk 4 (by omega) (by omega)
  obtain⟨s',w',k',a,b,c,d,hm⟩:=m29_c0 (l:=l) (kk:=kk) hv hrw (Ag l kk 4).toNat (kk+1) (nsJ n) (by omega) (by omega) (by rw[K2];exact OK n)
  refine⟨((s',w'),k'),fun _ _ _=>⟨a,b,c,by show k'<=_;omega,?_⟩⟩
  refine m29_ct l kk n ([_],_) ?_
  unfold LL
  rw[Aa hv,Aa hrw,Aa (by omega),<-SW r.1]
  exact hm
 .exact⟨((⟨[],[],[]⟩,⟨[],[]⟩),0),fun a b c=>absurd ⟨a,b,c⟩ h⟩
@[irreducible] def m9S(l:List Int)(kk:Nat)(n:Ac):Af:=(Classical.choose (I5 l kk n)).1.1
@[irreducible] def m9L(l:List Int)(kk:Nat)(n:Ac):Aq:=(Classical.choose (I5 l kk n)).1.2
@[irreducible] def m9K(l:List Int)(kk:Nat)(n:Ac):Nat:=(Classical.choose (I5 l kk n)).2
theorem LS{l:List Int}{kk:Nat}{n:Ac}(hv:AA n)(hrw:Rows n.nx)(hk:kk<=5000):A9 n (m9S l kk n)/\Cc (m9L l kk n)/\(m9L l kk n).ow.length=Au n/\m9K l kk n<=kk+40/\CT TA 29 [some (Ah l kk)] [.ptr 0 0 0,Aj n] [some (Ah l (m9K l kk n))] (.tup [sgA (m9S l kk n),lkA (m9L l kk n)]):=by
 unfold m9S m9L m9K;exact S8 (I5 l kk n) hv hrw hk
theorem m9_c(l:List Int)(kk:Nat)(n:Ac)(hv:AA n)(hrw:Rows n.nx)(hk:kk<=5000):CT TA 29 [some (Ah l kk)] [.ptr 0 0 0,Aj n] [some (Ah l (m9K l kk n))] (.tup [sgA ⟨(m9S l kk n).cl,(m9S l kk n).bw,(m9S l kk n).pe⟩,lkA ⟨(m9L l kk n).ow,(m9L l kk n).qu⟩]):=(LS hv hrw hk).2.2.2.2
theorem F9{n:Ac}{s:Af}{c d:Int}(h:A2 n s c d=0):lgL n s c d=(BM n s c d).1/\lgB n s c d=(BM n s c d).2:=by
 unfold lgL lgB D0
 rw[Ss h];exact⟨rfl,rfl⟩
theorem NR{n:Ac}(hv:AA n)(hrw:Rows n.nx){s:Af}{c sp:Int}(hc:0<=c/\c<(Au n:Int))(hsp:0<=sp/\sp<(n.ss.length:Int)){l:List Int}(h:AZ n s c sp=some l):l.length<=1000:=by
 have hs:=Bg s0 (show sp.toNat<n.ss.length by omega)
 have gi:=(hv.goodT _ _ hs).hi
 have hb:=hv.sb hs
 have h1:=F6 (n.ss.getD sp.toNat s0) 0
 unfold AZ at h
 cases hp:plF n c with
 | none=>
  have hbl:=Js hv hc.1 hc.2 hp
  rw[hp] at h
  simp only at h
  split at h
  .cases h
  .cases h
   have:=GB hv hrw (s:=s) (blk:=c) (goal:=(n.ss.getD sp.toNat s0).i) ⟨hc.1,hbl⟩ (by omega)
   rw[SO,List.length_tail];omega
 | some i=>
  obtain⟨t,ht,hg,h3,h4,hil⟩:=Is hp
  have gt:=(hv.goodT _ _ ht).ho
  have tb:=hv.sb ht
  have h2:=F6 t (c-t.b+1)
  rw[hp] at h
  simp only[hg] at h
  split at h
  .cases h;omega
  .split at h
   .cases h
   .cases h
    have:=GB hv hrw (s:=s) (blk:=t.o) (goal:=(n.ss.getD sp.toNat s0).i) (by omega) (by omega)
    simp only[SO,List.length_tail,Ta,Tb];omega
theorem ds_path{g:List (List Int)}{s:List Bool}(hg:OkG g s){v goal:Nat}(hgo:goal<g.length){p:List Int}(hpos:0<p.length)(hhd:p.getD 0 0=(v:Int))(hlast:p.getD (p.length-1) 0=(goal:Int))
  (rng:∀k,k<p.length->0<=p.getD k 0/\p.getD k 0<(g.length:Int)/\s.getD (p.getD k 0).toNat false=false) (edge:∀k,k+1<p.length->p.getD (k+1) 0∈g.getD (p.getD k 0).toNat []):0<=dsS g s v goal:=by
 have hD:=EE hg hgo
 have key:∀j,j<p.length->0<=(AB g s goal g.length).getD (p.getD (p.length-1-j) 0).toNat 0:=by
  intro j
  induction j with
  | zero=>
   intro _
   have r:=rng (p.length-1) (by omega)
   rw[Nat.sub_zero,hlast,SE]
   rw[hlast,SE] at r
   have:=hD.zero r.2.2
   omega
  | succ j ih=>
   intro hj
   have h:=ih (by omega)
   have r:=rng (p.length-1-(j+1)) (by omega)
   have e:=edge (p.length-1-(j+1)) (by omega)
   rw[show p.length-1-(j+1)+1=p.length-1-j by omega] at e
   exact(hD.fwd _ (by omega) r.2.2 _ e h).1
 have:=key (p.length-1) (by omega)
 rw[Sc,hhd,SE] at this
 exact this
def hdF(c:List Bool)(a b:Int)(l:List Int):List Bool:=l.foldl (fun c p=>if p≠a/\p≠b then c.set p.toNat true else c) c
def hdS(s:Af)(a b:Int):Af:=⟨hdF s.cl a b s.pe,s.bw,[]⟩
theorem Mu(a b:Int):∀(l:List Int) (c:List Bool),(hdF c a b l).length=c.length:=by
 intro l
 induction l with
 | nil=>intro c;rfl
 | cons p l ih=>
  intro c
  show(hdF (if p≠a/\p≠b then c.set p.toNat true else c) a b l).length=c.length
  rw[ih];split
  .rw[S3]
  .rfl
theorem hdF_get(a b:Int)(x:Nat):∀(l:List Int) (c:List Bool),(∀p∈l,0<=p/\p<(c.length:Int))->(hdF c a b l).getD x true=(c.getD x true||(Az l (x:Int)&&((x:Int) != a&&(x:Int) != b))):=by
 intro l
 induction l with
 | nil=>intro c _;simp[hdF,Az,fnd]
 | cons p l ih=>
  intro c hc
  have hp:=hc p (List.mem_cons_self ..)
  have e:Az (p::l) (x:Int)=((x:Int)==p||Az l (x:Int)):=by
   rw[Bool.eq_iff_iff,S6,CM,CM,SY,beq_iff_eq]
  show(hdF (if p≠a/\p≠b then c.set p.toNat true else c) a b l).getD x true=_
  rw[ih _ (fun q hq=>by
   have:=hc q (SM _ hq)
   split
   .rw[S3];exact this
   .exact this),e]
  by_cases hx:(x:Int)=p
  .have hx':p.toNat=x:=by omega
   by_cases hab:p≠a/\p≠b
   .rw[Ss hab,hx',Sw,List.getElem?_set_self (by omega),hx]
    have h1:(p != a)=true:=Ti.2 hab.1
    have h2:(p != b)=true:=Ti.2 hab.2
    simp[h1,h2]
   .rw[Su hab,hx]
    have:(p != a&&p != b)=false:=by
     cases h:(p != a&&p != b) with
     | false=>rfl
     | true=>
      rw[SD,Ti,Ti] at h
      exact absurd h hab
    rw[this];simp
  .have hx':p.toNat≠x:=by omega
   have h1:((x:Int)==p)=false:=S5.2 hx
   rw[h1,So]
   split
   .rw[Sw,List.getElem?_set_ne hx',<-Sw]
   .rfl
theorem HO{n:Ac}{s:Af}(hv:AA n)(h:A9 n s)(a b:Int)(x:Nat):(hdS s a b).cl.getD x true=(s.cl.getD x true||(Az s.pe (x:Int)&&((x:Int) != a&&(x:Int) != b))):=
 hdF_get a b x s.pe s.cl fun p hp=>by have:=h.pb p hp;have:=h.lc;have:=hv.cel;omega
theorem O0{n:Ac}{s:Af}(hv:AA n)(h:A9 n s)(a b:Int):A9 n (hdS s a b):=by
 refine⟨by show(hdF s.cl a b s.pe).length=_;rw[Mu];exact h.lc,h.lb,fun i hi=>?_,fun p hp=>(by cases hp),List.Pairwise.nil⟩
 obtain⟨h1,h2,h3⟩:=h.bw i hi
 exact⟨h1,h2,fun h0=>by rw[HO hv h,h3 h0];rfl⟩
theorem hdS_sht(s:Af)(a b:Int):Cz (hdS s a b)=(hdS s a b).cl:=rfl
theorem hdS_shP{n:Ac}{s:Af}(hv:AA n)(h:A9 n s)(a b:Int):shP n (hdS s a b) a b=shP n s a b:=by
 unfold shP
 refine List.map_congr_left fun x _=>?_
 rw[hdS_sht,HO hv h,JZ hv h]
 cases hc:s.cl.getD x true<;>cases hp:Az s.pe (x:Int)<;>cases ha:((x:Int)==a)<;>cases hb:((x:Int)==b)<;>simp[bne,ha,hb]
theorem hdS_shQ{n:Ac}{s:Af}(hv:AA n)(h:A9 n s)(a b:Int):shQ n (hdS s a b) a=shP n s a b:=by
 unfold shP shQ
 refine List.map_congr_left fun x _=>?_
 rw[HO hv h,JZ hv h]
 cases hc:s.cl.getD x true<;>cases hp:Az s.pe (x:Int)<;>cases ha:((x:Int)==a)<;>cases hb:((x:Int)==b)<;>simp[bne,ha,hb]
theorem OL{n:Ac}{s:Af}(hv:AA n)(h:A9 n s)(a b:Int):AD n (hdS s a b) a b=AW n.nx (shP n s a b) a.toNat b.toNat:=by
 unfold AD
 rw[hdS_shP hv h,hdS_shQ hv h]
 split<;>rfl
theorem av_same{n:Ac}{s:Af}(hv:AA n)(h:A9 n s){a sp:Int}(hp:plF n a=none){l:List Int}(hl:AZ n (hdS s a (n.ss.getD sp.toNat s0).i) a sp=some l):AZ n s a sp=some l:=by
 unfold AZ at hl ⊢
 rw[hp] at hl ⊢
 simp only[OL hv h] at hl ⊢
 split at hl
 .cases hl
 .rename_i hne
  have e:AD n s a (n.ss.getD sp.toNat s0).i=AW n.nx (shP n s a (n.ss.getD sp.toNat s0).i) a.toNat ((n.ss.getD sp.toNat s0).i).toNat:=by unfold AD;rw[Su hne]
  rw[e,Su hne];exact hl
theorem av_pas{n:Ac}{s:Af}(hv:AA n)(h:A9 n s)(a b:Int){l:List Int}(hp:Bh (hdS s a b).cl l=true):Bh s.cl l=true:=by
 rw[Og] at hp ⊢
 intro c hc
 have:=hp c hc
 rw[HO hv h,Bool.or_eq_false_iff] at this
 exact this.1
theorem Q5{n:Ac}{s:Af}(hv:AA n)(hrw:Rows n.nx)(h:A9 n s){a sp:Int}(ha:0<=a/\a<(n.bs.length:Int))(hsp:0<=sp/\sp<(n.ss.length:Int))(hp:plF n a=none)
  (hno:(BM n (hdS s a (n.ss.getD sp.toNat s0).i) a sp).2=false) (hok:(BM n s a sp).2=true):∃c∈(BM n s a sp).1,c∈s.pe:=by
 have hs:=Bg s0 (show sp.toNat<n.ss.length by omega)
 have gi:=(hv.goodT _ _ hs).hi
 have hnx:=hv.nx
 obtain⟨hl,hpas⟩:=GE.1 hok
 generalize (BM n s a sp).1=l at hl hpas ⊢
 have hrng:=LA hv hrw ⟨ha.1,by have:=hv.cel;omega⟩ hsp hl
 refine Classical.byContradiction fun hnot=>?_
 have hnp:∀c∈l,c∉s.pe:=fun c hc hm=>hnot ⟨c,hc,hm⟩
 -- the leg's cells are open with these cells closed
 have hpas':Bh (hdS s a (n.ss.getD sp.toNat s0).i).cl l=true:=by
  rw[Og] at hpas ⊢
  intro c hc
  have hr:=hrng c hc
  have:Az s.pe ((c.toNat:Nat):Int)=false:=by
   rw[SW hr.1]
   cases hz:Az s.pe c with
   | false=>rfl
   | true=>exact absurd (CM.1 hz) (hnp c hc)
  rw[HO hv h,hpas c hc,this];rfl
 have hsame:AZ n (hdS s a (n.ss.getD sp.toNat s0).i) a sp=some l:=by
  have hl2:=hl
  unfold AZ at hl ⊢
  rw[hp] at hl ⊢
  simp only[OL hv h] at hl ⊢
  split at hl
  .cases hl
  .rename_i hne
   by_cases hq:AW n.nx (shP n s a (n.ss.getD sp.toNat s0).i) a.toNat ((n.ss.getD sp.toNat s0).i).toNat=[]
   .exfalso
    have e:AD n s a (n.ss.getD sp.toNat s0).i=AW n.nx (shQ n s a) a.toNat ((n.ss.getD sp.toNat s0).i).toNat:=by unfold AD;rw[Ss hq]
    rw[e] at hne hl
    rcases JL hv hrw (H1 n s a) (a:=a.toNat) (b:=((n.ss.getD sp.toNat s0).i).toNat) (by omega) (by omega) with h0 | ⟨_,hP⟩
    .exact hne h0
    generalize hpp:AW n.nx (shQ n s a) a.toNat ((n.ss.getD sp.toNat s0).i).toNat=p at hne hl hP
    have hd:=ds_path (okg hv hrw (Ha n s a (n.ss.getD sp.toNat s0).i)).1 (goal:=((n.ss.getD sp.toNat s0).i).toNat) (v:=a.toNat) (by omega) hP.pos hP.hd hP.last (fun k hk=>by
     obtain⟨r1,r2,r3⟩:=hP.rng k hk
     refine⟨r1,r2,?_⟩
     have hx:(p.getD k 0).toNat<n.bs.length:=by omega
     unfold shP
     rw[II hx]
     rw[JZ hv h]
     unfold shQ at r3
     rw[II hx] at r3
     rw[SW r1] at r3 ⊢
     by_cases hk0:p.getD k 0=a
     .rw[show (p.getD k 0==a)=true from beq_iff_eq.2 hk0];simp
     .have h1:(p.getD k 0==a)=false:=S5.2 hk0
      rw[h1] at r3
      have hcl:s.cl.getD (p.getD k 0).toNat true=false:=by simpa using r3
      have hmem:p.getD k 0∈l:=by
       have hk1:k≠0:=fun e=>hk0 (by rw[e,hP.hd,SW ha.1])
       cases hl
       refine SZ.2 (.inl ?_)
       cases p with
       | nil=>exact absurd hk (Nat.not_lt_zero _)
       | cons y r=>
        obtain⟨k,rfl⟩:=Nat.exists_eq_succ_of_ne_zero hk1
        show r.getD k 0∈r
        exact EV (by simpa using hk)
      have hz:Az s.pe (p.getD k 0)=false:=by
       cases hz:Az s.pe (p.getD k 0) with
       | false=>rfl
       | true=>exact absurd (CM.1 hz) (hnp _ hmem)
      rw[hcl,hz];simp) hP.edge
    have hpo:=MQ (okg hv hrw (Ha n s a (n.ss.getD sp.toNat s0).i)).1 (v:=a.toNat) (goal:=((n.ss.getD sp.toNat s0).i).toNat) (by omega) (by omega) hd
    have:=hpo.pos
    rw[hq] at this
    exact absurd this (Nat.lt_irrefl _)
   .have e:AD n s a (n.ss.getD sp.toNat s0).i=AW n.nx (shP n s a (n.ss.getD sp.toNat s0).i) a.toNat ((n.ss.getD sp.toNat s0).i).toNat:=by unfold AD;rw[Su hq]
    rw[e] at hl
    rw[Su hq];exact hl
 have:(BM n (hdS s a (n.ss.getD sp.toNat s0).i) a sp).2=true:=by
  unfold BM
  rw[hsame]
  simp only
  rw[Ss hpas']
 rw[this] at hno
 cases hno
theorem lk_y{n:Ac}(cl:List Bool)(bw pe:List Int)(c d:Int)(hrw:Rows n.nx)(h:A2 n ⟨cl,bw,pe⟩ c d=0)(hy:lgB n ⟨cl,bw,pe⟩ c d=true):
  CT TA 30 [] [Aj n,sgA ⟨cl,bw,pe⟩,.int .i64 c,.int .i64 d] [some (Blk.mk ((lgL n ⟨cl,bw,pe⟩ c d).map (AV.int .i64)) 1 true true none)] (.tup [.sl 0 0 (lgL n ⟨cl,bw,pe⟩ c d).length,.bool true,.int .i64 0]):=by
 obtain⟨e1,e2⟩:=F9 h
 rw[e1];rw[e2] at hy
 exact leg_y hrw h hy
theorem lk_n{n:Ac}(cl:List Bool)(bw pe:List Int)(c d:Int)(hrw:Rows n.nx)(h:A2 n ⟨cl,bw,pe⟩ c d=0)(hy:lgB n ⟨cl,bw,pe⟩ c d=false):
  CT TA 30 [] [Aj n,sgA ⟨cl,bw,pe⟩,.int .i64 c,.int .i64 d] [] (.tup [.nils,.bool false,.int .i64 0]):=by
 rw[(F9 h).2] at hy
 exact leg_n hrw h hy
theorem si_e(l m:List Int)(h:l=m)(hl:l.length<=1000000):CT TA 22 [] [lI l,lI m] [] (.bool true):=by subst h;exact L3 l hl
theorem M7{f:FuncId}{x:AV}{cl:List Bool}{bw:List Int}{xs:List AV}{hout:List (Option Blk)}{res:AV}(h:CT TA f [] (x::sgA ⟨cl,bw,[]⟩::xs) hout res):CT TA f [] (x:: .agg [.lst (boL cl),lI bw,.nils]::xs) hout res:=by
 refine CT.lessArgs h rfl fun i a ha=>?_
 match i,ha with
 | 0,ha=>exact⟨a,ha,.refl a⟩
 | 1,ha=>
  cases ha
  refine⟨_,rfl,Bj.agg rfl fun j c' hc=>?_⟩
  match j,hc with
  | 0,hc=>exact⟨c',hc,.refl c'⟩
  | 1,hc=>exact⟨c',hc,.refl c'⟩
  | 2,hc=>cases hc;exact⟨_,rfl,Bj.nilL⟩
 | i+2,ha=>exact⟨a,ha,.refl a⟩
theorem lk_y0{n:Ac}(cl:List Bool)(bw:List Int)(c d:Int)(hrw:Rows n.nx)(h:A2 n ⟨cl,bw,[]⟩ c d=0)(hy:lgB n ⟨cl,bw,[]⟩ c d=true):
  CT TA 30 [] [Aj n,.agg [.lst (boL cl),lI bw,.nils],.int .i64 c,.int .i64 d] [some (Blk.mk ((lgL n ⟨cl,bw,[]⟩ c d).map (AV.int .i64)) 1 true true none)] (.tup [.sl 0 0 (lgL n ⟨cl,bw,[]⟩ c d).length,.bool true,.int .i64 0]):=
 M7 (lk_y cl bw [] c d hrw h hy)
theorem lk_n0{n:Ac}(cl:List Bool)(bw:List Int)(c d:Int)(hrw:Rows n.nx)(h:A2 n ⟨cl,bw,[]⟩ c d=0)(hy:lgB n ⟨cl,bw,[]⟩ c d=false):
  CT TA 30 [] [Aj n,.agg [.lst (boL cl),lI bw,.nils],.int .i64 c,.int .i64 d] [] (.tup [.nils,.bool false,.int .i64 0]):=
 M7 (lk_n cl bw [] c d hrw h hy)
inductive El where
 | l0 (v0:Int) (v1:List Bool)
def Gn(ls:List Int):El->St
 | .l0 v0 v1=>St.mk 128 [(4,AV.ptr 0 0 0),(5,AV.ptr 1 0 0),(7,iv (Ag ls (m9K ls (Ai ls 0 8) (Ab ls 0 8)) (iN (Tt bA (Ab ls 0 8).bs).length))),(8,iv (Ag ls (m9K ls (Ai ls 0 8) (Ab ls 0 8)+1) (iN (Tt sA (Ab ls 0 8).ss).length))),(9,Tz (Tt iv (lgL (Ab ls 0 8) (m9S ls (Ai ls 0 8) (Ab ls 0 8)) (Ag ls (m9K ls (Ai ls 0 8) (Ab ls 0 8)) (iN (Tt bA (Ab ls 0 8).bs).length)) (Ag ls (m9K ls (Ai ls 0 8) (Ab ls 0 8)+1) (iN (Tt sA (Ab ls 0 8).ss).length))))),(10,bV (lgB (Ab ls 0 8) (m9S ls (Ai ls 0 8) (Ab ls 0 8)) (Ag ls (m9K ls (Ai ls 0 8) (Ab ls 0 8)) (iN (Tt bA (Ab ls 0 8).bs).length)) (Ag ls (m9K ls (Ai ls 0 8) (Ab ls 0 8)+1) (iN (Tt sA (Ab ls 0 8).ss).length)))),(11,iv (A2 (Ab ls 0 8) (m9S ls (Ai ls 0 8) (Ab ls 0 8)) (Ag ls (m9K ls (Ai ls 0 8) (Ab ls 0 8)) (iN (Tt bA (Ab ls 0 8).bs).length)) (Ag ls (m9K ls (Ai ls 0 8) (Ab ls 0 8)+1) (iN (Tt sA (Ab ls 0 8).ss).length)))),(12,AV.ptr 2 0 0),(13,iv v0)] [some (bK [Aj (Ab ls 0 8)] 8),some (bK [AV.agg [Tz (boL (m9S ls (Ai ls 0 8) (Ab ls 0 8)).cl),Tz (Tt iv (m9S ls (Ai ls 0 8) (Ab ls 0 8)).bw),Tz (Tt iv (m9S ls (Ai ls 0 8) (Ab ls 0 8)).pe)]] 3),some (Blk.mk [AV.agg [AV.sl 3 0 (boL (m9S ls (Ai ls 0 8) (Ab ls 0 8)).cl).length,Tz (Tt iv (m9S ls (Ai ls 0 8) (Ab ls 0 8)).bw),Tz (Tt iv (m9S ls (Ai ls 0 8) (Ab ls 0 8)).pe)]] 3 false true none),some (bK (Tt bV v1) 1)]
def KP:El->Nat
 | .l0 _ _=>0
def MH(ls:List Int):Option (El⊕Ret):=
 gu (AA (Ab ls 0 8)) <|
 gu (Rows (Ab ls 0 8).nx) <|
 gu (Ai ls 0 8<=5000) <|
 gu (m9K ls (Ai ls 0 8) (Ab ls 0 8)<9223372036854775807) <|
 gu (m9K ls (Ai ls 0 8) (Ab ls 0 8)+1<9223372036854775807) <|
 gu (∀(e:AV),e∈boL (m9S ls (Ai ls 0 8) (Ab ls 0 8)).cl->e.cells.length=1) <|
 gu ((boL (m9S ls (Ai ls 0 8) (Ab ls 0 8)).cl).length<=9223372036854775807) <|
 gu ((boL (m9S ls (Ai ls 0 8) (Ab ls 0 8)).cl).length * 1<=140737488355328) <|
 some (.inl (.l0 ((0:Int)) ((m9S ls (Ai ls 0 8) (Ab ls 0 8)).cl)))
def Gy(ls:List Int)(v0:Int)(v1:List Bool):Option (El⊕Ret):=
 br (decide (v0<iN (Tt iV (m9S ls (Ai ls 0 8) (Ab ls 0 8)).pe).length))
 (gu (0<=v0) <|
  el ((m9S ls (Ai ls 0 8) (Ab ls 0 8)).pe) (v0.toNat) fun(x67:Int)=>
  br (x67 != Ag ls (m9K ls (Ai ls 0 8) (Ab ls 0 8)) (iN (Tt bA (Ab ls 0 8).bs).length))
  (gu (0<=Ag ls (m9K ls (Ai ls 0 8) (Ab ls 0 8)+1) (iN (Tt sA (Ab ls 0 8).ss).length)) <|
   el ((Ab ls 0 8).ss) ((Ag ls (m9K ls (Ai ls 0 8) (Ab ls 0 8)+1) (iN (Tt sA (Ab ls 0 8).ss).length)).toNat) fun(x77:Av)=>
   br (x67 != x77.i)
   (gu (0<=x67) <|
    gu (x67<iN (boL (m9S ls (Ai ls 0 8) (Ab ls 0 8)).cl).length) <|
    gu ((0+x67.toNat).succ.le (Tt bV v1).length) <|
    some (.inl (.l0 (i64.wrap (v0+1)) (v1.set (0+x67.toNat) true))))
   (some (.inl (.l0 (i64.wrap (v0+1)) v1))))
  (some (.inl (.l0 (i64.wrap (v0+1)) v1))))
 (gu (Rows (Ab ls 0 8).nx) <|
  gu (A2 (Ab ls 0 8) (Af.mk v1 (m9S ls (Ai ls 0 8) (Ab ls 0 8)).bw []) (Ag ls (m9K ls (Ai ls 0 8) (Ab ls 0 8)) (iN (Tt bA (Ab ls 0 8).bs).length)) (Ag ls (m9K ls (Ai ls 0 8) (Ab ls 0 8)+1) (iN (Tt sA (Ab ls 0 8).ss).length))=0) <|
  br (lgB (Ab ls 0 8) (Af.mk v1 (m9S ls (Ai ls 0 8) (Ab ls 0 8)).bw []) (Ag ls (m9K ls (Ai ls 0 8) (Ab ls 0 8)) (iN (Tt bA (Ab ls 0 8).bs).length)) (Ag ls (m9K ls (Ai ls 0 8) (Ab ls 0 8)+1) (iN (Tt sA (Ab ls 0 8).ss).length)))
  (gu ((boL (m9S ls (Ai ls 0 8) (Ab ls 0 8)).cl).length=(Tt bV v1).length) <|
   gu (∀(blk:Blk),blk∈[bK (Tt iV (lgL (Ab ls 0 8) (Af.mk v1 (m9S ls (Ai ls 0 8) (Ab ls 0 8)).bw []) (Ag ls (m9K ls (Ai ls 0 8) (Ab ls 0 8)) (iN (Tt bA (Ab ls 0 8).bs).length)) (Ag ls (m9K ls (Ai ls 0 8) (Ab ls 0 8)+1) (iN (Tt sA (Ab ls 0 8).ss).length)))) 1]->BS blk) <|
   br (A2 (Ab ls 0 8) (m9S ls (Ai ls 0 8) (Ab ls 0 8)) (Ag ls (m9K ls (Ai ls 0 8) (Ab ls 0 8)) (iN (Tt bA (Ab ls 0 8).bs).length)) (Ag ls (m9K ls (Ai ls 0 8) (Ab ls 0 8)+1) (iN (Tt sA (Ab ls 0 8).ss).length)) != 0)
   (some (.inr ([],bV false)))
   (br (lgB (Ab ls 0 8) (m9S ls (Ai ls 0 8) (Ab ls 0 8)) (Ag ls (m9K ls (Ai ls 0 8) (Ab ls 0 8)) (iN (Tt bA (Ab ls 0 8).bs).length)) (Ag ls (m9K ls (Ai ls 0 8) (Ab ls 0 8)+1) (iN (Tt sA (Ab ls 0 8).ss).length)))
    (gu (lgL (Ab ls 0 8) (m9S ls (Ai ls 0 8) (Ab ls 0 8)) (Ag ls (m9K ls (Ai ls 0 8) (Ab ls 0 8)) (iN (Tt bA (Ab ls 0 8).bs).length)) (Ag ls (m9K ls (Ai ls 0 8) (Ab ls 0 8)+1) (iN (Tt sA (Ab ls 0 8).ss).length))=lgL (Ab ls 0 8) (Af.mk v1 (m9S ls (Ai ls 0 8) (Ab ls 0 8)).bw []) (Ag ls (m9K ls (Ai ls 0 8) (Ab ls 0 8)) (iN (Tt bA (Ab ls 0 8).bs).length)) (Ag ls (m9K ls (Ai ls 0 8) (Ab ls 0 8)+1) (iN (Tt sA (Ab ls 0 8).ss).length))) <|
     gu ((lgL (Ab ls 0 8) (m9S ls (Ai ls 0 8) (Ab ls 0 8)) (Ag ls (m9K ls (Ai ls 0 8) (Ab ls 0 8)) (iN (Tt bA (Ab ls 0 8).bs).length)) (Ag ls (m9K ls (Ai ls 0 8) (Ab ls 0 8)+1) (iN (Tt sA (Ab ls 0 8).ss).length))).length<=1000000) <|
     some (.inr ([],bV true)))
    (some (.inr ([],bV false)))))
  (none))
def avTStep(ls:List Int):El->Option (El⊕Ret)
 | .l0 v0 v1=>Gy ls v0 v1
theorem avTEn_ok(ls:List Int)(o:El⊕Ret)(h:MH ls=some o):Arr TA Try.f5 0 (Gn ls) KP (zB Try.f5) [] {n:=Try.f5.ntmps,fr:=AK 0 ([lI ls]),hp:=([])} o:=
 Scr.ok h mix (
 have c0:=OD;
 have c1:=Ns (ls) (0) (8) (show nat_lit 0<=(5000:Nat) from(by first | exact nL rfl | decide)) (show(1:Int)<=(8:Int)/\(8:Int)<=(20:Int) from ⟨(by first | exact nL rfl | decide),(by first | exact nL rfl | decide)⟩);
 .rn 3 [] [] [(20,hK c0 [] []),(26,hK c1 [0] [])] [] (u2 (aj (aj (al (c0)) s2) (ak (aj (u2 (u2 (u2 s2))) (al (u2 (aj (ak (k3 (al (c1)))) (ak (al (k2 n11)))))))))) <|
 .gu fun a0=>
 .gu fun a1=>
 .gu fun a2=>
 have c2:=m9_c (ls) (Ai ls 0 8) (Ab ls 0 8) a0 a1 a2;
 .rn 0 [] [] [(30,hK c2 [0] [])] [] (al (u2 (u2 (aj (k3 (aj t9 (ak (al (c2))))) (u2 (u2 (u2 (k2 (aj (k2 n11) (al (k2 n11))))))))))) <|
 .gu fun a3=>
 .gu fun a4=>
 have c3:=A4 (ls) (m9K ls (Ai ls 0 8) (Ab ls 0 8)) (iN (Tt bA (Ab ls 0 8).bs).length) a3;
 have c4:=A4 (ls) (m9K ls (Ai ls 0 8) (Ab ls 0 8)+1) (iN (Tt sA (Ab ls 0 8).ss).length) a4;
 have c5:=leg_j ((m9S ls (Ai ls 0 8) (Ab ls 0 8)).cl) ((m9S ls (Ai ls 0 8) (Ab ls 0 8)).bw) ((m9S ls (Ai ls 0 8) (Ab ls 0 8)).pe) (Ag ls (m9K ls (Ai ls 0 8) (Ab ls 0 8)) (iN (Tt bA (Ab ls 0 8).bs).length)) (Ag ls (m9K ls (Ai ls 0 8) (Ab ls 0 8)+1) (iN (Tt sA (Ab ls 0 8).ss).length)) a1;
 .rn 2 [] [] [(37,hK c3 [0] []),(42,hK c4 [0] []),(48,hK c5 [] [])] [] (aj (u2 (u2 (u2 (u2 (aj (k5 (al (c3))) (u2 (u2 (u2 (u2 (aj (k5 (al (c4))) (u2 s2))))))))))) (aj (u2 (u2 (u2 (u2 (aj (ak (k3 (aj t9 (aj t4 (k2 (al (c5))))))) (u2 (u2 (u2 (u2 (u2 (u2 s2))))))))))) (al (u2 (ak (al (k2 n11))))))) <|
 .gu fun a5=>
 .gu fun a6=>
 .gu fun a7=>
 .lp [] [] [] [] [] [1,2,4,5] [4,5,7,8,9,10,11,12,13] (aj (aj (u2 (u2 (aj (ak (aj a5 (aj a6 a7))) (u2 (al t3))))) s2) (ak (k5 (k5 (aj (al t4) t2)))))) (by kernel_rfl)
theorem avTS0_ok(ls:List Int)(v0:Int)(v1:List Bool)(o:El⊕Ret)(h:Gy ls v0 v1=some o):Arr TA Try.f5 0 (Gn ls) KP (Ay Try.f5 0) (.rnd (Ay Try.f5 0)::AN Try.f5 0) (Gn ls (.l0 v0 v1)) o:=
 Scr.ok h mix (
 .rn 0 [] [] [] [] (al (u2 (u2 (u2 (u2 (al t3)))))) <|
 .br (fun a0=>
 .gu fun a1=>
 .el fun x67 a2=>
 .rn 0 [123] [(67,iv x67)] [] [] (aj a0 (al (u2 (u2 (u2 (aj (k2 (aj a1 (AE (f:=iv) a2))) (u2 s2))))))) <|
 .br (fun a3=>
  .gu fun a4=>
  .el fun x77 a5=>
  .rn 0 [145] [(77,sA x77)] [] [] (al (u2 (u2 (aj t3 (u2 (ag a3 (ag a3 (ag a3 (ag a3 (aj (aj a3 (k2 (aj a4 (AE (f:=sA) a5)))) (ag a3 (ag a3 (aj (aj a3 t3) (al (aj a3 t2))))))))))))))) <|
  .br (fun a6=>
  .gu fun a7=>
  .gu fun a8=>
  .gu fun a9=>
  .lq [145,163] [] [] [] [] [0,1,2,3] [4,5,7,8,9,10,11,12,13] (up [] [(3,(Tt bV v1).set (0+x67.toNat) (bV true))] (Gn ls (.l0 (i64.wrap (v0+1)) (v1.set (0+x67.toNat) true)))) (aj (aj a6 (aj (u2 (u2 (u2 (aj (k2 (aj a7 a8)) (al (ak a9)))))) (al (u2 (u2 s2))))) (ak (k5 (k5 (aj (al t4) t2))))) (by simp[up,upF,upV,upH,upB,Gn,gL,boL,lI,sA,bA]))
  (fun a6=>
  .lp [145,162] [] [] [] [] [0,1,2,3] [4,5,7,8,9,10,11,12,13] (aj (aj a6 (al (u2 (u2 s2)))) (ak (k5 (k5 (aj (al t4) t2)))))))
 (fun a3=>
  .lp [144] [] [] [] [] [0,1,2,3] [4,5,7,8,9,10,11,12,13] (aj (aj (u2 (u2 (aj t3 (u2 (aj a3 (aj a3 (aj a3 (aj a3 (aj a3 (aj a3 (aj a3 (aj a3 (al (aj a3 t2)))))))))))))) (ak (al (u2 (u2 s2))))) (ak (k5 (k5 (aj (al t4) t2)))))))
 (fun a0=>
 .rn 0 [122] [] [] [] (aj a0 (al (u2 s2))) <|
 .gu fun a1=>
 .gu fun a2=>
 .br (fun a3=>
  .gu fun a4=>
  .gu fun a5=>
  have c0:=lk_y0 v1 ((m9S ls (Ai ls 0 8) (Ab ls 0 8)).bw) (Ag ls (m9K ls (Ai ls 0 8) (Ab ls 0 8)) (iN (Tt bA (Ab ls 0 8).bs).length)) (Ag ls (m9K ls (Ai ls 0 8) (Ab ls 0 8)+1) (iN (Tt sA (Ab ls 0 8).ss).length)) a1 a2 a3;
  .rn 0 [] [] [(92,hK c0 [] [3])] [] (al (u2 (u2 (u2 (u2 (aj (ak (k3 (aj t9 (aj (aj a4 t3) (k2 (aj (c0) a5)))))) (u2 (u2 (u2 (u2 (u2 (u2 s2)))))))))))) <|
  .br (fun a6=>
  .rt [197] [] [] [] [] [] (aj (aj (u2 (u2 (u2 (aj a6 (aj a6 (al (aj a6 t2))))))) (ak s2)) t2))
  (fun a6=>
  .rn 1 [196] [] [] [] (aj (u2 (u2 (u2 (ag a6 (ag a6 (al (aj a6 t2))))))) (ak (al s2))) <|
  .br (fun a7=>
   .gu fun a8=>
   .gu fun a9=>
   have c1:=si_e (lgL (Ab ls 0 8) (m9S ls (Ai ls 0 8) (Ab ls 0 8)) (Ag ls (m9K ls (Ai ls 0 8) (Ab ls 0 8)) (iN (Tt bA (Ab ls 0 8).bs).length)) (Ag ls (m9K ls (Ai ls 0 8) (Ab ls 0 8)+1) (iN (Tt sA (Ab ls 0 8).ss).length))) (lgL (Ab ls 0 8) (Af.mk v1 (m9S ls (Ai ls 0 8) (Ab ls 0 8)).bw []) (Ag ls (m9K ls (Ai ls 0 8) (Ab ls 0 8)) (iN (Tt bA (Ab ls 0 8).bs).length)) (Ag ls (m9K ls (Ai ls 0 8) (Ab ls 0 8)+1) (iN (Tt sA (Ab ls 0 8).ss).length))) a8 a9;
   .rt [196,209] [] [(107,hK c1 [] [4])] [] [] [] (aj (ak (al (u2 (u2 (ag a7 (ag a7 (aj (aj a7 (k3 (aj (show(lgL (Ab ls 0 8) (Af.mk v1 (m9S ls (Ai ls 0 8) (Ab ls 0 8)).bw []) (Ag ls (m9K ls (Ai ls 0 8) (Ab ls 0 8)) (iN (Tt bA (Ab ls 0 8).bs).length)) (Ag ls (m9K ls (Ai ls 0 8) (Ab ls 0 8)+1) (iN (Tt sA (Ab ls 0 8).ss).length))).length=(Tt iv (lgL (Ab ls 0 8) (Af.mk v1 (m9S ls (Ai ls 0 8) (Ab ls 0 8)).bw []) (Ag ls (m9K ls (Ai ls 0 8) (Ab ls 0 8)) (iN (Tt bA (Ab ls 0 8).bs).length)) (Ag ls (m9K ls (Ai ls 0 8) (Ab ls 0 8)+1) (iN (Tt sA (Ab ls 0 8).ss).length)))).length by simp) (aj (c1) (show ∀(blk:Blk),blk∈[]->BS blk from(by intro _ h;cases h)))))) (ag a7 s2)))))))) t2))
  (fun a7=>
   .rt [196,208] [] [] [] [] [] (aj (ak (al (u2 (u2 (aj a7 (aj a7 (aj a7 (ag a7 s2)))))))) t2))))
 (fun a3=>
  .no))) (by kernel_rfl)
theorem avT_ct(ls:List Int)(r:Ret)(h:Ax (avTStep ls) (MH ls) r):CT TA 5 ([]) ([lI ls]) r.1 r.2:=
 CT.mach (fn:=Try.f5) (c:=zB Try.f5) (S:=Gn ls) (hd:=KP) Try.func5 (by kernel_rfl) (nL rfl)
  (fun s o ho=>match s,ho with
   | .l0 v0 v1,ho=>avTS0_ok ls v0 v1 o ho
  )
  (fun o ho=>avTEn_ok ls o ho) h
inductive DB where
 | l0 (v0:Int) (v1:List Bool)
 | l1 (v0:Bool) (v1:Int)
def FA(ls:List Int):DB->St
 | .l0 v0 v1=>St.mk 128 [(4,AV.ptr 0 0 0),(5,AV.ptr 1 0 0),(7,iv (Ag ls (m9K ls (Ai ls 0 8) (Ab ls 0 8)) (iN (Tt bA (Ab ls 0 8).bs).length))),(8,iv (Ag ls (m9K ls (Ai ls 0 8) (Ab ls 0 8)+1) (iN (Tt sA (Ab ls 0 8).ss).length))),(9,Tz (Tt iv (lgL (Ab ls 0 8) (m9S ls (Ai ls 0 8) (Ab ls 0 8)) (Ag ls (m9K ls (Ai ls 0 8) (Ab ls 0 8)) (iN (Tt bA (Ab ls 0 8).bs).length)) (Ag ls (m9K ls (Ai ls 0 8) (Ab ls 0 8)+1) (iN (Tt sA (Ab ls 0 8).ss).length))))),(10,bV (lgB (Ab ls 0 8) (m9S ls (Ai ls 0 8) (Ab ls 0 8)) (Ag ls (m9K ls (Ai ls 0 8) (Ab ls 0 8)) (iN (Tt bA (Ab ls 0 8).bs).length)) (Ag ls (m9K ls (Ai ls 0 8) (Ab ls 0 8)+1) (iN (Tt sA (Ab ls 0 8).ss).length)))),(11,iv (A2 (Ab ls 0 8) (m9S ls (Ai ls 0 8) (Ab ls 0 8)) (Ag ls (m9K ls (Ai ls 0 8) (Ab ls 0 8)) (iN (Tt bA (Ab ls 0 8).bs).length)) (Ag ls (m9K ls (Ai ls 0 8) (Ab ls 0 8)+1) (iN (Tt sA (Ab ls 0 8).ss).length)))),(12,AV.ptr 2 0 0),(13,iv v0)] [some (bK [Aj (Ab ls 0 8)] 8),some (bK [AV.agg [Tz (boL (m9S ls (Ai ls 0 8) (Ab ls 0 8)).cl),Tz (Tt iv (m9S ls (Ai ls 0 8) (Ab ls 0 8)).bw),Tz (Tt iv (m9S ls (Ai ls 0 8) (Ab ls 0 8)).pe)]] 3),some (Blk.mk [AV.agg [AV.sl 3 0 (boL (m9S ls (Ai ls 0 8) (Ab ls 0 8)).cl).length,Tz (Tt iv (m9S ls (Ai ls 0 8) (Ab ls 0 8)).bw),Tz (Tt iv (m9S ls (Ai ls 0 8) (Ab ls 0 8)).pe)]] 3 false true none),some (bK (Tt bV v1) 1)]
 | .l1 v0 v1=>St.mk 128 [(5,AV.ptr 0 0 0),(9,Tz (Tt iv (lgL (Ab ls 0 8) (m9S ls (Ai ls 0 8) (Ab ls 0 8)) (Ag ls (m9K ls (Ai ls 0 8) (Ab ls 0 8)) (iN (Tt bA (Ab ls 0 8).bs).length)) (Ag ls (m9K ls (Ai ls 0 8) (Ab ls 0 8)+1) (iN (Tt sA (Ab ls 0 8).ss).length))))),(18,bV v0),(19,iv v1)] [some (bK [AV.agg [Tz (boL (m9S ls (Ai ls 0 8) (Ab ls 0 8)).cl),Tz (Tt iv (m9S ls (Ai ls 0 8) (Ab ls 0 8)).bw),Tz (Tt iv (m9S ls (Ai ls 0 8) (Ab ls 0 8)).pe)]] 3)]
def IP:DB->Nat
 | .l0 _ _=>0
 | .l1 _ _=>1
def Ly(ls:List Int):Option (DB⊕Ret):=
 gu (AA (Ab ls 0 8)) <|
 gu (Rows (Ab ls 0 8).nx) <|
 gu (Ai ls 0 8<=5000) <|
 gu (m9K ls (Ai ls 0 8) (Ab ls 0 8)<9223372036854775807) <|
 gu (m9K ls (Ai ls 0 8) (Ab ls 0 8)+1<9223372036854775807) <|
 gu (∀(e:AV),e∈boL (m9S ls (Ai ls 0 8) (Ab ls 0 8)).cl->e.cells.length=1) <|
 gu ((boL (m9S ls (Ai ls 0 8) (Ab ls 0 8)).cl).length<=9223372036854775807) <|
 gu ((boL (m9S ls (Ai ls 0 8) (Ab ls 0 8)).cl).length * 1<=140737488355328) <|
 some (.inl (.l0 ((0:Int)) ((m9S ls (Ai ls 0 8) (Ab ls 0 8)).cl)))
def GQ(ls:List Int)(v0:Int)(v1:List Bool):Option (DB⊕Ret):=
 br (decide (v0<iN (Tt iV (m9S ls (Ai ls 0 8) (Ab ls 0 8)).pe).length))
 (gu (0<=v0) <|
  el ((m9S ls (Ai ls 0 8) (Ab ls 0 8)).pe) (v0.toNat) fun(x67:Int)=>
  br (x67 != Ag ls (m9K ls (Ai ls 0 8) (Ab ls 0 8)) (iN (Tt bA (Ab ls 0 8).bs).length))
  (gu (0<=Ag ls (m9K ls (Ai ls 0 8) (Ab ls 0 8)+1) (iN (Tt sA (Ab ls 0 8).ss).length)) <|
   el ((Ab ls 0 8).ss) ((Ag ls (m9K ls (Ai ls 0 8) (Ab ls 0 8)+1) (iN (Tt sA (Ab ls 0 8).ss).length)).toNat) fun(x77:Av)=>
   br (x67 != x77.i)
   (gu (0<=x67) <|
    gu (x67<iN (boL (m9S ls (Ai ls 0 8) (Ab ls 0 8)).cl).length) <|
    gu ((0+x67.toNat).succ.le (Tt bV v1).length) <|
    some (.inl (.l0 (i64.wrap (v0+1)) (v1.set (0+x67.toNat) true))))
   (some (.inl (.l0 (i64.wrap (v0+1)) v1))))
  (some (.inl (.l0 (i64.wrap (v0+1)) v1))))
 (gu (Rows (Ab ls 0 8).nx) <|
  gu (A2 (Ab ls 0 8) (Af.mk v1 (m9S ls (Ai ls 0 8) (Ab ls 0 8)).bw []) (Ag ls (m9K ls (Ai ls 0 8) (Ab ls 0 8)) (iN (Tt bA (Ab ls 0 8).bs).length)) (Ag ls (m9K ls (Ai ls 0 8) (Ab ls 0 8)+1) (iN (Tt sA (Ab ls 0 8).ss).length))=0) <|
  br (lgB (Ab ls 0 8) (Af.mk v1 (m9S ls (Ai ls 0 8) (Ab ls 0 8)).bw []) (Ag ls (m9K ls (Ai ls 0 8) (Ab ls 0 8)) (iN (Tt bA (Ab ls 0 8).bs).length)) (Ag ls (m9K ls (Ai ls 0 8) (Ab ls 0 8)+1) (iN (Tt sA (Ab ls 0 8).ss).length)))
  (none)
  (gu ((boL (m9S ls (Ai ls 0 8) (Ab ls 0 8)).cl).length=(Tt bV v1).length) <|
   br (A2 (Ab ls 0 8) (m9S ls (Ai ls 0 8) (Ab ls 0 8)) (Ag ls (m9K ls (Ai ls 0 8) (Ab ls 0 8)) (iN (Tt bA (Ab ls 0 8).bs).length)) (Ag ls (m9K ls (Ai ls 0 8) (Ab ls 0 8)+1) (iN (Tt sA (Ab ls 0 8).ss).length)) != 0)
   (some (.inr ([],bV false)))
   (some (.inl (.l1 (!lgB (Ab ls 0 8) (m9S ls (Ai ls 0 8) (Ab ls 0 8)) (Ag ls (m9K ls (Ai ls 0 8) (Ab ls 0 8)) (iN (Tt bA (Ab ls 0 8).bs).length)) (Ag ls (m9K ls (Ai ls 0 8) (Ab ls 0 8)+1) (iN (Tt sA (Ab ls 0 8).ss).length))) ((0:Int)))))))
def Fg(ls:List Int)(v0:Bool)(v1:Int):Option (DB⊕Ret):=
 br (decide (v1<iN (Tt iV (lgL (Ab ls 0 8) (m9S ls (Ai ls 0 8) (Ab ls 0 8)) (Ag ls (m9K ls (Ai ls 0 8) (Ab ls 0 8)) (iN (Tt bA (Ab ls 0 8).bs).length)) (Ag ls (m9K ls (Ai ls 0 8) (Ab ls 0 8)+1) (iN (Tt sA (Ab ls 0 8).ss).length)))).length))
 (br v0
  (some (.inl (.l1 (true) (i64.wrap (v1+1)))))
  (gu (0<=v1) <|
   el (lgL (Ab ls 0 8) (m9S ls (Ai ls 0 8) (Ab ls 0 8)) (Ag ls (m9K ls (Ai ls 0 8) (Ab ls 0 8)) (iN (Tt bA (Ab ls 0 8).bs).length)) (Ag ls (m9K ls (Ai ls 0 8) (Ab ls 0 8)+1) (iN (Tt sA (Ab ls 0 8).ss).length))) (v1.toNat) fun(x123:Int)=>
   gu ((m9S ls (Ai ls 0 8) (Ab ls 0 8)).pe.length<=9223372036854775807) <|
   some (.inl (.l1 (Az (m9S ls (Ai ls 0 8) (Ab ls 0 8)).pe x123) (i64.wrap (v1+1))))))
 (some (.inr ([],bV v0)))
def Nq(ls:List Int):DB->Option (DB⊕Ret)
 | .l0 v0 v1=>GQ ls v0 v1
 | .l1 v0 v1=>Fg ls v0 v1
theorem avFEn_ok(ls:List Int)(o:DB⊕Ret)(h:Ly ls=some o):Arr TA Try.f5 0 (FA ls) IP (zB Try.f5) [] {n:=Try.f5.ntmps,fr:=AK 0 ([lI ls]),hp:=([])} o:=
 Scr.ok h mix (
 have c0:=OD;
 have c1:=Ns (ls) (0) (8) (show nat_lit 0<=(5000:Nat) from(by first | exact nL rfl | decide)) (show(1:Int)<=(8:Int)/\(8:Int)<=(20:Int) from ⟨(by first | exact nL rfl | decide),(by first | exact nL rfl | decide)⟩);
 .rn 3 [] [] [(20,hK c0 [] []),(26,hK c1 [0] [])] [] (u2 (aj (aj (al (c0)) s2) (ak (aj (u2 (u2 (u2 s2))) (al (u2 (aj (ak (k3 (al (c1)))) (ak (al (k2 n11)))))))))) <|
 .gu fun a0=>
 .gu fun a1=>
 .gu fun a2=>
 have c2:=m9_c (ls) (Ai ls 0 8) (Ab ls 0 8) a0 a1 a2;
 .rn 0 [] [] [(30,hK c2 [0] [])] [] (al (u2 (u2 (aj (k3 (aj t9 (ak (al (c2))))) (u2 (u2 (u2 (k2 (aj (k2 n11) (al (k2 n11))))))))))) <|
 .gu fun a3=>
 .gu fun a4=>
 have c3:=A4 (ls) (m9K ls (Ai ls 0 8) (Ab ls 0 8)) (iN (Tt bA (Ab ls 0 8).bs).length) a3;
 have c4:=A4 (ls) (m9K ls (Ai ls 0 8) (Ab ls 0 8)+1) (iN (Tt sA (Ab ls 0 8).ss).length) a4;
 have c5:=leg_j ((m9S ls (Ai ls 0 8) (Ab ls 0 8)).cl) ((m9S ls (Ai ls 0 8) (Ab ls 0 8)).bw) ((m9S ls (Ai ls 0 8) (Ab ls 0 8)).pe) (Ag ls (m9K ls (Ai ls 0 8) (Ab ls 0 8)) (iN (Tt bA (Ab ls 0 8).bs).length)) (Ag ls (m9K ls (Ai ls 0 8) (Ab ls 0 8)+1) (iN (Tt sA (Ab ls 0 8).ss).length)) a1;
 .rn 2 [] [] [(37,hK c3 [0] []),(42,hK c4 [0] []),(48,hK c5 [] [])] [] (aj (u2 (u2 (u2 (u2 (aj (k5 (al (c3))) (u2 (u2 (u2 (u2 (aj (k5 (al (c4))) (u2 s2))))))))))) (aj (u2 (u2 (u2 (u2 (aj (ak (k3 (aj t9 (aj t4 (k2 (al (c5))))))) (u2 (u2 (u2 (u2 (u2 (u2 s2))))))))))) (al (u2 (ak (al (k2 n11))))))) <|
 .gu fun a5=>
 .gu fun a6=>
 .gu fun a7=>
 .lp [] [] [] [] [] [1,2,4,5] [4,5,7,8,9,10,11,12,13] (aj (aj (u2 (u2 (aj (ak (aj a5 (aj a6 a7))) (u2 (al t3))))) s2) (ak (k5 (k5 (aj (al t4) t2)))))) (by kernel_rfl)
theorem avFS0_ok(ls:List Int)(v0:Int)(v1:List Bool)(o:DB⊕Ret)(h:GQ ls v0 v1=some o):Arr TA Try.f5 0 (FA ls) IP (Ay Try.f5 0) (.rnd (Ay Try.f5 0)::AN Try.f5 0) (FA ls (.l0 v0 v1)) o:=
 Scr.ok h mix (
 .rn 0 [] [] [] [] (al (u2 (u2 (u2 (u2 (al t3)))))) <|
 .br (fun a0=>
 .gu fun a1=>
 .el fun x67 a2=>
 .rn 0 [123] [(67,iv x67)] [] [] (aj a0 (al (u2 (u2 (u2 (aj (k2 (aj a1 (AE (f:=iv) a2))) (u2 s2))))))) <|
 .br (fun a3=>
  .gu fun a4=>
  .el fun x77 a5=>
  .rn 0 [145] [(77,sA x77)] [] [] (al (u2 (u2 (aj t3 (u2 (ag a3 (ag a3 (ag a3 (ag a3 (aj (aj a3 (k2 (aj a4 (AE (f:=sA) a5)))) (ag a3 (ag a3 (aj (aj a3 t3) (al (aj a3 t2))))))))))))))) <|
  .br (fun a6=>
  .gu fun a7=>
  .gu fun a8=>
  .gu fun a9=>
  .lq [145,163] [] [] [] [] [0,1,2,3] [4,5,7,8,9,10,11,12,13] (up [] [(3,(Tt bV v1).set (0+x67.toNat) (bV true))] (FA ls (.l0 (i64.wrap (v0+1)) (v1.set (0+x67.toNat) true)))) (aj (aj a6 (aj (u2 (u2 (u2 (aj (k2 (aj a7 a8)) (al (ak a9)))))) (al (u2 (u2 s2))))) (ak (k5 (k5 (aj (al t4) t2))))) (by simp[up,upF,upV,upH,upB,FA,gL,boL,lI,sA,bA]))
  (fun a6=>
  .lp [145,162] [] [] [] [] [0,1,2,3] [4,5,7,8,9,10,11,12,13] (aj (aj a6 (al (u2 (u2 s2)))) (ak (k5 (k5 (aj (al t4) t2)))))))
 (fun a3=>
  .lp [144] [] [] [] [] [0,1,2,3] [4,5,7,8,9,10,11,12,13] (aj (aj (u2 (u2 (aj t3 (u2 (aj a3 (aj a3 (aj a3 (aj a3 (aj a3 (aj a3 (aj a3 (aj a3 (al (aj a3 t2)))))))))))))) (ak (al (u2 (u2 s2))))) (ak (k5 (k5 (aj (al t4) t2)))))))
 (fun a0=>
 .rn 0 [122] [] [] [] (aj a0 (al (u2 s2))) <|
 .gu fun a1=>
 .gu fun a2=>
 .br (fun a3=>
  .no)
 (fun a3=>
  .gu fun a4=>
  have c0:=lk_n0 v1 ((m9S ls (Ai ls 0 8) (Ab ls 0 8)).bw) (Ag ls (m9K ls (Ai ls 0 8) (Ab ls 0 8)) (iN (Tt bA (Ab ls 0 8).bs).length)) (Ag ls (m9K ls (Ai ls 0 8) (Ab ls 0 8)+1) (iN (Tt sA (Ab ls 0 8).ss).length)) a1 a2 a3;
  .rn 0 [] [] [(92,hK c0 [] [3])] [] (al (u2 (u2 (u2 (u2 (aj (ak (k3 (aj t9 (aj (aj a4 t3) (k2 (aj (c0) (show ∀(blk:Blk),blk∈[]->BS blk from(by intro _ h;cases h)))))))) (u2 (u2 (u2 (u2 (u2 (u2 s2)))))))))))) <|
  .br (fun a5=>
  .rt [197] [] [] [] [] [] (aj (aj (u2 (u2 (u2 (aj a5 (aj a5 (al (aj a5 t2))))))) (ak s2)) t2))
  (fun a5=>
  .lp [196] [] [] [] [] [1] [5,9,18,19] (aj (aj (u2 (u2 (u2 (ag a5 (ag a5 (al (aj a5 t2))))))) (ak (aj s2 (ak (aj (u2 (u2 s2)) s2))))) t6))))) (by kernel_rfl)
theorem avFS1_ok(ls:List Int)(v0:Bool)(v1:Int)(o:DB⊕Ret)(h:Fg ls v0 v1=some o):Arr TA Try.f5 0 (FA ls) IP (Ay Try.f5 1) (.rnd (Ay Try.f5 1)::AN Try.f5 1) (FA ls (.l1 v0 v1)) o:=
 Scr.ok h mix (
 .rn 0 [] [] [] [] (al (u2 (u2 (u2 (al t3))))) <|
 .br (fun a0=>
 .br (fun a1=>
  .lp [229,237] [] [] [] [] [0] [5,9,18,19] (aj (aj a0 (aj (u2 (u2 (aj a1 (aj a1 (aj a1 (aj a1 (aj a1 (aj a1 (aj a1 (ag a1 s2)))))))))) (al (u2 (u2 s2))))) t6))
 (fun a1=>
  .gu fun a2=>
  .el fun x123 a3=>
  .gu fun a4=>
  have c0:=FI ((m9S ls (Ai ls 0 8) (Ab ls 0 8)).pe) x123 a4;
  .lp [229,236] [(123,iv x123)] [(125,hK c0 [] [])] [] [] [0] [5,9,18,19] (aj (aj a0 (aj (u2 (u2 (ag a1 (ag a1 (ag a1 (ag a1 (aj (aj a1 (k2 (aj a2 (AE (f:=iv) a3)))) (ag a1 (aj (aj a1 (ak (k3 (al (c0))))) (ag a1 s2)))))))))) (al (u2 (u2 s2))))) t6)))
 (fun a0=>
 .rt [228] [] [] [] [] [] (aj (aj a0 (al (u2 s2))) t2))) (by kernel_rfl)
theorem avF_ct(ls:List Int)(r:Ret)(h:Ax (Nq ls) (Ly ls) r):CT TA 5 ([]) ([lI ls]) r.1 r.2:=
 CT.mach (fn:=Try.f5) (c:=zB Try.f5) (S:=FA ls) (hd:=IP) Try.func5 (by kernel_rfl) (nL rfl)
  (fun s o ho=>match s,ho with
   | .l0 v0 v1,ho=>avFS0_ok ls v0 v1 o ho
   | .l1 v0 v1,ho=>avFS1_ok ls v0 v1 o ho
  )
  (fun o ho=>avFEn_ok ls o ho) h
theorem NO(c:List Bool)(a b:Int)(l:List Int)(p:Int):hdF c a b (l++[p])=if p≠a/\p≠b then (hdF c a b l).set p.toNat true else hdF c a b l:=by
 unfold hdF
 rw[List.foldl_append];rfl
theorem OE{l:List Int}{i:Nat}(h:i<l.length):l.take (i+1)=l.take i++[l.getD i 0]:=by
 rw[List.take_add_one,Bg 0 h];rfl
theorem avT_run(ls:List Int)(hy:lgB (Ab ls 0 8) (hdS (m9S ls (Ai ls 0 8) (Ab ls 0 8)) (Ag ls (m9K ls (Ai ls 0 8) (Ab ls 0 8)) (iN (Tt bA (Ab ls 0 8).bs).length)) ((Ab ls 0 8).ss.getD (Ag ls (m9K ls (Ai ls 0 8) (Ab ls 0 8)+1) (iN (Tt sA (Ab ls 0 8).ss).length)).toNat s0).i) (Ag ls (m9K ls (Ai ls 0 8) (Ab ls 0 8)) (iN (Tt bA (Ab ls 0 8).bs).length)) (Ag ls (m9K ls (Ai ls 0 8) (Ab ls 0 8)+1) (iN (Tt sA (Ab ls 0 8).ss).length))=true):CT TA 5 [] [lI ls] [] (.bool true):=by
 obtain⟨hn,hk,_⟩:=LG (L:=ls) (kk:=0) (most:=8) (by decide) (by decide)
 obtain⟨hS,_,_,hk9,_⟩:=LS (l:=ls) (kk:=Ai ls 0 8) hn.v hn.rows (by omega)
 have hv:=hn.v
 have h48:=FN hv
 have hns:=hv.ns
 have hln:=hn.ln
 have h24:=hv.nb24
 have hcel:=hv.cel
 have lc:=hS.lc
 have pl:=hS.pl
 refine avT_ct ls ([],_) ?_
 have hbl:(Tt bA (Ab ls 0 8).bs).length=(Ab ls 0 8).bs.length:=Sy ..
 have hsl:(Tt sA (Ab ls 0 8).ss).length=(Ab ls 0 8).ss.length:=Sy ..
 have hx:=A5 ls (m9K ls (Ai ls 0 8) (Ab ls 0 8)) (iN (Tt bA (Ab ls 0 8).bs).length) (by rw[hbl];simp only[iN];omega) (by rw[hbl];simp only[iN];omega)
 have hq:=A5 ls (m9K ls (Ai ls 0 8) (Ab ls 0 8)+1) (iN (Tt sA (Ab ls 0 8).ss).length) (by rw[hsl];simp only[iN];omega) (by rw[hsl];simp only[iN];omega)
 unfold MH
 obtain⟨x,hxe⟩:∃x,Ag ls (m9K ls (Ai ls 0 8) (Ab ls 0 8)) (iN (Tt bA (Ab ls 0 8).bs).length)=x:=⟨_,rfl⟩
 obtain⟨q,hqe⟩:∃x,Ag ls (m9K ls (Ai ls 0 8) (Ab ls 0 8)+1) (iN (Tt sA (Ab ls 0 8).ss).length)=x:=⟨_,rfl⟩
 rw[hxe] at hx
 rw[hqe] at hq
 rw[hxe,hqe] at hy
 rw[hbl] at hx
 rw[hsl] at hq
 simp only[iN] at hx hq
 have hsp:=Bg s0 (show q.toNat<(Ab ls 0 8).ss.length by omega)
 have gi:=(hv.goodT _ _ hsp).hi
 have hpl:=M5 hv hx.2
 have hH:=O0 hv hS x ((Ab ls 0 8).ss.getD q.toNat s0).i
 have hxc:0<=x/\x<(Au (Ab ls 0 8):Int):=by omega
 have e0:A2 (Ab ls 0 8) (m9S ls (Ai ls 0 8) (Ab ls 0 8)) x q=0:=by unfold A2;rw[Ss (Iq hv hS),Ss ⟨hxc,hq⟩]
 have eh:A2 (Ab ls 0 8) (hdS (m9S ls (Ai ls 0 8) (Ab ls 0 8)) x ((Ab ls 0 8).ss.getD q.toNat s0).i) x q=0:=by unfold A2;rw[Ss (Iq hv hH),Ss ⟨hxc,hq⟩]
 obtain⟨eL,eB⟩:=F9 e0
 obtain⟨fL,fB⟩:=F9 eh
 have hbo:(boL (m9S ls (Ai ls 0 8) (Ab ls 0 8)).cl).length=(m9S ls (Ai ls 0 8) (Ab ls 0 8)).cl.length:=Ct _
 rw[Aa hv,Aa hn.rows,Aa (by omega),Aa (by omega),Aa (by omega),Aa (NH _),Aa (by omega),Aa (by omega)]
 have hpb:=hS.pb
 generalize hSS:m9S ls (Ai ls 0 8) (Ab ls 0 8)=S at *
 have hlen:∀l,(hdF S.cl x ((Ab ls 0 8).ss.getD q.toNat s0).i l).length=S.cl.length:=fun l=>Mu _ _ _ _
 refine Dc (fun i=>El.l0 (i:Int) (hdF S.cl x ((Ab ls 0 8).ss.getD q.toNat s0).i (S.pe.take i))) S.pe.length (fun i hi h=>?_) ?_
 .refine .to (show Gy ls (i:Int) _=_ from ?_) h
  have hm:S.pe.getD i 0∈S.pe:=EV hi
  have r:=hpb _ hm
  unfold Gy
  simp only[hxe,hqe,hSS]
  rw[B4 0 hi,OE hi,NO]
  have hl0:=hlen (S.pe.take i)
  generalize hdF S.cl x ((Ab ls 0 8).ss.getD q.toNat s0).i (S.pe.take i)=v1 at hl0 ⊢
  by_cases k1:S.pe.getD i 0=x
  .rw[Ak (by rw[k1];exact bne_self_eq_false _),Su (fun h=>h.1 k1),zW i (by omega)]
  .rw[An (Ti.2 k1),Aa hq.1,AY hsp]
   by_cases k2:S.pe.getD i 0=((Ab ls 0 8).ss.getD q.toNat s0).i
   .rw[Ak (by rw[k2];exact bne_self_eq_false _),Su (fun h=>h.2 k2),zW i (by omega)]
   .rw[An (Ti.2 k2),Aa r.1,Aa (by rw[hbo];simp only[iN];omega),Aa (show(0+(S.pe.getD i 0).toNat).succ.le (Tt AV.bool v1).length from by rw[Sy];show 0+(S.pe.getD i 0).toNat+1<=_;omega),Ss ⟨k1,k2⟩,SK,zW i (by omega)]
 .have hl0:=hlen S.pe
  rw[List.take_length]
  refine .to (show Gy ls (S.pe.length:Int) _=_ from ?_) (.ret _)
  have hleg:AZ (Ab ls 0 8) (hdS S x ((Ab ls 0 8).ss.getD q.toNat s0).i) x q=some (lgL (Ab ls 0 8) (hdS S x ((Ab ls 0 8).ss.getD q.toNat s0).i) x q)/\Bh (hdS S x ((Ab ls 0 8).ss.getD q.toNat s0).i).cl (lgL (Ab ls 0 8) (hdS S x ((Ab ls 0 8).ss.getD q.toNat s0).i) x q)=true:=by
   rw[fL];rw[fB] at hy;exact GE.1 hy
  have h1:=av_same hv hS hpl hleg.1
  have h2:=av_pas hv hS _ _ hleg.2
  have h3:BM (Ab ls 0 8) S x q=(lgL (Ab ls 0 8) (hdS S x ((Ab ls 0 8).ss.getD q.toNat s0).i) x q,true):=by
   unfold BM;rw[h1];simp only;rw[Ss h2]
  rw[h3] at eL eB
  have h4:=NR hv hn.rows hxc hq h1
  unfold Gy
  simp only[hxe,hqe,hSS]
  have eS:Af.mk (hdF S.cl x ((Ab ls 0 8).ss.getD q.toNat s0).i S.pe) S.bw []=hdS S x ((Ab ls 0 8).ss.getD q.toNat s0).i:=rfl
  rw[Ak (Ar (by rw[Sy];simp only[iN];omega)),Aa hn.rows,eS,Aa eh,hy,An rfl,Aa (by rw[hbo,Sy];exact hl0.symm),Aa (IK _),e0,Ak (by rfl),eB,An rfl,Aa eL,Aa (by rw[eL];dsimp only;omega)]
theorem avF_run(ls:List Int)(hy:lgB (Ab ls 0 8) (hdS (m9S ls (Ai ls 0 8) (Ab ls 0 8)) (Ag ls (m9K ls (Ai ls 0 8) (Ab ls 0 8)) (iN (Tt bA (Ab ls 0 8).bs).length)) ((Ab ls 0 8).ss.getD (Ag ls (m9K ls (Ai ls 0 8) (Ab ls 0 8)+1) (iN (Tt sA (Ab ls 0 8).ss).length)).toNat s0).i) (Ag ls (m9K ls (Ai ls 0 8) (Ab ls 0 8)) (iN (Tt bA (Ab ls 0 8).bs).length)) (Ag ls (m9K ls (Ai ls 0 8) (Ab ls 0 8)+1) (iN (Tt sA (Ab ls 0 8).ss).length))=false):CT TA 5 [] [lI ls] [] (.bool true):=by
 obtain⟨hn,hk,_⟩:=LG (L:=ls) (kk:=0) (most:=8) (by decide) (by decide)
 obtain⟨hS,_,_,hk9,_⟩:=LS (l:=ls) (kk:=Ai ls 0 8) hn.v hn.rows (by omega)
 have hv:=hn.v
 have h48:=FN hv
 have hns:=hv.ns
 have hln:=hn.ln
 have h24:=hv.nb24
 have hcel:=hv.cel
 have lc:=hS.lc
 have pl:=hS.pl
 refine avF_ct ls ([],_) ?_
 have hbl:(Tt bA (Ab ls 0 8).bs).length=(Ab ls 0 8).bs.length:=Sy ..
 have hsl:(Tt sA (Ab ls 0 8).ss).length=(Ab ls 0 8).ss.length:=Sy ..
 have hx:=A5 ls (m9K ls (Ai ls 0 8) (Ab ls 0 8)) (iN (Tt bA (Ab ls 0 8).bs).length) (by rw[hbl];simp only[iN];omega) (by rw[hbl];simp only[iN];omega)
 have hq:=A5 ls (m9K ls (Ai ls 0 8) (Ab ls 0 8)+1) (iN (Tt sA (Ab ls 0 8).ss).length) (by rw[hsl];simp only[iN];omega) (by rw[hsl];simp only[iN];omega)
 unfold Ly
 obtain⟨x,hxe⟩:∃x,Ag ls (m9K ls (Ai ls 0 8) (Ab ls 0 8)) (iN (Tt bA (Ab ls 0 8).bs).length)=x:=⟨_,rfl⟩
 obtain⟨q,hqe⟩:∃x,Ag ls (m9K ls (Ai ls 0 8) (Ab ls 0 8)+1) (iN (Tt sA (Ab ls 0 8).ss).length)=x:=⟨_,rfl⟩
 rw[hxe] at hx
 rw[hqe] at hq
 rw[hxe,hqe] at hy
 rw[hbl] at hx
 rw[hsl] at hq
 simp only[iN] at hx hq
 have hsp:=Bg s0 (show q.toNat<(Ab ls 0 8).ss.length by omega)
 have gi:=(hv.goodT _ _ hsp).hi
 have hpl:=M5 hv hx.2
 have hH:=O0 hv hS x ((Ab ls 0 8).ss.getD q.toNat s0).i
 have hxc:0<=x/\x<(Au (Ab ls 0 8):Int):=by omega
 have e0:A2 (Ab ls 0 8) (m9S ls (Ai ls 0 8) (Ab ls 0 8)) x q=0:=by unfold A2;rw[Ss (Iq hv hS),Ss ⟨hxc,hq⟩]
 have eh:A2 (Ab ls 0 8) (hdS (m9S ls (Ai ls 0 8) (Ab ls 0 8)) x ((Ab ls 0 8).ss.getD q.toNat s0).i) x q=0:=by unfold A2;rw[Ss (Iq hv hH),Ss ⟨hxc,hq⟩]
 obtain⟨eL,eB⟩:=F9 e0
 obtain⟨fL,fB⟩:=F9 eh
 have hbo:(boL (m9S ls (Ai ls 0 8) (Ab ls 0 8)).cl).length=(m9S ls (Ai ls 0 8) (Ab ls 0 8)).cl.length:=Ct _
 rw[Aa hv,Aa hn.rows,Aa (by omega),Aa (by omega),Aa (by omega),Aa (NH _),Aa (by omega),Aa (by omega)]
 have hpb:=hS.pb
 generalize hSS:m9S ls (Ai ls 0 8) (Ab ls 0 8)=S at *
 have hlen:∀l,(hdF S.cl x ((Ab ls 0 8).ss.getD q.toNat s0).i l).length=S.cl.length:=fun l=>Mu _ _ _ _
 refine Dc (fun i=>DB.l0 (i:Int) (hdF S.cl x ((Ab ls 0 8).ss.getD q.toNat s0).i (S.pe.take i))) S.pe.length (fun i hi h=>?_) ?_
 .refine .to (show GQ ls (i:Int) _=_ from ?_) h
  have hm:S.pe.getD i 0∈S.pe:=EV hi
  have r:=hpb _ hm
  unfold GQ
  simp only[hxe,hqe,hSS]
  rw[B4 0 hi,OE hi,NO]
  have hl0:=hlen (S.pe.take i)
  generalize hdF S.cl x ((Ab ls 0 8).ss.getD q.toNat s0).i (S.pe.take i)=v1 at hl0 ⊢
  by_cases k1:S.pe.getD i 0=x
  .rw[Ak (by rw[k1];exact bne_self_eq_false _),Su (fun h=>h.1 k1),zW i (by omega)]
  .rw[An (Ti.2 k1),Aa hq.1,AY hsp]
   by_cases k2:S.pe.getD i 0=((Ab ls 0 8).ss.getD q.toNat s0).i
   .rw[Ak (by rw[k2];exact bne_self_eq_false _),Su (fun h=>h.2 k2),zW i (by omega)]
   .rw[An (Ti.2 k2),Aa r.1,Aa (by rw[hbo];simp only[iN];omega),Aa (show(0+(S.pe.getD i 0).toNat).succ.le (Tt AV.bool v1).length from by rw[Sy];show 0+(S.pe.getD i 0).toNat+1<=_;omega),Ss ⟨k1,k2⟩,SK,zW i (by omega)]
 .have hl0:=hlen S.pe
  rw[List.take_length]
  have hno:(BM (Ab ls 0 8) (hdS S x ((Ab ls 0 8).ss.getD q.toNat s0).i) x q).2=false:=by rw[<-fB];exact hy
  refine .to (show GQ ls (S.pe.length:Int) _=some (.inl (.l1 (!lgB (Ab ls 0 8) S x q) ((0:Nat):Int))) from ?_) ?_
  .unfold GQ
   simp only[hxe,hqe,hSS]
   have eS:Af.mk (hdF S.cl x ((Ab ls 0 8).ss.getD q.toNat s0).i S.pe) S.bw []=hdS S x ((Ab ls 0 8).ss.getD q.toNat s0).i:=rfl
   rw[Ak (Ar (by rw[Sy];simp only[iN];omega)),Aa hn.rows,eS,Aa eh,hy,Ak rfl,Aa (by rw[hbo,Sy];exact hl0.symm),e0,Ak (by rfl)]
   rfl
  .obtain⟨L,hL⟩:∃L,lgL (Ab ls 0 8) S x q=L:=⟨_,rfl⟩
   -- from a head on:true as soon as a pending cell was seen
   have key:∀(l:List Int) (i:Nat) (b:Bool),L.drop i=l->i<=L.length->(b=true\/∃c∈l,c∈S.pe)->Ax (Nq ls) (some (.inl (.l1 b (i:Int)))) ([],.bool true):=by
    intro l
    induction l with
    | nil=>
     intro i b hd hi hor
     have hlen:i=L.length:=by have:=congrArg List.length hd;simp at this;omega
     have hb:b=true:=hor.elim id fun⟨c,hc,_⟩=>by cases hc
     subst hlen
     refine .to (show Fg ls b (L.length:Int)=_ from ?_) (.ret _)
     unfold Fg
     simp only[hxe,hqe,hSS,hL]
     rw[Ak (Ar (by rw[Sy];simp only[iN];omega)),hb]
    | cons c l ih=>
     intro i b hd hi hor
     have hx:L[i]?=some c:=by have:=congrArg (·[0]?) hd;simpa using this
     have hil:=(Sx.1 hx).1
     have hn2:L.drop (i+1)=l:=by rw[<-Se,hd];rfl
     have hLl:L.length<=1000000:=by
      rw[<-hL,eL]
      cases hy2:(BM (Ab ls 0 8) S x q).2 with
      | false=>rw[GE.2 hy2];simp
      | true=>have:=NR hv hn.rows hxc hq (GE.1 hy2).1;omega
     cases b with
     | true=>
      refine .to (show Fg ls true (i:Int)=_ from ?_) (ih (i+1) true hn2 hil (.inl rfl))
      unfold Fg
      simp only[hxe,hqe,hSS,hL]
      rw[An (AF (by rw[Sy];simp only[iN];omega)),An rfl,zW i (by omega)]
     | false=>
      refine .to (show Fg ls false (i:Int)=_ from ?_) (ih (i+1) (Az S.pe c) hn2 hil ?_)
      .unfold Fg
       simp only[hxe,hqe,hSS,hL]
       rw[An (AF (by rw[Sy];simp only[iN];omega)),Ak rfl,Aa (by omega),AY (show L[(i:Int).toNat]?=some c from hx),Aa (by omega),zW i (by omega)]
      .rcases hor with h | ⟨y,hy1,hy2⟩
       .cases h
       .rcases SY.1 hy1 with rfl | hy1
        .exact .inl (CM.2 hy2)
        .exact .inr ⟨y,hy1,hy2⟩
   refine key L 0 _ rfl (SH _) ?_
   cases hok:lgB (Ab ls 0 8) S x q with
   | false=>exact .inl rfl
   | true=>
    right
    rw[eB] at hok
    have:=Q5 hv hn.rows hS hx hq hpl hno hok
    rw[<-hL,eL];exact this
theorem itineraryAvoids_row(avs:List AV)(h:E7 TA 6 Try.f5.params.toList avs):CT TA 5 [] avs [] (.bool true):=by
 rw[Try.params5] at h
 obtain⟨a,_,rfl,ka,h⟩:=h.consD
 obtain rfl:=h.nilD
 obtain⟨_,_,he,rfl⟩:=ka.sliceD Try.underlying22
 obtain⟨l,rfl⟩:=rdInts he
 cases hy:lgB (Ab l 0 8) (hdS (m9S l (Ai l 0 8) (Ab l 0 8)) (Ag l (m9K l (Ai l 0 8) (Ab l 0 8)) (iN (Tt bA (Ab l 0 8).bs).length)) ((Ab l 0 8).ss.getD (Ag l (m9K l (Ai l 0 8) (Ab l 0 8)+1) (iN (Tt sA (Ab l 0 8).ss).length)).toNat s0).i) (Ag l (m9K l (Ai l 0 8) (Ab l 0 8)) (iN (Tt bA (Ab l 0 8).bs).length)) (Ag l (m9K l (Ai l 0 8) (Ab l 0 8)+1) (iN (Tt sA (Ab l 0 8).ss).length)) with
 | true=>exact avT_run l hy
 | false=>exact avF_run l hy
end Go.Proofs.Ytedjkebooffjpaa

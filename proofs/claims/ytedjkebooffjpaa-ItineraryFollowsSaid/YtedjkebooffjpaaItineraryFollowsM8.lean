/- Parts of the proof:It11m,It7m,ItN,It12m,It13m,ItO,ItQ,ItR,SpC,SgN,Sg7m,SgO,Sg8m,SgQ,Sg9m,SgR,Sgam,SgS,SgT,Sgbm,SgU,Sgcm,SgV,RqD,SgW,Sgdm,SgX,Sh1,Si0,It14m,Si1,Ac4,M29m,M29h,Fo1m,Fo2. -/
import Derived.Test.YtedjkebooffjpaaProg
import Derived.KernelRfl
import Derived.Test.YtedjkebooffjpaaItineraryFollowsM7
noncomputable section
set_option linter.unusedVariables false
set_option linter.unusedSimpArgs false
open Go Go.AX Go.Proofs
set_option maxRecDepth 100000
set_option maxHeartbeats 4000000
set_option linter.unusedVariables false
set_option linter.unusedSimpArgs false
open Go.IntKind (i64 u64)
namespace Go.Proofs.Ytedjkebooffjpaa
def rskSt(q:Ae)(l:List Int)(z:Nat):Empty->St
 | x=>x.elim
def rskHd:Empty->Nat
 | x=>x.elim
def Jf(q:Ae)(l:List Int)(z:Nat):Option (Empty⊕Ret):=
 gu (z=l.length) <|
 gu (l.length<=1000000) <|
 gu (∀(c:Int),c∈l->0<=c/\c<iN q.cl.length) <|
 br (!BB q.cl l)
 (some (.inr ([some (bK (List.map iV l) 1)],AV.tup [AV.nils,bV false,iV 0])))
 (some (.inr ([some (bK (List.map iV l) 1)],AV.tup [AV.sl 0 0 z,bV true,iV 0])))
def rskStep(q:Ae)(l:List Int)(z:Nat):Empty->Option (Empty⊕Ret)
 | x=>x.elim
theorem rskEn_ok(q:Ae)(l:List Int)(z:Nat)(o:Empty⊕Ret)(h:Jf q l z=some o):Arr Try.prog Try.f64 1 (rskSt q l z) rskHd (zB Try.f64) [] {n:=Try.f64.ntmps,fr:=AJ 0 ([sgA q,.sl 0 0 z]),hp:=([some (bK (l.map (AV.int .i64)) 1)])} o:=
 Scr.ok h mix (
 .rn 0 [] [] [] [] (al (u2 t4)) <|
 .gu fun a0=>
 .gu fun a1=>
 .gu fun a2=>
 have c0:=pal_c q l z a0 a1 a2;
 .rn 0 [] [] [(9,hK c0 [0] [])] [] (al (u2 (u2 (aj (k2 (aj t4 (k2 (al (c0))))) s2)))) <|
 .br (fun a3=>
 .rt [21] [] [] [] [0] [] (aj (aj a3 (al t4)) (aj t4 t2)))
 (fun a3=>
 .rt [20] [] [] [] [0] [] (aj (aj a3 (al (u2 (u2 t3)))) (aj t4 t2)))) (by kernel_rfl)
theorem Nz(q:Ae)(l:List Int)(z:Nat)(r:Ret)(h:Ax (rskStep q l z) (Jf q l z) r):CT Try.prog 64 ([some (bK (l.map (AV.int .i64)) 1)]) ([sgA q,.sl 0 0 z]) r.1 r.2:=
 CT.mach (fn:=Try.f64) (c:=zB Try.f64) (S:=rskSt q l z) (hd:=rskHd) Try.func64 (by kernel_rfl) (nL rfl)
  (fun s o ho=>match s,ho with
   | x,_=>x.elim)
  (fun o ho=>rskEn_ok q l z o ho) h
inductive Ef where
 | l0 (v0 v1:Int)
 | l1 (v0:List Int) (v1:Int)
def Fz(l y z:List Int):Ef->St
 | .l0 v0 v1=>St.mk 36 [(0,AV.sl 0 0 3),(3,iv v0),(9,AV.sl 0 0 3),(10,iv 3),(11,iv v1)] [some (bK [AV.lst (List.map (iv) l),AV.lst (List.map (iv) y),AV.lst (List.map (iv) z)] 1)]
 | .l1 v0 v1=>St.mk 36 [(6,AV.sl 1 0 v0.length),(25,AV.sl 0 0 3),(26,iv 3),(27,iv v1)] [some (bK [AV.lst (List.map (iv) l),AV.lst (List.map (iv) y),AV.lst (List.map (iv) z)] 1),some (bK (List.map (iv) v0) 1)]
def I5:Ef->Nat
 | .l0 _ _=>0
 | .l1 _ _=>1
def KB(l y z:List Int):Option (Ef⊕Ret):=
 some (.inl (.l0 ((0:Int)) ((0:Int))))
def Eb(l y z:List Int)(v0 v1:Int):Option (Ef⊕Ret):=
 br (decide (v1<3))
 (gu (0<=v1) <|
  gu (v1<3) <|
  el ([l,y,z]) (0+v1.toNat) fun(x14:List Int)=>
  br (decide (i64.wrap (v0+iN (List.map iV x14).length)<0))
  (none)
  (some (.inl (.l0 (i64.wrap (v0+iN (List.map iV x14).length)) (i64.wrap (v1+1))))))
 (gu (0<=v0/\v0<=10000000000) <|
  some (.inl (.l1 ([]) ((0:Int)))))
def D2(l y z:List Int)(v0:List Int)(v1:Int):Option (Ef⊕Ret):=
 br (decide (v1<3))
 (gu (0<=v1) <|
  gu (v1<3) <|
  el ([l,y,z]) (0+v1.toNat) fun(x30:List Int)=>
  gu (∀(e:AV),e∈List.map iV x30->e.cells.length=1) <|
  gu ((List.map iV v0).length+(List.map iV x30).length<=9223372036854775807) <|
  gu (((List.map iV v0).length+(List.map iV x30).length) * 8<=140737488355328) <|
  some (.inl (.l1 (v0++x30) (i64.wrap (v1+1)))))
 (some (.inr ([some (bK [AV.lst (List.map iV l),AV.lst (List.map iV y),AV.lst (List.map iV z)] 1),some (bK (List.map iV v0) 1)],AV.sl 1 0 v0.length)))
def cc3Step(l y z:List Int):Ef->Option (Ef⊕Ret)
 | .l0 v0 v1=>Eb l y z v0 v1
 | .l1 v0 v1=>D2 l y z v0 v1
theorem cc3En_ok(l y z:List Int)(o:Ef⊕Ret)(h:KB l y z=some o):Arr Try.prog Try.f68 1 (Fz l y z) I5 (zB Try.f68) [] {n:=Try.f68.ntmps,fr:=AJ 0 ([.sl 0 0 3]),hp:=([some (bK [lI l,lI y,lI z] 1)])} o:=
 Scr.ok h mix (
 .lp [] [] [] [] [] [0] [0,3,9,10,11] (aj (u2 (u2 (al (u2 (u2 t2))))) t7)) (by kernel_rfl)
theorem cc3S0_ok(l y z:List Int)(v0 v1:Int)(o:Ef⊕Ret)(h:Eb l y z v0 v1=some o):Arr Try.prog Try.f68 1 (Fz l y z) I5 (Az Try.f68 0) (.rnd (Az Try.f68 0)::AN Try.f68 0) (Fz l y z (.l0 v0 v1)) o:=
 Scr.ok h mix (
 .rn 0 [] [] [] [] (al (al t3)) <|
 .br (fun a0=>
 .gu fun a1=>
 .gu fun a2=>
 .el fun x14 a3=>
 .rn 2 [25] [(14,lI x14)] [] [] (aj a0 (aj (aj (k2 (aj a1 a2)) (aj (ak (AD (f:=lI) a3)) s2)) (aj (u2 (u2 (u2 (aj t3 s2)))) (al (u2 s2))))) <|
 .br (fun a4=>
  .no)
 (fun a4=>
  .lp [40] [] [] [] [] [0] [0,3,9,10,11] (aj (aj a4 (al (u2 s2))) t7)))
 (fun a0=>
 .gu fun a1=>
 have c0:=grow_c v0 a1;
 .lp [24] [] [(24,hK c0 [] [])] [] [] [0,1] [6,25,26,27] (aj (aj a0 (aj (u2 (aj (k3 (al (c0))) s2)) (al (u2 (u2 t2))))) t7))) (by kernel_rfl)
theorem cc3S1_ok(l y z:List Int)(v0:List Int)(v1:Int)(o:Ef⊕Ret)(h:D2 l y z v0 v1=some o):Arr Try.prog Try.f68 1 (Fz l y z) I5 (Az Try.f68 1) (.rnd (Az Try.f68 1)::AN Try.f68 1) (Fz l y z (.l1 v0 v1)) o:=
 Scr.ok h mix (
 .rn 0 [] [] [] [] (al (al t3)) <|
 .br (fun a0=>
 .gu fun a1=>
 .gu fun a2=>
 .el fun x30 a3=>
 .rn 0 [57] [(30,lI x30)] [] [] (aj a0 (al (aj (k2 (aj a1 a2)) (aj (ak (AD (f:=lI) a3)) s2)))) <|
 .gu fun a4=>
 .gu fun a5=>
 .gu fun a6=>
 .lq [] [] [] [] [] [0,2] [6,25,26,27] (up [(6,AV.sl 1 0 ((List.map (iv) v0).length+(List.map (iv) x30).length))] [(1,List.map (iv) v0++List.map (iv) x30)] (Fz l y z (.l1 (v0++x30) (i64.wrap (v1+1))))) (aj (aj (u2 (u2 (aj (k2 (aj (show(List.map (iv) v0).length=v0.length by simp) (aj a4 (aj a5 a6)))) s2))) (al (u2 s2))) t7) (by simp[up,upF,upV,upH,upB,Fz,gL,boL,lI]))
 (fun a0=>
 .rt [56] [] [] [] [0,1] [] (aj (aj a0 (al (u2 s2))) t4))) (by kernel_rfl)
theorem cc3_ct(l y z:List Int)(r:Ret)(h:Ax (cc3Step l y z) (KB l y z) r):CT Try.prog 68 ([some (bK [lI l,lI y,lI z] 1)]) ([.sl 0 0 3]) r.1 r.2:=
 CT.mach (fn:=Try.f68) (c:=zB Try.f68) (S:=Fz l y z) (hd:=I5) Try.func68 (by kernel_rfl) (nL rfl)
  (fun s o ho=>match s,ho with
   | .l0 v0 v1,ho=>cc3S0_ok l y z v0 v1 o ho
   | .l1 v0 v1,ho=>cc3S1_ok l y z v0 v1 o ho
  )
  (fun o ho=>cc3En_ok l y z o ho) h
end Go.Proofs.Ytedjkebooffjpaa
namespace Go.Proofs.Ytedjkebooffjpaa
theorem Iw(q:Ae)(l:List Int)(z:Nat)(hz:z=l.length)(hl:l.length<=1000000)(hr:∀c∈l,0<=c/\c<(q.cl.length:Int))(hp:BB q.cl l=true):CT Try.prog 64 [some (Blk.mk (l.map (AV.int .i64)) 1 true true none)] [sgA q,.sl 0 0 z] [some (Blk.mk (l.map (AV.int .i64)) 1 true true none)] (.tup [.sl 0 0 z,.bool true,.int .i64 0]):=by
 refine Nz q l z ([_],_) (.val ?_)
 unfold Jf
 rw[Aa hz,Aa hl,Aa hr,hp,Ai (by rfl)]
theorem H8(q:Ae)(l:List Int)(z:Nat)(hz:z=l.length)(hl:l.length<=1000000)(hr:∀c∈l,0<=c/\c<(q.cl.length:Int))(hp:BB q.cl l=false):CT Try.prog 64 [some (Blk.mk (l.map (AV.int .i64)) 1 true true none)] [sgA q,.sl 0 0 z] [some (Blk.mk (l.map (AV.int .i64)) 1 true true none)] (.tup [.nils,.bool false,.int .i64 0]):=by
 refine Nz q l z ([_],_) (.val ?_)
 unfold Jf
 rw[Aa hz,Aa hl,Aa hr,hp,Am (by rfl)]
theorem FC(l y z:List Int)(hl:(l++y++z).length<=1000000):CT Try.prog 68 [some (Blk.mk [lI l,lI y,lI z] 1 true true none)] [.sl 0 0 3] [some (Blk.mk [.any,.any,.any] 1 true true none),some (Blk.mk ((l++y++z).map (AV.int .i64)) 1 true true none)] (.sl 1 0 (l++y++z).length):=by
 simp only[SR] at hl
 obtain⟨h1,h2,h3⟩:l.length<=1000000/\y.length<=1000000/\z.length<=1000000:=⟨by omega,by omega,by omega⟩
 refine CT.lessOut (hout:=[some (Blk.mk [lI l,lI y,lI z] 1 true true none),some (Blk.mk ((l++y++z).map (AV.int .i64)) 1 true true none)]) ?_ rfl fun b blk' hb=>?_
 .refine cc3_ct l y z ([_,_],_) ?_
  unfold KB
  have w1:i64.wrap (0+iN (List.map (AV.int i64) l).length)=(l.length:Int):=by
   rw[Int.zero_add,DP]<;>simp only[iN,SB]<;>omega
  have w2:i64.wrap ((l.length:Int)+iN (List.map (AV.int i64) y).length)=((l.length+y.length:Nat):Int):=by
   rw[DP]<;>simp only[iN,SB]<;>omega
  have w5:i64.wrap (((l.length+y.length:Nat):Int)+iN (List.map (AV.int i64) z).length)=((l.length+y.length+z.length:Nat):Int):=by
   rw[DP]<;>simp only[iN,SB]<;>omega
  have w3:i64.wrap (0+1)=1:=by decide
  have w4:i64.wrap (1+1)=2:=by decide
  have w6:i64.wrap (2+1)=3:=by decide
  refine .to (show Eb l y z 0 0=some (.inl (.l0 (l.length:Int) 1)) from ?_) (.to (show Eb l y z _ 1=some (.inl (.l0 ((l.length+y.length:Nat):Int) 2)) from ?_) (.to (show Eb l y z _ 2=some (.inl (.l0 ((l.length+y.length+z.length:Nat):Int) 3)) from ?_) (.to (show Eb l y z _ 3=some (.inl (.l1 [] 0)) from ?_) (.to (show D2 l y z [] 0=some (.inl (.l1 l 1)) from ?_) (.to (show D2 l y z l 1=some (.inl (.l1 (l++y) 2)) from ?_) (.to (show D2 l y z (l++y) 2=some (.inl (.l1 (l++y++z) 3)) from ?_) (.to (show D2 l y z (l++y++z) 3=_ from ?_) (.ret _))))))))
  .unfold Eb
   rw[Am (AE (by omega)),Aa (by omega),Aa (by omega),AU (show [l,y,z][0+Int.toNat 0]?=some l from rfl),w1,Ai (Ar (by omega)),w3]
  .unfold Eb
   rw[Am (AE (by omega)),Aa (by omega),Aa (by omega),AU (show [l,y,z][0+Int.toNat 1]?=some y from rfl),w2,Ai (Ar (by omega)),w4]
  .unfold Eb
   rw[Am (AE (by omega)),Aa (by omega),Aa (by omega),AU (show [l,y,z][0+Int.toNat 2]?=some z from rfl),w5,Ai (Ar (by omega)),w6]
  .unfold Eb
   rw[Ai (Ar (by omega)),Aa (by omega)]
  .unfold D2
   rw[Am (AE (by omega)),Aa (by omega),Aa (by omega),AU (show [l,y,z][0+Int.toNat 0]?=some l from rfl),Aa (BV _),Aa (by simp only[SB,Te];omega),Aa (by simp only[SB,Te];omega),w3,List.nil_append]
  .unfold D2
   rw[Am (AE (by omega)),Aa (by omega),Aa (by omega),AU (show [l,y,z][0+Int.toNat 1]?=some y from rfl),Aa (BV _),Aa (by simp only[SB];omega),Aa (by simp only[SB];omega),w4]
  .unfold D2
   rw[Am (AE (by omega)),Aa (by omega),Aa (by omega),AU (show [l,y,z][0+Int.toNat 2]?=some z from rfl),Aa (BV _),Aa (by simp only[SB,SR];omega),Aa (by simp only[SB,SR];omega),w6]
  .unfold D2
   rw[Ai (Ar (by omega))];rfl
 .match b,hb with
  | 0,hb=>cases hb;exact⟨_,rfl,⟨rfl,fun _=>rfl,rfl,SJ _,fun i e he=>(by
    match i,he with
    | 0,he=>cases he;exact⟨_,rfl,rfl,fun j c hc=>(by match j,hc with | 0,hc=>cases hc;exact⟨_,rfl,Bw.any rfl⟩)⟩
    | 1,he=>cases he;exact⟨_,rfl,rfl,fun j c hc=>(by match j,hc with | 0,hc=>cases hc;exact⟨_,rfl,Bw.any rfl⟩)⟩
    | 2,he=>cases he;exact⟨_,rfl,rfl,fun j c hc=>(by match j,hc with | 0,hc=>cases hc;exact⟨_,rfl,Bw.any rfl⟩)⟩),fun _ e he=>(by simp only[S1,List.not_mem_nil,or_false] at he;rcases he with rfl | rfl | rfl<;>intro c hc<;>rw[Sn.1 hc]<;>rfl),fun e=>(by cases e)⟩,rfl⟩
  | 1,hb=>cases hb;exact⟨_,rfl,Co.refl (fun _ e he=>by obtain⟨x,_,rfl⟩:=S3.1 he;intro c hc;rw[Sn.1 hc];rfl),rfl⟩
  | b+2,hb=>simp[nth] at hb
def leTSt(n:Ab)(q:Ae)(c d:Int):Empty->St
 | x=>x.elim
def leTHd:Empty->Nat
 | x=>x.elim
def JX(n:Ab)(q:Ae)(c d:Int):Option (Empty⊕Ret):=
 gu (Rows n.nx) <|
 br (shE n q != 0)
 (some (.inr ([],AV.tup [AV.nils,bV false,iV (shE n q)])))
 (br (decide (c<0))
  (some (.inr ([],AV.tup [AV.nils,bV false,iV 19])))
  (br (decide (iN (boL (shO n q)).length<=c))
   (some (.inr ([],AV.tup [AV.nils,bV false,iV 19])))
   (br (decide (d<0))
    (some (.inr ([],AV.tup [AV.nils,bV false,iV 19])))
    (br (decide (iN (List.map sA n.ss).length<=d))
     (some (.inr ([],AV.tup [AV.nils,bV false,iV 19])))
     (gu (0<=d) <|
      el (n.ss) (d.toNat) fun(x54:An)=>
      br (plO n c==d)
      (gu (0<=pjO n c/\pjO n c<=1000) <|
       gu (0<=x54.b/\x54.b<=1000) <|
       gu (x54.k<=1000) <|
       gu ((Ad x54 (pjO n c)).length<=1000000) <|
       gu (∀(c_1:Int),c_1∈Ad x54 (pjO n c)->0<=c_1/\c_1<iN q.cl.length) <|
       br (BB q.cl (Ad x54 (pjO n c)))
       (some (.inr ([some (bK (List.map iV (Ad x54 (pjO n c))) 1)],AV.tup [AV.sl 0 0 (Ad x54 (pjO n c)).length,bV true,iV 0])))
       (none))
      (br (decide (0<=plO n c))
       (gu (0<=plO n c) <|
        el (n.ss) ((plO n c).toNat) fun(x81:An)=>
        el (n.ss) ((plO n c).toNat) fun(x87:An)=>
        gu (0<=pjO n c/\pjO n c<=1000) <|
        gu (0<=x87.b/\x87.b<=1000) <|
        gu (x87.k<=1000) <|
        gu ((List.map iV (Ad x87 (pjO n c))).length+[iV x81.o].length<=9223372036854775807) <|
        gu (((List.map iV (Ad x87 (pjO n c))).length+[iV x81.o].length) * 8<=140737488355328) <|
        gu (n.bs.length<=1000/\n.bs.length<=(shO n q).length/\n.bs.length<=q.cl.length) <|
        br (iN (List.map iV (Ac n.nx (shG n.bs.length (shO n q) q.cl x81.o x54.i) x81.o x54.i).fst).length==0)
        (gu (n.bs.length<=1000/\n.bs.length<=q.cl.length) <|
         br (iN (List.map iV (Ac n.nx (shW n.bs.length q.cl x81.o) x81.o x54.i).fst).length==0)
         (some (.inr ([],AV.tup [AV.nils,bV false,iV 0])))
         (gu (∀(e:AV),e∈List.map iV (Ac n.nx (shW n.bs.length q.cl x81.o) x81.o x54.i).fst->e.cells.length=1) <|
          gu (1<=iN (List.map iV (Ac n.nx (shW n.bs.length q.cl x81.o) x81.o x54.i).fst).length) <|
          gu (0<=x54.b/\x54.b<=1000) <|
          gu (x54.k<=1000) <|
          gu ((Ad x87 (pjO n c)++[x81.o]++List.take ((List.map iV (Ac n.nx (shW n.bs.length q.cl x81.o) x81.o x54.i).fst).length-Int.toNat 1) (List.drop (Int.toNat 1) (Ac n.nx (shW n.bs.length q.cl x81.o) x81.o x54.i).fst)++Ad x54 0).length<=1000000) <|
          gu (∀(blk:Blk),blk∈[bK [AV.any,AV.any,AV.any] 1,bK (List.map iV (Ad x87 (pjO n c)++[x81.o]++List.take ((List.map iV (Ac n.nx (shW n.bs.length q.cl x81.o) x81.o x54.i).fst).length-Int.toNat 1) (List.drop (Int.toNat 1) (Ac n.nx (shW n.bs.length q.cl x81.o) x81.o x54.i).fst)++Ad x54 0)) 1]->B7 blk) <|
          gu (∀(c_1:Int),c_1∈Ad x87 (pjO n c)++[x81.o]++List.take ((List.map iV (Ac n.nx (shW n.bs.length q.cl x81.o) x81.o x54.i).fst).length-Int.toNat 1) (List.drop (Int.toNat 1) (Ac n.nx (shW n.bs.length q.cl x81.o) x81.o x54.i).fst)++Ad x54 0->0<=c_1/\c_1<iN q.cl.length) <|
          br (BB q.cl (Ad x87 (pjO n c)++[x81.o]++List.take ((List.map iV (Ac n.nx (shW n.bs.length q.cl x81.o) x81.o x54.i).fst).length-Int.toNat 1) (List.drop (Int.toNat 1) (Ac n.nx (shW n.bs.length q.cl x81.o) x81.o x54.i).fst)++Ad x54 0))
          (some (.inr ([some (bK (List.map iV (Ad x87 (pjO n c)++[x81.o]++List.take ((List.map iV (Ac n.nx (shW n.bs.length q.cl x81.o) x81.o x54.i).fst).length-Int.toNat 1) (List.drop (Int.toNat 1) (Ac n.nx (shW n.bs.length q.cl x81.o) x81.o x54.i).fst)++Ad x54 0)) 1)],AV.tup [AV.sl 0 0 (Ad x87 (pjO n c)++[x81.o]++List.take ((List.map iV (Ac n.nx (shW n.bs.length q.cl x81.o) x81.o x54.i).fst).length-Int.toNat 1) (List.drop (Int.toNat 1) (Ac n.nx (shW n.bs.length q.cl x81.o) x81.o x54.i).fst)++Ad x54 0).length,bV true,iV 0])))
          (none)))
        (gu (∀(e:AV),e∈List.map iV (Ac n.nx (shG n.bs.length (shO n q) q.cl x81.o x54.i) x81.o x54.i).fst->e.cells.length=1) <|
         gu (1<=iN (List.map iV (Ac n.nx (shG n.bs.length (shO n q) q.cl x81.o x54.i) x81.o x54.i).fst).length) <|
         gu (0<=x54.b/\x54.b<=1000) <|
         gu (x54.k<=1000) <|
         gu ((Ad x87 (pjO n c)++[x81.o]++List.take ((List.map iV (Ac n.nx (shG n.bs.length (shO n q) q.cl x81.o x54.i) x81.o x54.i).fst).length-Int.toNat 1) (List.drop (Int.toNat 1) (Ac n.nx (shG n.bs.length (shO n q) q.cl x81.o x54.i) x81.o x54.i).fst)++Ad x54 0).length<=1000000) <|
         gu (∀(blk:Blk),blk∈[bK [AV.any,AV.any,AV.any] 1,bK (List.map iV (Ad x87 (pjO n c)++[x81.o]++List.take ((List.map iV (Ac n.nx (shG n.bs.length (shO n q) q.cl x81.o x54.i) x81.o x54.i).fst).length-Int.toNat 1) (List.drop (Int.toNat 1) (Ac n.nx (shG n.bs.length (shO n q) q.cl x81.o x54.i) x81.o x54.i).fst)++Ad x54 0)) 1]->B7 blk) <|
         gu (∀(c_1:Int),c_1∈Ad x87 (pjO n c)++[x81.o]++List.take ((List.map iV (Ac n.nx (shG n.bs.length (shO n q) q.cl x81.o x54.i) x81.o x54.i).fst).length-Int.toNat 1) (List.drop (Int.toNat 1) (Ac n.nx (shG n.bs.length (shO n q) q.cl x81.o x54.i) x81.o x54.i).fst)++Ad x54 0->0<=c_1/\c_1<iN q.cl.length) <|
         br (BB q.cl (Ad x87 (pjO n c)++[x81.o]++List.take ((List.map iV (Ac n.nx (shG n.bs.length (shO n q) q.cl x81.o x54.i) x81.o x54.i).fst).length-Int.toNat 1) (List.drop (Int.toNat 1) (Ac n.nx (shG n.bs.length (shO n q) q.cl x81.o x54.i) x81.o x54.i).fst)++Ad x54 0))
         (some (.inr ([some (bK (List.map iV (Ad x87 (pjO n c)++[x81.o]++List.take ((List.map iV (Ac n.nx (shG n.bs.length (shO n q) q.cl x81.o x54.i) x81.o x54.i).fst).length-Int.toNat 1) (List.drop (Int.toNat 1) (Ac n.nx (shG n.bs.length (shO n q) q.cl x81.o x54.i) x81.o x54.i).fst)++Ad x54 0)) 1)],AV.tup [AV.sl 0 0 (Ad x87 (pjO n c)++[x81.o]++List.take ((List.map iV (Ac n.nx (shG n.bs.length (shO n q) q.cl x81.o x54.i) x81.o x54.i).fst).length-Int.toNat 1) (List.drop (Int.toNat 1) (Ac n.nx (shG n.bs.length (shO n q) q.cl x81.o x54.i) x81.o x54.i).fst)++Ad x54 0).length,bV true,iV 0])))
         (none)))
       (gu (n.bs.length<=1000/\n.bs.length<=(shO n q).length/\n.bs.length<=q.cl.length) <|
        br (iN (List.map iV (Ac n.nx (shG n.bs.length (shO n q) q.cl c x54.i) c x54.i).fst).length==0)
        (gu (n.bs.length<=1000/\n.bs.length<=q.cl.length) <|
         br (iN (List.map iV (Ac n.nx (shW n.bs.length q.cl c) c x54.i).fst).length==0)
         (some (.inr ([],AV.tup [AV.nils,bV false,iV 0])))
         (gu (∀(e:AV),e∈List.map iV (Ac n.nx (shW n.bs.length q.cl c) c x54.i).fst->e.cells.length=1) <|
          gu (1<=iN (List.map iV (Ac n.nx (shW n.bs.length q.cl c) c x54.i).fst).length) <|
          gu (0<=x54.b/\x54.b<=1000) <|
          gu (x54.k<=1000) <|
          gu (([]++List.take ((List.map iV (Ac n.nx (shW n.bs.length q.cl c) c x54.i).fst).length-Int.toNat 1) (List.drop (Int.toNat 1) (Ac n.nx (shW n.bs.length q.cl c) c x54.i).fst)++Ad x54 0).length<=1000000) <|
          gu (∀(blk:Blk),blk∈[bK [AV.any,AV.any,AV.any] 1,bK (List.map iV ([]++List.take ((List.map iV (Ac n.nx (shW n.bs.length q.cl c) c x54.i).fst).length-Int.toNat 1) (List.drop (Int.toNat 1) (Ac n.nx (shW n.bs.length q.cl c) c x54.i).fst)++Ad x54 0)) 1]->B7 blk) <|
          gu (∀(c_1:Int),c_1∈[]++List.take ((List.map iV (Ac n.nx (shW n.bs.length q.cl c) c x54.i).fst).length-Int.toNat 1) (List.drop (Int.toNat 1) (Ac n.nx (shW n.bs.length q.cl c) c x54.i).fst)++Ad x54 0->0<=c_1/\c_1<iN q.cl.length) <|
          br (BB q.cl ([]++List.take ((List.map iV (Ac n.nx (shW n.bs.length q.cl c) c x54.i).fst).length-Int.toNat 1) (List.drop (Int.toNat 1) (Ac n.nx (shW n.bs.length q.cl c) c x54.i).fst)++Ad x54 0))
          (some (.inr ([some (bK (List.map iV ([]++List.take ((List.map iV (Ac n.nx (shW n.bs.length q.cl c) c x54.i).fst).length-Int.toNat 1) (List.drop (Int.toNat 1) (Ac n.nx (shW n.bs.length q.cl c) c x54.i).fst)++Ad x54 0)) 1)],AV.tup [AV.sl 0 0 ([]++List.take ((List.map iV (Ac n.nx (shW n.bs.length q.cl c) c x54.i).fst).length-Int.toNat 1) (List.drop (Int.toNat 1) (Ac n.nx (shW n.bs.length q.cl c) c x54.i).fst)++Ad x54 0).length,bV true,iV 0])))
          (none)))
        (gu (∀(e:AV),e∈List.map iV (Ac n.nx (shG n.bs.length (shO n q) q.cl c x54.i) c x54.i).fst->e.cells.length=1) <|
         gu (1<=iN (List.map iV (Ac n.nx (shG n.bs.length (shO n q) q.cl c x54.i) c x54.i).fst).length) <|
         gu (0<=x54.b/\x54.b<=1000) <|
         gu (x54.k<=1000) <|
         gu (([]++List.take ((List.map iV (Ac n.nx (shG n.bs.length (shO n q) q.cl c x54.i) c x54.i).fst).length-Int.toNat 1) (List.drop (Int.toNat 1) (Ac n.nx (shG n.bs.length (shO n q) q.cl c x54.i) c x54.i).fst)++Ad x54 0).length<=1000000) <|
         gu (∀(blk:Blk),blk∈[bK [AV.any,AV.any,AV.any] 1,bK (List.map iV ([]++List.take ((List.map iV (Ac n.nx (shG n.bs.length (shO n q) q.cl c x54.i) c x54.i).fst).length-Int.toNat 1) (List.drop (Int.toNat 1) (Ac n.nx (shG n.bs.length (shO n q) q.cl c x54.i) c x54.i).fst)++Ad x54 0)) 1]->B7 blk) <|
         gu (∀(c_1:Int),c_1∈[]++List.take ((List.map iV (Ac n.nx (shG n.bs.length (shO n q) q.cl c x54.i) c x54.i).fst).length-Int.toNat 1) (List.drop (Int.toNat 1) (Ac n.nx (shG n.bs.length (shO n q) q.cl c x54.i) c x54.i).fst)++Ad x54 0->0<=c_1/\c_1<iN q.cl.length) <|
         br (BB q.cl ([]++List.take ((List.map iV (Ac n.nx (shG n.bs.length (shO n q) q.cl c x54.i) c x54.i).fst).length-Int.toNat 1) (List.drop (Int.toNat 1) (Ac n.nx (shG n.bs.length (shO n q) q.cl c x54.i) c x54.i).fst)++Ad x54 0))
         (some (.inr ([some (bK (List.map iV ([]++List.take ((List.map iV (Ac n.nx (shG n.bs.length (shO n q) q.cl c x54.i) c x54.i).fst).length-Int.toNat 1) (List.drop (Int.toNat 1) (Ac n.nx (shG n.bs.length (shO n q) q.cl c x54.i) c x54.i).fst)++Ad x54 0)) 1)],AV.tup [AV.sl 0 0 ([]++List.take ((List.map iV (Ac n.nx (shG n.bs.length (shO n q) q.cl c x54.i) c x54.i).fst).length-Int.toNat 1) (List.drop (Int.toNat 1) (Ac n.nx (shG n.bs.length (shO n q) q.cl c x54.i) c x54.i).fst)++Ad x54 0).length,bV true,iV 0])))
         (none)))))))))
def leTStep(n:Ab)(q:Ae)(c d:Int):Empty->Option (Empty⊕Ret)
 | x=>x.elim
theorem leTEn_ok(n:Ab)(q:Ae)(c d:Int)(o:Empty⊕Ret)(h:JX n q c d=some o):Arr Try.prog Try.f30 0 (leTSt n q c d) leTHd (zB Try.f30) [] {n:=Try.f30.ntmps,fr:=AJ 0 ([Ag n,sgA q,.int .i64 c,.int .i64 d]),hp:=([])} o:=
 Scr.ok h mix (
 .rn 0 [] [] [] [] (al (u2 (u2 t4))) <|
 .gu fun a0=>
 have c0:=ssh_c (q.cl) (q.bw) (q.pe) a0;
 .rn 1 [] [] [(24,hK c0 [] [])] [] (aj (u2 (u2 (aj (k2 (aj t9 (aj t4 (al (c0))))) (u2 (u2 (u2 (ak (aj (k2 n11) s2)))))))) (al (u2 (u2 s2)))) <|
 .br (fun a1=>
 .rt [55] [] [] [] [] [] (aj (aj a1 (al (u2 (k2 s2)))) (al t4)))
 (fun a1=>
 .br (fun a2=>
  .rt [54,69] [] [] [] [] [] (aj (aj a1 (aj (u2 (u2 (u2 (aj a2 (aj a2 (aj a2 (aj a2 (ag a2 (u2 (k2 (aj t3 (u2 (k5 (aj t3 s2)))))))))))))) (ak (al t4)))) (al t4)))
 (fun a2=>
  .br (fun a3=>
  .rt [54,68,81] [] [] [] [] [] (aj (aj a1 (aj (u2 (u2 (u2 (ag a2 (ag a2 (ag a2 (aj (aj a2 t3) (ag a2 (u2 (aj a3 (aj a3 (ag a3 (u2 (k5 (aj t3 s2))))))))))))))) (ak (al t4)))) (al t4)))
  (fun a3=>
  .br (fun a4=>
   .rt [54,68,80,89] [] [] [] [] [] (aj (aj a1 (aj (u2 (u2 (u2 (ag a2 (ag a2 (ag a2 (aj (aj a2 t3) (ag a2 (u2 (ag a3 (ag a3 (ag a3 (u2 (aj a4 (aj a4 (aj a4 (aj a4 (aj a4 (ag a4 s2))))))))))))))))))) (ak (al t4)))) (al t4)))
  (fun a4=>
   .rn 0 [54,68,80,88] [] [] [] (aj a1 (al (u2 (u2 (u2 (ag a2 (ag a2 (ag a2 (aj (aj a2 t3) (ag a2 (u2 (ag a3 (ag a3 (ag a3 (u2 (ag a4 (ag a4 (ag a4 (ag a4 (aj (aj a4 t3) (ag a4 s2))))))))))))))))))))) <|
   .br (fun a5=>
   .rt [68,80,88,63] [] [] [] [] [] (aj (aj a5 (al t4)) (al t4)))
   (fun a5=>
   .gu fun a6=>
   .el fun x54 a7=>
   have c1:=plc_c c a0;
   .rn 2 [68,80,88,62] [(54,sA x54)] [(59,hK c1 [] [])] [] (aj a5 (aj (u2 (u2 (u2 (aj (k2 (aj a6 (AD (f:=sA) a7))) (u2 (ak (al (k2 n11)))))))) (aj (u2 (u2 (aj (k2 (aj t9 (ak (al (c1))))) (u2 (u2 (u2 (u2 (u2 (u2 s2))))))))) (al (u2 (u2 (al t3))))))) <|
   .br (fun a8=>
    .gu fun a9=>
    .gu fun a10=>
    .gu fun a11=>
    have c2:=Df x54 (pjO n c) a9 a10 a11;
    .rn 0 [68,80,88,131] [] [(68,hK c2 [] [])] [] (aj a8 (al (u2 (u2 (aj (k2 (aj t7 (ak (al (c2))))) s2))))) <|
    .gu fun a12=>
    .gu fun a13=>
    .br (fun a14=>
    have c3:=Iw q (Ad x54 (pjO n c)) ((Ad x54 (pjO n c)).length) (show(Ad x54 (pjO n c)).length=(Ad x54 (pjO n c)).length from rfl) a12 a13 a14;
    .rt [68,80,88] [] [(71,hK c3 [4] [])] [] [4] [] (aj (al (u2 (u2 (aj (k2 (aj t4 (k2 (al (c3))))) (u2 (u2 (u2 (u2 (u2 s2))))))))) (aj t4 t2)))
    (fun a14=>
    .no))
   (fun a8=>
    .rn 2 [68,80,88,130] [] [] [] (aj a8 (u2 (aj (u2 (ak (al (k2 n11)))) (al (u2 s2))))) <|
    .br (fun a9=>
    .gu fun a10=>
    .el fun x81 a11=>
    .rn 0 [68,80,88,155] [(81,sA x81)] [] [] (aj a9 (al (u2 (u2 (u2 (aj (k2 (aj a10 (AD (f:=sA) a11))) (u2 (u2 (al (k2 (show Nat.le 1 [iv c].length from(nL rfl)))))))))))) <|
    .el fun x87 a12=>
    .gu fun a13=>
    .gu fun a14=>
    .gu fun a15=>
    .gu fun a16=>
    .gu fun a17=>
    have c2:=Df x87 (pjO n c) a13 a14 a15;
    .rn 0 [68,80,88] [(87,sA x87)] [(90,hK c2 [] [])] [] (al (u2 (u2 (u2 (aj (k2 (aj a10 (AD (f:=sA) a12))) (u2 (u2 (aj (k2 (aj t7 (ak (al (c2))))) (u2 (u2 (aj (k2 (aj (show(List.map (iv) (Ad x87 (pjO n c))).length=(Ad x87 (pjO n c)).length by simp) (aj (aj (show nat_lit 1=nat_lit 1 from rfl) (show 1<=[iv x81.o].length by simp)) (aj a16 a17)))) s2))))))))))) <|
    .gu fun a18=>
    have c3:=J9 n (shO n q) (x81.o) (x81.o) (x54.i) x54 q a0 a18;
    .rn 1 [68,80,88] [] [(99,hK c3 [2,4,3,1] [])] [] (aj (u2 (aj t5 (u2 (u2 (u2 (aj (ak (k3 (aj t9 (aj t5 (ak (k5 (al (c3)))))))) s2)))))) (al (u2 (u2 s2)))) <|
    .br (fun a19=>
     .gu fun a20=>
     have c4:=Jz n (x81.o) (x81.o) (x54.i) q a0 a20;
     .rn 1 [68,80,88,205] [] [(108,hK c4 [1,4] [])] [] (aj a19 (aj (u2 (aj t3 (u2 (u2 (u2 (aj (ak (k3 (aj t9 (aj t3 (ak (k3 (al (c4)))))))) s2)))))) (al (u2 (u2 s2))))) <|
     .br (fun a21=>
     .rt [68,80,88,223] [] [] [] [] [] (aj (aj a21 (al t4)) (al t4)))
     (fun a21=>
     .gu fun a22=>
     .gu fun a23=>
     .gu fun a24=>
     .gu fun a25=>
     .gu fun a26=>
     .gu fun a27=>
     .gu fun a28=>
     .br (fun a29=>
      have c5:=Df x54 (0) (show(0:Int)<=(0:Int)/\(0:Int)<=(1000:Int) from ⟨(by first | exact nL rfl | decide),(by first | exact nL rfl | decide)⟩) a24 a25;
      have c6:=FC (Ad x87 (pjO n c)++[x81.o]) (List.take ((List.map (iv) (Ac n.nx (shW n.bs.length q.cl x81.o) x81.o x54.i).fst).length-Int.toNat 1) (List.drop (Int.toNat 1) (Ac n.nx (shW n.bs.length q.cl x81.o) x81.o x54.i).fst)) (Ad x54 0) a26;
      have c7:=Iw q (Ad x87 (pjO n c)++[x81.o]++List.take ((List.map (iv) (Ac n.nx (shW n.bs.length q.cl x81.o) x81.o x54.i).fst).length-Int.toNat 1) (List.drop (Int.toNat 1) (Ac n.nx (shW n.bs.length q.cl x81.o) x81.o x54.i).fst)++Ad x54 0) ((Ad x87 (pjO n c)++[x81.o]++List.take ((List.map (iv) (Ac n.nx (shW n.bs.length q.cl x81.o) x81.o x54.i).fst).length-Int.toNat 1) (List.drop (Int.toNat 1) (Ac n.nx (shW n.bs.length q.cl x81.o) x81.o x54.i).fst)++Ad x54 0).length) (show(Ad x87 (pjO n c)++[x81.o]++List.take ((List.map (iv) (Ac n.nx (shW n.bs.length q.cl x81.o) x81.o x54.i).fst).length-Int.toNat 1) (List.drop (Int.toNat 1) (Ac n.nx (shW n.bs.length q.cl x81.o) x81.o x54.i).fst)++Ad x54 0).length=(Ad x87 (pjO n c)++[x81.o]++List.take ((List.map (iv) (Ac n.nx (shW n.bs.length q.cl x81.o) x81.o x54.i).fst).length-Int.toNat 1) (List.drop (Int.toNat 1) (Ac n.nx (shW n.bs.length q.cl x81.o) x81.o x54.i).fst)++Ad x54 0).length from rfl) a26 a28 a29;
      .rt [68,80,88,222] [] [(117,hK c5 [] []),(119,hK c6 [9] [7,8]),(120,hK c7 [10] [])] [] [10] [] (aj (aj a21 (al (u2 (u2 (u2 (aj (ak (aj a22 (aj (show(0:Int)<=(1:Int) from(by first | exact nL rfl | decide)) (aj a23 (aj (show iN (List.map (iv) (Ac n.nx (shW n.bs.length q.cl x81.o) x81.o x54.i).fst).length<=iN (List.map (iv) (Ac n.nx (shW n.bs.length q.cl x81.o) x81.o x54.i).fst).length by omega) (show iN (List.map (iv) (Ac n.nx (shW n.bs.length q.cl x81.o) x81.o x54.i).fst).length<=iN (List.map (iv) (Ac n.nx (shW n.bs.length q.cl x81.o) x81.o x54.i).fst).length by omega)))))) (u2 (aj (ak (aj t7 (ak (al (c5))))) (aj t4 (aj (k2 (aj (aj (show(List.map (iv) (Ad x87 (pjO n c))).length+[iv x81.o].length=(List.map (iv) (Ad x87 (pjO n c))++[iv x81.o]).length by simp) (ak (al (show(Ad x54 0).length=(List.map (iv) (Ad x54 0)).length by simp)))) (aj (show CT Try.prog 68 [some (bK [AV.lst (List.map (iv) (Ad x87 (pjO n c))++[iv x81.o]),AV.lst (List.take ((List.map (iv) (Ac n.nx (shW n.bs.length q.cl x81.o) x81.o x54.i).fst).length-Int.toNat 1) (List.drop (Int.toNat 1) (List.map (iv) (Ac n.nx (shW n.bs.length q.cl x81.o) x81.o x54.i).fst))),AV.lst (List.map (iv) (Ad x54 0))] 1)] [AV.sl 0 0 3] [some (bK [AV.any,AV.any,AV.any] 1),some (bK (List.map (iv) (Ad x87 (pjO n c)++[x81.o]++List.take ((List.map (iv) (Ac n.nx (shW n.bs.length q.cl x81.o) x81.o x54.i).fst).length-Int.toNat 1) (List.drop (Int.toNat 1) (Ac n.nx (shW n.bs.length q.cl x81.o) x81.o x54.i).fst)++Ad x54 0)) 1)] (AV.sl 1 0 (Ad x87 (pjO n c)++[x81.o]++List.take ((List.map (iv) (Ac n.nx (shW n.bs.length q.cl x81.o) x81.o x54.i).fst).length-Int.toNat 1) (List.drop (Int.toNat 1) (Ac n.nx (shW n.bs.length q.cl x81.o) x81.o x54.i).fst)++Ad x54 0).length) from CT.eqs (c6) (by first | (simp only[boL,SL,Ts,List.map_take,List.map_drop,List.map_replicate,List.nil_append];done) | (simp only[boL,SL,Ts,List.map_take,List.map_drop,List.map_replicate,List.nil_append];rfl) | (simp[gL,boL,lI,sA,bA];done) | (simp[gL,boL,lI,sA,bA];rfl) | (simp only[Ag,SL,Ts,Su,Sv];rfl)) (by first | (simp only[boL,SL,Ts,List.map_take,List.map_drop,List.map_replicate,List.nil_append];done) | (simp only[boL,SL,Ts,List.map_take,List.map_drop,List.map_replicate,List.nil_append];rfl) | (simp[gL,boL,lI,sA,bA];done) | (simp[gL,boL,lI,sA,bA];rfl) | (simp only[Ag,SL,Ts,Su,Sv];rfl))) a27))) (aj (k2 (aj t4 (k2 (al (c7))))) (u2 (u2 (u2 (u2 (u2 s2)))))))))))))))) (aj t4 t2)))
     (fun a29=>
      .no)))
    (fun a19=>
     .rn 0 [68,80,88,204] [] [] [] (aj a19 (al (u2 (u2 s2)))) <|
     .gu fun a20=>
     .gu fun a21=>
     .gu fun a22=>
     .gu fun a23=>
     .gu fun a24=>
     .gu fun a25=>
     .gu fun a26=>
     .br (fun a27=>
     have c4:=Df x54 (0) (show(0:Int)<=(0:Int)/\(0:Int)<=(1000:Int) from ⟨(by first | exact nL rfl | decide),(by first | exact nL rfl | decide)⟩) a22 a23;
     have c5:=FC (Ad x87 (pjO n c)++[x81.o]) (List.take ((List.map (iv) (Ac n.nx (shG n.bs.length (shO n q) q.cl x81.o x54.i) x81.o x54.i).fst).length-Int.toNat 1) (List.drop (Int.toNat 1) (Ac n.nx (shG n.bs.length (shO n q) q.cl x81.o x54.i) x81.o x54.i).fst)) (Ad x54 0) a24;
     have c6:=Iw q (Ad x87 (pjO n c)++[x81.o]++List.take ((List.map (iv) (Ac n.nx (shG n.bs.length (shO n q) q.cl x81.o x54.i) x81.o x54.i).fst).length-Int.toNat 1) (List.drop (Int.toNat 1) (Ac n.nx (shG n.bs.length (shO n q) q.cl x81.o x54.i) x81.o x54.i).fst)++Ad x54 0) ((Ad x87 (pjO n c)++[x81.o]++List.take ((List.map (iv) (Ac n.nx (shG n.bs.length (shO n q) q.cl x81.o x54.i) x81.o x54.i).fst).length-Int.toNat 1) (List.drop (Int.toNat 1) (Ac n.nx (shG n.bs.length (shO n q) q.cl x81.o x54.i) x81.o x54.i).fst)++Ad x54 0).length) (show(Ad x87 (pjO n c)++[x81.o]++List.take ((List.map (iv) (Ac n.nx (shG n.bs.length (shO n q) q.cl x81.o x54.i) x81.o x54.i).fst).length-Int.toNat 1) (List.drop (Int.toNat 1) (Ac n.nx (shG n.bs.length (shO n q) q.cl x81.o x54.i) x81.o x54.i).fst)++Ad x54 0).length=(Ad x87 (pjO n c)++[x81.o]++List.take ((List.map (iv) (Ac n.nx (shG n.bs.length (shO n q) q.cl x81.o x54.i) x81.o x54.i).fst).length-Int.toNat 1) (List.drop (Int.toNat 1) (Ac n.nx (shG n.bs.length (shO n q) q.cl x81.o x54.i) x81.o x54.i).fst)++Ad x54 0).length from rfl) a24 a26 a27;
     .rt [68,80,88,222] [] [(117,hK c4 [] []),(119,hK c5 [9] [7,8]),(120,hK c6 [10] [])] [] [10] [] (aj (aj a19 (al (u2 (u2 (u2 (aj (ak (aj a20 (aj (show(0:Int)<=(1:Int) from(by first | exact nL rfl | decide)) (aj a21 (aj (show iN (List.map (iv) (Ac n.nx (shG n.bs.length (shO n q) q.cl x81.o x54.i) x81.o x54.i).fst).length<=iN (List.map (iv) (Ac n.nx (shG n.bs.length (shO n q) q.cl x81.o x54.i) x81.o x54.i).fst).length by omega) (show iN (List.map (iv) (Ac n.nx (shG n.bs.length (shO n q) q.cl x81.o x54.i) x81.o x54.i).fst).length<=iN (List.map (iv) (Ac n.nx (shG n.bs.length (shO n q) q.cl x81.o x54.i) x81.o x54.i).fst).length by omega)))))) (u2 (aj (ak (aj t7 (ak (al (c4))))) (aj t4 (aj (k2 (aj (aj (show(List.map (iv) (Ad x87 (pjO n c))).length+[iv x81.o].length=(List.map (iv) (Ad x87 (pjO n c))++[iv x81.o]).length by simp) (ak (al (show(Ad x54 0).length=(List.map (iv) (Ad x54 0)).length by simp)))) (aj (show CT Try.prog 68 [some (bK [AV.lst (List.map (iv) (Ad x87 (pjO n c))++[iv x81.o]),AV.lst (List.take ((List.map (iv) (Ac n.nx (shG n.bs.length (shO n q) q.cl x81.o x54.i) x81.o x54.i).fst).length-Int.toNat 1) (List.drop (Int.toNat 1) (List.map (iv) (Ac n.nx (shG n.bs.length (shO n q) q.cl x81.o x54.i) x81.o x54.i).fst))),AV.lst (List.map (iv) (Ad x54 0))] 1)] [AV.sl 0 0 3] [some (bK [AV.any,AV.any,AV.any] 1),some (bK (List.map (iv) (Ad x87 (pjO n c)++[x81.o]++List.take ((List.map (iv) (Ac n.nx (shG n.bs.length (shO n q) q.cl x81.o x54.i) x81.o x54.i).fst).length-Int.toNat 1) (List.drop (Int.toNat 1) (Ac n.nx (shG n.bs.length (shO n q) q.cl x81.o x54.i) x81.o x54.i).fst)++Ad x54 0)) 1)] (AV.sl 1 0 (Ad x87 (pjO n c)++[x81.o]++List.take ((List.map (iv) (Ac n.nx (shG n.bs.length (shO n q) q.cl x81.o x54.i) x81.o x54.i).fst).length-Int.toNat 1) (List.drop (Int.toNat 1) (Ac n.nx (shG n.bs.length (shO n q) q.cl x81.o x54.i) x81.o x54.i).fst)++Ad x54 0).length) from CT.eqs (c5) (by first | (simp only[boL,SL,Ts,List.map_take,List.map_drop,List.map_replicate,List.nil_append];done) | (simp only[boL,SL,Ts,List.map_take,List.map_drop,List.map_replicate,List.nil_append];rfl) | (simp[gL,boL,lI,sA,bA];done) | (simp[gL,boL,lI,sA,bA];rfl) | (simp only[Ag,SL,Ts,Su,Sv];rfl)) (by first | (simp only[boL,SL,Ts,List.map_take,List.map_drop,List.map_replicate,List.nil_append];done) | (simp only[boL,SL,Ts,List.map_take,List.map_drop,List.map_replicate,List.nil_append];rfl) | (simp[gL,boL,lI,sA,bA];done) | (simp[gL,boL,lI,sA,bA];rfl) | (simp only[Ag,SL,Ts,Su,Sv];rfl))) a25))) (aj (k2 (aj t4 (k2 (al (c6))))) (u2 (u2 (u2 (u2 (u2 s2)))))))))))))))) (aj t4 t2)))
     (fun a27=>
     .no)))
    (fun a9=>
    .gu fun a10=>
    have c2:=J9 n (shO n q) c c (x54.i) x54 q a0 a10;
    .rn 1 [68,80,88,154] [] [(99,hK c2 [2,4,3,1] [])] [] (aj a9 (aj (u2 (aj t5 (u2 (u2 (u2 (aj (ak (k3 (aj t9 (aj t5 (ak (k5 (al (c2)))))))) s2)))))) (al (u2 (u2 s2))))) <|
    .br (fun a11=>
     .gu fun a12=>
     have c3:=Jz n c c (x54.i) q a0 a12;
     .rn 1 [68,80,88,205] [] [(108,hK c3 [1,4] [])] [] (aj a11 (aj (u2 (aj t3 (u2 (u2 (u2 (aj (ak (k3 (aj t9 (aj t3 (ak (k3 (al (c3)))))))) s2)))))) (al (u2 (u2 s2))))) <|
     .br (fun a13=>
     .rt [68,80,88,223] [] [] [] [] [] (aj (aj a13 (al t4)) (al t4)))
     (fun a13=>
     .gu fun a14=>
     .gu fun a15=>
     .gu fun a16=>
     .gu fun a17=>
     .gu fun a18=>
     .gu fun a19=>
     .gu fun a20=>
     .br (fun a21=>
      have c4:=Df x54 (0) (show(0:Int)<=(0:Int)/\(0:Int)<=(1000:Int) from ⟨(by first | exact nL rfl | decide),(by first | exact nL rfl | decide)⟩) a16 a17;
      have c5:=FC ([]) (List.take ((List.map (iv) (Ac n.nx (shW n.bs.length q.cl c) c x54.i).fst).length-Int.toNat 1) (List.drop (Int.toNat 1) (Ac n.nx (shW n.bs.length q.cl c) c x54.i).fst)) (Ad x54 0) a18;
      have c6:=Iw q ([]++List.take ((List.map (iv) (Ac n.nx (shW n.bs.length q.cl c) c x54.i).fst).length-Int.toNat 1) (List.drop (Int.toNat 1) (Ac n.nx (shW n.bs.length q.cl c) c x54.i).fst)++Ad x54 0) (([]++List.take ((List.map (iv) (Ac n.nx (shW n.bs.length q.cl c) c x54.i).fst).length-Int.toNat 1) (List.drop (Int.toNat 1) (Ac n.nx (shW n.bs.length q.cl c) c x54.i).fst)++Ad x54 0).length) (show([]++List.take ((List.map (iv) (Ac n.nx (shW n.bs.length q.cl c) c x54.i).fst).length-Int.toNat 1) (List.drop (Int.toNat 1) (Ac n.nx (shW n.bs.length q.cl c) c x54.i).fst)++Ad x54 0).length=([]++List.take ((List.map (iv) (Ac n.nx (shW n.bs.length q.cl c) c x54.i).fst).length-Int.toNat 1) (List.drop (Int.toNat 1) (Ac n.nx (shW n.bs.length q.cl c) c x54.i).fst)++Ad x54 0).length from rfl) a18 a20 a21;
      .rt [68,80,88,222] [(118,AV.tup [])] [(117,hK c4 [] []),(119,hK c5 [6] [5]),(120,hK c6 [7] [])] [] [7] [] (aj (aj a13 (al (u2 (u2 (u2 (aj (ak (aj a14 (aj (show(0:Int)<=(1:Int) from(by first | exact nL rfl | decide)) (aj a15 (aj (show iN (List.map (iv) (Ac n.nx (shW n.bs.length q.cl c) c x54.i).fst).length<=iN (List.map (iv) (Ac n.nx (shW n.bs.length q.cl c) c x54.i).fst).length by omega) (show iN (List.map (iv) (Ac n.nx (shW n.bs.length q.cl c) c x54.i).fst).length<=iN (List.map (iv) (Ac n.nx (shW n.bs.length q.cl c) c x54.i).fst).length by omega)))))) (u2 (aj (ak (aj t7 (ak (al (c4))))) (aj t4 (aj (k2 (aj (k2 (al (show(Ad x54 0).length=(List.map (iv) (Ad x54 0)).length by simp))) (aj (show CT Try.prog 68 [some (bK [AV.lst [],AV.lst (List.take ((List.map (iv) (Ac n.nx (shW n.bs.length q.cl c) c x54.i).fst).length-Int.toNat 1) (List.drop (Int.toNat 1) (List.map (iv) (Ac n.nx (shW n.bs.length q.cl c) c x54.i).fst))),AV.lst (List.map (iv) (Ad x54 0))] 1)] [AV.sl 0 0 3] [some (bK [AV.any,AV.any,AV.any] 1),some (bK (List.map (iv) ([]++List.take ((List.map (iv) (Ac n.nx (shW n.bs.length q.cl c) c x54.i).fst).length-Int.toNat 1) (List.drop (Int.toNat 1) (Ac n.nx (shW n.bs.length q.cl c) c x54.i).fst)++Ad x54 0)) 1)] (AV.sl 1 0 ([]++List.take ((List.map (iv) (Ac n.nx (shW n.bs.length q.cl c) c x54.i).fst).length-Int.toNat 1) (List.drop (Int.toNat 1) (Ac n.nx (shW n.bs.length q.cl c) c x54.i).fst)++Ad x54 0).length) from CT.eqs (c5) (by first | (simp only[boL,SL,Ts,List.map_take,List.map_drop,List.map_replicate,List.nil_append];done) | (simp only[boL,SL,Ts,List.map_take,List.map_drop,List.map_replicate,List.nil_append];rfl) | (simp[gL,boL,lI,sA,bA];done) | (simp[gL,boL,lI,sA,bA];rfl) | (simp only[Ag,SL,Ts,Su,Sv];rfl)) (by first | (simp only[boL,SL,Ts,List.map_take,List.map_drop,List.map_replicate,List.nil_append];done) | (simp only[boL,SL,Ts,List.map_take,List.map_drop,List.map_replicate,List.nil_append];rfl) | (simp[gL,boL,lI,sA,bA];done) | (simp[gL,boL,lI,sA,bA];rfl) | (simp only[Ag,SL,Ts,Su,Sv];rfl))) a19))) (aj (k2 (aj t4 (k2 (al (c6))))) (u2 (u2 (u2 (u2 (u2 s2)))))))))))))))) (aj t4 t2)))
     (fun a21=>
      .no)))
    (fun a11=>
     .rn 0 [68,80,88,204] [] [] [] (aj a11 (al (u2 (u2 s2)))) <|
     .gu fun a12=>
     .gu fun a13=>
     .gu fun a14=>
     .gu fun a15=>
     .gu fun a16=>
     .gu fun a17=>
     .gu fun a18=>
     .br (fun a19=>
     have c3:=Df x54 (0) (show(0:Int)<=(0:Int)/\(0:Int)<=(1000:Int) from ⟨(by first | exact nL rfl | decide),(by first | exact nL rfl | decide)⟩) a14 a15;
     have c4:=FC ([]) (List.take ((List.map (iv) (Ac n.nx (shG n.bs.length (shO n q) q.cl c x54.i) c x54.i).fst).length-Int.toNat 1) (List.drop (Int.toNat 1) (Ac n.nx (shG n.bs.length (shO n q) q.cl c x54.i) c x54.i).fst)) (Ad x54 0) a16;
     have c5:=Iw q ([]++List.take ((List.map (iv) (Ac n.nx (shG n.bs.length (shO n q) q.cl c x54.i) c x54.i).fst).length-Int.toNat 1) (List.drop (Int.toNat 1) (Ac n.nx (shG n.bs.length (shO n q) q.cl c x54.i) c x54.i).fst)++Ad x54 0) (([]++List.take ((List.map (iv) (Ac n.nx (shG n.bs.length (shO n q) q.cl c x54.i) c x54.i).fst).length-Int.toNat 1) (List.drop (Int.toNat 1) (Ac n.nx (shG n.bs.length (shO n q) q.cl c x54.i) c x54.i).fst)++Ad x54 0).length) (show([]++List.take ((List.map (iv) (Ac n.nx (shG n.bs.length (shO n q) q.cl c x54.i) c x54.i).fst).length-Int.toNat 1) (List.drop (Int.toNat 1) (Ac n.nx (shG n.bs.length (shO n q) q.cl c x54.i) c x54.i).fst)++Ad x54 0).length=([]++List.take ((List.map (iv) (Ac n.nx (shG n.bs.length (shO n q) q.cl c x54.i) c x54.i).fst).length-Int.toNat 1) (List.drop (Int.toNat 1) (Ac n.nx (shG n.bs.length (shO n q) q.cl c x54.i) c x54.i).fst)++Ad x54 0).length from rfl) a16 a18 a19;
     .rt [68,80,88,222] [(118,AV.tup [])] [(117,hK c3 [] []),(119,hK c4 [6] [5]),(120,hK c5 [7] [])] [] [7] [] (aj (aj a11 (al (u2 (u2 (u2 (aj (ak (aj a12 (aj (show(0:Int)<=(1:Int) from(by first | exact nL rfl | decide)) (aj a13 (aj (show iN (List.map (iv) (Ac n.nx (shG n.bs.length (shO n q) q.cl c x54.i) c x54.i).fst).length<=iN (List.map (iv) (Ac n.nx (shG n.bs.length (shO n q) q.cl c x54.i) c x54.i).fst).length by omega) (show iN (List.map (iv) (Ac n.nx (shG n.bs.length (shO n q) q.cl c x54.i) c x54.i).fst).length<=iN (List.map (iv) (Ac n.nx (shG n.bs.length (shO n q) q.cl c x54.i) c x54.i).fst).length by omega)))))) (u2 (aj (ak (aj t7 (ak (al (c3))))) (aj t4 (aj (k2 (aj (k2 (al (show(Ad x54 0).length=(List.map (iv) (Ad x54 0)).length by simp))) (aj (show CT Try.prog 68 [some (bK [AV.lst [],AV.lst (List.take ((List.map (iv) (Ac n.nx (shG n.bs.length (shO n q) q.cl c x54.i) c x54.i).fst).length-Int.toNat 1) (List.drop (Int.toNat 1) (List.map (iv) (Ac n.nx (shG n.bs.length (shO n q) q.cl c x54.i) c x54.i).fst))),AV.lst (List.map (iv) (Ad x54 0))] 1)] [AV.sl 0 0 3] [some (bK [AV.any,AV.any,AV.any] 1),some (bK (List.map (iv) ([]++List.take ((List.map (iv) (Ac n.nx (shG n.bs.length (shO n q) q.cl c x54.i) c x54.i).fst).length-Int.toNat 1) (List.drop (Int.toNat 1) (Ac n.nx (shG n.bs.length (shO n q) q.cl c x54.i) c x54.i).fst)++Ad x54 0)) 1)] (AV.sl 1 0 ([]++List.take ((List.map (iv) (Ac n.nx (shG n.bs.length (shO n q) q.cl c x54.i) c x54.i).fst).length-Int.toNat 1) (List.drop (Int.toNat 1) (Ac n.nx (shG n.bs.length (shO n q) q.cl c x54.i) c x54.i).fst)++Ad x54 0).length) from CT.eqs (c4) (by first | (simp only[boL,SL,Ts,List.map_take,List.map_drop,List.map_replicate,List.nil_append];done) | (simp only[boL,SL,Ts,List.map_take,List.map_drop,List.map_replicate,List.nil_append];rfl) | (simp[gL,boL,lI,sA,bA];done) | (simp[gL,boL,lI,sA,bA];rfl) | (simp only[Ag,SL,Ts,Su,Sv];rfl)) (by first | (simp only[boL,SL,Ts,List.map_take,List.map_drop,List.map_replicate,List.nil_append];done) | (simp only[boL,SL,Ts,List.map_take,List.map_drop,List.map_replicate,List.nil_append];rfl) | (simp[gL,boL,lI,sA,bA];done) | (simp[gL,boL,lI,sA,bA];rfl) | (simp only[Ag,SL,Ts,Su,Sv];rfl))) a17))) (aj (k2 (aj t4 (k2 (al (c5))))) (u2 (u2 (u2 (u2 (u2 s2)))))))))))))))) (aj t4 t2)))
     (fun a19=>
     .no)))))))))) (by kernel_rfl)
theorem OK(n:Ab)(q:Ae)(c d:Int)(r:Ret)(h:Ax (leTStep n q c d) (JX n q c d) r):CT Try.prog 30 ([]) ([Ag n,sgA q,.int .i64 c,.int .i64 d]) r.1 r.2:=
 CT.mach (fn:=Try.f30) (c:=zB Try.f30) (S:=leTSt n q c d) (hd:=leTHd) Try.func30 (by kernel_rfl) (nL rfl)
  (fun s o ho=>match s,ho with
   | x,_=>x.elim)
  (fun o ho=>leTEn_ok n q c d o ho) h
def leFSt(n:Ab)(q:Ae)(c d:Int):Empty->St
 | x=>x.elim
def leFHd:Empty->Nat
 | x=>x.elim
def LG(n:Ab)(q:Ae)(c d:Int):Option (Empty⊕Ret):=
 gu (Rows n.nx) <|
 br (shE n q != 0)
 (some (.inr ([],AV.tup [AV.nils,bV false,iV (shE n q)])))
 (br (decide (c<0))
  (some (.inr ([],AV.tup [AV.nils,bV false,iV 19])))
  (br (decide (iN (boL (shO n q)).length<=c))
   (some (.inr ([],AV.tup [AV.nils,bV false,iV 19])))
   (br (decide (d<0))
    (some (.inr ([],AV.tup [AV.nils,bV false,iV 19])))
    (br (decide (iN (List.map sA n.ss).length<=d))
     (some (.inr ([],AV.tup [AV.nils,bV false,iV 19])))
     (gu (0<=d) <|
      el (n.ss) (d.toNat) fun(x54:An)=>
      br (plO n c==d)
      (gu (0<=pjO n c/\pjO n c<=1000) <|
       gu (0<=x54.b/\x54.b<=1000) <|
       gu (x54.k<=1000) <|
       gu ((Ad x54 (pjO n c)).length<=1000000) <|
       gu (∀(c_1:Int),c_1∈Ad x54 (pjO n c)->0<=c_1/\c_1<iN q.cl.length) <|
       br (BB q.cl (Ad x54 (pjO n c)))
       (none)
       (some (.inr ([],AV.tup [AV.nils,bV false,iV 0]))))
      (br (decide (0<=plO n c))
       (gu (0<=plO n c) <|
        el (n.ss) ((plO n c).toNat) fun(x81:An)=>
        el (n.ss) ((plO n c).toNat) fun(x87:An)=>
        gu (0<=pjO n c/\pjO n c<=1000) <|
        gu (0<=x87.b/\x87.b<=1000) <|
        gu (x87.k<=1000) <|
        gu ((List.map iV (Ad x87 (pjO n c))).length+[iV x81.o].length<=9223372036854775807) <|
        gu (((List.map iV (Ad x87 (pjO n c))).length+[iV x81.o].length) * 8<=140737488355328) <|
        gu (n.bs.length<=1000/\n.bs.length<=(shO n q).length/\n.bs.length<=q.cl.length) <|
        br (iN (List.map iV (Ac n.nx (shG n.bs.length (shO n q) q.cl x81.o x54.i) x81.o x54.i).fst).length==0)
        (gu (n.bs.length<=1000/\n.bs.length<=q.cl.length) <|
         br (iN (List.map iV (Ac n.nx (shW n.bs.length q.cl x81.o) x81.o x54.i).fst).length==0)
         (some (.inr ([],AV.tup [AV.nils,bV false,iV 0])))
         (gu (∀(e:AV),e∈List.map iV (Ac n.nx (shW n.bs.length q.cl x81.o) x81.o x54.i).fst->e.cells.length=1) <|
          gu (1<=iN (List.map iV (Ac n.nx (shW n.bs.length q.cl x81.o) x81.o x54.i).fst).length) <|
          gu (0<=x54.b/\x54.b<=1000) <|
          gu (x54.k<=1000) <|
          gu ((Ad x87 (pjO n c)++[x81.o]++List.take ((List.map iV (Ac n.nx (shW n.bs.length q.cl x81.o) x81.o x54.i).fst).length-Int.toNat 1) (List.drop (Int.toNat 1) (Ac n.nx (shW n.bs.length q.cl x81.o) x81.o x54.i).fst)++Ad x54 0).length<=1000000) <|
          gu (∀(blk:Blk),blk∈[bK [AV.any,AV.any,AV.any] 1,bK (List.map iV (Ad x87 (pjO n c)++[x81.o]++List.take ((List.map iV (Ac n.nx (shW n.bs.length q.cl x81.o) x81.o x54.i).fst).length-Int.toNat 1) (List.drop (Int.toNat 1) (Ac n.nx (shW n.bs.length q.cl x81.o) x81.o x54.i).fst)++Ad x54 0)) 1]->B7 blk) <|
          gu (∀(c_1:Int),c_1∈Ad x87 (pjO n c)++[x81.o]++List.take ((List.map iV (Ac n.nx (shW n.bs.length q.cl x81.o) x81.o x54.i).fst).length-Int.toNat 1) (List.drop (Int.toNat 1) (Ac n.nx (shW n.bs.length q.cl x81.o) x81.o x54.i).fst)++Ad x54 0->0<=c_1/\c_1<iN q.cl.length) <|
          br (BB q.cl (Ad x87 (pjO n c)++[x81.o]++List.take ((List.map iV (Ac n.nx (shW n.bs.length q.cl x81.o) x81.o x54.i).fst).length-Int.toNat 1) (List.drop (Int.toNat 1) (Ac n.nx (shW n.bs.length q.cl x81.o) x81.o x54.i).fst)++Ad x54 0))
          (none)
          (some (.inr ([],AV.tup [AV.nils,bV false,iV 0])))))
        (gu (∀(e:AV),e∈List.map iV (Ac n.nx (shG n.bs.length (shO n q) q.cl x81.o x54.i) x81.o x54.i).fst->e.cells.length=1) <|
         gu (1<=iN (List.map iV (Ac n.nx (shG n.bs.length (shO n q) q.cl x81.o x54.i) x81.o x54.i).fst).length) <|
         gu (0<=x54.b/\x54.b<=1000) <|
         gu (x54.k<=1000) <|
         gu ((Ad x87 (pjO n c)++[x81.o]++List.take ((List.map iV (Ac n.nx (shG n.bs.length (shO n q) q.cl x81.o x54.i) x81.o x54.i).fst).length-Int.toNat 1) (List.drop (Int.toNat 1) (Ac n.nx (shG n.bs.length (shO n q) q.cl x81.o x54.i) x81.o x54.i).fst)++Ad x54 0).length<=1000000) <|
         gu (∀(blk:Blk),blk∈[bK [AV.any,AV.any,AV.any] 1,bK (List.map iV (Ad x87 (pjO n c)++[x81.o]++List.take ((List.map iV (Ac n.nx (shG n.bs.length (shO n q) q.cl x81.o x54.i) x81.o x54.i).fst).length-Int.toNat 1) (List.drop (Int.toNat 1) (Ac n.nx (shG n.bs.length (shO n q) q.cl x81.o x54.i) x81.o x54.i).fst)++Ad x54 0)) 1]->B7 blk) <|
         gu (∀(c_1:Int),c_1∈Ad x87 (pjO n c)++[x81.o]++List.take ((List.map iV (Ac n.nx (shG n.bs.length (shO n q) q.cl x81.o x54.i) x81.o x54.i).fst).length-Int.toNat 1) (List.drop (Int.toNat 1) (Ac n.nx (shG n.bs.length (shO n q) q.cl x81.o x54.i) x81.o x54.i).fst)++Ad x54 0->0<=c_1/\c_1<iN q.cl.length) <|
         br (BB q.cl (Ad x87 (pjO n c)++[x81.o]++List.take ((List.map iV (Ac n.nx (shG n.bs.length (shO n q) q.cl x81.o x54.i) x81.o x54.i).fst).length-Int.toNat 1) (List.drop (Int.toNat 1) (Ac n.nx (shG n.bs.length (shO n q) q.cl x81.o x54.i) x81.o x54.i).fst)++Ad x54 0))
         (none)
         (some (.inr ([],AV.tup [AV.nils,bV false,iV 0])))))
       (gu (n.bs.length<=1000/\n.bs.length<=(shO n q).length/\n.bs.length<=q.cl.length) <|
        br (iN (List.map iV (Ac n.nx (shG n.bs.length (shO n q) q.cl c x54.i) c x54.i).fst).length==0)
        (gu (n.bs.length<=1000/\n.bs.length<=q.cl.length) <|
         br (iN (List.map iV (Ac n.nx (shW n.bs.length q.cl c) c x54.i).fst).length==0)
         (some (.inr ([],AV.tup [AV.nils,bV false,iV 0])))
         (gu (∀(e:AV),e∈List.map iV (Ac n.nx (shW n.bs.length q.cl c) c x54.i).fst->e.cells.length=1) <|
          gu (1<=iN (List.map iV (Ac n.nx (shW n.bs.length q.cl c) c x54.i).fst).length) <|
          gu (0<=x54.b/\x54.b<=1000) <|
          gu (x54.k<=1000) <|
          gu (([]++List.take ((List.map iV (Ac n.nx (shW n.bs.length q.cl c) c x54.i).fst).length-Int.toNat 1) (List.drop (Int.toNat 1) (Ac n.nx (shW n.bs.length q.cl c) c x54.i).fst)++Ad x54 0).length<=1000000) <|
          gu (∀(blk:Blk),blk∈[bK [AV.any,AV.any,AV.any] 1,bK (List.map iV ([]++List.take ((List.map iV (Ac n.nx (shW n.bs.length q.cl c) c x54.i).fst).length-Int.toNat 1) (List.drop (Int.toNat 1) (Ac n.nx (shW n.bs.length q.cl c) c x54.i).fst)++Ad x54 0)) 1]->B7 blk) <|
          gu (∀(c_1:Int),c_1∈[]++List.take ((List.map iV (Ac n.nx (shW n.bs.length q.cl c) c x54.i).fst).length-Int.toNat 1) (List.drop (Int.toNat 1) (Ac n.nx (shW n.bs.length q.cl c) c x54.i).fst)++Ad x54 0->0<=c_1/\c_1<iN q.cl.length) <|
          br (BB q.cl ([]++List.take ((List.map iV (Ac n.nx (shW n.bs.length q.cl c) c x54.i).fst).length-Int.toNat 1) (List.drop (Int.toNat 1) (Ac n.nx (shW n.bs.length q.cl c) c x54.i).fst)++Ad x54 0))
          (none)
          (some (.inr ([],AV.tup [AV.nils,bV false,iV 0])))))
        (gu (∀(e:AV),e∈List.map iV (Ac n.nx (shG n.bs.length (shO n q) q.cl c x54.i) c x54.i).fst->e.cells.length=1) <|
         gu (1<=iN (List.map iV (Ac n.nx (shG n.bs.length (shO n q) q.cl c x54.i) c x54.i).fst).length) <|
         gu (0<=x54.b/\x54.b<=1000) <|
         gu (x54.k<=1000) <|
         gu (([]++List.take ((List.map iV (Ac n.nx (shG n.bs.length (shO n q) q.cl c x54.i) c x54.i).fst).length-Int.toNat 1) (List.drop (Int.toNat 1) (Ac n.nx (shG n.bs.length (shO n q) q.cl c x54.i) c x54.i).fst)++Ad x54 0).length<=1000000) <|
         gu (∀(blk:Blk),blk∈[bK [AV.any,AV.any,AV.any] 1,bK (List.map iV ([]++List.take ((List.map iV (Ac n.nx (shG n.bs.length (shO n q) q.cl c x54.i) c x54.i).fst).length-Int.toNat 1) (List.drop (Int.toNat 1) (Ac n.nx (shG n.bs.length (shO n q) q.cl c x54.i) c x54.i).fst)++Ad x54 0)) 1]->B7 blk) <|
         gu (∀(c_1:Int),c_1∈[]++List.take ((List.map iV (Ac n.nx (shG n.bs.length (shO n q) q.cl c x54.i) c x54.i).fst).length-Int.toNat 1) (List.drop (Int.toNat 1) (Ac n.nx (shG n.bs.length (shO n q) q.cl c x54.i) c x54.i).fst)++Ad x54 0->0<=c_1/\c_1<iN q.cl.length) <|
         br (BB q.cl ([]++List.take ((List.map iV (Ac n.nx (shG n.bs.length (shO n q) q.cl c x54.i) c x54.i).fst).length-Int.toNat 1) (List.drop (Int.toNat 1) (Ac n.nx (shG n.bs.length (shO n q) q.cl c x54.i) c x54.i).fst)++Ad x54 0))
         (none)
         (some (.inr ([],AV.tup [AV.nils,bV false,iV 0])))))))))))
def leFStep(n:Ab)(q:Ae)(c d:Int):Empty->Option (Empty⊕Ret)
 | x=>x.elim
theorem leFEn_ok(n:Ab)(q:Ae)(c d:Int)(o:Empty⊕Ret)(h:LG n q c d=some o):Arr Try.prog Try.f30 0 (leFSt n q c d) leFHd (zB Try.f30) [] {n:=Try.f30.ntmps,fr:=AJ 0 ([Ag n,sgA q,.int .i64 c,.int .i64 d]),hp:=([])} o:=
 Scr.ok h mix (
 .rn 0 [] [] [] [] (al (u2 (u2 t4))) <|
 .gu fun a0=>
 have c0:=ssh_c (q.cl) (q.bw) (q.pe) a0;
 .rn 1 [] [] [(24,hK c0 [] [])] [] (aj (u2 (u2 (aj (k2 (aj t9 (aj t4 (al (c0))))) (u2 (u2 (u2 (ak (aj (k2 n11) s2)))))))) (al (u2 (u2 s2)))) <|
 .br (fun a1=>
 .rt [55] [] [] [] [] [] (aj (aj a1 (al (u2 (k2 s2)))) (al t4)))
 (fun a1=>
 .br (fun a2=>
  .rt [54,69] [] [] [] [] [] (aj (aj a1 (aj (u2 (u2 (u2 (aj a2 (aj a2 (aj a2 (aj a2 (ag a2 (u2 (k2 (aj t3 (u2 (k5 (aj t3 s2)))))))))))))) (ak (al t4)))) (al t4)))
 (fun a2=>
  .br (fun a3=>
  .rt [54,68,81] [] [] [] [] [] (aj (aj a1 (aj (u2 (u2 (u2 (ag a2 (ag a2 (ag a2 (aj (aj a2 t3) (ag a2 (u2 (aj a3 (aj a3 (ag a3 (u2 (k5 (aj t3 s2))))))))))))))) (ak (al t4)))) (al t4)))
  (fun a3=>
  .br (fun a4=>
   .rt [54,68,80,89] [] [] [] [] [] (aj (aj a1 (aj (u2 (u2 (u2 (ag a2 (ag a2 (ag a2 (aj (aj a2 t3) (ag a2 (u2 (ag a3 (ag a3 (ag a3 (u2 (aj a4 (aj a4 (aj a4 (aj a4 (aj a4 (ag a4 s2))))))))))))))))))) (ak (al t4)))) (al t4)))
  (fun a4=>
   .rn 0 [54,68,80,88] [] [] [] (aj a1 (al (u2 (u2 (u2 (ag a2 (ag a2 (ag a2 (aj (aj a2 t3) (ag a2 (u2 (ag a3 (ag a3 (ag a3 (u2 (ag a4 (ag a4 (ag a4 (ag a4 (aj (aj a4 t3) (ag a4 s2))))))))))))))))))))) <|
   .br (fun a5=>
   .rt [68,80,88,63] [] [] [] [] [] (aj (aj a5 (al t4)) (al t4)))
   (fun a5=>
   .gu fun a6=>
   .el fun x54 a7=>
   have c1:=plc_c c a0;
   .rn 2 [68,80,88,62] [(54,sA x54)] [(59,hK c1 [] [])] [] (aj a5 (aj (u2 (u2 (u2 (aj (k2 (aj a6 (AD (f:=sA) a7))) (u2 (ak (al (k2 n11)))))))) (aj (u2 (u2 (aj (k2 (aj t9 (ak (al (c1))))) (u2 (u2 (u2 (u2 (u2 (u2 s2))))))))) (al (u2 (u2 (al t3))))))) <|
   .br (fun a8=>
    .gu fun a9=>
    .gu fun a10=>
    .gu fun a11=>
    have c2:=Df x54 (pjO n c) a9 a10 a11;
    .rn 0 [68,80,88,131] [] [(68,hK c2 [] [])] [] (aj a8 (al (u2 (u2 (aj (k2 (aj t7 (ak (al (c2))))) s2))))) <|
    .gu fun a12=>
    .gu fun a13=>
    .br (fun a14=>
    .no)
    (fun a14=>
    have c3:=H8 q (Ad x54 (pjO n c)) ((Ad x54 (pjO n c)).length) (show(Ad x54 (pjO n c)).length=(Ad x54 (pjO n c)).length from rfl) a12 a13 a14;
    .rt [68,80,88] [] [(71,hK c3 [4] [])] [] [] [] (aj (al (u2 (u2 (aj (k2 (aj t4 (k2 (al (c3))))) (u2 (u2 (u2 (u2 (u2 s2))))))))) (al t4))))
   (fun a8=>
    .rn 2 [68,80,88,130] [] [] [] (aj a8 (u2 (aj (u2 (ak (al (k2 n11)))) (al (u2 s2))))) <|
    .br (fun a9=>
    .gu fun a10=>
    .el fun x81 a11=>
    .rn 0 [68,80,88,155] [(81,sA x81)] [] [] (aj a9 (al (u2 (u2 (u2 (aj (k2 (aj a10 (AD (f:=sA) a11))) (u2 (u2 (al (k2 (show Nat.le 1 [iv c].length from(nL rfl)))))))))))) <|
    .el fun x87 a12=>
    .gu fun a13=>
    .gu fun a14=>
    .gu fun a15=>
    .gu fun a16=>
    .gu fun a17=>
    have c2:=Df x87 (pjO n c) a13 a14 a15;
    .rn 0 [68,80,88] [(87,sA x87)] [(90,hK c2 [] [])] [] (al (u2 (u2 (u2 (aj (k2 (aj a10 (AD (f:=sA) a12))) (u2 (u2 (aj (k2 (aj t7 (ak (al (c2))))) (u2 (u2 (aj (k2 (aj (show(List.map (iv) (Ad x87 (pjO n c))).length=(Ad x87 (pjO n c)).length by simp) (aj (aj (show nat_lit 1=nat_lit 1 from rfl) (show 1<=[iv x81.o].length by simp)) (aj a16 a17)))) s2))))))))))) <|
    .gu fun a18=>
    have c3:=J9 n (shO n q) (x81.o) (x81.o) (x54.i) x54 q a0 a18;
    .rn 1 [68,80,88] [] [(99,hK c3 [2,4,3,1] [])] [] (aj (u2 (aj t5 (u2 (u2 (u2 (aj (ak (k3 (aj t9 (aj t5 (ak (k5 (al (c3)))))))) s2)))))) (al (u2 (u2 s2)))) <|
    .br (fun a19=>
     .gu fun a20=>
     have c4:=Jz n (x81.o) (x81.o) (x54.i) q a0 a20;
     .rn 1 [68,80,88,205] [] [(108,hK c4 [1,4] [])] [] (aj a19 (aj (u2 (aj t3 (u2 (u2 (u2 (aj (ak (k3 (aj t9 (aj t3 (ak (k3 (al (c4)))))))) s2)))))) (al (u2 (u2 s2))))) <|
     .br (fun a21=>
     .rt [68,80,88,223] [] [] [] [] [] (aj (aj a21 (al t4)) (al t4)))
     (fun a21=>
     .gu fun a22=>
     .gu fun a23=>
     .gu fun a24=>
     .gu fun a25=>
     .gu fun a26=>
     .gu fun a27=>
     .gu fun a28=>
     .br (fun a29=>
      .no)
     (fun a29=>
      have c5:=Df x54 (0) (show(0:Int)<=(0:Int)/\(0:Int)<=(1000:Int) from ⟨(by first | exact nL rfl | decide),(by first | exact nL rfl | decide)⟩) a24 a25;
      have c6:=FC (Ad x87 (pjO n c)++[x81.o]) (List.take ((List.map (iv) (Ac n.nx (shW n.bs.length q.cl x81.o) x81.o x54.i).fst).length-Int.toNat 1) (List.drop (Int.toNat 1) (Ac n.nx (shW n.bs.length q.cl x81.o) x81.o x54.i).fst)) (Ad x54 0) a26;
      have c7:=H8 q (Ad x87 (pjO n c)++[x81.o]++List.take ((List.map (iv) (Ac n.nx (shW n.bs.length q.cl x81.o) x81.o x54.i).fst).length-Int.toNat 1) (List.drop (Int.toNat 1) (Ac n.nx (shW n.bs.length q.cl x81.o) x81.o x54.i).fst)++Ad x54 0) ((Ad x87 (pjO n c)++[x81.o]++List.take ((List.map (iv) (Ac n.nx (shW n.bs.length q.cl x81.o) x81.o x54.i).fst).length-Int.toNat 1) (List.drop (Int.toNat 1) (Ac n.nx (shW n.bs.length q.cl x81.o) x81.o x54.i).fst)++Ad x54 0).length) (show(Ad x87 (pjO n c)++[x81.o]++List.take ((List.map (iv) (Ac n.nx (shW n.bs.length q.cl x81.o) x81.o x54.i).fst).length-Int.toNat 1) (List.drop (Int.toNat 1) (Ac n.nx (shW n.bs.length q.cl x81.o) x81.o x54.i).fst)++Ad x54 0).length=(Ad x87 (pjO n c)++[x81.o]++List.take ((List.map (iv) (Ac n.nx (shW n.bs.length q.cl x81.o) x81.o x54.i).fst).length-Int.toNat 1) (List.drop (Int.toNat 1) (Ac n.nx (shW n.bs.length q.cl x81.o) x81.o x54.i).fst)++Ad x54 0).length from rfl) a26 a28 a29;
      .rt [68,80,88,222] [] [(117,hK c5 [] []),(119,hK c6 [9] [7,8]),(120,hK c7 [10] [])] [] [] [] (aj (aj a21 (al (u2 (u2 (u2 (aj (ak (aj a22 (aj (show(0:Int)<=(1:Int) from(by first | exact nL rfl | decide)) (aj a23 (aj (show iN (List.map (iv) (Ac n.nx (shW n.bs.length q.cl x81.o) x81.o x54.i).fst).length<=iN (List.map (iv) (Ac n.nx (shW n.bs.length q.cl x81.o) x81.o x54.i).fst).length by omega) (show iN (List.map (iv) (Ac n.nx (shW n.bs.length q.cl x81.o) x81.o x54.i).fst).length<=iN (List.map (iv) (Ac n.nx (shW n.bs.length q.cl x81.o) x81.o x54.i).fst).length by omega)))))) (u2 (aj (ak (aj t7 (ak (al (c5))))) (aj t4 (aj (k2 (aj (aj (show(List.map (iv) (Ad x87 (pjO n c))).length+[iv x81.o].length=(List.map (iv) (Ad x87 (pjO n c))++[iv x81.o]).length by simp) (ak (al (show(Ad x54 0).length=(List.map (iv) (Ad x54 0)).length by simp)))) (aj (show CT Try.prog 68 [some (bK [AV.lst (List.map (iv) (Ad x87 (pjO n c))++[iv x81.o]),AV.lst (List.take ((List.map (iv) (Ac n.nx (shW n.bs.length q.cl x81.o) x81.o x54.i).fst).length-Int.toNat 1) (List.drop (Int.toNat 1) (List.map (iv) (Ac n.nx (shW n.bs.length q.cl x81.o) x81.o x54.i).fst))),AV.lst (List.map (iv) (Ad x54 0))] 1)] [AV.sl 0 0 3] [some (bK [AV.any,AV.any,AV.any] 1),some (bK (List.map (iv) (Ad x87 (pjO n c)++[x81.o]++List.take ((List.map (iv) (Ac n.nx (shW n.bs.length q.cl x81.o) x81.o x54.i).fst).length-Int.toNat 1) (List.drop (Int.toNat 1) (Ac n.nx (shW n.bs.length q.cl x81.o) x81.o x54.i).fst)++Ad x54 0)) 1)] (AV.sl 1 0 (Ad x87 (pjO n c)++[x81.o]++List.take ((List.map (iv) (Ac n.nx (shW n.bs.length q.cl x81.o) x81.o x54.i).fst).length-Int.toNat 1) (List.drop (Int.toNat 1) (Ac n.nx (shW n.bs.length q.cl x81.o) x81.o x54.i).fst)++Ad x54 0).length) from CT.eqs (c6) (by first | (simp only[boL,SL,Ts,List.map_take,List.map_drop,List.map_replicate,List.nil_append];done) | (simp only[boL,SL,Ts,List.map_take,List.map_drop,List.map_replicate,List.nil_append];rfl) | (simp[gL,boL,lI,sA,bA];done) | (simp[gL,boL,lI,sA,bA];rfl) | (simp only[Ag,SL,Ts,Su,Sv];rfl)) (by first | (simp only[boL,SL,Ts,List.map_take,List.map_drop,List.map_replicate,List.nil_append];done) | (simp only[boL,SL,Ts,List.map_take,List.map_drop,List.map_replicate,List.nil_append];rfl) | (simp[gL,boL,lI,sA,bA];done) | (simp[gL,boL,lI,sA,bA];rfl) | (simp only[Ag,SL,Ts,Su,Sv];rfl))) a27))) (aj (k2 (aj t4 (k2 (al (c7))))) (u2 (u2 (u2 (u2 (u2 s2)))))))))))))))) (al t4)))))
    (fun a19=>
     .rn 0 [68,80,88,204] [] [] [] (aj a19 (al (u2 (u2 s2)))) <|
     .gu fun a20=>
     .gu fun a21=>
     .gu fun a22=>
     .gu fun a23=>
     .gu fun a24=>
     .gu fun a25=>
     .gu fun a26=>
     .br (fun a27=>
     .no)
     (fun a27=>
     have c4:=Df x54 (0) (show(0:Int)<=(0:Int)/\(0:Int)<=(1000:Int) from ⟨(by first | exact nL rfl | decide),(by first | exact nL rfl | decide)⟩) a22 a23;
     have c5:=FC (Ad x87 (pjO n c)++[x81.o]) (List.take ((List.map (iv) (Ac n.nx (shG n.bs.length (shO n q) q.cl x81.o x54.i) x81.o x54.i).fst).length-Int.toNat 1) (List.drop (Int.toNat 1) (Ac n.nx (shG n.bs.length (shO n q) q.cl x81.o x54.i) x81.o x54.i).fst)) (Ad x54 0) a24;
     have c6:=H8 q (Ad x87 (pjO n c)++[x81.o]++List.take ((List.map (iv) (Ac n.nx (shG n.bs.length (shO n q) q.cl x81.o x54.i) x81.o x54.i).fst).length-Int.toNat 1) (List.drop (Int.toNat 1) (Ac n.nx (shG n.bs.length (shO n q) q.cl x81.o x54.i) x81.o x54.i).fst)++Ad x54 0) ((Ad x87 (pjO n c)++[x81.o]++List.take ((List.map (iv) (Ac n.nx (shG n.bs.length (shO n q) q.cl x81.o x54.i) x81.o x54.i).fst).length-Int.toNat 1) (List.drop (Int.toNat 1) (Ac n.nx (shG n.bs.length (shO n q) q.cl x81.o x54.i) x81.o x54.i).fst)++Ad x54 0).length) (show(Ad x87 (pjO n c)++[x81.o]++List.take ((List.map (iv) (Ac n.nx (shG n.bs.length (shO n q) q.cl x81.o x54.i) x81.o x54.i).fst).length-Int.toNat 1) (List.drop (Int.toNat 1) (Ac n.nx (shG n.bs.length (shO n q) q.cl x81.o x54.i) x81.o x54.i).fst)++Ad x54 0).length=(Ad x87 (pjO n c)++[x81.o]++List.take ((List.map (iv) (Ac n.nx (shG n.bs.length (shO n q) q.cl x81.o x54.i) x81.o x54.i).fst).length-Int.toNat 1) (List.drop (Int.toNat 1) (Ac n.nx (shG n.bs.length (shO n q) q.cl x81.o x54.i) x81.o x54.i).fst)++Ad x54 0).length from rfl) a24 a26 a27;
     .rt [68,80,88,222] [] [(117,hK c4 [] []),(119,hK c5 [9] [7,8]),(120,hK c6 [10] [])] [] [] [] (aj (aj a19 (al (u2 (u2 (u2 (aj (ak (aj a20 (aj (show(0:Int)<=(1:Int) from(by first | exact nL rfl | decide)) (aj a21 (aj (show iN (List.map (iv) (Ac n.nx (shG n.bs.length (shO n q) q.cl x81.o x54.i) x81.o x54.i).fst).length<=iN (List.map (iv) (Ac n.nx (shG n.bs.length (shO n q) q.cl x81.o x54.i) x81.o x54.i).fst).length by omega) (show iN (List.map (iv) (Ac n.nx (shG n.bs.length (shO n q) q.cl x81.o x54.i) x81.o x54.i).fst).length<=iN (List.map (iv) (Ac n.nx (shG n.bs.length (shO n q) q.cl x81.o x54.i) x81.o x54.i).fst).length by omega)))))) (u2 (aj (ak (aj t7 (ak (al (c4))))) (aj t4 (aj (k2 (aj (aj (show(List.map (iv) (Ad x87 (pjO n c))).length+[iv x81.o].length=(List.map (iv) (Ad x87 (pjO n c))++[iv x81.o]).length by simp) (ak (al (show(Ad x54 0).length=(List.map (iv) (Ad x54 0)).length by simp)))) (aj (show CT Try.prog 68 [some (bK [AV.lst (List.map (iv) (Ad x87 (pjO n c))++[iv x81.o]),AV.lst (List.take ((List.map (iv) (Ac n.nx (shG n.bs.length (shO n q) q.cl x81.o x54.i) x81.o x54.i).fst).length-Int.toNat 1) (List.drop (Int.toNat 1) (List.map (iv) (Ac n.nx (shG n.bs.length (shO n q) q.cl x81.o x54.i) x81.o x54.i).fst))),AV.lst (List.map (iv) (Ad x54 0))] 1)] [AV.sl 0 0 3] [some (bK [AV.any,AV.any,AV.any] 1),some (bK (List.map (iv) (Ad x87 (pjO n c)++[x81.o]++List.take ((List.map (iv) (Ac n.nx (shG n.bs.length (shO n q) q.cl x81.o x54.i) x81.o x54.i).fst).length-Int.toNat 1) (List.drop (Int.toNat 1) (Ac n.nx (shG n.bs.length (shO n q) q.cl x81.o x54.i) x81.o x54.i).fst)++Ad x54 0)) 1)] (AV.sl 1 0 (Ad x87 (pjO n c)++[x81.o]++List.take ((List.map (iv) (Ac n.nx (shG n.bs.length (shO n q) q.cl x81.o x54.i) x81.o x54.i).fst).length-Int.toNat 1) (List.drop (Int.toNat 1) (Ac n.nx (shG n.bs.length (shO n q) q.cl x81.o x54.i) x81.o x54.i).fst)++Ad x54 0).length) from CT.eqs (c5) (by first | (simp only[boL,SL,Ts,List.map_take,List.map_drop,List.map_replicate,List.nil_append];done) | (simp only[boL,SL,Ts,List.map_take,List.map_drop,List.map_replicate,List.nil_append];rfl) | (simp[gL,boL,lI,sA,bA];done) | (simp[gL,boL,lI,sA,bA];rfl) | (simp only[Ag,SL,Ts,Su,Sv];rfl)) (by first | (simp only[boL,SL,Ts,List.map_take,List.map_drop,List.map_replicate,List.nil_append];done) | (simp only[boL,SL,Ts,List.map_take,List.map_drop,List.map_replicate,List.nil_append];rfl) | (simp[gL,boL,lI,sA,bA];done) | (simp[gL,boL,lI,sA,bA];rfl) | (simp only[Ag,SL,Ts,Su,Sv];rfl))) a25))) (aj (k2 (aj t4 (k2 (al (c6))))) (u2 (u2 (u2 (u2 (u2 s2)))))))))))))))) (al t4)))))
    (fun a9=>
    .gu fun a10=>
    have c2:=J9 n (shO n q) c c (x54.i) x54 q a0 a10;
    .rn 1 [68,80,88,154] [] [(99,hK c2 [2,4,3,1] [])] [] (aj a9 (aj (u2 (aj t5 (u2 (u2 (u2 (aj (ak (k3 (aj t9 (aj t5 (ak (k5 (al (c2)))))))) s2)))))) (al (u2 (u2 s2))))) <|
    .br (fun a11=>
     .gu fun a12=>
     have c3:=Jz n c c (x54.i) q a0 a12;
     .rn 1 [68,80,88,205] [] [(108,hK c3 [1,4] [])] [] (aj a11 (aj (u2 (aj t3 (u2 (u2 (u2 (aj (ak (k3 (aj t9 (aj t3 (ak (k3 (al (c3)))))))) s2)))))) (al (u2 (u2 s2))))) <|
     .br (fun a13=>
     .rt [68,80,88,223] [] [] [] [] [] (aj (aj a13 (al t4)) (al t4)))
     (fun a13=>
     .gu fun a14=>
     .gu fun a15=>
     .gu fun a16=>
     .gu fun a17=>
     .gu fun a18=>
     .gu fun a19=>
     .gu fun a20=>
     .br (fun a21=>
      .no)
     (fun a21=>
      have c4:=Df x54 (0) (show(0:Int)<=(0:Int)/\(0:Int)<=(1000:Int) from ⟨(by first | exact nL rfl | decide),(by first | exact nL rfl | decide)⟩) a16 a17;
      have c5:=FC ([]) (List.take ((List.map (iv) (Ac n.nx (shW n.bs.length q.cl c) c x54.i).fst).length-Int.toNat 1) (List.drop (Int.toNat 1) (Ac n.nx (shW n.bs.length q.cl c) c x54.i).fst)) (Ad x54 0) a18;
      have c6:=H8 q ([]++List.take ((List.map (iv) (Ac n.nx (shW n.bs.length q.cl c) c x54.i).fst).length-Int.toNat 1) (List.drop (Int.toNat 1) (Ac n.nx (shW n.bs.length q.cl c) c x54.i).fst)++Ad x54 0) (([]++List.take ((List.map (iv) (Ac n.nx (shW n.bs.length q.cl c) c x54.i).fst).length-Int.toNat 1) (List.drop (Int.toNat 1) (Ac n.nx (shW n.bs.length q.cl c) c x54.i).fst)++Ad x54 0).length) (show([]++List.take ((List.map (iv) (Ac n.nx (shW n.bs.length q.cl c) c x54.i).fst).length-Int.toNat 1) (List.drop (Int.toNat 1) (Ac n.nx (shW n.bs.length q.cl c) c x54.i).fst)++Ad x54 0).length=([]++List.take ((List.map (iv) (Ac n.nx (shW n.bs.length q.cl c) c x54.i).fst).length-Int.toNat 1) (List.drop (Int.toNat 1) (Ac n.nx (shW n.bs.length q.cl c) c x54.i).fst)++Ad x54 0).length from rfl) a18 a20 a21;
      .rt [68,80,88,222] [(118,AV.tup [])] [(117,hK c4 [] []),(119,hK c5 [6] [5]),(120,hK c6 [7] [])] [] [] [] (aj (aj a13 (al (u2 (u2 (u2 (aj (ak (aj a14 (aj (show(0:Int)<=(1:Int) from(by first | exact nL rfl | decide)) (aj a15 (aj (show iN (List.map (iv) (Ac n.nx (shW n.bs.length q.cl c) c x54.i).fst).length<=iN (List.map (iv) (Ac n.nx (shW n.bs.length q.cl c) c x54.i).fst).length by omega) (show iN (List.map (iv) (Ac n.nx (shW n.bs.length q.cl c) c x54.i).fst).length<=iN (List.map (iv) (Ac n.nx (shW n.bs.length q.cl c) c x54.i).fst).length by omega)))))) (u2 (aj (ak (aj t7 (ak (al (c4))))) (aj t4 (aj (k2 (aj (k2 (al (show(Ad x54 0).length=(List.map (iv) (Ad x54 0)).length by simp))) (aj (show CT Try.prog 68 [some (bK [AV.lst [],AV.lst (List.take ((List.map (iv) (Ac n.nx (shW n.bs.length q.cl c) c x54.i).fst).length-Int.toNat 1) (List.drop (Int.toNat 1) (List.map (iv) (Ac n.nx (shW n.bs.length q.cl c) c x54.i).fst))),AV.lst (List.map (iv) (Ad x54 0))] 1)] [AV.sl 0 0 3] [some (bK [AV.any,AV.any,AV.any] 1),some (bK (List.map (iv) ([]++List.take ((List.map (iv) (Ac n.nx (shW n.bs.length q.cl c) c x54.i).fst).length-Int.toNat 1) (List.drop (Int.toNat 1) (Ac n.nx (shW n.bs.length q.cl c) c x54.i).fst)++Ad x54 0)) 1)] (AV.sl 1 0 ([]++List.take ((List.map (iv) (Ac n.nx (shW n.bs.length q.cl c) c x54.i).fst).length-Int.toNat 1) (List.drop (Int.toNat 1) (Ac n.nx (shW n.bs.length q.cl c) c x54.i).fst)++Ad x54 0).length) from CT.eqs (c5) (by first | (simp only[boL,SL,Ts,List.map_take,List.map_drop,List.map_replicate,List.nil_append];done) | (simp only[boL,SL,Ts,List.map_take,List.map_drop,List.map_replicate,List.nil_append];rfl) | (simp[gL,boL,lI,sA,bA];done) | (simp[gL,boL,lI,sA,bA];rfl) | (simp only[Ag,SL,Ts,Su,Sv];rfl)) (by first | (simp only[boL,SL,Ts,List.map_take,List.map_drop,List.map_replicate,List.nil_append];done) | (simp only[boL,SL,Ts,List.map_take,List.map_drop,List.map_replicate,List.nil_append];rfl) | (simp[gL,boL,lI,sA,bA];done) | (simp[gL,boL,lI,sA,bA];rfl) | (simp only[Ag,SL,Ts,Su,Sv];rfl))) a19))) (aj (k2 (aj t4 (k2 (al (c6))))) (u2 (u2 (u2 (u2 (u2 s2)))))))))))))))) (al t4)))))
    (fun a11=>
     .rn 0 [68,80,88,204] [] [] [] (aj a11 (al (u2 (u2 s2)))) <|
     .gu fun a12=>
     .gu fun a13=>
     .gu fun a14=>
     .gu fun a15=>
     .gu fun a16=>
     .gu fun a17=>
     .gu fun a18=>
     .br (fun a19=>
     .no)
     (fun a19=>
     have c3:=Df x54 (0) (show(0:Int)<=(0:Int)/\(0:Int)<=(1000:Int) from ⟨(by first | exact nL rfl | decide),(by first | exact nL rfl | decide)⟩) a14 a15;
     have c4:=FC ([]) (List.take ((List.map (iv) (Ac n.nx (shG n.bs.length (shO n q) q.cl c x54.i) c x54.i).fst).length-Int.toNat 1) (List.drop (Int.toNat 1) (Ac n.nx (shG n.bs.length (shO n q) q.cl c x54.i) c x54.i).fst)) (Ad x54 0) a16;
     have c5:=H8 q ([]++List.take ((List.map (iv) (Ac n.nx (shG n.bs.length (shO n q) q.cl c x54.i) c x54.i).fst).length-Int.toNat 1) (List.drop (Int.toNat 1) (Ac n.nx (shG n.bs.length (shO n q) q.cl c x54.i) c x54.i).fst)++Ad x54 0) (([]++List.take ((List.map (iv) (Ac n.nx (shG n.bs.length (shO n q) q.cl c x54.i) c x54.i).fst).length-Int.toNat 1) (List.drop (Int.toNat 1) (Ac n.nx (shG n.bs.length (shO n q) q.cl c x54.i) c x54.i).fst)++Ad x54 0).length) (show([]++List.take ((List.map (iv) (Ac n.nx (shG n.bs.length (shO n q) q.cl c x54.i) c x54.i).fst).length-Int.toNat 1) (List.drop (Int.toNat 1) (Ac n.nx (shG n.bs.length (shO n q) q.cl c x54.i) c x54.i).fst)++Ad x54 0).length=([]++List.take ((List.map (iv) (Ac n.nx (shG n.bs.length (shO n q) q.cl c x54.i) c x54.i).fst).length-Int.toNat 1) (List.drop (Int.toNat 1) (Ac n.nx (shG n.bs.length (shO n q) q.cl c x54.i) c x54.i).fst)++Ad x54 0).length from rfl) a16 a18 a19;
     .rt [68,80,88,222] [(118,AV.tup [])] [(117,hK c3 [] []),(119,hK c4 [6] [5]),(120,hK c5 [7] [])] [] [] [] (aj (aj a11 (al (u2 (u2 (u2 (aj (ak (aj a12 (aj (show(0:Int)<=(1:Int) from(by first | exact nL rfl | decide)) (aj a13 (aj (show iN (List.map (iv) (Ac n.nx (shG n.bs.length (shO n q) q.cl c x54.i) c x54.i).fst).length<=iN (List.map (iv) (Ac n.nx (shG n.bs.length (shO n q) q.cl c x54.i) c x54.i).fst).length by omega) (show iN (List.map (iv) (Ac n.nx (shG n.bs.length (shO n q) q.cl c x54.i) c x54.i).fst).length<=iN (List.map (iv) (Ac n.nx (shG n.bs.length (shO n q) q.cl c x54.i) c x54.i).fst).length by omega)))))) (u2 (aj (ak (aj t7 (ak (al (c3))))) (aj t4 (aj (k2 (aj (k2 (al (show(Ad x54 0).length=(List.map (iv) (Ad x54 0)).length by simp))) (aj (show CT Try.prog 68 [some (bK [AV.lst [],AV.lst (List.take ((List.map (iv) (Ac n.nx (shG n.bs.length (shO n q) q.cl c x54.i) c x54.i).fst).length-Int.toNat 1) (List.drop (Int.toNat 1) (List.map (iv) (Ac n.nx (shG n.bs.length (shO n q) q.cl c x54.i) c x54.i).fst))),AV.lst (List.map (iv) (Ad x54 0))] 1)] [AV.sl 0 0 3] [some (bK [AV.any,AV.any,AV.any] 1),some (bK (List.map (iv) ([]++List.take ((List.map (iv) (Ac n.nx (shG n.bs.length (shO n q) q.cl c x54.i) c x54.i).fst).length-Int.toNat 1) (List.drop (Int.toNat 1) (Ac n.nx (shG n.bs.length (shO n q) q.cl c x54.i) c x54.i).fst)++Ad x54 0)) 1)] (AV.sl 1 0 ([]++List.take ((List.map (iv) (Ac n.nx (shG n.bs.length (shO n q) q.cl c x54.i) c x54.i).fst).length-Int.toNat 1) (List.drop (Int.toNat 1) (Ac n.nx (shG n.bs.length (shO n q) q.cl c x54.i) c x54.i).fst)++Ad x54 0).length) from CT.eqs (c4) (by first | (simp only[boL,SL,Ts,List.map_take,List.map_drop,List.map_replicate,List.nil_append];done) | (simp only[boL,SL,Ts,List.map_take,List.map_drop,List.map_replicate,List.nil_append];rfl) | (simp[gL,boL,lI,sA,bA];done) | (simp[gL,boL,lI,sA,bA];rfl) | (simp only[Ag,SL,Ts,Su,Sv];rfl)) (by first | (simp only[boL,SL,Ts,List.map_take,List.map_drop,List.map_replicate,List.nil_append];done) | (simp only[boL,SL,Ts,List.map_take,List.map_drop,List.map_replicate,List.nil_append];rfl) | (simp[gL,boL,lI,sA,bA];done) | (simp[gL,boL,lI,sA,bA];rfl) | (simp only[Ag,SL,Ts,Su,Sv];rfl))) a17))) (aj (k2 (aj t4 (k2 (al (c5))))) (u2 (u2 (u2 (u2 (u2 s2)))))))))))))))) (al t4)))))))))))) (by kernel_rfl)
theorem leF_ct(n:Ab)(q:Ae)(c d:Int)(r:Ret)(h:Ax (leFStep n q c d) (LG n q c d) r):CT Try.prog 30 ([]) ([Ag n,sgA q,.int .i64 c,.int .i64 d]) r.1 r.2:=
 CT.mach (fn:=Try.f30) (c:=zB Try.f30) (S:=leFSt n q c d) (hd:=leFHd) Try.func30 (by kernel_rfl) (nL rfl)
  (fun s o ho=>match s,ho with
   | x,_=>x.elim)
  (fun o ho=>leFEn_ok n q c d o ho) h
theorem chkZ_ok{n:Ab}(hv:Aw n){sh:List Bool}(hl:sh.length=n.bs.length){a b:Int}(ha:0<=a/\a<(n.bs.length:Int))(hb:0<=b/\b<(n.bs.length:Int)):C2 n.nx sh a b=0:=by
 have h:=hv.chk
 have hn:=hv.nx
 unfold DG at h
 unfold C2
 split at h
 .cases h
 .rename_i h1
  split at h
  .cases h
  .rename_i h2
   rw[Sx h1,Sx h2,Sx (by omega)]
theorem Jt{n:Ab}(hv:Aw n){sh:List Bool}(hl:sh.length=n.bs.length){a b:Int}(ha:0<=a/\a<(n.bs.length:Int))(hb:0<=b/\b<(n.bs.length:Int)):(Ac n.nx sh a b).1=A8 n.nx sh a.toNat b.toNat:=by
 unfold Ac A8 Jr
 rw[Sw (chkZ_ok hv hl ha hb)]
 split<;>rfl
theorem Fy(p:List Int):List.take ((List.map (AV.int i64) p).length-Int.toNat 1) (List.drop (Int.toNat 1) p)=p.tail:=by
 rw[show Int.toNat 1=1 from rfl,List.drop_one,SB,List.take_of_length_le (by rw[List.length_tail];exact SJ _)]
theorem Fb{p:List Int}:(iN (List.map (AV.int i64) p).length==0)=decide (p=[]):=by
 cases p with
 | nil=>rfl
 | cons x r=>rw[Su,Td];simp[iN];omega
theorem NM{n:Ab}(hv:Aw n)(hrw:Rows n.nx){sh:List Bool}(hl:sh.length=n.bs.length){a b:Nat}(ha:a<n.bs.length)(hb:b<n.bs.length):(A8 n.nx sh a b).length<=100:=by
 have hn:=hv.nx
 have h24:=hv.nb24
 rcases KQ hv hrw hl ha hb with h | ⟨_,h⟩
 .rw[h];exact SK _
 .have:=h.len
  have hD:=(E4 (okg hv hrw hl).1 (goal:=b) (by omega)).bnd a (by omega)
  unfold dsS at this
  omega
theorem G5{n:Ab}(hv:Aw n)(hrw:Rows n.nx){s:Ae}{blk goal:Int}(hb:0<=blk/\blk<(n.bs.length:Int))(hg:0<=goal/\goal<(n.bs.length:Int)):(AF n s blk goal).length<=100:=by
 unfold AF
 split
 .exact NM hv hrw (IW _ _ _) (by omega) (by omega)
 .exact NM hv hrw (JD _ _ _ _) (by omega) (by omega)
theorem Fr(l:List Int):∀(blk:Blk),blk∈[Blk.mk [AV.any,AV.any,AV.any] 1 true true none,Blk.mk (List.map (AV.int .i64) l) 1 true true none]->B7 blk:=fun blk hb=>by
 rcases S1.1 hb with rfl | hb
 .intro e he c hc
  simp only[S1,List.not_mem_nil,or_false,or_self] at he
  subst he
  rw[Sn.1 hc];rfl
 .exact immI l blk hb
def Ed(n:Ab)(s:Ae)(c sp:Int):List Int×Bool:=if BD n s c sp=0 then Cv n s c sp else ([],false)
theorem PA{n:Ab}{s:Ae}{c sp:Int}(h:BD n s c sp=0):Ck n s=true/\(0<=c/\c<(Au n:Int))/\0<=sp/\sp<(n.ss.length:Int):=by
 unfold BD at h
 split at h
 .rename_i h1
  split at h
  .rename_i h2;exact⟨h1,h2⟩
  .cases h
 .cases h
theorem leg_bad{n:Ab}{s:Ae}{c d:Int}(hrw:Rows n.nx)(h:BD n s c d≠0):CT Try.prog 30 [] [Ag n,sgA s,.int .i64 c,.int .i64 d] [] (.tup [.nils,.bool false,.int .i64 (BD n s c d)]):=by
 refine OK n s c d ([],_) (.val ?_)
 unfold JX shE shO
 rw[Aa hrw]
 unfold BD at h ⊢
 cases hs:Ck n s with
 | false=>rw[Sx (by simp),Sx (by simp)];rfl
 | true=>
  rw[hs,Sw rfl] at h
  rw[Sw rfl,Sw rfl,Sw rfl,Ai (by rfl)]
  have hlc:=(HA hs).2.1.lc
  have hlen:=Gz s
  split at h
  .exact absurd rfl h
  .rename_i h2
   rw[Sx h2]
   by_cases h3:c<0
   .rw[Am (AE h3)]
   by_cases h4:(Au n:Int)<=c
   .rw[Ai (Ar h3),Am (AE (by rw[Ct];simp only[iN];omega))]
   by_cases h5:d<0
   .rw[Ai (Ar h3),Ai (Ar (by rw[Ct];simp only[iN];omega)),Am (AE h5)]
   .rw[Ai (Ar h3),Ai (Ar (by rw[Ct];simp only[iN];omega)),Ai (Ar h5),Am (AE (by rw[SB];simp only[iN];omega))]
theorem CT.ren{f:FuncId}{hin hout:List (Option Blk)}{args:List AV}{res:AV}{st1:St}(h:CT Try.prog f hin args hout res)(hr:Ren hin.length ⟨1,[(0,res)],hout⟩ st1):CT Try.prog f hin args st1.hp (AX.Ak st1.fr 0):=by
 intro φ A w vs hA hh ho hl hv
 refine(h φ A w vs hA hh ho hl hv).mono fun e w' ⟨v,φ',he,C⟩=>?_
 have hrel:Rel A w.heap.size hin.length φ' ⟨1,[(0,res)],hout⟩ {tmps:=#[v],defers:=[]} w':=by
  refine⟨rfl,rfl,fun s=>?_,C.heap,C.out,C.keep.size,C.own⟩
  cases s with
  | zero=>exact C.val
  | succ s=>exact .imm _ _ (.unk _)
 obtain⟨φ2,r2,hm,tr⟩:=hr A w.heap.size φ' _ w' C.len hrel
 refine⟨v,φ2,he,⟨fun b hb=>(tr.par b hb).trans (C.par b hb),C.keep,fun r hr2=>?_,r2.heap,r2.slot 0,r2.out,hm,r2.own⟩⟩
 rcases tr.mutd r hr2 with h1 | h1
 .exact C.mutd r h1
 .exact .inr (Tf C.keep.size h1)
theorem CT.frz{f:FuncId}{args:List AV}{es:List AV}{n:Nat}{b:Bool}{x:Int}(h:CT Try.prog f [] args [some (Blk.mk es 1 true true none)] (.tup [.sl 0 0 n,.bool b,.int .i64 x]))(hn:n=es.length):CT Try.prog f [] args [] (.tup [.lst es,.bool b,.int .i64 x]):=
 CT.ren h (Ren.of (st':=⟨1,[(0,.tup [.lst es,.bool b,.int .i64 x])],[]⟩) [] [0] [0] (p:=(n=es.length/\True/\True/\True)/\True) rfl ⟨⟨hn,trivial,trivial,trivial⟩,trivial⟩ rfl rfl rfl)
def lrT(n:Ab)(s:Ae)(c d:Int):Ret:=match A3 n s c d with
 | none=>([],.tup [.nils,.bool false,.int .i64 0])
 | some l=>([some (Blk.mk (l.map (AV.int .i64)) 1 true true none)],.tup [.sl 0 0 l.length,.bool true,.int .i64 0])
theorem leg_T{n:Ab}{s:Ae}{c d:Int}(hrw:Rows n.nx)(h:BD n s c d=0)(hpas:∀l,A3 n s c d=some l->BB s.cl l=true):CT Try.prog 30 [] [Ag n,sgA s,.int .i64 c,.int .i64 d] (lrT n s c d).1 (lrT n s c d).2:=by
 obtain⟨hsb,hc,hd⟩:=PA h
 obtain⟨hv,hS,l1,l2,l3,l4,l5⟩:=HA hsb
 have hlc:=hS.lc
 have hlen:=Gz s
 have hce:=hv.cel
 have h24:=hv.nb24
 have hck:=K9 hv hc.1 hc.2
 have hs:=Bb s0 (show d.toNat<n.ss.length by omega)
 have gi:=(hv.goodT _ _ hs).hi
 have gb:=hv.sb hs
 have hR:=@LP n hv hrw s c d hc hd
 have hslt:=D5 (n.ss.getD d.toNat s0) 0
 unfold lrT
 have k:=OK n s c d
 unfold JX shE shO plO pjO at k
 rw[Aa hrw,Sw hsb,Sw hsb,Ai (by rfl),Ai (Ar (by omega)),Ai (Ar (by rw[Ct];simp only[iN];omega)),Ai (Ar (by omega)),Ai (Ar (by rw[SB];simp only[iN];omega)),Aa hd.1,AU hs,Sw hck,Sw hck] at k
 have eG:∀blk:Int,0<=blk/\blk<(n.bs.length:Int)->(Ac n.nx (shG n.bs.length (CC s) s.cl blk (n.ss.getD d.toNat s0).i) blk (n.ss.getD d.toNat s0).i).1=A8 n.nx (shP n s blk (n.ss.getD d.toNat s0).i) blk.toNat (n.ss.getD d.toNat s0).i.toNat:=fun blk hb=>Jt hv (JD n s blk _) hb (by omega)
 have eW:∀blk:Int,0<=blk/\blk<(n.bs.length:Int)->(Ac n.nx (shW n.bs.length s.cl blk) blk (n.ss.getD d.toNat s0).i).1=A8 n.nx (shQ n s blk) blk.toNat (n.ss.getD d.toNat s0).i.toNat:=fun blk hb=>Jt hv (IW n s blk) hb (by omega)
 generalize hx:n.ss.getD d.toNat s0=x at *
 cases hp:plF n c with
 | none=>
  have hb:=FM hv hc.1 hc.2 hp
  have hR0:A3 n s c d=if AF n s c x.i=[] then none else some ((AF n s c x.i).tail++Ad x 0):=by unfold A3;rw[hp];simp only[hx]
  have hPl:=G5 hv hrw (s:=s) ⟨hc.1,hb⟩ (goal:=x.i) (by omega)
  rw[K8 hp,Ai (S8.2 (by omega)),Ai (by rfl),Aa ⟨by omega,by omega,by omega⟩,eG c ⟨hc.1,hb⟩,Fb] at k
  by_cases hP:A8 n.nx (shP n s c x.i) c.toNat x.i.toNat=[]
  .have eL:AF n s c x.i=A8 n.nx (shQ n s c) c.toNat x.i.toNat:=by unfold AF;rw[Sw hP]
   rw[Am (AE hP),Aa ⟨by omega,by omega⟩,eW c ⟨hc.1,hb⟩,Fb,<-eL] at k
   by_cases hQ:AF n s c x.i=[]
   .rw[hR0,Sw hQ]
    rw[Am (AE hQ)] at k
    exact k ([],_) (.ret _)
   .have hr:A3 n s c d=some ([]++(AF n s c x.i).tail++Ad x 0):=by rw[hR0,Sx hQ];rfl
    have hrg:=hR hr
    rw[<-hlc] at hrg
    have hlen2:([]++(AF n s c x.i).tail++Ad x 0).length<=1000000:=by simp only[SR,Te,List.length_tail,hslt];omega
    rw[Ai (Ar hQ),Aa (BV _),Aa (by simp only[iN,SB];have:=List.length_pos_iff.2 hQ;omega),Aa (by omega),Aa (by omega),Fy,Aa hlen2,Aa (Fr _),Aa hrg,Am (hpas _ hr)] at k
    rw[hr]
    exact k ([_],_) (.ret _)
  .have eL:AF n s c x.i=A8 n.nx (shP n s c x.i) c.toNat x.i.toNat:=by unfold AF;rw[Sx hP]
   rw[Ai (Ar hP),<-eL] at k
   rw[<-eL] at hP
   have hr:A3 n s c d=some ([]++(AF n s c x.i).tail++Ad x 0):=by rw[hR0,Sx hP];rfl
   have hrg:=hR hr
   rw[<-hlc] at hrg
   have hlen2:([]++(AF n s c x.i).tail++Ad x 0).length<=1000000:=by simp only[SR,Te,List.length_tail,hslt];omega
   rw[Aa (BV _),Aa (by simp only[iN,SB];have:=List.length_pos_iff.2 hP;omega),Aa (by omega),Aa (by omega),Fy,Aa hlen2,Aa (Fr _),Aa hrg,Am (hpas _ hr)] at k
   rw[hr]
   exact k ([_],_) (.ret _)
 | some i=>
  obtain⟨t,ht,hg,h1,h2,hil⟩:=EN hp
  have gt:=(hv.goodT _ _ ht).ho
  have tb:=hv.sb ht
  obtain⟨e1,e2⟩:=LF hp
  rw[hg] at e2
  have hst:=D5 t (c-t.b+1)
  rw[e1,e2] at k
  by_cases hid:(i:Int)=d
  .have hxt:x=t:=by rw[<-hx,<-hg];congr 1;omega
   have hr:A3 n s c d=some (Ad x (c-t.b+1)):=by unfold A3;rw[hp];simp only[hg,hxt];rw[Sw hid]
   have hrg:=hR hr
   rw[<-hlc] at hrg
   rw[Am (beq_iff_eq.2 hid),Aa ⟨by omega,by omega⟩,Aa (by omega),Aa (by omega),Aa (by rw[hxt];rw[hst];omega),Aa hrg,Am (hpas _ hr)] at k
   rw[hr]
   exact k ([_],_) (.ret _)
  have hR0:A3 n s c d=if AF n s t.o x.i=[] then none else some (Ad t (c-t.b+1)++([t.o]++((AF n s t.o x.i).tail++Ad x 0))):=by unfold A3;rw[hp];simp only[hx,hg];rw[Sx hid]
  have hPl:=G5 hv hrw (s:=s) (blk:=t.o) (by omega) (goal:=x.i) (by omega)
  have hto:(0:Int)<=t.o/\t.o<(n.bs.length:Int):=by omega
  rw[Ai (S8.2 hid),Am (AE (by omega)),Aa (by omega),SH,AU ht,AU ht,Aa ⟨by omega,by omega⟩,Aa (by omega),Aa (by omega),Aa (by simp only[SB,Td,Te,hst];omega),Aa (by simp only[SB,Td,Te,hst];omega),Aa ⟨by omega,by omega,by omega⟩,eG t.o hto,Fb] at k
  by_cases hP:A8 n.nx (shP n s t.o x.i) t.o.toNat x.i.toNat=[]
  .have eL:AF n s t.o x.i=A8 n.nx (shQ n s t.o) t.o.toNat x.i.toNat:=by unfold AF;rw[Sw hP]
   rw[Am (AE hP),Aa ⟨by omega,by omega⟩,eW t.o hto,Fb,<-eL] at k
   by_cases hQ:AF n s t.o x.i=[]
   .rw[hR0,Sw hQ]
    rw[Am (AE hQ)] at k
    exact k ([],_) (.ret _)
   .have hr:A3 n s c d=some (Ad t (c-t.b+1)++[t.o]++(AF n s t.o x.i).tail++Ad x 0):=by rw[hR0,Sx hQ];simp only[List.append_assoc]
    have hrg:=hR hr
    rw[<-hlc] at hrg
    have hlen2:(Ad t (c-t.b+1)++[t.o]++(AF n s t.o x.i).tail++Ad x 0).length<=1000000:=by simp only[SR,Td,Te,List.length_tail,hslt,hst];omega
    rw[Ai (Ar hQ),Aa (BV _),Aa (by simp only[iN,SB];have:=List.length_pos_iff.2 hQ;omega),Aa (by omega),Aa (by omega),Fy,Aa hlen2,Aa (Fr _),Aa hrg,Am (hpas _ hr)] at k
    rw[hr]
    exact k ([_],_) (.ret _)
  .have eL:AF n s t.o x.i=A8 n.nx (shP n s t.o x.i) t.o.toNat x.i.toNat:=by unfold AF;rw[Sx hP]
   rw[Ai (Ar hP),<-eL] at k
   rw[<-eL] at hP
   have hr:A3 n s c d=some (Ad t (c-t.b+1)++[t.o]++(AF n s t.o x.i).tail++Ad x 0):=by rw[hR0,Sx hP];simp only[List.append_assoc]
   have hrg:=hR hr
   rw[<-hlc] at hrg
   have hlen2:(Ad t (c-t.b+1)++[t.o]++(AF n s t.o x.i).tail++Ad x 0).length<=1000000:=by simp only[SR,Td,Te,List.length_tail,hslt,hst];omega
   rw[Aa (BV _),Aa (by simp only[iN,SB];have:=List.length_pos_iff.2 hP;omega),Aa (by omega),Aa (by omega),Fy,Aa hlen2,Aa (Fr _),Aa hrg,Am (hpas _ hr)] at k
   rw[hr]
   exact k ([_],_) (.ret _)
theorem leg_F{n:Ab}{s:Ae}{c d:Int}(hrw:Rows n.nx)(h:BD n s c d=0)(hpas:∀l,A3 n s c d=some l->BB s.cl l=false):CT Try.prog 30 [] [Ag n,sgA s,.int .i64 c,.int .i64 d] [] (.tup [.nils,.bool false,.int .i64 0]):=by
 obtain⟨hsb,hc,hd⟩:=PA h
 obtain⟨hv,hS,l1,l2,l3,l4,l5⟩:=HA hsb
 have hlc:=hS.lc
 have hlen:=Gz s
 have hce:=hv.cel
 have h24:=hv.nb24
 have hck:=K9 hv hc.1 hc.2
 have hs:=Bb s0 (show d.toNat<n.ss.length by omega)
 have gi:=(hv.goodT _ _ hs).hi
 have gb:=hv.sb hs
 have hR:=@LP n hv hrw s c d hc hd
 have hslt:=D5 (n.ss.getD d.toNat s0) 0
 have k:=leF_ct n s c d
 unfold LG shE shO plO pjO at k
 rw[Aa hrw,Sw hsb,Sw hsb,Ai (by rfl),Ai (Ar (by omega)),Ai (Ar (by rw[Ct];simp only[iN];omega)),Ai (Ar (by omega)),Ai (Ar (by rw[SB];simp only[iN];omega)),Aa hd.1,AU hs,Sw hck,Sw hck] at k
 have eG:∀blk:Int,0<=blk/\blk<(n.bs.length:Int)->(Ac n.nx (shG n.bs.length (CC s) s.cl blk (n.ss.getD d.toNat s0).i) blk (n.ss.getD d.toNat s0).i).1=A8 n.nx (shP n s blk (n.ss.getD d.toNat s0).i) blk.toNat (n.ss.getD d.toNat s0).i.toNat:=fun blk hb=>Jt hv (JD n s blk _) hb (by omega)
 have eW:∀blk:Int,0<=blk/\blk<(n.bs.length:Int)->(Ac n.nx (shW n.bs.length s.cl blk) blk (n.ss.getD d.toNat s0).i).1=A8 n.nx (shQ n s blk) blk.toNat (n.ss.getD d.toNat s0).i.toNat:=fun blk hb=>Jt hv (IW n s blk) hb (by omega)
 generalize hx:n.ss.getD d.toNat s0=x at *
 cases hp:plF n c with
 | none=>
  have hb:=FM hv hc.1 hc.2 hp
  have hR0:A3 n s c d=if AF n s c x.i=[] then none else some ((AF n s c x.i).tail++Ad x 0):=by unfold A3;rw[hp];simp only[hx]
  have hPl:=G5 hv hrw (s:=s) ⟨hc.1,hb⟩ (goal:=x.i) (by omega)
  rw[K8 hp,Ai (S8.2 (by omega)),Ai (by rfl),Aa ⟨by omega,by omega,by omega⟩,eG c ⟨hc.1,hb⟩,Fb] at k
  by_cases hP:A8 n.nx (shP n s c x.i) c.toNat x.i.toNat=[]
  .have eL:AF n s c x.i=A8 n.nx (shQ n s c) c.toNat x.i.toNat:=by unfold AF;rw[Sw hP]
   rw[Am (AE hP),Aa ⟨by omega,by omega⟩,eW c ⟨hc.1,hb⟩,Fb,<-eL] at k
   by_cases hQ:AF n s c x.i=[]
   .rw[Am (AE hQ)] at k
    exact k ([],_) (.ret _)
   .have hr:A3 n s c d=some ([]++(AF n s c x.i).tail++Ad x 0):=by rw[hR0,Sx hQ];rfl
    have hrg:=hR hr
    rw[<-hlc] at hrg
    have hlen2:([]++(AF n s c x.i).tail++Ad x 0).length<=1000000:=by simp only[SR,Te,List.length_tail,hslt];omega
    rw[Ai (Ar hQ),Aa (BV _),Aa (by simp only[iN,SB];have:=List.length_pos_iff.2 hQ;omega),Aa (by omega),Aa (by omega),Fy,Aa hlen2,Aa (Fr _),Aa hrg,Ai (hpas _ hr)] at k
    exact k ([],_) (.ret _)
  .have eL:AF n s c x.i=A8 n.nx (shP n s c x.i) c.toNat x.i.toNat:=by unfold AF;rw[Sx hP]
   rw[Ai (Ar hP),<-eL] at k
   rw[<-eL] at hP
   have hr:A3 n s c d=some ([]++(AF n s c x.i).tail++Ad x 0):=by rw[hR0,Sx hP];rfl
   have hrg:=hR hr
   rw[<-hlc] at hrg
   have hlen2:([]++(AF n s c x.i).tail++Ad x 0).length<=1000000:=by simp only[SR,Te,List.length_tail,hslt];omega
   rw[Aa (BV _),Aa (by simp only[iN,SB];have:=List.length_pos_iff.2 hP;omega),Aa (by omega),Aa (by omega),Fy,Aa hlen2,Aa (Fr _),Aa hrg,Ai (hpas _ hr)] at k
   exact k ([],_) (.ret _)
 | some i=>
  obtain⟨t,ht,hg,h1,h2,hil⟩:=EN hp
  have gt:=(hv.goodT _ _ ht).ho
  have tb:=hv.sb ht
  obtain⟨e1,e2⟩:=LF hp
  rw[hg] at e2
  have hst:=D5 t (c-t.b+1)
  rw[e1,e2] at k
  by_cases hid:(i:Int)=d
  .have hxt:x=t:=by rw[<-hx,<-hg];congr 1;omega
   have hr:A3 n s c d=some (Ad x (c-t.b+1)):=by unfold A3;rw[hp];simp only[hg,hxt];rw[Sw hid]
   have hrg:=hR hr
   rw[<-hlc] at hrg
   rw[Am (beq_iff_eq.2 hid),Aa ⟨by omega,by omega⟩,Aa (by omega),Aa (by omega),Aa (by rw[hxt];rw[hst];omega),Aa hrg,Ai (hpas _ hr)] at k
   exact k ([],_) (.ret _)
  have hR0:A3 n s c d=if AF n s t.o x.i=[] then none else some (Ad t (c-t.b+1)++([t.o]++((AF n s t.o x.i).tail++Ad x 0))):=by unfold A3;rw[hp];simp only[hx,hg];rw[Sx hid]
  have hPl:=G5 hv hrw (s:=s) (blk:=t.o) (by omega) (goal:=x.i) (by omega)
  have hto:(0:Int)<=t.o/\t.o<(n.bs.length:Int):=by omega
  rw[Ai (S8.2 hid),Am (AE (by omega)),Aa (by omega),SH,AU ht,AU ht,Aa ⟨by omega,by omega⟩,Aa (by omega),Aa (by omega),Aa (by simp only[SB,Td,Te,hst];omega),Aa (by simp only[SB,Td,Te,hst];omega),Aa ⟨by omega,by omega,by omega⟩,eG t.o hto,Fb] at k
  by_cases hP:A8 n.nx (shP n s t.o x.i) t.o.toNat x.i.toNat=[]
  .have eL:AF n s t.o x.i=A8 n.nx (shQ n s t.o) t.o.toNat x.i.toNat:=by unfold AF;rw[Sw hP]
   rw[Am (AE hP),Aa ⟨by omega,by omega⟩,eW t.o hto,Fb,<-eL] at k
   by_cases hQ:AF n s t.o x.i=[]
   .rw[Am (AE hQ)] at k
    exact k ([],_) (.ret _)
   .have hr:A3 n s c d=some (Ad t (c-t.b+1)++[t.o]++(AF n s t.o x.i).tail++Ad x 0):=by rw[hR0,Sx hQ];simp only[List.append_assoc]
    have hrg:=hR hr
    rw[<-hlc] at hrg
    have hlen2:(Ad t (c-t.b+1)++[t.o]++(AF n s t.o x.i).tail++Ad x 0).length<=1000000:=by simp only[SR,Td,Te,List.length_tail,hslt,hst];omega
    rw[Ai (Ar hQ),Aa (BV _),Aa (by simp only[iN,SB];have:=List.length_pos_iff.2 hQ;omega),Aa (by omega),Aa (by omega),Fy,Aa hlen2,Aa (Fr _),Aa hrg,Ai (hpas _ hr)] at k
    exact k ([],_) (.ret _)
  .have eL:AF n s t.o x.i=A8 n.nx (shP n s t.o x.i) t.o.toNat x.i.toNat:=by unfold AF;rw[Sx hP]
   rw[Ai (Ar hP),<-eL] at k
   rw[<-eL] at hP
   have hr:A3 n s c d=some (Ad t (c-t.b+1)++[t.o]++(AF n s t.o x.i).tail++Ad x 0):=by rw[hR0,Sx hP];simp only[List.append_assoc]
   have hrg:=hR hr
   rw[<-hlc] at hrg
   have hlen2:(Ad t (c-t.b+1)++[t.o]++(AF n s t.o x.i).tail++Ad x 0).length<=1000000:=by simp only[SR,Td,Te,List.length_tail,hslt,hst];omega
   rw[Aa (BV _),Aa (by simp only[iN,SB];have:=List.length_pos_iff.2 hP;omega),Aa (by omega),Aa (by omega),Fy,Aa hlen2,Aa (Fr _),Aa hrg,Ai (hpas _ hr)] at k
   exact k ([],_) (.ret _)
theorem leg_y{n:Ab}{s:Ae}{c d:Int}(hrw:Rows n.nx)(h:BD n s c d=0)(hy:(Cv n s c d).2=true):CT Try.prog 30 [] [Ag n,sgA s,.int .i64 c,.int .i64 d] [some (Blk.mk ((Cv n s c d).1.map (AV.int .i64)) 1 true true none)] (.tup [.sl 0 0 (Cv n s c d).1.length,.bool true,.int .i64 0]):=by
 obtain⟨hl,hp⟩:=Jl.1 hy
 have k:=leg_T hrw h fun l hl'=>by rw[hl] at hl';cases hl';exact hp
 unfold lrT at k
 rw[hl] at k
 exact k
theorem leg_n{n:Ab}{s:Ae}{c d:Int}(hrw:Rows n.nx)(h:BD n s c d=0)(hy:(Cv n s c d).2=false):CT Try.prog 30 [] [Ag n,sgA s,.int .i64 c,.int .i64 d] [] (.tup [.nils,.bool false,.int .i64 0]):=by
 cases hr:A3 n s c d with
 | none=>
  have k:=leg_T hrw h fun l hl=>by rw[hr] at hl;cases hl
  unfold lrT at k
  rw[hr] at k
  exact k
 | some l=>
  have hp:BB s.cl l=false:=by
   cases hp:BB s.cl l with
   | false=>rfl
   | true=>
    unfold Cv at hy
    rw[hr] at hy
    simp only[hp] at hy
    cases hy
  exact leg_F hrw h fun l' hl=>by rw[hr] at hl;cases hl;exact hp
theorem Lw{n:Ab}(cl:List Bool)(bw pe:List Int)(c d:Int)(hrw:Rows n.nx):CT Try.prog 30 [] [Ag n,sgA ⟨cl,bw,pe⟩,.int .i64 c,.int .i64 d] [] (.tup [lI (Ed n ⟨cl,bw,pe⟩ c d).1,.bool (Ed n ⟨cl,bw,pe⟩ c d).2,.int .i64 (BD n ⟨cl,bw,pe⟩ c d)]):=by
 generalize hs:(⟨cl,bw,pe⟩:Ae)=s
 unfold Ed
 by_cases h:BD n s c d=0
 .rw[Sw h,h]
  cases hy:(Cv n s c d).2 with
  | true=>exact CT.frz (leg_y hrw h hy) (SB ..).symm
  | false=>
   rw[Jl.2 hy]
   exact CT.w2 (res:=.tup [.nils,.bool false,.int .i64 0]) (leg_n hrw h hy)
 .rw[Sx h]
  exact CT.w2 (res:=.tup [.nils,.bool false,.int .i64 (BD n s c d)]) (leg_bad hrw h)
theorem ks_b{n:Ab}(hv:Aw n){s:Ae}(h:BP n s):Ck n s=true:=PD.2 ⟨hv,h⟩
theorem wrD{a:Int}(h1:0<=a)(h2:a<=1000):i64.wrap (a-1)=a-1:=DP (by omega) (by omega)
theorem rdInts{n:Nat}{es:List AV}(h:∀x∈es,ShV Try.prog n 3 x):∃L:List Int,es=L.map (AV.int .i64):=by
 induction es with
 | nil=>exact⟨[],rfl⟩
 | cons x es ih=>
  obtain⟨L,rfl⟩:=ih fun y hy=>h y (SP _ hy)
  obtain⟨i,_,rfl⟩:=(h x (by simp)).intD Try.underlying3
  exact⟨i::L,rfl⟩
theorem PE(n:Ab):∃s:Ae,s=FQ n:=⟨_,rfl⟩
@[irreducible] def nsJ(n:Ab):Ae:=Classical.choose (PE n)
theorem Ky(n:Ab):nsJ n=FQ n:=by unfold nsJ;exact Tb (PE n)
@[irreducible] def anJ(n:Ab)(s:Ae)(x:Int):Ae:=anO n s x
@[irreducible] def clJ(s:Ae)(c d:Int):Ae:=clS s c d
@[irreducible] def nlJ(c:Int):Aq:=nlS c
theorem n19_j(c:Int):CT Try.prog 17 [] [.int .i64 c] [] (.tup [lkA (nlJ c),.int .i64 (nlE c)]):=by unfold nlJ;exact n19_c c
@[irreducible] def owJ(l:Aq)(r c:Int):Aq:=owO l r c
theorem own_j(ow:List Int)(qu:List (List Int))(r c:Int):CT Try.prog 19 [] [lkA ⟨ow,qu⟩,.int .i64 r,.int .i64 c] [] (.tup [lkA (owJ ⟨ow,qu⟩ r c),.int .i64 (owE ⟨ow,qu⟩ r c)]):=by unfold owJ;exact own_c ow qu r c
def kBs:List AL:=[⟨ByteArray.mk #[97],0,0⟩,⟨ByteArray.mk #[98],0,0⟩,⟨ByteArray.mk #[99],0,0⟩,⟨ByteArray.mk #[101],0,0⟩]
def kNN:Ab:=⟨kBs,[[1],[2],[3],[0]],[⟨ByteArray.mk #[100],true,2,3,2,4⟩],[],1,0,0,1⟩
theorem KZ:Aw kNN:=by
 refine⟨by kernel_rfl,rfl,by decide,by decide,by kernel_rfl,fun i b h=>?_,fun i s h=>?_,by decide,⟨4,⟨_,Sn.2 rfl,rfl,by decide,by decide⟩⟩,fun i c h=>by cases h⟩
 .match i,h with
  | 0,h=>cases h;exact⟨by kernel_rfl,by kernel_rfl,by kernel_rfl,by kernel_rfl⟩
  | 1,h=>cases h;exact⟨by kernel_rfl,by kernel_rfl,by kernel_rfl,by kernel_rfl⟩
  | 2,h=>cases h;exact⟨by kernel_rfl,by kernel_rfl,by kernel_rfl,by kernel_rfl⟩
  | 3,h=>cases h;exact⟨by kernel_rfl,by kernel_rfl,by kernel_rfl,by kernel_rfl⟩
 .match i,h with
  | 0,h=>cases h;exact⟨by kernel_rfl,by kernel_rfl,by kernel_rfl,by kernel_rfl,by kernel_rfl⟩
theorem MB:Rows kNN.nx:=by
 intro v hv
 match v,hv with
 | 0,_=>decide
 | 1,_=>decide
 | 2,_=>decide
 | 3,_=>decide
def kSg:Ae:=⟨[false,false,false,false,false,false],[-1,-1,-1,-1,-1,-1],[]⟩
theorem M4:FQ kNN=kSg:=by kernel_rfl
theorem kSg_ok:BP kNN kSg:=M4 ▸ Nf kNN
theorem net_less:Bw (.agg [.lst (kBs.map bA),.lst (gL [[1],[2],[3],[0]]),.lst ([⟨ByteArray.mk #[100],true,2,3,2,4⟩].map sA),.nils,.int .i64 1,.int .i64 0,.int .i64 0,.int .i64 1]) (Ag kNN):=by
 refine Bw.agg (cs:=[.lst (kBs.map bA),.lst (gL [[1],[2],[3],[0]]),.lst ([⟨ByteArray.mk #[100],true,2,3,2,4⟩].map sA),.nils,.int .i64 1,.int .i64 0,.int .i64 0,.int .i64 1]) (cs':=[.lst (kBs.map bA),.lst (gL [[1],[2],[3],[0]]),.lst ([⟨ByteArray.mk #[100],true,2,3,2,4⟩].map sA),.lst [],.int .i64 1,.int .i64 0,.int .i64 0,.int .i64 1]) rfl fun i c h=>?_
 match i,h with
 | 0,h=>cases h;exact⟨_,rfl,.refl _⟩
 | 1,h=>cases h;exact⟨_,rfl,.refl _⟩
 | 2,h=>cases h;exact⟨_,rfl,.refl _⟩
 | 3,h=>cases h;exact⟨_,rfl,.nilL⟩
 | 4,h=>cases h;exact⟨_,rfl,.refl _⟩
 | 5,h=>cases h;exact⟨_,rfl,.refl _⟩
 | 6,h=>cases h;exact⟨_,rfl,.refl _⟩
 | 7,h=>cases h;exact⟨_,rfl,.refl _⟩
theorem LB{f:FuncId}{xs:List AV}{res:AV}(h:CT Try.prog f [] (Ag kNN::xs) [] res):CT Try.prog f [] (.agg [.lst (kBs.map bA),.lst (gL [[1],[2],[3],[0]]),.lst ([⟨ByteArray.mk #[100],true,2,3,2,4⟩].map sA),.nils,.int .i64 1,.int .i64 0,.int .i64 0,.int .i64 1]::xs) [] res:=by
 refine CT.lessArgs h rfl fun i a ha=>?_
 cases i with
 | zero=>cases ha;exact⟨_,rfl,net_less⟩
 | succ i=>exact⟨a,ha,.refl a⟩
theorem r20n_k(bs:List AL)(h:bs=kBs):CT Try.prog 31 [] [.agg [.lst (bs.map bA),.lst (gL [[1],[2],[3],[0]]),.lst ([⟨ByteArray.mk #[100],true,2,3,2,4⟩].map sA),.nils,.int .i64 1,.int .i64 0,.int .i64 0,.int .i64 1]] [] (.tup [sgA ⟨[false,false,false,false,false,false],[-1,-1,-1,-1,-1,-1],[]⟩,.int .i64 0]):=by
 subst h
 have h:=O6 (n:=kNN) MB
 have e1:nsS kNN=kSg:=by unfold nsS;rw[Cz.2 KZ];exact M4
 have e2:nsE kNN=0:=by unfold nsE;rw[Cz.2 KZ];rfl
 rw[e1,e2] at h
 exact LB h
theorem OZ{c:Int}(h:0<=c/\c<6):BD kNN kSg c 0=0:=by
 unfold BD
 rw[Sw (ks_b KZ kSg_ok),Sw]
 have e:Au kNN=6:=by kernel_rfl
 rw[e]
 exact⟨h,by decide,by decide⟩
theorem leg_k1(bs:List AL)(h:bs=kBs):CT Try.prog 30 [] [.agg [.lst (bs.map bA),.lst (gL [[1],[2],[3],[0]]),.lst ([⟨ByteArray.mk #[100],true,2,3,2,4⟩].map sA),.nils,.int .i64 1,.int .i64 0,.int .i64 0,.int .i64 1],sgA ⟨[false,false,false,false,false,false],[-1,-1,-1,-1,-1,-1],[]⟩,.int .i64 0,.int .i64 0] [] (.tup [lI [1,2,4,5],.bool true,.int .i64 0]):=by
 subst h
 have h:=Lw (n:=kNN) kSg.cl kSg.bw kSg.pe 0 0 MB
 have e:BD kNN kSg 0 0=0:=OZ ⟨by decide,by decide⟩
 have e2:Ed kNN kSg 0 0=([1,2,4,5],true):=by unfold Ed;rw[Sw e];kernel_rfl
 rw[show (⟨kSg.cl,kSg.bw,kSg.pe⟩:Ae)=kSg from rfl,e,e2] at h
 exact LB h
theorem leg_k2(bs:List AL)(h:bs=kBs):CT Try.prog 30 [] [.agg [.lst (bs.map bA),.lst (gL [[1],[2],[3],[0]]),.lst ([⟨ByteArray.mk #[100],true,2,3,2,4⟩].map sA),.nils,.int .i64 1,.int .i64 0,.int .i64 0,.int .i64 1],sgA ⟨[false,false,false,false,false,false],[-1,-1,-1,-1,-1,-1],[]⟩,.int .i64 4,.int .i64 0] [] (.tup [lI [5],.bool true,.int .i64 0]):=by
 subst h
 have h:=Lw (n:=kNN) kSg.cl kSg.bw kSg.pe 4 0 MB
 have e:BD kNN kSg 4 0=0:=OZ ⟨by decide,by decide⟩
 have e2:Ed kNN kSg 4 0=([5],true):=by unfold Ed;rw[Sw e];kernel_rfl
 rw[show (⟨kSg.cl,kSg.bw,kSg.pe⟩:Ae)=kSg from rfl,e,e2] at h
 exact LB h
theorem si_k1:CT Try.prog 22 [] [lI [1,2,4,5],lI [1,2,4,5]] [] (.bool true):=PB _ (by decide)
theorem si_k2:CT Try.prog 22 [] [lI [5],lI [5]] [] (.bool true):=PB _ (by decide)
inductive CF where
 | l0
 | l1
 | l2
 | l3
 | l4
def C7:CF->St
 | .l0  =>St.mk 75 [(1,AV.ptr 0 0 0),(2,iv 0)] [some (bK [AV.agg [AV.nils,AV.lst [AV.lst [iv 1],AV.lst [iv 2],AV.lst [iv 3],AV.lst [iv 0]],AV.lst [AV.agg [AV.str (ByteArray.mk #[100]),bV true,iv 2,iv 3,iv 2,iv 4]],AV.nils,iv 1,iv 0,iv 0,iv 1]] 8)]
 | .l1  =>St.mk 75 [(1,AV.ptr 0 0 0),(2,iv 1)] [some (Blk.mk [AV.agg [AV.sl 1 0 1,AV.lst [AV.lst [iv 1],AV.lst [iv 2],AV.lst [iv 3],AV.lst [iv 0]],AV.lst [AV.agg [AV.str (ByteArray.mk #[100]),bV true,iv 2,iv 3,iv 2,iv 4]],AV.nils,iv 1,iv 0,iv 0,iv 1]] 8 false true none),some (bK [AV.agg [AV.str ((ByteArray.mk #[97,98,99,101]).extract (Int.toNat 0) (Int.toNat 1)),iv 0,iv 0]] 3)]
 | .l2  =>St.mk 75 [(1,AV.ptr 0 0 0),(2,iv 2)] [some (Blk.mk [AV.agg [AV.sl 1 0 2,AV.lst [AV.lst [iv 1],AV.lst [iv 2],AV.lst [iv 3],AV.lst [iv 0]],AV.lst [AV.agg [AV.str (ByteArray.mk #[100]),bV true,iv 2,iv 3,iv 2,iv 4]],AV.nils,iv 1,iv 0,iv 0,iv 1]] 8 false true none),some (bK [AV.agg [AV.str ((ByteArray.mk #[97,98,99,101]).extract (Int.toNat 0) (Int.toNat 1)),iv 0,iv 0],AV.agg [AV.str ((ByteArray.mk #[97,98,99,101]).extract (Int.toNat 1) (Int.toNat 2)),iv 0,iv 0]] 3)]
 | .l3  =>St.mk 75 [(1,AV.ptr 0 0 0),(2,iv 3)] [some (Blk.mk [AV.agg [AV.sl 1 0 3,AV.lst [AV.lst [iv 1],AV.lst [iv 2],AV.lst [iv 3],AV.lst [iv 0]],AV.lst [AV.agg [AV.str (ByteArray.mk #[100]),bV true,iv 2,iv 3,iv 2,iv 4]],AV.nils,iv 1,iv 0,iv 0,iv 1]] 8 false true none),some (bK [AV.agg [AV.str ((ByteArray.mk #[97,98,99,101]).extract (Int.toNat 0) (Int.toNat 1)),iv 0,iv 0],AV.agg [AV.str ((ByteArray.mk #[97,98,99,101]).extract (Int.toNat 1) (Int.toNat 2)),iv 0,iv 0],AV.agg [AV.str ((ByteArray.mk #[97,98,99,101]).extract (Int.toNat 2) (Int.toNat 3)),iv 0,iv 0]] 3)]
 | .l4  =>St.mk 75 [(1,AV.ptr 0 0 0),(2,iv 4)] [some (bK [AV.agg [AV.lst [AV.agg [AV.str ((ByteArray.mk #[97,98,99,101]).extract (Int.toNat 0) (Int.toNat 1)),iv 0,iv 0],AV.agg [AV.str ((ByteArray.mk #[97,98,99,101]).extract (Int.toNat 1) (Int.toNat 2)),iv 0,iv 0],AV.agg [AV.str ((ByteArray.mk #[97,98,99,101]).extract (Int.toNat 2) (Int.toNat 3)),iv 0,iv 0],AV.agg [AV.str ((ByteArray.mk #[97,98,99,101]).extract (Int.toNat 3) (Int.toNat 4)),iv 0,iv 0]],AV.lst [AV.lst [iv 1],AV.lst [iv 2],AV.lst [iv 3],AV.lst [iv 0]],AV.lst [AV.agg [AV.str (ByteArray.mk #[100]),bV true,iv 2,iv 3,iv 2,iv 4]],AV.nils,iv 1,iv 0,iv 0,iv 1]] 8)]
def F7:CF->Nat
 | .l0  =>0
 | .l1  =>0
 | .l2  =>0
 | .l3  =>0
 | .l4  =>0
def k24En:Option (CF⊕Ret):=
 some (.inl (.l0))
def KP:Option (CF⊕Ret):=
 some (.inl (.l1))
def Mr:Option (CF⊕Ret):=
 some (.inl (.l2))
def LQ:Option (CF⊕Ret):=
 some (.inl (.l3))
def Ku:Option (CF⊕Ret):=
 some (.inl (.l4))
def Jk:Option (CF⊕Ret):=
 gu ([AL.mk ((ByteArray.mk #[(97:UInt8),(98:UInt8),(99:UInt8),(101:UInt8)]).extract (Int.toNat (0:Int)) (Int.toNat (1:Int))) (0:Int) (0:Int),AL.mk ((ByteArray.mk #[(97:UInt8),(98:UInt8),(99:UInt8),(101:UInt8)]).extract (Int.toNat (1:Int)) (Int.toNat (2:Int))) (0:Int) (0:Int),AL.mk ((ByteArray.mk #[(97:UInt8),(98:UInt8),(99:UInt8),(101:UInt8)]).extract (Int.toNat (2:Int)) (Int.toNat (3:Int))) (0:Int) (0:Int),AL.mk ((ByteArray.mk #[(97:UInt8),(98:UInt8),(99:UInt8),(101:UInt8)]).extract (Int.toNat (3:Int)) (Int.toNat (4:Int))) (0:Int) (0:Int)]=kBs) <|
 some (.inr ([],bV true))
def Oq:CF->Option (CF⊕Ret)
 | .l0  =>KP
 | .l1  =>Mr
 | .l2  =>LQ
 | .l3  =>Ku
 | .l4  =>Jk
theorem k24En_ok(o:CF⊕Ret)(h:k24En=some o):Arr Try.prog Try.f27 0 (C7) F7 (zB Try.f27) [] {n:=Try.f27.ntmps,fr:=AJ 0 ([]),hp:=([])} o:=
 AR.ok h mix (
 .lp [] [(11,AV.lst []),(12,AV.lst []),(13,AV.lst []),(14,AV.lst []),(15,AV.lst []),(17,AV.lst [])] [] [] [] [0] [1,2] (aj (u2 (aj (ak (k3 (aj t5 (ak (u2 (ak (aj t4 (ak (al (k2 n11)))))))))) s2)) t4)) (by kernel_rfl)
theorem k24S0_ok(o:CF⊕Ret)(h:KP=some o):Arr Try.prog Try.f27 0 (C7) F7 (Az Try.f27 0) (.rnd (Az Try.f27 0)::AN Try.f27 0) (C7 (.l0)) o:=
 AR.ok h mix (
 .lp [] [] [] [] [] [0,2] [1,2] (aj (aj (u2 s2) (ak (aj (u2 (u2 (u2 (u2 (u2 (aj (k2 (aj (show(0:Int)<=(0:Int) from(by first | exact nL rfl | decide)) (aj (show(0:Int)<=(1:Int) from(by first | exact nL rfl | decide)) (show(1:Int)<=(4:Int) from(by first | exact nL rfl | decide))))) (u2 (u2 (aj (k2 (aj (aj (show nat_lit 3=nat_lit 3 from rfl) (show nat_lit 1<=nat_lit 1 from(by first | exact nL rfl | decide))) (aj (show nat_lit 1<=nat_lit 9223372036854775807 from(by first | exact nL rfl | decide)) (show nat_lit 32<=nat_lit 140737488355328 from(by first | exact nL rfl | decide))))) (u2 (al t3))))))))))) (al (u2 (u2 s2)))))) (k2 (aj (al t9) t2)))) (by kernel_rfl)
theorem k24S1_ok(o:CF⊕Ret)(h:Mr=some o):Arr Try.prog Try.f27 0 (C7) F7 (Az Try.f27 0) (.rnd (Az Try.f27 0)::AN Try.f27 0) (C7 (.l1)) o:=
 AR.ok h mix (
 .lp [] [] [] [] [] [0,3] [1,2] (aj (aj (u2 s2) (ak (aj (u2 (u2 (u2 (u2 (u2 (aj (k2 (aj (show(0:Int)<=(1:Int) from(by first | exact nL rfl | decide)) (aj (show(1:Int)<=(2:Int) from(by first | exact nL rfl | decide)) (show(2:Int)<=(4:Int) from(by first | exact nL rfl | decide))))) (u2 (u2 (aj (k2 (aj (show nat_lit 1=nat_lit 1 from rfl) (aj (aj (show nat_lit 3=nat_lit 3 from rfl) (show nat_lit 1<=nat_lit 1 from(by first | exact nL rfl | decide))) (aj (show nat_lit 2<=nat_lit 9223372036854775807 from(by first | exact nL rfl | decide)) (show nat_lit 64<=nat_lit 140737488355328 from(by first | exact nL rfl | decide)))))) (u2 (al t3))))))))))) (al (u2 (u2 s2)))))) (k2 (aj (al t9) t2)))) (by kernel_rfl)
theorem k24S2_ok(o:CF⊕Ret)(h:LQ=some o):Arr Try.prog Try.f27 0 (C7) F7 (Az Try.f27 0) (.rnd (Az Try.f27 0)::AN Try.f27 0) (C7 (.l2)) o:=
 AR.ok h mix (
 .lp [] [] [] [] [] [0,3] [1,2] (aj (aj (u2 s2) (ak (aj (u2 (u2 (u2 (u2 (u2 (aj (k2 (aj (show(0:Int)<=(2:Int) from(by first | exact nL rfl | decide)) (aj (show(2:Int)<=(3:Int) from(by first | exact nL rfl | decide)) (show(3:Int)<=(4:Int) from(by first | exact nL rfl | decide))))) (u2 (u2 (aj (k2 (aj (show nat_lit 2=nat_lit 2 from rfl) (aj (aj (show nat_lit 3=nat_lit 3 from rfl) (show nat_lit 1<=nat_lit 1 from(by first | exact nL rfl | decide))) (aj (show nat_lit 3<=nat_lit 9223372036854775807 from(by first | exact nL rfl | decide)) (show nat_lit 96<=nat_lit 140737488355328 from(by first | exact nL rfl | decide)))))) (u2 (al t3))))))))))) (al (u2 (u2 s2)))))) (k2 (aj (al t9) t2)))) (by kernel_rfl)
theorem k24S3_ok(o:CF⊕Ret)(h:Ku=some o):Arr Try.prog Try.f27 0 (C7) F7 (Az Try.f27 0) (.rnd (Az Try.f27 0)::AN Try.f27 0) (C7 (.l3)) o:=
 AR.ok h mix (
 .lp [] [] [] [] [] [0,1000003] [1,2] (aj (aj (u2 s2) (ak (aj (u2 (u2 (u2 (u2 (u2 (aj (k2 (aj (show(0:Int)<=(3:Int) from(by first | exact nL rfl | decide)) (aj (show(3:Int)<=(4:Int) from(by first | exact nL rfl | decide)) (show(4:Int)<=(4:Int) from(by first | exact nL rfl | decide))))) (u2 (u2 (aj (k2 (aj (show nat_lit 3=nat_lit 3 from rfl) (aj (aj (show nat_lit 3=nat_lit 3 from rfl) (show nat_lit 1<=nat_lit 1 from(by first | exact nL rfl | decide))) (aj (show nat_lit 4<=nat_lit 9223372036854775807 from(by first | exact nL rfl | decide)) (show nat_lit 128<=nat_lit 140737488355328 from(by first | exact nL rfl | decide)))))) (u2 (al t3))))))))))) (al (u2 (u2 s2)))))) (k2 (al (al (aj (show nat_lit 4=nat_lit 4 from rfl) t8)))))) (by kernel_rfl)
theorem k24S4_ok(o:CF⊕Ret)(h:Jk=some o):Arr Try.prog Try.f27 0 (C7) F7 (Az Try.f27 0) (.rnd (Az Try.f27 0)::AN Try.f27 0) (C7 (.l4)) o:=
 AR.ok h mix (
 .rn 0 [] [] [] [] (al (u2 s2)) <|
 .gu fun a0=>
 have c0:=r20n_k ([AL.mk ((ByteArray.mk #[97,98,99,101]).extract (Int.toNat 0) (Int.toNat 1)) 0 0,AL.mk ((ByteArray.mk #[97,98,99,101]).extract (Int.toNat 1) (Int.toNat 2)) 0 0,AL.mk ((ByteArray.mk #[97,98,99,101]).extract (Int.toNat 2) (Int.toNat 3)) 0 0,AL.mk ((ByteArray.mk #[97,98,99,101]).extract (Int.toNat 3) (Int.toNat 4)) 0 0]) a0;
 have c1:=leg_k1 ([AL.mk ((ByteArray.mk #[97,98,99,101]).extract (Int.toNat 0) (Int.toNat 1)) 0 0,AL.mk ((ByteArray.mk #[97,98,99,101]).extract (Int.toNat 1) (Int.toNat 2)) 0 0,AL.mk ((ByteArray.mk #[97,98,99,101]).extract (Int.toNat 2) (Int.toNat 3)) 0 0,AL.mk ((ByteArray.mk #[97,98,99,101]).extract (Int.toNat 3) (Int.toNat 4)) 0 0]) a0;
 have c2:=leg_k2 ([AL.mk ((ByteArray.mk #[97,98,99,101]).extract (Int.toNat 0) (Int.toNat 1)) 0 0,AL.mk ((ByteArray.mk #[97,98,99,101]).extract (Int.toNat 1) (Int.toNat 2)) 0 0,AL.mk ((ByteArray.mk #[97,98,99,101]).extract (Int.toNat 2) (Int.toNat 3)) 0 0,AL.mk ((ByteArray.mk #[97,98,99,101]).extract (Int.toNat 3) (Int.toNat 4)) 0 0]) a0;
 have c3:=si_k1;
 have c4:=si_k2;
 .rt [] [(67,AV.lst []),(72,AV.lst [])] [(36,hK c0 [] []),(42,hK c1 [] []),(49,hK c2 [] []),(68,hK c3 [] []),(73,hK c4 [] [])] [] [] [] (aj (ak (aj (u2 (aj (ak (aj t9 (al (c0)))) (u2 (u2 (u2 (ak (aj (k2 n11) s2))))))) (aj (u2 (u2 (aj (k2 (aj t9 (aj t4 (k2 (al (c1)))))) (u2 (u2 (u2 (u2 (u2 (u2 s2))))))))) (aj (u2 (u2 (aj (k2 (aj t9 (aj t4 (k2 (al (c2)))))) (u2 (u2 (u2 (u2 (u2 (u2 s2))))))))) (al (u2 (u2 (u2 (aj t3 (aj t3 (aj t3 (u2 (aj t3 (aj t3 (u2 (aj t3 (aj t3 (u2 (aj t3 (u2 (aj (k5 (al (c3))) (aj t3 (u2 (aj t3 (u2 (aj (k5 (al (c4))) (aj t3 s2))))))))))))))))))))))))))) t2)) (by kernel_rfl)
theorem k24_ct(r:Ret)(h:Ax (Oq) (k24En) r):CT Try.prog 27 ([]) ([]) r.1 r.2:=
 CT.mach (fn:=Try.f27) (c:=zB Try.f27) (S:=C7) (hd:=F7) Try.func27 (by kernel_rfl) (nL rfl)
  (fun s o ho=>match s,ho with
   | .l0,ho=>k24S0_ok  o ho
   | .l1,ho=>k24S1_ok  o ho
   | .l2,ho=>k24S2_ok  o ho
   | .l3,ho=>k24S3_ok  o ho
   | .l4,ho=>k24S4_ok  o ho
  )
  (fun o ho=>k24En_ok o ho) h
theorem kn24_c:CT Try.prog 27 [] [] [] (.bool true):=by
 refine k24_ct ([],_) ?_
 show Ax Oq (some (.inl .l0)) ([],.bool true)
 refine .to (show KP=some (.inl .l1) from rfl) (.to (show Mr=some (.inl .l2) from rfl) (.to (show LQ=some (.inl .l3) from rfl) (.to (show Ku=some (.inl .l4) from rfl) ?_)))
 refine .to (show Jk=_ from ?_) (.ret _)
 unfold Jk
 rw[Aa (by kernel_rfl)]
@[irreducible] def lgL(n:Ab)(s:Ae)(c d:Int):List Int:=(Ed n s c d).1
@[irreducible] def lgB(n:Ab)(s:Ae)(c d:Int):Bool:=(Ed n s c d).2
theorem leg_j{n:Ab}(cl:List Bool)(bw pe:List Int)(c d:Int)(hrw:Rows n.nx):CT Try.prog 30 [] [Ag n,sgA ⟨cl,bw,pe⟩,.int .i64 c,.int .i64 d] [] (.tup [lI (lgL n ⟨cl,bw,pe⟩ c d),.bool (lgB n ⟨cl,bw,pe⟩ c d),.int .i64 (BD n ⟨cl,bw,pe⟩ c d)]):=by
 unfold lgL lgB;exact Lw cl bw pe c d hrw
theorem r20n_j{n:Ab}(hv:Aw n)(hrw:Rows n.nx):CT Try.prog 31 [] [Ag n] [] (.tup [sgA (nsJ n),.int .i64 0]):=by
 have h:=O6 (n:=n) hrw
 have e1:nsS n=FQ n:=by unfold nsS;rw[Cz.2 hv];rfl
 have e2:nsE n=0:=by unfold nsE;rw[Cz.2 hv];rfl
 rw[e1,e2] at h
 rw[Ky]
 exact h
theorem ask_c(ow:List Int)(qu:List (List Int))(r c:Int):CT Try.prog 61 [] [lkA ⟨ow,qu⟩,.int .i64 r,.int .i64 c] [] (.tup [lkA (asO ⟨ow,qu⟩ r c),.int .i64 (asE ⟨ow,qu⟩ r c)]):=by
 generalize hs:(⟨ow,qu⟩:Aq)=l
 have k:=ask_ct l r c
 unfold MI at k
 unfold asO
 have hbad:asE l r c≠0->(.tup [lkA (if asE l r c=0 then asS l r c else ⟨[],[]⟩),.int .i64 (asE l r c)]:AV)=wk2 (.tup [.agg [.nils,.nils],.int .i64 (asE l r c)]):=fun h=>by rw[Sx h];rfl
 by_cases h1:k9E l r c=0
 case neg=>
  have e:asE l r c=k9E l r c:=by unfold asE;rw[Sx h1]
  rw[hbad (by rw[e];exact h1),e]
  exact CT.w2 (k ([],_) (.val (by rw[Am (Tl.2 h1)])))
 obtain⟨hb,hr,hc0,hc1⟩:=I1 h1
 obtain⟨hlen,h48⟩:=Pj hb
 have hrows:=M1 hb
 have eE:asE l r c=if 0<=atZ l.qu r\/l.ow.getD c.toNat 0=r then 24 else 0:=by unfold asE;rw[Sw h1]
 have hrw:∀x∈l.qu,x.length<=1000:=fun x hx=>by have:=hrows x hx;omega
 have hd:0<=c/\c.toNat<l.qu.length:=⟨hc0,by omega⟩
 have hq8:(l.qu.getD c.toNat []).length<=8:=hrows _ (SC (Bb ([]:List Int) hd.2))
 rw[h1,Ai (by rfl),Aa (by omega),Aa hrw] at k
 by_cases h2:0<=atZ l.qu r
 .have e:asE l r c=24:=by rw[eE,Sw (.inl h2)]
  rw[hbad (by rw[e];decide),e]
  exact CT.w2 (k ([],_) (.val (by rw[Am (AE h2)])))
 rw[Ai (Ar h2),Aa hc0,AU (Bb 0 (show c.toNat<l.ow.length by omega))] at k
 by_cases h3:l.ow.getD c.toNat 0=r
 .have e:asE l r c=24:=by rw[eE,Sw (.inr h3)]
  rw[hbad (by rw[e];decide),e]
  exact CT.w2 (k ([],_) (.val (by rw[Am (beq_iff_eq.2 h3)])))
 have e:asE l r c=0:=by rw[eE,Sx (by rintro(h | h)<;>contradiction)]
 rw[Sw e,e]
 have hA:(l.qu.take c.toNat).length=c.toNat:=by rw[S0];omega
 have hB:(l.qu.drop (c.toNat+1)).length=l.qu.length-(c.toNat+1):=Sl
 have t4:tau [] 2 2=4:=rfl
 have m1:List.map (DB (tau [] 2)) (AG (l.qu.take c.toNat) 2 (l.qu.getD c.toNat []).length (l.qu.drop (c.toNat+1)))=AG (l.qu.take c.toNat) 4 (l.qu.getD c.toNat []).length (l.qu.drop (c.toNat+1)):=N0 ..
 rw[m1,Ai (S8.2 h3),Aa (by omega),Aa hd,Aa (show ∀e∈AG (l.qu.take c.toNat) 4 (l.qu.getD c.toNat []).length (l.qu.drop (c.toNat+1)),∀c∈e.cells,Bd 5 3 c=true from JE (by decide) _ _ _),
  Aa (by simp only[iN];omega),Aa (by rw[show 0+c.toNat=(l.qu.take c.toNat).length by omega];exact mix_get ..),Aa (by rw[SB];simp only[Td,Te];omega),Aa (by rw[SB];simp only[Td,Te];omega),
  Aa (show(0+c.toNat).succ.le _ from by rw[Ih];show 0+c.toNat+1<=_;omega)] at k
 exact k _ (.ret _)
@[irreducible] def asJ(l:Aq)(r c:Int):Aq:=asO l r c
theorem ask_j(ow:List Int)(qu:List (List Int))(r c:Int):CT Try.prog 61 [] [lkA ⟨ow,qu⟩,.int .i64 r,.int .i64 c] [] (.tup [lkA (asJ ⟨ow,qu⟩ r c),.int .i64 (asE ⟨ow,qu⟩ r c)]):=by unfold asJ;exact ask_c ow qu r c
theorem rann_j{n:Ab}(cl:List Bool)(bw pe:List Int)(x:Int)(hrw:Rows n.nx):CT Try.prog 59 [] [Ag n,sgA ⟨cl,bw,pe⟩,.int .i64 x] [] (.tup [sgA (anJ n ⟨cl,bw,pe⟩ x),.int .i64 (anE n ⟨cl,bw,pe⟩ x)]):=by unfold anJ;exact rann_c cl bw pe x hrw
theorem rshs_j(cl:List Bool)(bw pe:List Int)(c d:Int)(h1:cl.length<=1000000)(h2:bw.length<=1000000)(h3:pe.length<=1000000)(hc:0<=c)(hc1:c<(cl.length:Int))(hc2:c<(bw.length:Int)):
  CT Try.prog 60 [] [sgA ⟨cl,bw,pe⟩,.int .i64 c,.int .i64 d] [] (sgA (clJ ⟨cl,bw,pe⟩ c d)):=by unfold clJ;exact rshs_c cl bw pe c d h1 h2 h3 hc hc1 hc2
inductive C8 where
 | l0 (v0:Int) (v1:Nat) (v2:Ae)
 | l1 (v0:Int) (v1:Nat) (v2:Ae)
 | l2 (v0:Int) (v1:Nat) (v2:Ae) (v3:Aq)
def E8(l:List Int)(kk:Nat)(n:Ab):C8->St
 | .l0 v0 v1 v2=>St.mk 99 [(0,AV.ptr 0 0 0),(3,AV.ptr 1 0 0),(4,AV.ptr 2 0 0),(5,AV.ptr 3 0 0),(6,AV.ptr 4 0 0),(8,iv (iN (boL (nsJ n).cl).length)),(9,iv v0)] [some (Af l v1),some (bK [Ag n] 8),some (bK [AV.agg [AV.nils,AV.nils,AV.nils]] 3),some (bK [AV.agg [AV.nils,AV.nils]] 2),some (bK [AV.agg [AV.lst (List.map bV v2.cl),AV.lst (List.map (iv) v2.bw),AV.lst (List.map (iv) v2.pe)]] 3)]
 | .l1 v0 v1 v2=>St.mk 99 [(0,AV.ptr 0 0 0),(4,AV.ptr 1 0 0),(5,AV.ptr 2 0 0),(6,AV.ptr 3 0 0),(8,iv (iN (boL (nsJ n).cl).length)),(12,iv v0)] [some (Af l v1),some (bK [AV.agg [AV.nils,AV.nils,AV.nils]] 3),some (bK [AV.agg [AV.nils,AV.nils]] 2),some (bK [AV.agg [AV.lst (List.map bV v2.cl),AV.lst (List.map (iv) v2.bw),AV.lst (List.map (iv) v2.pe)]] 3)]
 | .l2 v0 v1 v2 v3=>St.mk 99 [(0,AV.ptr 0 0 0),(4,AV.ptr 1 0 0),(5,AV.ptr 2 0 0),(6,AV.ptr 3 0 0),(8,iv (iN (boL (nsJ n).cl).length)),(13,AV.ptr 4 0 0),(15,iv v0)] [some (Af l v1),some (bK [AV.agg [AV.nils,AV.nils,AV.nils]] 3),some (bK [AV.agg [AV.nils,AV.nils]] 2),some (bK [AV.agg [AV.lst (List.map bV v2.cl),AV.lst (List.map (iv) v2.bw),AV.lst (List.map (iv) v2.pe)]] 3),some (bK [AV.agg [AV.lst (List.map (iv) v3.ow),AV.lst (List.map lI v3.qu)]] 2)]
def HP:C8->Nat
 | .l0 _ _ _=>0
 | .l1 _ _ _=>1
 | .l2 _ _ _ _=>2
def MG(l:List Int)(kk:Nat)(n:Ab):Option (C8⊕Ret):=
 gu (Aw n) <|
 gu (Rows n.nx) <|
 gu (kk<9223372036854775807) <|
 some (.inl (.l0 (Ah l kk 4) (kk+1) (nsJ n)))
def F8(l:List Int)(kk:Nat)(n:Ab)(v0:Int)(v1:Nat)(v2:Ae):Option (C8⊕Ret):=
 br (decide (0<v0))
 (gu (v1<9223372036854775807) <|
  gu (Rows n.nx) <|
  br (anE n v2 (Ah l v1 (iN (List.map bA n.bs).length))==0)
  (some (.inl (.l0 (i64.wrap (v0-1)) (v1+1) (anJ n v2 (Ah l v1 (iN (List.map bA n.bs).length))))))
  (some (.inl (.l0 (i64.wrap (v0-1)) (v1+1) v2))))
 (gu (v1<9223372036854775807) <|
  some (.inl (.l1 (Ah l v1 3) (v1+1) v2)))
def GF(l:List Int)(kk:Nat)(n:Ab)(v0:Int)(v1:Nat)(v2:Ae):Option (C8⊕Ret):=
 br (decide (0<v0))
 (gu (v1<9223372036854775807) <|
  gu (v2.cl.length<=1000000) <|
  gu (v2.bw.length<=1000000) <|
  gu (v2.pe.length<=1000000) <|
  gu (0<=Ah l v1 (iN (boL (nsJ n).cl).length)) <|
  gu (Ah l v1 (iN (boL (nsJ n).cl).length)<iN v2.cl.length) <|
  gu (Ah l v1 (iN (boL (nsJ n).cl).length)<iN v2.bw.length) <|
  some (.inl (.l1 (i64.wrap (v0-1)) (v1+1) (clJ v2 (Ah l v1 (iN (boL (nsJ n).cl).length)) (-1)))))
 (gu (v1<9223372036854775807) <|
  some (.inl (.l2 (Ah l v1 4) (v1+1) v2 (nlJ (iN (boL (nsJ n).cl).length)))))
def Hn(l:List Int)(kk:Nat)(n:Ab)(v0:Int)(v1:Nat)(v2:Ae)(v3:Aq):Option (C8⊕Ret):=
 br (decide (0<v0))
 (gu (v1<9223372036854775807) <|
  gu (v1+1<9223372036854775807) <|
  br (owE v3 (Ah l v1 4) (Ah l (v1+1) (iN (boL (nsJ n).cl).length))==0)
  (gu (v1+1+1<9223372036854775807) <|
   gu (v1+1+1+1<9223372036854775807) <|
   br (asE (owJ v3 (Ah l v1 4) (Ah l (v1+1) (iN (boL (nsJ n).cl).length))) (i64.wrap (4+Ah l (v1+1+1) 4)) (Ah l (v1+1+1+1) (iN (boL (nsJ n).cl).length))==0)
   (some (.inl (.l2 (i64.wrap (v0-1)) (v1+1+1+1+1) v2 (asJ (owJ v3 (Ah l v1 4) (Ah l (v1+1) (iN (boL (nsJ n).cl).length))) (i64.wrap (4+Ah l (v1+1+1) 4)) (Ah l (v1+1+1+1) (iN (boL (nsJ n).cl).length))))))
   (some (.inl (.l2 (i64.wrap (v0-1)) (v1+1+1+1+1) v2 (owJ v3 (Ah l v1 4) (Ah l (v1+1) (iN (boL (nsJ n).cl).length)))))))
  (gu (v1+1+1<9223372036854775807) <|
   gu (v1+1+1+1<9223372036854775807) <|
   br (asE v3 (i64.wrap (4+Ah l (v1+1+1) 4)) (Ah l (v1+1+1+1) (iN (boL (nsJ n).cl).length))==0)
   (some (.inl (.l2 (i64.wrap (v0-1)) (v1+1+1+1+1) v2 (asJ v3 (i64.wrap (4+Ah l (v1+1+1) 4)) (Ah l (v1+1+1+1) (iN (boL (nsJ n).cl).length))))))
   (some (.inl (.l2 (i64.wrap (v0-1)) (v1+1+1+1+1) v2 v3)))))
 (some (.inr ([some (bK [AV.agg [AV.lst (List.map iV l),iV (iN v1)]] 2)],AV.tup [AV.agg [AV.lst (List.map bV v2.cl),AV.lst (List.map iV v2.bw),AV.lst (List.map iV v2.pe)],AV.agg [AV.lst (List.map iV v3.ow),AV.lst (List.map lI v3.qu)]])))
def IJ(l:List Int)(kk:Nat)(n:Ab):C8->Option (C8⊕Ret)
 | .l0 v0 v1 v2=>F8 l kk n v0 v1 v2
 | .l1 v0 v1 v2=>GF l kk n v0 v1 v2
 | .l2 v0 v1 v2 v3=>Hn l kk n v0 v1 v2 v3
theorem m29En_ok(l:List Int)(kk:Nat)(n:Ab)(o:C8⊕Ret)(h:MG l kk n=some o):Arr Try.prog Try.f29 1 (E8 l kk n) HP (zB Try.f29) [] {n:=Try.f29.ntmps,fr:=AJ 0 ([.ptr 0 0 0,Ag n]),hp:=([some (Af l kk)])} o:=
 Scr.ok h mix (
 .rn 0 [] [] [] [] (al (u2 t3)) <|
 .gu fun a0=>
 .gu fun a1=>
 have c0:=r20n_j a0 a1;
 .rn 1 [] [] [(22,hK c0 [] [])] [] (aj (u2 (aj (ak (aj t9 (al (c0)))) (u2 (u2 (u2 (ak (aj (k2 n11) s2))))))) (al (u2 (u2 (u2 s2))))) <|
 .gu fun a2=>
 have c1:=A5 l (kk) (4) a2;
 .lp [] [] [(29,hK c1 [0] [])] [] [] [0,1,2,3,4] [0,3,4,5,6,8,9] (aj (al (u2 (aj (ak (k3 (al (c1)))) s2))) (ak (k3 t9)))) (by kernel_rfl)
theorem m29S0_ok(l:List Int)(kk:Nat)(n:Ab)(v0:Int)(v1:Nat)(v2:Ae)(o:C8⊕Ret)(h:F8 l kk n v0 v1 v2=some o):Arr Try.prog Try.f29 1 (E8 l kk n) HP (Az Try.f29 0) (.rnd (Az Try.f29 0)::AN Try.f29 0) (E8 l kk n (.l0 v0 v1 v2)) o:=
 Scr.ok h mix (
 .rn 0 [] [] [] [] (al (u2 s2)) <|
 .br (fun a0=>
 .gu fun a1=>
 .gu fun a2=>
 have c0:=A5 l v1 (iN (List.map bA n.bs).length) a1;
 have c1:=rann_j (v2.cl) (v2.bw) (v2.pe) (Ah l v1 (iN (List.map bA n.bs).length)) a2;
 .rn 1 [63] [] [(41,hK c0 [0] []),(42,hK c1 [] [])] [] (aj a0 (aj (u2 (u2 (u2 (u2 (u2 (u2 (aj (k5 (al (c0))) (aj (k3 (aj t9 (aj t4 (ak (al (c1)))))) (u2 (u2 (u2 (ak (aj (k2 n11) s2))))))))))))) (al (u2 s2)))) <|
 .br (fun a3=>
  .lp [93] [] [] [] [] [0,1,2,3,4] [0,3,4,5,6,8,9] (aj (aj a3 (aj (u2 (al (k2 (show Nat.le 1 [AV.agg [AV.lst (List.map bV v2.cl),AV.lst (List.map (iv) v2.bw),AV.lst (List.map (iv) v2.pe)]].length from(nL rfl))))) (al (u2 (u2 s2))))) (ak (k3 t9))))
 (fun a3=>
  .lp [92] [] [] [] [] [0,1,2,3,4] [0,3,4,5,6,8,9] (aj (aj a3 (al (u2 (u2 s2)))) (ak (k3 t9)))))
 (fun a0=>
 .gu fun a1=>
 have c0:=A5 l v1 (3) a1;
 .lp [62] [] [(49,hK c0 [0] [])] [] [] [0,2,3,4] [0,4,5,6,8,12] (aj (aj a0 (al (u2 (aj (ak (k3 (al (c0)))) s2)))) (k2 t9)))) (by kernel_rfl)
theorem m29S1_ok(l:List Int)(kk:Nat)(n:Ab)(v0:Int)(v1:Nat)(v2:Ae)(o:C8⊕Ret)(h:GF l kk n v0 v1 v2=some o):Arr Try.prog Try.f29 1 (E8 l kk n) HP (Az Try.f29 1) (.rnd (Az Try.f29 1)::AN Try.f29 1) (E8 l kk n (.l1 v0 v1 v2)) o:=
 Scr.ok h mix (
 .rn 0 [] [] [] [] (al (u2 s2)) <|
 .br (fun a0=>
 .gu fun a1=>
 .gu fun a2=>
 .gu fun a3=>
 .gu fun a4=>
 .gu fun a5=>
 .gu fun a6=>
 .gu fun a7=>
 have c0:=A5 l v1 (iN (boL (nsJ n).cl).length) a1;
 have c1:=rshs_j (v2.cl) (v2.bw) (v2.pe) (Ah l v1 (iN (boL (nsJ n).cl).length)) (-1) a2 a3 a4 a5 a6 a7;
 .lp [103] [] [(57,hK c0 [0] []),(58,hK c1 [] [])] [] [] [0,1,2,3] [0,4,5,6,8,12] (aj (aj a0 (aj (u2 (u2 (u2 (aj (k5 (al (c0))) (aj (k2 (aj t4 (k2 (al (c1))))) (al (k2 (show Nat.le 1 [AV.agg [AV.lst (List.map bV v2.cl),AV.lst (List.map (iv) v2.bw),AV.lst (List.map (iv) v2.pe)]].length from(nL rfl))))))))) (al (u2 (u2 s2))))) (k2 t9)))
 (fun a0=>
 have c0:=n19_j (iN (boL (nsJ n).cl).length);
 .rn 0 [102] [] [(61,hK c0 [] [])] [] (aj a0 (al (u2 (aj (k2 (al (c0))) (u2 (u2 (u2 (ak (aj (k2 n11) s2))))))))) <|
 .gu fun a1=>
 have c1:=A5 l v1 (4) a1;
 .lp [] [] [(65,hK c1 [0] [])] [] [] [0,1,2,3,4] [0,4,5,6,8,13,15] (aj (al (u2 (aj (ak (k3 (al (c1)))) s2))) (ak (k3 t9))))) (by kernel_rfl)
theorem m29S2_ok(l:List Int)(kk:Nat)(n:Ab)(v0:Int)(v1:Nat)(v2:Ae)(v3:Aq)(o:C8⊕Ret)(h:Hn l kk n v0 v1 v2 v3=some o):Arr Try.prog Try.f29 1 (E8 l kk n) HP (Az Try.f29 2) (.rnd (Az Try.f29 2)::AN Try.f29 2) (E8 l kk n (.l2 v0 v1 v2 v3)) o:=
 Scr.ok h mix (
 .rn 0 [] [] [] [] (al (u2 s2)) <|
 .br (fun a0=>
 .gu fun a1=>
 .gu fun a2=>
 have c0:=A5 l v1 (4) a1;
 have c1:=A5 l (v1+1) (iN (boL (nsJ n).cl).length) a2;
 have c2:=own_j (v3.ow) (v3.qu) (Ah l v1 4) (Ah l (v1+1) (iN (boL (nsJ n).cl).length));
 .rn 1 [135] [] [(73,hK c0 [0] []),(76,hK c1 [0] []),(77,hK c2 [] [])] [] (aj a0 (aj (u2 (u2 (aj (ak (k3 (al (c0)))) (u2 (u2 (aj (k5 (al (c1))) (aj (k3 (aj t3 (k2 (al (c2))))) (u2 (u2 (u2 (ak (aj (k2 n11) s2)))))))))))) (al (u2 s2)))) <|
 .br (fun a3=>
  .rn 0 [163] [] [] [] (aj a3 (al (u2 (al (k2 (show Nat.le 1 [AV.agg [AV.lst (List.map (iv) v3.ow),AV.lst (List.map lI v3.qu)]].length from(nL rfl))))))) <|
  .gu fun a4=>
  .gu fun a5=>
  have c3:=A5 l (v1+1+1) (4) a4;
  have c4:=A5 l (v1+1+1+1) (iN (boL (nsJ n).cl).length) a5;
  have c5:=ask_j ((owJ v3 (Ah l v1 4) (Ah l (v1+1) (iN (boL (nsJ n).cl).length))).ow) ((owJ v3 (Ah l v1 4) (Ah l (v1+1) (iN (boL (nsJ n).cl).length))).qu) (i64.wrap (4+Ah l (v1+1+1) 4)) (Ah l (v1+1+1+1) (iN (boL (nsJ n).cl).length));
  .rn 1 [] [] [(86,hK c3 [0] []),(90,hK c4 [0] []),(91,hK c5 [] [])] [] (aj (u2 (u2 (aj (ak (k3 (al (c3)))) (u2 (u2 (u2 (aj (k5 (al (c4))) (aj (k3 (aj t3 (k2 (al (c5))))) (u2 (u2 (u2 (ak (aj (k2 n11) s2))))))))))))) (al (u2 s2))) <|
  .br (fun a6=>
  .lp [191] [] [] [] [] [0,1,2,3,4] [0,4,5,6,8,13,15] (aj (aj a6 (aj (u2 (al (k2 (show Nat.le 1 [AV.agg [AV.lst (List.map (iv) (owJ v3 (Ah l v1 4) (Ah l (v1+1) (iN (boL (nsJ n).cl).length))).ow),AV.lst (gL (owJ v3 (Ah l v1 4) (Ah l (v1+1) (iN (boL (nsJ n).cl).length))).qu)]].length from(nL rfl))))) (al (u2 (u2 s2))))) (ak (k3 t9))))
  (fun a6=>
  .lp [190] [] [] [] [] [0,1,2,3,4] [0,4,5,6,8,13,15] (aj (aj a6 (al (u2 (u2 s2)))) (ak (k3 t9)))))
 (fun a3=>
  .gu fun a4=>
  .gu fun a5=>
  have c3:=A5 l (v1+1+1) (4) a4;
  have c4:=A5 l (v1+1+1+1) (iN (boL (nsJ n).cl).length) a5;
  have c5:=ask_j (v3.ow) (v3.qu) (i64.wrap (4+Ah l (v1+1+1) 4)) (Ah l (v1+1+1+1) (iN (boL (nsJ n).cl).length));
  .rn 1 [162] [] [(86,hK c3 [0] []),(90,hK c4 [0] []),(91,hK c5 [] [])] [] (aj a3 (aj (u2 (u2 (aj (ak (k3 (al (c3)))) (u2 (u2 (u2 (aj (k5 (al (c4))) (aj (k3 (aj t3 (k2 (al (c5))))) (u2 (u2 (u2 (ak (aj (k2 n11) s2))))))))))))) (al (u2 s2)))) <|
  .br (fun a6=>
  .lp [191] [] [] [] [] [0,1,2,3,4] [0,4,5,6,8,13,15] (aj (aj a6 (aj (u2 (al (k2 (show Nat.le 1 [AV.agg [AV.lst (List.map (iv) v3.ow),AV.lst (List.map lI v3.qu)]].length from(nL rfl))))) (al (u2 (u2 s2))))) (ak (k3 t9))))
  (fun a6=>
  .lp [190] [] [] [] [] [0,1,2,3,4] [0,4,5,6,8,13,15] (aj (aj a6 (al (u2 (u2 s2)))) (ak (k3 t9))))))
 (fun a0=>
 .rt [134] [] [] [] [0] [] (aj (aj a0 (al (u2 (u2 (aj (k2 n11) (al (k2 n11))))))) (aj (aj t4 (al t3)) t2)))) (by kernel_rfl)
theorem m29_ct(l:List Int)(kk:Nat)(n:Ab)(r:Ret)(h:Ax (IJ l kk n) (MG l kk n) r):CT Try.prog 29 ([some (Af l kk)]) ([.ptr 0 0 0,Ag n]) r.1 r.2:=
 CT.mach (fn:=Try.f29) (c:=zB Try.f29) (S:=E8 l kk n) (hd:=HP) Try.func29 (by kernel_rfl) (nL rfl)
  (fun s o ho=>match s,ho with
   | .l0 v0 v1 v2,ho=>m29S0_ok l kk n v0 v1 v2 o ho
   | .l1 v0 v1 v2,ho=>m29S1_ok l kk n v0 v1 v2 o ho
   | .l2 v0 v1 v2 v3,ho=>m29S2_ok l kk n v0 v1 v2 v3 o ho
  )
  (fun o ho=>m29En_ok l kk n o ho) h
theorem an_keep{n:Ab}{s:Ae}{x:Int}(hv:Aw n)(hs:BP n s)(h0:anE n s x=0):BP n (anJ n s x):=by
 obtain⟨_,hx,hsh⟩:=anE_ok h0
 have hg:=shtS_get hv hs x.toNat
 rw[hsh,SZ hx.1] at hg
 have hg2:=hg.symm
 rw[Bool.or_eq_false_iff] at hg2
 unfold anJ anO
 rw[Sw h0]
 exact anS_ok hs hx hg2.1 fun hm=>by rw[DH.2 hm] at hg2;cases hg2.2
theorem ow_keep{l:Aq}{r c:Int}(h:Ca l)(he:owE l r c=0):Ca (owJ l r c)/\(owJ l r c).ow.length=l.ow.length:=by
 unfold owJ owO
 rw[Sw he]
 exact⟨h.own he,S6 ..⟩
theorem NR{l:Aq}{r c:Int}(h:Ca l)(he:asE l r c=0):Ca (asJ l r c)/\(asJ l r c).ow.length=l.ow.length:=by
 unfold asJ asO
 rw[Sw he]
 exact⟨h.ask he,rfl⟩
theorem m29_c2{l:List Int}{kk:Nat}{n:Ab}(s:Ae):∀(j k1:Nat) (w:Aq),j<=4->k1+5 * j<=1000000->Ca w->
  ∃(w':Aq) (k2:Nat),Ca w'/\w'.ow.length=w.ow.length/\k2<=k1+4 * j/\Ax (IJ l kk n) (some (.inl (.l2 (j:Int) k1 s w))) ([some (Af l k2)],.tup [sgA s,lkA w']):=by
 intro j
 induction j with
 | zero=>
  intro k1 w _ _ hw
  refine⟨w,k1,hw,rfl,by omega,.to (show Hn l kk n _ k1 s w=_ from ?_) (.ret _)⟩
  unfold Hn
  rw[Ai (Ar (by omega))];rfl
 | succ j ih=>
  intro k1 w hj hk hw
  have hdec:i64.wrap (((j+1:Nat):Int)-1)=(j:Int):=by rw[wrD (by omega) (by omega)];omega
  have hstep:∃w2:Aq,Ca w2/\w2.ow.length=w.ow.length/\Hn l kk n ((j+1:Nat):Int) k1 s w=some (.inl (.l2 (j:Int) (k1+1+1+1+1) s w2)):=by
   unfold Hn
   rw[Am (AE (by omega)),Aa (by omega),Aa (by omega),hdec]
   by_cases h1:owE w (Ah l k1 4) (Ah l (k1+1) (iN (boL (nsJ n).cl).length))=0
   .obtain⟨g1,g2⟩:=ow_keep hw h1
    rw[Am (beq_iff_eq.2 h1),Aa (by omega),Aa (by omega)]
    by_cases h2:asE (owJ w (Ah l k1 4) (Ah l (k1+1) (iN (boL (nsJ n).cl).length))) (i64.wrap (4+Ah l (k1+1+1) 4)) (Ah l (k1+1+1+1) (iN (boL (nsJ n).cl).length))=0
    .obtain⟨g3,g4⟩:=NR g1 h2
     exact⟨_,g3,g4.trans g2,by rw[Am (beq_iff_eq.2 h2)]⟩
    .exact⟨_,g1,g2,by rw[Ai (S8.2 h2)]⟩
   .rw[Ai (S8.2 h1),Aa (by omega),Aa (by omega)]
    by_cases h2:asE w (i64.wrap (4+Ah l (k1+1+1) 4)) (Ah l (k1+1+1+1) (iN (boL (nsJ n).cl).length))=0
    .obtain⟨g3,g4⟩:=NR hw h2
     exact⟨_,g3,g4,by rw[Am (beq_iff_eq.2 h2)]⟩
    .exact⟨_,hw,rfl,by rw[Ai (S8.2 h2)]⟩
  obtain⟨w2,ok2,l2,he⟩:=hstep
  obtain⟨w',k',ok',l',hk',hm⟩:=ih (k1+1+1+1+1) w2 (by omega) (by omega) ok2
  exact⟨w',k',ok',l'.trans l2,by omega,.to he hm⟩
theorem m29_c1{l:List Int}{kk:Nat}{n:Ab}(hv:Aw n):∀(j k1:Nat) (s:Ae),j<=4->k1+100+5 * j<=1000000->BP n s->
  ∃(s':Ae) (w':Aq) (k2:Nat),BP n s'/\Ca w'/\w'.ow.length=Au n/\k2<=k1+j+1+12/\Ax (IJ l kk n) (some (.inl (.l1 (j:Int) k1 s))) ([some (Af l k2)],.tup [sgA s',lkA w']):=by
 have hcel:=Hm hv
 have h24:=hv.nb24
 have hns:(boL (nsJ n).cl).length=Au n:=by rw[Ct,Ky];exact SU ..
 intro j
 induction j with
 | zero=>
  intro k1 s _ _ hs
  have r:=A4 l k1 4 (by omega) (by omega)
  have hnl:nlJ (iN (boL (nsJ n).cl).length)=⟨List.replicate (Au n) (-1),List.replicate (Au n) []⟩:=by
   unfold nlJ nlS
   rw[hns,Sw (by simp only[iN];omega)]
   simp only[iN,SH]
  obtain⟨w',k2,h1,h2,h3,hm⟩:=m29_c2 (l:=l) (kk:=kk) (n:=n) s (Ah l k1 4).toNat (k1+1) (nlJ (iN (boL (nsJ n).cl).length)) (by omega) (by omega) (by rw[hnl];exact nlS_ok hcel.1)
  refine⟨s,w',k2,hs,h1,by rw[h2,hnl];exact SU ..,by omega,.to (show GF l kk n _ k1 s=_ from ?_) hm⟩
  unfold GF
  rw[Ai (Ar (by omega)),Aa (by omega),SZ r.1]
 | succ j ih=>
  intro k1 s hj hk hs
  have lc:=hs.lc
  have lb:=hs.lb
  have pl:=hs.pl
  have hdec:i64.wrap (((j+1:Nat):Int)-1)=(j:Int):=by rw[wrD (by omega) (by omega)];omega
  have r:=A4 l k1 (iN (boL (nsJ n).cl).length) (by rw[hns];simp only[iN];omega) (by rw[hns];simp only[iN];omega)
  have r2:Ah l k1 (iN (boL (nsJ n).cl).length)<(Au n:Int):=by have:=r.2;rw[hns] at this ⊢;exact this
  obtain⟨s',w',k',a,b,c,d,hm⟩:=ih (k1+1) (clJ s (Ah l k1 (iN (boL (nsJ n).cl).length)) (-1)) (by omega) (by omega) (by unfold clJ;exact clS_ok hs ⟨r.1,r2⟩ ⟨by omega,by omega⟩)
  refine⟨s',w',k',a,b,c,by omega,.to (show GF l kk n _ k1 s=_ from ?_) hm⟩
  unfold GF
  rw[Am (AE (by omega)),Aa (by omega),Aa (by omega),Aa (by omega),Aa (by omega),Aa r.1,Aa (by simp only[iN] at r2 ⊢;omega),Aa (by simp only[iN] at r2 ⊢;omega),hdec]
theorem m29_c0{l:List Int}{kk:Nat}{n:Ab}(hv:Aw n)(hrw:Rows n.nx):∀(j k1:Nat) (s:Ae),j<=4->k1+200+5 * j<=1000000->BP n s->
  ∃(s':Ae) (w':Aq) (k2:Nat),BP n s'/\Ca w'/\w'.ow.length=Au n/\k2<=k1+j+20/\Ax (IJ l kk n) (some (.inl (.l0 (j:Int) k1 s))) ([some (Af l k2)],.tup [sgA s',lkA w']):=by
 have h24:=hv.nb24
 intro j
 induction j with
 | zero=>
  intro k1 s _ _ hs
  have r:=A4 l k1 3 (by omega) (by omega)
  obtain⟨s',w',k2,a,b,c,d,hm⟩:=m29_c1 (l:=l) (kk:=kk) hv (Ah l k1 3).toNat (k1+1) s (by omega) (by omega) hs
  refine⟨s',w',k2,a,b,c,by omega,.to (show F8 l kk n _ k1 s=_ from ?_) hm⟩
  unfold F8
  rw[Ai (Ar (by omega)),Aa (by omega),SZ r.1]
 | succ j ih=>
  intro k1 s hj hk hs
  have hdec:i64.wrap (((j+1:Nat):Int)-1)=(j:Int):=by rw[wrD (by omega) (by omega)];omega
  have hstep:∃s2:Ae,BP n s2/\F8 l kk n ((j+1:Nat):Int) k1 s=some (.inl (.l0 (j:Int) (k1+1) s2)):=by
   unfold F8
   rw[Am (AE (by omega)),Aa (by omega),Aa hrw,hdec]
   by_cases h0:anE n s (Ah l k1 (iN (List.map bA n.bs).length))=0
   .exact⟨_,an_keep hv hs h0,by rw[Am (beq_iff_eq.2 h0)]⟩
   .exact⟨s,hs,by rw[Ai (S8.2 h0)]⟩
  obtain⟨s2,ok2,he⟩:=hstep
  obtain⟨s',w',k',a,b,c,d,hm⟩:=ih (k1+1) s2 (by omega) (by omega) ok2
  exact⟨s',w',k',a,b,c,by omega,.to he hm⟩
theorem JK(l:List Int)(kk:Nat)(n:Ab):∃p:(Ae×Aq)×Nat,Aw n->Rows n.nx->kk<=5000->BP n p.1.1/\Ca p.1.2/\p.1.2.ow.length=Au n/\p.2<=kk+40/\CT Try.prog 29 [some (Af l kk)] [.ptr 0 0 0,Ag n] [some (Af l p.2)] (.tup [sgA p.1.1,lkA p.1.2]):=by
 by_cases h:Aw n/\Rows n.nx/\kk<=5000
 .obtain⟨hv,hrw,hk⟩:=h
  have r:=A4 l kk 4 (by omega) (by omega)
  obtain⟨s',w',k',a,b,c,d,hm⟩:=m29_c0 (l:=l) (kk:=kk) hv hrw (Ah l kk 4).toNat (kk+1) (nsJ n) (by omega) (by omega) (by rw[Ky];exact Nf n)
  refine⟨((s',w'),k'),fun _ _ _=>⟨a,b,c,by show k'<=_;omega,?_⟩⟩
  refine m29_ct l kk n ([_],_) ?_
  unfold MG
  rw[Aa hv,Aa hrw,Aa (by omega),<-SZ r.1]
  exact hm
 .exact⟨((⟨[],[],[]⟩,⟨[],[]⟩),0),fun a b c=>absurd ⟨a,b,c⟩ h⟩
@[irreducible] def m9S(l:List Int)(kk:Nat)(n:Ab):Ae:=(Classical.choose (JK l kk n)).1.1
@[irreducible] def m9L(l:List Int)(kk:Nat)(n:Ab):Aq:=(Classical.choose (JK l kk n)).1.2
@[irreducible] def m9K(l:List Int)(kk:Nat)(n:Ab):Nat:=(Classical.choose (JK l kk n)).2
theorem Nn{l:List Int}{kk:Nat}{n:Ab}(hv:Aw n)(hrw:Rows n.nx)(hk:kk<=5000):BP n (m9S l kk n)/\Ca (m9L l kk n)/\(m9L l kk n).ow.length=Au n/\m9K l kk n<=kk+40/\CT Try.prog 29 [some (Af l kk)] [.ptr 0 0 0,Ag n] [some (Af l (m9K l kk n))] (.tup [sgA (m9S l kk n),lkA (m9L l kk n)]):=by
 unfold m9S m9L m9K;exact Tb (JK l kk n) hv hrw hk
theorem m9_c(l:List Int)(kk:Nat)(n:Ab)(hv:Aw n)(hrw:Rows n.nx)(hk:kk<=5000):CT Try.prog 29 [some (Af l kk)] [.ptr 0 0 0,Ag n] [some (Af l (m9K l kk n))] (.tup [sgA ⟨(m9S l kk n).cl,(m9S l kk n).bw,(m9S l kk n).pe⟩,lkA ⟨(m9L l kk n).ow,(m9L l kk n).qu⟩]):=(Nn hv hrw hk).2.2.2.2
inductive EA where
 | l0 (v0 v1:Int)
def JW(ls:List Int):EA->St
 | .l0 v0 v1=>St.mk 105 [(4,AV.ptr 0 0 0),(5,AV.ptr 1 0 0),(7,iv v0),(9,AV.lst (List.map (iv) (lgL (Aj ls 0 8) (m9S ls (Ay ls 0 8) (Aj ls 0 8)) (Ah ls (m9K ls (Ay ls 0 8) (Aj ls 0 8)) (iN (boL (m9S ls (Ay ls 0 8) (Aj ls 0 8)).cl).length)) (Ah ls (m9K ls (Ay ls 0 8) (Aj ls 0 8)+1) (iN (List.map sA (Aj ls 0 8).ss).length))))),(12,iv (hdO (Aj ls 0 8) (Ah ls (m9K ls (Ay ls 0 8) (Aj ls 0 8)+1) (iN (List.map sA (Aj ls 0 8).ss).length)))),(14,iv v1)] [some (bK [Ag (Aj ls 0 8)] 8),some (bK [AV.agg [AV.lst (boL (m9S ls (Ay ls 0 8) (Aj ls 0 8)).cl),AV.lst (List.map (iv) (m9S ls (Ay ls 0 8) (Aj ls 0 8)).bw),AV.lst (List.map (iv) (m9S ls (Ay ls 0 8) (Aj ls 0 8)).pe)]] 3)]
def L0:EA->Nat
 | .l0 _ _=>0
def K6(ls:List Int):Option (EA⊕Ret):=
 gu (Aw (Aj ls 0 8)) <|
 gu (Rows (Aj ls 0 8).nx) <|
 gu (Ay ls 0 8<=5000) <|
 gu (m9K ls (Ay ls 0 8) (Aj ls 0 8)<9223372036854775807) <|
 gu (m9K ls (Ay ls 0 8) (Aj ls 0 8)+1<9223372036854775807) <|
 br (BD (Aj ls 0 8) (m9S ls (Ay ls 0 8) (Aj ls 0 8)) (Ah ls (m9K ls (Ay ls 0 8) (Aj ls 0 8)) (iN (boL (m9S ls (Ay ls 0 8) (Aj ls 0 8)).cl).length)) (Ah ls (m9K ls (Ay ls 0 8) (Aj ls 0 8)+1) (iN (List.map sA (Aj ls 0 8).ss).length)) != 0)
 (br (BD (Aj ls 0 8) (m9S ls (Ay ls 0 8) (Aj ls 0 8)) (Ah ls (m9K ls (Ay ls 0 8) (Aj ls 0 8)) (iN (boL (m9S ls (Ay ls 0 8) (Aj ls 0 8)).cl).length)) (Ah ls (m9K ls (Ay ls 0 8) (Aj ls 0 8)+1) (iN (List.map sA (Aj ls 0 8).ss).length))==0)
  (br (csE (Aj ls 0 8) (Ah ls (m9K ls (Ay ls 0 8) (Aj ls 0 8)+1) (iN (List.map sA (Aj ls 0 8).ss).length))==0)
   (some (.inr ([],bV (iN (List.map iV (lgL (Aj ls 0 8) (m9S ls (Ay ls 0 8) (Aj ls 0 8)) (Ah ls (m9K ls (Ay ls 0 8) (Aj ls 0 8)) (iN (boL (m9S ls (Ay ls 0 8) (Aj ls 0 8)).cl).length)) (Ah ls (m9K ls (Ay ls 0 8) (Aj ls 0 8)+1) (iN (List.map sA (Aj ls 0 8).ss).length)))).length==0))))
   (some (.inr ([],bV false))))
  (some (.inr ([],bV false))))
 (br (csE (Aj ls 0 8) (Ah ls (m9K ls (Ay ls 0 8) (Aj ls 0 8)+1) (iN (List.map sA (Aj ls 0 8).ss).length)) != 0)
  (br (BD (Aj ls 0 8) (m9S ls (Ay ls 0 8) (Aj ls 0 8)) (Ah ls (m9K ls (Ay ls 0 8) (Aj ls 0 8)) (iN (boL (m9S ls (Ay ls 0 8) (Aj ls 0 8)).cl).length)) (Ah ls (m9K ls (Ay ls 0 8) (Aj ls 0 8)+1) (iN (List.map sA (Aj ls 0 8).ss).length))==0)
   (br (csE (Aj ls 0 8) (Ah ls (m9K ls (Ay ls 0 8) (Aj ls 0 8)+1) (iN (List.map sA (Aj ls 0 8).ss).length))==0)
    (some (.inr ([],bV (iN (List.map iV (lgL (Aj ls 0 8) (m9S ls (Ay ls 0 8) (Aj ls 0 8)) (Ah ls (m9K ls (Ay ls 0 8) (Aj ls 0 8)) (iN (boL (m9S ls (Ay ls 0 8) (Aj ls 0 8)).cl).length)) (Ah ls (m9K ls (Ay ls 0 8) (Aj ls 0 8)+1) (iN (List.map sA (Aj ls 0 8).ss).length)))).length==0))))
    (some (.inr ([],bV false))))
   (some (.inr ([],bV false))))
  (br (!lgB (Aj ls 0 8) (m9S ls (Ay ls 0 8) (Aj ls 0 8)) (Ah ls (m9K ls (Ay ls 0 8) (Aj ls 0 8)) (iN (boL (m9S ls (Ay ls 0 8) (Aj ls 0 8)).cl).length)) (Ah ls (m9K ls (Ay ls 0 8) (Aj ls 0 8)+1) (iN (List.map sA (Aj ls 0 8).ss).length)))
   (br (BD (Aj ls 0 8) (m9S ls (Ay ls 0 8) (Aj ls 0 8)) (Ah ls (m9K ls (Ay ls 0 8) (Aj ls 0 8)) (iN (boL (m9S ls (Ay ls 0 8) (Aj ls 0 8)).cl).length)) (Ah ls (m9K ls (Ay ls 0 8) (Aj ls 0 8)+1) (iN (List.map sA (Aj ls 0 8).ss).length))==0)
    (br (csE (Aj ls 0 8) (Ah ls (m9K ls (Ay ls 0 8) (Aj ls 0 8)+1) (iN (List.map sA (Aj ls 0 8).ss).length))==0)
     (some (.inr ([],bV (iN (List.map iV (lgL (Aj ls 0 8) (m9S ls (Ay ls 0 8) (Aj ls 0 8)) (Ah ls (m9K ls (Ay ls 0 8) (Aj ls 0 8)) (iN (boL (m9S ls (Ay ls 0 8) (Aj ls 0 8)).cl).length)) (Ah ls (m9K ls (Ay ls 0 8) (Aj ls 0 8)+1) (iN (List.map sA (Aj ls 0 8).ss).length)))).length==0))))
     (some (.inr ([],bV false))))
    (some (.inr ([],bV false))))
   (some (.inl (.l0 (Ah ls (m9K ls (Ay ls 0 8) (Aj ls 0 8)) (iN (boL (m9S ls (Ay ls 0 8) (Aj ls 0 8)).cl).length)) ((0:Int)))))))
def Hk(ls:List Int)(v0 v1:Int):Option (EA⊕Ret):=
 br (decide (v1<iN (List.map iV (lgL (Aj ls 0 8) (m9S ls (Ay ls 0 8) (Aj ls 0 8)) (Ah ls (m9K ls (Ay ls 0 8) (Aj ls 0 8)) (iN (boL (m9S ls (Ay ls 0 8) (Aj ls 0 8)).cl).length)) (Ah ls (m9K ls (Ay ls 0 8) (Aj ls 0 8)+1) (iN (List.map sA (Aj ls 0 8).ss).length)))).length))
 (gu (0<=v1) <|
  el (lgL (Aj ls 0 8) (m9S ls (Ay ls 0 8) (Aj ls 0 8)) (Ah ls (m9K ls (Ay ls 0 8) (Aj ls 0 8)) (iN (boL (m9S ls (Ay ls 0 8) (Aj ls 0 8)).cl).length)) (Ah ls (m9K ls (Ay ls 0 8) (Aj ls 0 8)+1) (iN (List.map sA (Aj ls 0 8).ss).length))) (v1.toNat) fun(x84:Int)=>
  gu (Rows (Aj ls 0 8).nx) <|
  br (!Dk (Aj ls 0 8) v0 x84)
  (some (.inr ([],bV false)))
  (el (lgL (Aj ls 0 8) (m9S ls (Ay ls 0 8) (Aj ls 0 8)) (Ah ls (m9K ls (Ay ls 0 8) (Aj ls 0 8)) (iN (boL (m9S ls (Ay ls 0 8) (Aj ls 0 8)).cl).length)) (Ah ls (m9K ls (Ay ls 0 8) (Aj ls 0 8)+1) (iN (List.map sA (Aj ls 0 8).ss).length))) (v1.toNat) fun(x93:Int)=>
   gu (0<=x93) <|
   el ((m9S ls (Ay ls 0 8) (Aj ls 0 8)).cl) (x93.toNat) fun(x95:Bool)=>
   br x95
   (some (.inr ([],bV false)))
   (el (lgL (Aj ls 0 8) (m9S ls (Ay ls 0 8) (Aj ls 0 8)) (Ah ls (m9K ls (Ay ls 0 8) (Aj ls 0 8)) (iN (boL (m9S ls (Ay ls 0 8) (Aj ls 0 8)).cl).length)) (Ah ls (m9K ls (Ay ls 0 8) (Aj ls 0 8)+1) (iN (List.map sA (Aj ls 0 8).ss).length))) (v1.toNat) fun(x100:Int)=>
    some (.inl (.l0 x100 (i64.wrap (v1+1)))))))
 (some (.inr ([],bV (v0==hdO (Aj ls 0 8) (Ah ls (m9K ls (Ay ls 0 8) (Aj ls 0 8)+1) (iN (List.map sA (Aj ls 0 8).ss).length))))))
def fowStep(ls:List Int):EA->Option (EA⊕Ret)
 | .l0 v0 v1=>Hk ls v0 v1
theorem fowEn_ok(ls:List Int)(o:EA⊕Ret)(h:K6 ls=some o):Arr Try.prog Try.f9 0 (JW ls) L0 (zB Try.f9) [] {n:=Try.f9.ntmps,fr:=AJ 0 ([lI ls]),hp:=([])} o:=
 Scr.ok h mix (
 have c0:=kn24_c;
 have c1:=net_ct (ls) (0) (8) (show nat_lit 0<=(5000:Nat) from(by first | exact nL rfl | decide)) (show(1:Int)<=(8:Int)/\(8:Int)<=(20:Int) from ⟨(by first | exact nL rfl | decide),(by first | exact nL rfl | decide)⟩);
 .rn 3 [] [] [(15,hK c0 [] []),(21,hK c1 [0] [])] [] (u2 (aj (aj (al (c0)) s2) (ak (aj (u2 (u2 (u2 s2))) (al (u2 (aj (ak (k3 (al (c1)))) (ak (al (k2 n11)))))))))) <|
 .gu fun a0=>
 .gu fun a1=>
 .gu fun a2=>
 have c2:=m9_c (ls) (Ay ls 0 8) (Aj ls 0 8) a0 a1 a2;
 .rn 0 [] [] [(25,hK c2 [0] [])] [] (al (u2 (u2 (aj (k3 (aj t9 (ak (al (c2))))) (u2 (u2 (u2 (k2 (aj (k2 n11) (al (k2 n11))))))))))) <|
 .gu fun a3=>
 .gu fun a4=>
 have c3:=A5 (ls) (m9K ls (Ay ls 0 8) (Aj ls 0 8)) (iN (boL (m9S ls (Ay ls 0 8) (Aj ls 0 8)).cl).length) a3;
 have c4:=A5 (ls) (m9K ls (Ay ls 0 8) (Aj ls 0 8)+1) (iN (List.map sA (Aj ls 0 8).ss).length) a4;
 have c5:=leg_j ((m9S ls (Ay ls 0 8) (Aj ls 0 8)).cl) ((m9S ls (Ay ls 0 8) (Aj ls 0 8)).bw) ((m9S ls (Ay ls 0 8) (Aj ls 0 8)).pe) (Ah ls (m9K ls (Ay ls 0 8) (Aj ls 0 8)) (iN (boL (m9S ls (Ay ls 0 8) (Aj ls 0 8)).cl).length)) (Ah ls (m9K ls (Ay ls 0 8) (Aj ls 0 8)+1) (iN (List.map sA (Aj ls 0 8).ss).length)) a1;
 have c6:=hd_c (Ah ls (m9K ls (Ay ls 0 8) (Aj ls 0 8)+1) (iN (List.map sA (Aj ls 0 8).ss).length)) a1;
 .rn 2 [] [] [(32,hK c3 [0] []),(37,hK c4 [0] []),(43,hK c5 [] []),(50,hK c6 [] [])] [] (aj (u2 (u2 (u2 (u2 (aj (k5 (al (c3))) (u2 (u2 (u2 (u2 (aj (k5 (al (c4))) (u2 s2))))))))))) (aj (u2 (u2 (u2 (u2 (aj (ak (k3 (aj t9 (aj t4 (k2 (al (c5))))))) (u2 (u2 (u2 (u2 (u2 (u2 s2))))))))))) (al (u2 (u2 (aj (k2 (aj t9 (ak (al (c6))))) (u2 (u2 (u2 (u2 s2)))))))))) <|
 .br (fun a5=>
 .rn 0 [111] [] [] [] (al (u2 (u2 (u2 (aj a5 (aj a5 (ag a5 (u2 (k2 (al t3)))))))))) <|
 .br (fun a6=>
  .br (fun a7=>
  .rt [111,131,139] [] [] [] [] [] (aj (ak (al (u2 (u2 (u2 (ag a6 (ag a6 (ag a6 (u2 (ag a7 (ag a7 (ag a7 (ag a7 s2))))))))))))) t2))
  (fun a7=>
  .rt [111,131,138] [] [] [] [] [] (aj (ak (al (u2 (u2 (u2 (ag a6 (ag a6 (ag a6 (u2 (aj a7 (aj a7 (aj a7 (ag a7 s2))))))))))))) t2)))
 (fun a6=>
  .rt [111,130] [] [] [] [] [] (aj (ak (al (u2 (u2 (u2 (aj a6 (aj a6 (ag a6 (u2 (k3 (aj t3 s2))))))))))) t2)))
 (fun a5=>
 .br (fun a6=>
  .rn 0 [110,119] [] [] [] (al (u2 (u2 (u2 (ag a5 (ag a5 (ag a5 (u2 (aj a6 (aj a6 (al (aj a6 t2)))))))))))) <|
  .br (fun a7=>
  .br (fun a8=>
   .rt [110,119,131,139] [] [] [] [] [] (aj (ak (al (u2 (u2 (u2 (ag a7 (ag a7 (ag a7 (u2 (ag a8 (ag a8 (ag a8 (ag a8 s2))))))))))))) t2))
  (fun a8=>
   .rt [110,119,131,138] [] [] [] [] [] (aj (ak (al (u2 (u2 (u2 (ag a7 (ag a7 (ag a7 (u2 (aj a8 (aj a8 (aj a8 (ag a8 s2))))))))))))) t2)))
  (fun a7=>
  .rt [110,119,130] [] [] [] [] [] (aj (ak (al (u2 (u2 (u2 (aj a7 (aj a7 (ag a7 (u2 (k3 (aj t3 s2))))))))))) t2)))
 (fun a6=>
  .rn 0 [110,118] [] [] [] (al (u2 (u2 (u2 (ag a5 (ag a5 (ag a5 (u2 (ag a6 (ag a6 (al (aj a6 t2)))))))))))) <|
  .br (fun a7=>
  .br (fun a8=>
   .br (fun a9=>
   .rt [110,118,125,131,139] [] [] [] [] [] (aj (aj a7 (al (u2 (u2 (u2 (ag a8 (ag a8 (ag a8 (u2 (ag a9 (ag a9 (ag a9 (ag a9 s2))))))))))))) t2))
   (fun a9=>
   .rt [110,118,125,131,138] [] [] [] [] [] (aj (aj a7 (al (u2 (u2 (u2 (ag a8 (ag a8 (ag a8 (u2 (aj a9 (aj a9 (aj a9 (ag a9 s2))))))))))))) t2)))
  (fun a8=>
   .rt [110,118,125,130] [] [] [] [] [] (aj (aj a7 (al (u2 (u2 (u2 (aj a8 (aj a8 (ag a8 (u2 (k3 (aj t3 s2))))))))))) t2)))
  (fun a7=>
  .lp [110,118,124] [] [] [] [] [1,2] [4,5,7,9,12,14] (aj (aj a7 s2) t9))))) (by kernel_rfl)
theorem fowS0_ok(ls:List Int)(v0 v1:Int)(o:EA⊕Ret)(h:Hk ls v0 v1=some o):Arr Try.prog Try.f9 0 (JW ls) L0 (Az Try.f9 0) (.rnd (Az Try.f9 0)::AN Try.f9 0) (JW ls (.l0 v0 v1)) o:=
 Scr.ok h mix (
 .rn 0 [] [] [] [] (al (u2 (u2 (u2 (al t3))))) <|
 .br (fun a0=>
 .gu fun a1=>
 .el fun x84 a2=>
 .gu fun a3=>
 .br (fun a4=>
  have c0:=Px (Aj ls 0 8) v0 x84 a3;
  .rt [155,177] [(84,iv x84)] [(86,hK c0 [] [])] [] [] [] (aj (aj a0 (aj (u2 (u2 (u2 (u2 (aj (k2 (aj a1 (AD (f:=iv) a2))) (u2 (aj (k3 (aj t9 (k2 (al (c0))))) (u2 (u2 (aj a4 (aj a4 (aj a4 (aj a4 (aj a4 (aj a4 (aj a4 (aj a4 (al (aj a4 t2))))))))))))))))))) (ak s2))) t2))
 (fun a4=>
  .el fun x93 a5=>
  .gu fun a6=>
  .el fun x95 a7=>
  have c0:=Px (Aj ls 0 8) v0 x84 a3;
  .rn 0 [155,176] [(84,iv x84),(93,iv x93),(95,bV x95)] [(86,hK c0 [] [])] [] (aj a0 (al (u2 (u2 (u2 (u2 (aj (k2 (aj a1 (AD (f:=iv) a2))) (u2 (aj (k3 (aj t9 (k2 (al (c0))))) (u2 (u2 (ag a4 (ag a4 (ag a4 (ag a4 (aj (aj a4 (k2 (aj a1 (AD (f:=iv) a5)))) (ag a4 (aj (aj a4 (k2 (aj a6 (AD (f:=bV) a7)))) (ag a4 (al (aj a4 t2))))))))))))))))))))) <|
  .br (fun a8=>
  .rt [176,195] [] [] [] [] [] (aj (aj a8 s2) t2))
  (fun a8=>
  .el fun x100 a9=>
  .lp [176,194] [(100,iv x100)] [] [] [] [0,1] [4,5,7,9,12,14] (aj (aj a8 (aj (u2 (u2 (aj (k2 (aj a1 (AD (f:=iv) a9))) (u2 s2)))) (al (u2 (u2 s2))))) t9))))
 (fun a0=>
 .rt [154] [] [] [] [] [] (aj (aj a0 (al (u2 (u2 (aj t3 s2))))) t2))) (by kernel_rfl)
theorem fow_ct(ls:List Int)(r:Ret)(h:Ax (fowStep ls) (K6 ls) r):CT Try.prog 9 ([]) ([lI ls]) r.1 r.2:=
 CT.mach (fn:=Try.f9) (c:=zB Try.f9) (S:=JW ls) (hd:=L0) Try.func9 (by kernel_rfl) (nL rfl)
  (fun s o ho=>match s,ho with
   | .l0 v0 v1,ho=>fowS0_ok ls v0 v1 o ho
  )
  (fun o ho=>fowEn_ok ls o ho) h
theorem lg_eq{n:Ab}{s:Ae}{c d:Int}(h:BD n s c d=0):lgL n s c d=(Cv n s c d).1/\lgB n s c d=(Cv n s c d).2:=by
 unfold lgL lgB Ed
 rw[Sw h];exact⟨rfl,rfl⟩
theorem csE_of{n:Ab}(hv:Aw n){q:Int}(h:0<=q/\q<(n.ss.length:Int)):csE n q=0:=by
 unfold csE
 rw[Sw (Cz.2 hv),Sx (by omega)]
theorem leg_len{n:Ab}(hv:Aw n)(hrw:Rows n.nx){s:Ae}{c sp:Int}(hc:0<=c/\c<(Au n:Int))(hsp:0<=sp/\sp<(n.ss.length:Int)){l:List Int}(h:A3 n s c sp=some l):l.length<=1000:=by
 have hs:=Bb s0 (show sp.toNat<n.ss.length by omega)
 have gi:=(hv.goodT _ _ hs).hi
 have hb:=hv.sb hs
 have h1:=D5 (n.ss.getD sp.toNat s0) 0
 unfold A3 at h
 cases hp:plF n c with
 | none=>
  have hbl:=FM hv hc.1 hc.2 hp
  rw[hp] at h
  simp only at h
  split at h
  .cases h
  .cases h
   have:=G5 hv hrw (s:=s) (blk:=c) (goal:=(n.ss.getD sp.toNat s0).i) ⟨hc.1,hbl⟩ (by omega)
   rw[SR,List.length_tail];omega
 | some i=>
  obtain⟨t,ht,hg,h3,h4,hil⟩:=EN hp
  have gt:=(hv.goodT _ _ ht).ho
  have tb:=hv.sb ht
  have h2:=D5 t (c-t.b+1)
  rw[hp] at h
  simp only[hg] at h
  split at h
  .cases h;omega
  .split at h
   .cases h
   .cases h
    have:=G5 hv hrw (s:=s) (blk:=t.o) (goal:=(n.ss.getD sp.toNat s0).i) (by omega) (by omega)
    simp only[SR,List.length_tail,Td,Te];omega
theorem fow_run(ls:List Int):CT Try.prog 9 [] [lI ls] [] (.bool true):=by
 obtain⟨hn,hk,_⟩:=Oa (L:=ls) (kk:=0) (most:=8) (by decide) (by decide)
 obtain⟨hS,_,_,hk9,_⟩:=Nn (l:=ls) (kk:=Ay ls 0 8) hn.v hn.rows (by omega)
 have hv:=hn.v
 have h48:=Hm hv
 have hns:=hv.ns
 have hln:=hn.ln
 have h24:=hv.nb24
 have hcel:=hv.cel
 have lc:=hS.lc
 refine fow_ct ls ([],_) ?_
 have hcl:(boL (m9S ls (Ay ls 0 8) (Aj ls 0 8)).cl).length=Au (Aj ls 0 8):=by rw[Ct];exact lc
 have hsl:(List.map sA (Aj ls 0 8).ss).length=(Aj ls 0 8).ss.length:=SB ..
 have hx:=A4 ls (m9K ls (Ay ls 0 8) (Aj ls 0 8)) (iN (boL (m9S ls (Ay ls 0 8) (Aj ls 0 8)).cl).length) (by rw[hcl];simp only[iN];omega) (by rw[hcl];simp only[iN];omega)
 have hq:=A4 ls (m9K ls (Ay ls 0 8) (Aj ls 0 8)+1) (iN (List.map sA (Aj ls 0 8).ss).length) (by rw[hsl];simp only[iN];omega) (by rw[hsl];simp only[iN];omega)
 unfold K6
 obtain⟨x,hxe⟩:∃x,Ah ls (m9K ls (Ay ls 0 8) (Aj ls 0 8)) (iN (boL (m9S ls (Ay ls 0 8) (Aj ls 0 8)).cl).length)=x:=⟨_,rfl⟩
 obtain⟨q,hqe⟩:∃x,Ah ls (m9K ls (Ay ls 0 8) (Aj ls 0 8)+1) (iN (List.map sA (Aj ls 0 8).ss).length)=x:=⟨_,rfl⟩
 rw[hxe] at hx
 rw[hqe] at hq
 rw[hcl] at hx
 rw[hsl] at hq
 simp only[iN] at hx hq
 have e0:BD (Aj ls 0 8) (m9S ls (Ay ls 0 8) (Aj ls 0 8)) x q=0:=by unfold BD;rw[Sw (ks_b hv hS),Sw ⟨hx,hq⟩]
 obtain⟨eL,eB⟩:=lg_eq e0
 have c0:csE (Aj ls 0 8) q=0:=csE_of hv hq
 have hh:hdO (Aj ls 0 8) q=Dx ((Aj ls 0 8).ss.getD q.toNat s0):=by unfold hdO;rw[Sw c0]
 rw[Aa hv,Aa hn.rows,Aa (by omega),Aa (by omega),Aa (by omega),hxe,hqe,e0,c0,eL,eB,Ai (by rfl),Ai (by rfl)]
 cases hy:(Cv (Aj ls 0 8) (m9S ls (Ay ls 0 8) (Aj ls 0 8)) x q).2 with
 | false=>
  rw[Am (show(!false)=true from rfl),Am (by rfl),Am (by rfl),Jl.2 hy]
  exact .ret _
 | true=>
  obtain⟨hr,hp⟩:=Jl.1 hy
  obtain⟨g1,g2⟩:=legR_chn hv hn.rows hx hq hr
  have g3:=LP hv hn.rows hx hq hr
  have g4:=pasB_iff.1 hp
  rw[Ai (show(!true)=false from rfl)]
  obtain⟨L,hL⟩:∃L,(Cv (Aj ls 0 8) (m9S ls (Ay ls 0 8) (Aj ls 0 8)) x q).1=L:=⟨_,rfl⟩
  rw[hL] at g1 g2 g3 g4 eL
  have hLl:L.length<=1000000:=by
   have:=leg_len hv hn.rows hx hq hr
   rw[hL] at this;omega
  refine Dq (fun i=>EA.l0 ((x::L).getD i 0) (i:Int)) L.length (fun i hi h=>?_) ?_
  .refine .to (show Hk ls _ (i:Int)=_ from ?_) h
   have hm:L.getD i 0∈L:=G6 hi
   have r:=g3 _ hm
   have el0:∀{β:Type} {f:Int->Option β},el L (i:Int).toNat f=f (L.getD i 0):=fun {β f}=>elG 0 hi
   have k1:=Chn.get g1 i hi
   have k2:=g4 _ hm
   unfold Hk
   simp only[hxe,hqe,eL,el0]
   rw[Am (AE (by rw[SB];simp only[iN];omega)),Aa (by omega),Aa hn.rows,k1,Ai (show(!true)=false from rfl),Aa r.1,AU (Bb true (show(L.getD i 0).toNat<(m9S ls (Ay ls 0 8) (Aj ls 0 8)).cl.length by omega)),k2,Ai rfl,zW i (by omega)]
   rfl
  .refine .to (show Hk ls _ (L.length:Int)=_ from ?_) (.ret _)
   unfold Hk
   simp only[hxe,hqe,eL]
   rw[Ai (Ar (by rw[SB];simp only[iN];omega)),<-JT,g2,hh,beq_self_eq_true]
theorem itineraryFollows_row(avs:List AV)(h:FB Try.prog 6 Try.f9.params.toList avs):CT Try.prog 9 [] avs [] (.bool true):=by
 rw[Try.params9] at h
 obtain⟨a,_,rfl,ka,h⟩:=h.consD
 obtain rfl:=h.nilD
 obtain⟨_,_,he,rfl⟩:=ka.sliceD Try.underlying22
 obtain⟨l,rfl⟩:=rdInts he
 exact fow_run l
end Go.Proofs.Ytedjkebooffjpaa

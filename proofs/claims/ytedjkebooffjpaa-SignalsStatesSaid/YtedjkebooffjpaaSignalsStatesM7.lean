/- Parts of the proof:Sg3m,SgF,SgI,SgG,Sg4m,SgJ,SgK,Sg6m,SgL,Sg5m,SgM,SpC,It1m,ItP,ItC,ItA,It2m,ItD,ItE,ItF,ItG,It4m,ItH,It3m,ItI,SgN,Sg7m,SgO,Sg8m,SgQ,Sg9m,SgR,Sgam,SgS,SgT,Sgbm,SgU,Sgcm,SgV,RqD,SgW,Sgdm,SgX,Sh1,Sh3m,Sh2m,Sh4,Sh5. -/
import Derived.Test.YtedjkebooffjpaaProg
import Derived.KernelRfl
import Derived.Test.YtedjkebooffjpaaSignalsStatesM6
noncomputable section
set_option linter.unusedVariables false
set_option linter.unusedSimpArgs false
open Go Go.AX Go.Proofs
set_option maxRecDepth 100000
set_option maxHeartbeats 4000000
set_option linter.unusedVariables false
set_option linter.unusedSimpArgs false
namespace Go.Proofs.Ytedjkebooffjpaa
inductive svaPc where
 | l0 (v0:Int)
 | l1 (v0:Int)
def svaSt(n:NetD)(q:SigD):svaPc→St
 | .l0 v0=>St.mk 101 [(2,AV.ptr 0 0 0),(3,AV.ptr 1 0 0),(42,AV.lst (List.map (iv) q.bw)),(43,iv (iN (List.map (iv) q.bw).length)),(44,iv v0)] [some (Blk.mk [netA n] 8 true true none),some (Blk.mk [AV.agg [AV.lst (boL q.cl),AV.lst (List.map (iv) q.bw),AV.lst (List.map (iv) q.pe)]] 3 true true none)]
 | .l1 v0=>St.mk 101 [(2,AV.ptr 0 0 0),(3,AV.ptr 1 0 0),(69,AV.lst (List.map (iv) q.pe)),(70,iv (iN (List.map (iv) q.pe).length)),(71,iv v0)] [some (Blk.mk [netA n] 8 true true none),some (Blk.mk [AV.agg [AV.lst (boL q.cl),AV.lst (List.map (iv) q.bw),AV.lst (List.map (iv) q.pe)]] 3 true true none)]
def svaHd:svaPc→Nat
 | .l0 _=>0
 | .l1 _=>1
def svaEn(n:NetD)(q:SigD):Option (svaPc⊕Ret):=
 gu (Rows n.nx) <|
 br (cntE n != 0)
 (some (.inr ([],AV.bool false)))
 (br (iN (boL q.cl).length != cntZ n)
  (some (.inr ([],AV.bool false)))
  (br (iN (List.map (AV.int IntKind.i64) q.bw).length != cntZ n)
   (some (.inr ([],AV.bool false)))
   (br (decide (iN (List.map bA n.bs).length<iN (List.map (AV.int IntKind.i64) q.pe).length))
    (some (.inr ([],AV.bool false)))
    (some (.inl (.l0 ((0:Int))))))))
def svaS0(n:NetD)(q:SigD)(v0:Int):Option (svaPc⊕Ret):=
 br (decide (v0<iN (List.map (AV.int IntKind.i64) q.bw).length))
 (gu (0≤v0) <|
  el (q.bw) (v0.toNat) fun(x47:Int)=>
  br (decide (x47 < -1))
  (some (.inr ([],AV.bool false)))
  (br (decide (8≤x47))
   (some (.inr ([],AV.bool false)))
   (br (decide (0≤x47))
    (el (q.cl) (v0.toNat) fun(x62:Bool)=>
     br (!x62)
     (some (.inr ([],AV.bool false)))
     (some (.inl (.l0 (IntKind.i64.wrap (v0+1))))))
    (some (.inl (.l0 (IntKind.i64.wrap (v0+1))))))))
 (some (.inl (.l1 ((0:Int)))))
def svaS1(n:NetD)(q:SigD)(v0:Int):Option (svaPc⊕Ret):=
 br (decide (v0<iN (List.map (AV.int IntKind.i64) q.pe).length))
 (gu (0≤v0) <|
  el (q.pe) (v0.toNat) fun(x74:Int)=>
  br (decide (x74<0))
  (some (.inr ([],AV.bool false)))
  (br (decide (iN (List.map bA n.bs).length≤x74))
   (some (.inr ([],AV.bool false)))
   (gu (0≤x74) <|
    el (q.cl) (x74.toNat) fun(x89:Bool)=>
    br x89
    (some (.inr ([],AV.bool false)))
    (gu (∀(e:AV),e∈List.map (AV.int IntKind.i64) q.pe→e.cells.length=1) <|
     gu (v0≤iN (List.map (AV.int IntKind.i64) q.pe).length) <|
     gu ((List.take (v0.toNat-Int.toNat 0) (List.drop (Int.toNat 0) q.pe)).length≤9000000000000000000) <|
     br (hasZ (List.take (v0.toNat-Int.toNat 0) (List.drop (Int.toNat 0) q.pe)) x74)
     (some (.inr ([],AV.bool false)))
     (some (.inl (.l1 (IntKind.i64.wrap (v0+1)))))))))
 (some (.inr ([],AV.bool true)))
def svaStep(n:NetD)(q:SigD):svaPc→Option (svaPc⊕Ret)
 | .l0 v0=>svaS0 n q v0
 | .l1 v0=>svaS1 n q v0
theorem svaEn_ok(n:NetD)(q:SigD)(o:svaPc⊕Ret)(h:svaEn n q=some o):Arr Try.prog Try.f25 0 (svaSt n q) svaHd (zB Try.f25) [] {n:=Try.f25.ntmps,fr:=enumF 0 ([netA n,sgA q]),hp:=([])} o:=
 Scr.ok h mix (
 .rn 0 [] [] [] [] (al (u2 (u2 t2))) <|
 .gu fun a0=>
 have c0:=cnt_c a0;
 .rn 0 [] [] [(13,hK c0 [] [])] [] (al (u2 (aj (ak (aj t9 (al (c0)))) (u2 (u2 (u2 (u2 s2))))))) <|
 .br (fun a1=>
 .rt [37] [] [] [] [] [] (aj (aj (u2 (u2 (u2 (aj a1 (aj a1 (aj a1 (aj a1 (aj a1 (ag a1 (u2 (k5 (aj t3 (u2 (k2 (k5 (al t3)))))))))))))))) (ak s2)) t2))
 (fun a1=>
 .br (fun a2=>
  .rt [36,51] [] [] [] [] [] (aj (aj (u2 (u2 (u2 (ag a1 (ag a1 (ag a1 (ag a1 (aj (aj a1 t3) (ag a1 (u2 (aj a2 (aj a2 (aj a2 (aj a2 (aj a2 (ag a2 (u2 (k2 (k5 (al t3)))))))))))))))))))) (ak s2)) t2))
 (fun a2=>
  .br (fun a3=>
  .rt [36,50,65] [] [] [] [] [] (aj (aj (u2 (u2 (u2 (ag a1 (ag a1 (ag a1 (ag a1 (aj (aj a1 t3) (ag a1 (u2 (ag a2 (ag a2 (ag a2 (ag a2 (aj (aj a2 t3) (ag a2 (u2 (aj a3 (aj a3 (aj a3 (aj a3 (aj a3 (aj a3 (aj a3 (al (aj a3 t2)))))))))))))))))))))))))) (ak s2)) t2))
  (fun a3=>
  .rn 0 [36,50,64] [] [] [] (al (u2 (u2 (u2 (ag a1 (ag a1 (ag a1 (ag a1 (aj (aj a1 t3) (ag a1 (u2 (ag a2 (ag a2 (ag a2 (ag a2 (aj (aj a2 t3) (ag a2 (u2 (ag a3 (ag a3 (ag a3 (ag a3 (ag a3 (ag a3 (aj (aj a3 t3) (al (aj a3 t2))))))))))))))))))))))))))) <|
  .br (fun a4=>
   .rt [36,50,64,81] [] [] [] [] [] (aj (aj a4 s2) t2))
  (fun a4=>
   .lp [36,50,64,80] [] [] [] [] [0,1] [2,3,42,43,44] (aj (aj a4 (al (u2 (u2 (u2 t2))))) t8)))))) (by kernel_rfl)
theorem svaS0_ok(n:NetD)(q:SigD)(v0:Int)(o:svaPc⊕Ret)(h:svaS0 n q v0=some o):Arr Try.prog Try.f25 0 (svaSt n q) svaHd (headC Try.f25 0) (.rnd (headC Try.f25 0)::headK Try.f25 0) (svaSt n q (.l0 v0)) o:=
 Scr.ok h mix (
 .rn 0 [] [] [] [] (al (al t3)) <|
 .br (fun a0=>
 .gu fun a1=>
 .el fun x47 a2=>
 .rn 0 [91] [(47,iv x47)] [] [] (aj a0 (al (u2 (aj (k2 (aj a1 (getMap (f:=iv) a2))) (u2 (u2 s2)))))) <|
 .br (fun a3=>
  .rt [103] [] [] [] [] [] (aj (aj (u2 (u2 (u2 (aj a3 (aj a3 (ag a3 (u2 (k5 (k5 (al t3)))))))))) (ak s2)) t2))
 (fun a3=>
  .br (fun a4=>
  .rt [102,111] [] [] [] [] [] (aj (aj (u2 (u2 (u2 (ag a3 (ag a3 (ag a3 (u2 (aj a4 (aj a4 (aj a4 (ak (k5 (aj a4 (al (aj a4 t2))))))))))))))) (ak s2)) t2))
  (fun a4=>
  .br (fun a5=>
   .el fun x62 a6=>
   .rn 0 [102,110,117] [(62,AV.bool x62)] [] [] (al (u2 (u2 (u2 (ag a3 (ag a3 (ag a3 (u2 (ag a4 (ag a4 (ag a4 (ag a5 (ag a5 (ag a5 (aj (aj a5 (k2 (aj a1 (getMap (f:=AV.bool) a6)))) (ag a5 (ag a5 (aj (aj a4 (aj a5 t2)) (al (aj a4 t2)))))))))))))))))))) <|
   .br (fun a7=>
   .rt [102,110,117,133] [] [] [] [] [] (aj (aj a7 s2) t2))
   (fun a7=>
   .lp [102,110,117,132] [] [] [] [] [0,1] [2,3,42,43,44] (aj (aj a7 (al (u2 s2))) t8)))
  (fun a5=>
   .lp [102,110,116] [] [] [] [] [0,1] [2,3,42,43,44] (aj (aj (u2 (u2 (u2 (ag a3 (ag a3 (ag a3 (u2 (ag a4 (ag a4 (ag a4 (aj a5 (aj a5 (aj a5 (aj a5 (aj a5 (aj a5 (aj (aj a4 (aj a5 t2)) (al (aj a4 t2))))))))))))))))))) (ak (al (u2 s2)))) t8)))))
 (fun a0=>
 .lp [90] [] [] [] [] [0,1] [2,3,69,70,71] (aj (aj a0 (al (u2 (u2 (u2 t2))))) t8))) (by kernel_rfl)
theorem svaS1_ok(n:NetD)(q:SigD)(v0:Int)(o:svaPc⊕Ret)(h:svaS1 n q v0=some o):Arr Try.prog Try.f25 0 (svaSt n q) svaHd (headC Try.f25 1) (.rnd (headC Try.f25 1)::headK Try.f25 1) (svaSt n q (.l1 v0)) o:=
 Scr.ok h mix (
 .rn 0 [] [] [] [] (al (al t3)) <|
 .br (fun a0=>
 .gu fun a1=>
 .el fun x74 a2=>
 .rn 0 [145] [(74,iv x74)] [] [] (aj a0 (al (u2 (aj (k2 (aj a1 (getMap (f:=iv) a2))) (u2 (u2 s2)))))) <|
 .br (fun a3=>
  .rt [157] [] [] [] [] [] (aj (aj (u2 (u2 (u2 (aj a3 (aj a3 (aj a3 (aj a3 (aj a3 (ag a3 (u2 (k5 (aj t3 (u2 (ak (k5 (al t3)))))))))))))))) (ak s2)) t2))
 (fun a3=>
  .br (fun a4=>
  .rt [156,171] [] [] [] [] [] (aj (aj (u2 (u2 (u2 (ag a3 (ag a3 (ag a3 (ag a3 (aj (aj a3 t3) (ag a3 (u2 (aj a4 (aj a4 (aj a4 (aj a4 (aj a4 (ag a4 (u2 (ak (k5 (al t3)))))))))))))))))))) (ak s2)) t2))
  (fun a4=>
  .gu fun a5=>
  .el fun x89 a6=>
  .br (fun a7=>
   .rt [156,170,185] [(89,AV.bool x89)] [] [] [] [] (aj (aj (u2 (u2 (u2 (ag a3 (ag a3 (ag a3 (ag a3 (aj (aj a3 t3) (ag a3 (u2 (ag a4 (ag a4 (ag a4 (aj (aj a4 (k2 (aj a5 (getMap (f:=AV.bool) a6)))) (ag a4 (ag a4 (u2 (aj a7 (aj a7 (aj a7 (aj a7 (aj a7 (aj a7 (al (aj a7 t2))))))))))))))))))))))))) (ak s2)) t2))
  (fun a7=>
   .gu fun a8=>
   .gu fun a9=>
   .gu fun a10=>
   have c0:=con_c (List.take (v0.toNat-Int.toNat 0) (List.drop (Int.toNat 0) q.pe)) x74 a10;
   .rn 0 [156,170,184] [(89,AV.bool x89)] [(98,hK c0 [] [])] [] (al (u2 (u2 (u2 (ag a3 (ag a3 (ag a3 (ag a3 (aj (aj a3 t3) (ag a3 (u2 (ag a4 (ag a4 (ag a4 (aj (aj a4 (k2 (aj a5 (getMap (f:=AV.bool) a6)))) (ag a4 (ag a4 (u2 (ag a7 (ag a7 (ag a7 (aj (aj a7 (k2 (aj a8 (aj (show(0:Int)≤(0:Int) from(by first | exact Nat.le_of_ble_eq_true rfl | decide)) (aj a1 (aj a9 (show iN (List.map (iv) q.pe).length≤iN (List.map (iv) q.pe).length by omega))))))) (ag a7 (aj (aj a7 (ak (k3 (al (show CT Try.prog 47 [] [AV.lst (List.take (v0.toNat-Int.toNat 0) (List.drop (Int.toNat 0) (List.map (iv) q.pe))),iv x74] [] (AV.bool (hasZ (List.take (v0.toNat-Int.toNat 0) (List.drop (Int.toNat 0) q.pe)) x74)) from CT.eqs (c0) (by first | (simp only[boL,List.map_append,List.map_set,List.map_take,List.map_drop,List.map_replicate,List.nil_append];done) | (simp only[boL,List.map_append,List.map_set,List.map_take,List.map_drop,List.map_replicate,List.nil_append];rfl) | (simp[gL,boL,lI,sA,bA];done) | (simp[gL,boL,lI,sA,bA];rfl) | (simp only[netA,List.map_append,List.map_set,List.map_cons,List.map_nil];rfl)) (by first | (simp only[boL,List.map_append,List.map_set,List.map_take,List.map_drop,List.map_replicate,List.nil_append];done) | (simp only[boL,List.map_append,List.map_set,List.map_take,List.map_drop,List.map_replicate,List.nil_append];rfl) | (simp[gL,boL,lI,sA,bA];done) | (simp[gL,boL,lI,sA,bA];rfl) | (simp only[netA,List.map_append,List.map_set,List.map_cons,List.map_nil];rfl))))))) (al (aj a7 t2)))))))))))))))))))))))))) <|
   .br (fun a11=>
   .rt [156,170,184,199] [] [] [] [] [] (aj (aj a11 s2) t2))
   (fun a11=>
   .lp [156,170,184,198] [] [] [] [] [0,1] [2,3,69,70,71] (aj (aj a11 (al (u2 s2))) t8))))))
 (fun a0=>
 .rt [144] [] [] [] [] [] (aj (aj a0 s2) t2))) (by kernel_rfl)
theorem sva_ct(n:NetD)(q:SigD)(r:Ret)(h:MReach (svaStep n q) (svaEn n q) r):CT Try.prog 25 ([]) ([netA n,sgA q]) r.1 r.2:=
 CT.mach (fn:=Try.f25) (c:=zB Try.f25) (S:=svaSt n q) (hd:=svaHd) Try.func25 (by kernel_rfl) (Nat.le_of_ble_eq_true rfl)
  (fun s o ho=>match s,ho with
   | .l0 v0,ho=>svaS0_ok n q v0 o ho
   | .l1 v0,ho=>svaS1_ok n q v0 o ho
  )
  (fun o ho=>svaEn_ok n q o ho) h
def clbSt(l:List Bool):Empty→St
 | x=>x.elim
def clbHd:Empty→Nat
 | x=>x.elim
def clbEn(l:List Bool):Option (Empty⊕Ret):=
 gu (boL l=[]→False) <|
 gu (∀(e:AV),e∈boL l→e.cells.length=1) <|
 gu (0+(boL l).length≤9223372036854775807) <|
 gu ((0+(boL l).length) * 1≤140737488355328) <|
 some (.inr ([some (Blk.mk ([]++boL l) 1 true true none)],AV.sl 0 0 (0+(boL l).length)))
def clbStep(l:List Bool):Empty→Option (Empty⊕Ret)
 | x=>x.elim
theorem clbEn_ok(l:List Bool)(o:Empty⊕Ret)(h:clbEn l=some o):Arr Try.prog Try.f55 0 (clbSt l) clbHd (zB Try.f55) [] {n:=Try.f55.ntmps,fr:=enumF 0 ([.lst (boL l)]),hp:=([])} o:=
 Scr.ok h mix (
 .rn 0 [] [] [] [] s2 <|
 .gu fun a0=>
 .rn 0 [] [] [] [] (al (u2 (al (ak a0)))) <|
 .gu fun a1=>
 .gu fun a2=>
 .gu fun a3=>
 .rt [] [] [] [] [1] [] (aj (ak (al (ak (u2 (aj (k2 (aj (show nat_lit 0=nat_lit 0 from rfl) (aj a1 (aj a2 a3)))) s2))))) t3)) (by kernel_rfl)
theorem clb_ct(l:List Bool)(r:Ret)(h:MReach (clbStep l) (clbEn l) r):CT Try.prog 55 ([]) ([.lst (boL l)]) r.1 r.2:=
 CT.mach (fn:=Try.f55) (c:=zB Try.f55) (S:=clbSt l) (hd:=clbHd) Try.func55 (by kernel_rfl) (Nat.le_of_ble_eq_true rfl)
  (fun s o ho=>match s,ho with
   | x,_=>x.elim)
  (fun o ho=>clbEn_ok l o ho) h
def cliSt(l:List Int):Empty→St
 | x=>x.elim
def cliHd:Empty→Nat
 | x=>x.elim
def cliEn(l:List Int):Option (Empty⊕Ret):=
 gu (List.map (AV.int IntKind.i64) l=[]→False) <|
 gu (∀(e:AV),e∈List.map (AV.int IntKind.i64) l→e.cells.length=1) <|
 gu (0+(List.map (AV.int IntKind.i64) l).length≤9223372036854775807) <|
 gu ((0+(List.map (AV.int IntKind.i64) l).length) * 8≤140737488355328) <|
 some (.inr ([some (Blk.mk ([]++List.map (AV.int IntKind.i64) l) 1 true true none)],AV.sl 0 0 (0+(List.map (AV.int IntKind.i64) l).length)))
def cliStep(l:List Int):Empty→Option (Empty⊕Ret)
 | x=>x.elim
theorem cliEn_ok(l:List Int)(o:Empty⊕Ret)(h:cliEn l=some o):Arr Try.prog Try.f97 0 (cliSt l) cliHd (zB Try.f97) [] {n:=Try.f97.ntmps,fr:=enumF 0 ([lI l]),hp:=([])} o:=
 Scr.ok h mix (
 .rn 0 [] [] [] [] s2 <|
 .gu fun a0=>
 .rn 0 [] [] [] [] (al (u2 (al (ak a0)))) <|
 .gu fun a1=>
 .gu fun a2=>
 .gu fun a3=>
 .rt [] [] [] [] [1] [] (aj (ak (al (ak (u2 (aj (k2 (aj (show nat_lit 0=nat_lit 0 from rfl) (aj a1 (aj a2 a3)))) s2))))) t3)) (by kernel_rfl)
theorem cli_ct(l:List Int)(r:Ret)(h:MReach (cliStep l) (cliEn l) r):CT Try.prog 97 ([]) ([lI l]) r.1 r.2:=
 CT.mach (fn:=Try.f97) (c:=zB Try.f97) (S:=cliSt l) (hd:=cliHd) Try.func97 (by kernel_rfl) (Nat.le_of_ble_eq_true rfl)
  (fun s o ho=>match s,ho with
   | x,_=>x.elim)
  (fun o ho=>cliEn_ok l o ho) h
inductive dlfPc where
 | l0 (v0:List Int) (v1 v2:Int)
def dlfSt(l:List Int)(w:Int):dlfPc→St
 | .l0 v0 v1 v2=>St.mk 42 [(0,AV.sl 0 0 v0.length),(1,AV.fn 101 [AV.ptr 1 0 0]),(5,iv v1),(6,iv v2)] [some (Blk.mk (List.map (iv) v0) 1 true true none),some (Blk.mk [iv w] 1 true true none)]
def dlfHd:dlfPc→Nat
 | .l0 _ _ _=>0
def dlfEn(l:List Int)(w:Int):Option (dlfPc⊕Ret):=
 gu (l.length≤1000000) <|
 br (idxZ l w == -1)
 (some (.inr ([some (Blk.mk (List.map (AV.int IntKind.i64) l) 1 true true none),some (Blk.mk [AV.int IntKind.i64 w] 1 true true none)],AV.sl 0 0 l.length)))
 (some (.inl (.l0 l (idxZ l w) (IntKind.i64.wrap (idxZ l w+1)))))
def dlfS0(l:List Int)(w:Int)(v0:List Int)(v1 v2:Int):Option (dlfPc⊕Ret):=
 br (decide (v2<iN v0.length))
 (gu (0≤v2) <|
  gu (v2<iN v0.length) <|
  el v0 (0+v2.toNat) fun(x25:Int)=>
  br (!x25==w)
  (gu (0≤v1) <|
   gu (v1<iN v0.length) <|
   gu ((0+v1.toNat).succ.le (List.map (AV.int IntKind.i64) v0).length) <|
   some (.inl (.l0 (v0.set (0+v1.toNat) x25) (IntKind.i64.wrap (v1+1)) (IntKind.i64.wrap (v2+1)))))
  (some (.inl (.l0 v0 v1 (IntKind.i64.wrap (v2+1))))))
 (gu (0≤v1) <|
  gu (v1≤iN v0.length) <|
  gu ((0+v1.toNat+(v0.length-v1.toNat)).le (List.map (AV.int IntKind.i64) v0).length) <|
  some (.inr ([some (Blk.mk (List.take (0+v1.toNat) (List.map (AV.int IntKind.i64) v0)++List.replicate (v0.length-v1.toNat) (AV.int IntKind.i64 0)++List.drop (0+v1.toNat+(v0.length-v1.toNat)) (List.map (AV.int IntKind.i64) v0)) 1 true true none),some (Blk.mk [AV.int IntKind.i64 w] 1 true true none)],AV.sl 0 0 (v1.toNat-Int.toNat 0))))
def dlfStep(l:List Int)(w:Int):dlfPc→Option (dlfPc⊕Ret)
 | .l0 v0 v1 v2=>dlfS0 l w v0 v1 v2
theorem dlfEn_ok(l:List Int)(w:Int)(o:dlfPc⊕Ret)(h:dlfEn l w=some o):Arr Try.prog Try.f100 2 (dlfSt l w) dlfHd (zB Try.f100) [] {n:=Try.f100.ntmps,fr:=enumF 0 ([.sl 0 0 l.length,.fn 101 [.ptr 1 0 0]]),hp:=([some (Blk.mk (l.map (AV.int .i64)) 1 true true none),some (Blk.mk [.int .i64 w] 1 true true none)])} o:=
 Scr.ok h mix (
 .rn 0 [] [] [] [] s2 <|
 .gu fun a0=>
 have c0:=ixw_c l w a0;
 .rn 1 [] [] [(10,hK c0 [0,1] [])] [] (aj (u2 (u2 (aj (k3 (u2 (k2 (al (c0))))) s2))) (al (u2 s2))) <|
 .br (fun a1=>
 .rt [25] [] [] [] [0,1] [] (aj (aj a1 (al (u2 s2))) t4))
 (fun a1=>
 .lp [24] [] [] [] [] [0,1] [0,1,5,6] (aj (aj a1 (al (u2 (u2 s2)))) (ak (u2 t5))))) (by kernel_rfl)
theorem dlfS0_ok(l:List Int)(w:Int)(v0:List Int)(v1 v2:Int)(o:dlfPc⊕Ret)(h:dlfS0 l w v0 v1 v2=some o):Arr Try.prog Try.f100 2 (dlfSt l w) dlfHd (headC Try.f100 0) (.rnd (headC Try.f100 0)::headK Try.f100 0) (dlfSt l w (.l0 v0 v1 v2)) o:=
 Scr.ok h mix (
 .rn 0 [] [] [] [] (al (u2 (u2 (u2 (al t3))))) <|
 .br (fun a0=>
 .gu fun a1=>
 .gu fun a2=>
 .el fun x25 a3=>
 have c0:=wh1_c x25 (w);
 .rn 1 [39] [(25,iv x25)] [(28,hK c0 [1] [])] [] (aj a0 (aj (u2 (u2 (aj (k2 (aj a1 a2)) (aj (ak (getMap (f:=iv) a3)) s2)))) (al (u2 (u2 (aj (k5 (al (c0))) s2)))))) <|
 .br (fun a4=>
  .gu fun a5=>
  .gu fun a6=>
  .gu fun a7=>
  .lq [59] [] [] [] [] [0,1] [0,1,5,6] (up [(0,AV.sl 0 0 v0.length)] [(0,(List.map (iv) v0).set (0+v1.toNat) (iv x25))] (dlfSt l w (.l0 (v0.set (0+v1.toNat) x25) (IntKind.i64.wrap (v1+1)) (IntKind.i64.wrap (v2+1))))) (aj (aj a4 (aj (u2 (u2 (u2 (aj (k2 (aj a5 a6)) (al (k2 a7)))))) (aj (u2 (u2 s2)) (al (u2 (u2 s2)))))) (ak (u2 t5))) (by simp[up,upF,upV,upH,upB,dlfSt,gL,boL,lI]))
 (fun a4=>
  .lp [58] [] [] [] [] [0,1] [0,1,5,6] (aj (aj a4 (al (u2 (u2 s2)))) (ak (u2 t5)))))
 (fun a0=>
 .gu fun a1=>
 .gu fun a2=>
 .gu fun a3=>
 .rt [38] [] [] [] [0,1] [] (aj (aj a0 (aj (u2 (u2 (aj (k2 (aj a1 (aj a2 (aj (show iN v0.length≤iN v0.length by omega) (show iN v0.length≤iN v0.length by omega))))) (al (ak a3))))) (al (u2 (u2 (aj (k2 (aj (show(0:Int)≤(0:Int) from(by first | exact Nat.le_of_ble_eq_true rfl | decide)) (aj a1 (aj a2 (show iN v0.length≤iN v0.length by omega))))) s2)))))) t4))) (by kernel_rfl)
theorem dlf_ct(l:List Int)(w:Int)(r:Ret)(h:MReach (dlfStep l w) (dlfEn l w) r):CT Try.prog 100 ([some (Blk.mk (l.map (AV.int .i64)) 1 true true none),some (Blk.mk [.int .i64 w] 1 true true none)]) ([.sl 0 0 l.length,.fn 101 [.ptr 1 0 0]]) r.1 r.2:=
 CT.mach (fn:=Try.f100) (c:=zB Try.f100) (S:=dlfSt l w) (hd:=dlfHd) Try.func100 (by kernel_rfl) (Nat.le_of_ble_eq_true rfl)
  (fun s o ho=>match s,ho with
   | .l0 v0 v1 v2,ho=>dlfS0_ok l w v0 v1 v2 o ho
  )
  (fun o ho=>dlfEn_ok l w o ho) h
def n14St(n:NetD):Empty→St
 | x=>x.elim
def n14Hd:Empty→Nat
 | x=>x.elim
def n14En(n:NetD):Option (Empty⊕Ret):=
 gu (Rows n.nx) <|
 br (cntE n != 0)
 (some (.inr ([],AV.tup [AV.agg [AV.nils,AV.nils,AV.nils],AV.int IntKind.i64 (cntE n)])))
 (gu (0≤cntZ n) <|
  gu (1 * cntZ n≤281474976710656) <|
  gu (cntZ n≤9223372036854775807) <|
  gu (0≤cntZ n∧cntZ n≤48) <|
  gu (∀(blk:Blk),blk∈[Blk.mk (List.map (AV.int IntKind.i64) (List.replicate (cntZ n).toNat (-1))) 1 true true none]→ImmB blk) <|
  some (.inr ([],AV.tup [AV.agg [AV.lst (List.replicate (cntZ n).toNat (AV.bool false)),AV.lst (List.map (AV.int IntKind.i64) (List.replicate (cntZ n).toNat (-1))),AV.nils],AV.int IntKind.i64 0])))
def n14Step(n:NetD):Empty→Option (Empty⊕Ret)
 | x=>x.elim
theorem n14En_ok(n:NetD)(o:Empty⊕Ret)(h:n14En n=some o):Arr Try.prog Try.f14 0 (n14St n) n14Hd (zB Try.f14) [] {n:=Try.f14.ntmps,fr:=enumF 0 ([netA n]),hp:=([])} o:=
 Scr.ok h mix (
 .rn 0 [] [] [] [] (al (u2 t3)) <|
 .gu fun a0=>
 have c0:=cnt_c a0;
 .rn 1 [] [] [(8,hK c0 [] [])] [] (aj (u2 (aj (ak (aj t9 (al (c0)))) (u2 (u2 (u2 (u2 s2)))))) (al (u2 s2))) <|
 .br (fun a1=>
 .rt [25] [] [] [] [] [] (aj (aj a1 (al (ak (u2 (aj (k2 n11) s2))))) (al (aj t4 t2))))
 (fun a1=>
 .gu fun a2=>
 .gu fun a3=>
 .gu fun a4=>
 .gu fun a5=>
 .gu fun a6=>
 have c1:=rep_c (cntZ n) a5;
 .rt [24] [] [(19,hK c1 [] [3])] [] [] [2,4] (aj (aj a1 (al (u2 (aj (k2 (aj a2 (aj (show cntZ n≤cntZ n by omega) (aj a3 a4)))) (ak (u2 (aj (k2 (aj (show nat_lit 1=nat_lit 1 from rfl) (ak (aj (c1) a6)))) (aj t3 (aj (k2 n11) t2))))))))) (al (aj (aj (show(cntZ n).toNat=(List.replicate (cntZ n).toNat (AV.bool false)).length by simp) (aj (show(cntZ n).toNat=(List.map (iv) (List.replicate (cntZ n).toNat (-1))).length by simp) t2)) t2))))) (by kernel_rfl)
theorem n14_ct(n:NetD)(r:Ret)(h:MReach (n14Step n) (n14En n) r):CT Try.prog 14 ([]) ([netA n]) r.1 r.2:=
 CT.mach (fn:=Try.f14) (c:=zB Try.f14) (S:=n14St n) (hd:=n14Hd) Try.func14 (by kernel_rfl) (Nat.le_of_ble_eq_true rfl)
  (fun s o ho=>match s,ho with
   | x,_=>x.elim)
  (fun o ho=>n14En_ok n o ho) h
inductive n19Pc where
 | l0 (v0:Int) (v1:List Int)
def n19St(q:Int):n19Pc→St
 | .l0 v0 v1=>St.mk 28 [(0,iv q),(2,AV.ptr 0 0 0),(4,AV.ptr 1 0 0),(5,iv v0)] [some (Blk.mk [AV.agg [AV.nils,AV.nils]] 2 true true none),some (Blk.mk [AV.agg [AV.sl 2 0 v1.length,AV.sl 3 0 q.toNat]] 2 false true none),some (Blk.mk (List.map (iv) v1) 1 true true none),some (Blk.mk (List.replicate q.toNat AV.nils) 1 true true none)]
def n19Hd:n19Pc→Nat
 | .l0 _ _=>0
def n19En(q:Int):Option (n19Pc⊕Ret):=
 br (decide (q<0))
 (some (.inr ([],AV.tup [AV.agg [AV.nils,AV.nils],AV.int IntKind.i64 19])))
 (br (decide (48<q))
  (some (.inr ([],AV.tup [AV.agg [AV.nils,AV.nils],AV.int IntKind.i64 19])))
  (gu (0≤q) <|
   gu (8 * q≤281474976710656) <|
   gu (q≤9223372036854775807) <|
   gu (24 * q≤281474976710656) <|
   some (.inl (.l0 ((0:Int)) (List.replicate q.toNat 0)))))
def n19S0(q v0:Int)(v1:List Int):Option (n19Pc⊕Ret):=
 br (decide (v0<q))
 (gu (0≤v0) <|
  gu (v0<iN v1.length) <|
  gu ((0+v0.toNat).succ.le (List.map (AV.int IntKind.i64) v1).length) <|
  some (.inl (.l0 (IntKind.i64.wrap (v0+1)) (v1.set (0+v0.toNat) (-1)))))
 (some (.inr ([],AV.tup [AV.agg [AV.lst (List.map (AV.int IntKind.i64) v1),AV.lst (List.replicate q.toNat AV.nils)],AV.int IntKind.i64 0])))
def n19Step(q:Int):n19Pc→Option (n19Pc⊕Ret)
 | .l0 v0 v1=>n19S0 q v0 v1
theorem n19En_ok(q:Int)(o:n19Pc⊕Ret)(h:n19En q=some o):Arr Try.prog Try.f17 0 (n19St q) n19Hd (zB Try.f17) [] {n:=Try.f17.ntmps,fr:=enumF 0 ([.int .i64 q]),hp:=([])} o:=
 Scr.ok h mix (
 .rn 0 [] [] [] [] (al t3) <|
 .br (fun a0=>
 .rt [17] [] [] [] [] [] (aj (aj (u2 (u2 (u2 (aj a0 (aj a0 (al (aj a0 t2))))))) (ak (al (ak (aj (k2 n11) t2))))) (al (aj t3 t2))))
 (fun a0=>
 .rn 0 [16] [] [] [] (al (u2 (u2 (u2 (ag a0 (ag a0 (al (aj a0 t2)))))))) <|
 .br (fun a1=>
  .rt [16,23] [] [] [] [] [] (aj (aj a1 (al (ak (aj (k2 n11) t2)))) (al (aj t3 t2))))
 (fun a1=>
  .gu fun a2=>
  .gu fun a3=>
  .gu fun a4=>
  .gu fun a5=>
  .lq [16,22] [(16,AV.tup [])] [] [] [] [0,3,1,2] [0,2,4,5] (up [] [(1,[AV.agg [AV.sl 2 0 q.toNat,AV.sl 3 0 q.toNat]]),(2,List.replicate q.toNat (iv 0))] (n19St q (.l0 ((0:Int)) (List.replicate q.toNat 0)))) (aj (aj a1 (aj (u2 (aj (k2 (aj a2 (aj (show q≤q by omega) (aj a3 a4)))) (u2 (aj (k2 (aj a2 (aj (show q≤q by omega) (aj a5 a4)))) (aj t3 (ak (al (k2 n11)))))))) s2)) (k5 (aj (al t3) t3))) (by simp[up,upF,upV,upH,upB,n19St,gL,boL,lI])))) (by kernel_rfl)
theorem n19S0_ok(q v0:Int)(v1:List Int)(o:n19Pc⊕Ret)(h:n19S0 q v0 v1=some o):Arr Try.prog Try.f17 0 (n19St q) n19Hd (headC Try.f17 0) (.rnd (headC Try.f17 0)::headK Try.f17 0) (n19St q (.l0 v0 v1)) o:=
 Scr.ok h mix (
 .rn 0 [] [] [] [] (al (u2 (u2 (al t3)))) <|
 .br (fun a0=>
 .gu fun a1=>
 .gu fun a2=>
 .gu fun a3=>
 .lq [41] [] [] [] [] [0,1,2,3] [0,2,4,5] (up [] [(1,[AV.agg [AV.sl 2 0 v1.length,AV.sl 3 0 q.toNat]]),(2,(List.map (iv) v1).set (0+v0.toNat) (iv (-1)))] (n19St q (.l0 (IntKind.i64.wrap (v0+1)) (v1.set (0+v0.toNat) (-1))))) (aj (aj a0 (aj (u2 (u2 (u2 (aj (k2 (aj a1 a2)) (al (ak a3)))))) (al (u2 (u2 s2))))) (k5 (aj (al t3) t3))) (by simp[up,upF,upV,upH,upB,n19St,gL,boL,lI]))
 (fun a0=>
 .rt [40] [] [] [] [] [2,3] (aj (aj a0 (al (u2 (aj (k2 n11) t2)))) (al (aj (aj (show v1.length=(List.map (iv) v1).length by simp) (al (show q.toNat=(List.replicate q.toNat AV.nils).length by simp))) t2))))) (by kernel_rfl)
theorem n19_ct(q:Int)(r:Ret)(h:MReach (n19Step q) (n19En q) r):CT Try.prog 17 ([]) ([.int .i64 q]) r.1 r.2:=
 CT.mach (fn:=Try.f17) (c:=zB Try.f17) (S:=n19St q) (hd:=n19Hd) Try.func17 (by kernel_rfl) (Nat.le_of_ble_eq_true rfl)
  (fun s o ho=>match s,ho with
   | .l0 v0 v1,ho=>n19S0_ok q v0 v1 o ho
  )
  (fun o ho=>n19En_ok q o ho) h
inductive c19Pc where
 | l0 (v0:Int) (v1:List (List Int))
def c19St(q:LokD):c19Pc→St
 | .l0 v0 v1=>St.mk 28 [(1,AV.ptr 0 0 0),(2,AV.ptr 1 0 0),(3,AV.ptr 2 0 0),(4,iv v0)] [some (Blk.mk [AV.agg [AV.lst (List.map (iv) q.ow),AV.lst (gL q.qu)]] 2 true true none),some (Blk.mk [AV.agg [AV.nils,AV.nils]] 2 true true none),some (Blk.mk [AV.agg [AV.sl 3 0 q.ow.length,AV.sl 4 0 v1.length]] 2 false true none),some (Blk.mk (List.map (iv) q.ow) 1 true true none),some (Blk.mk (List.map lI v1) 1 true true none)]
def c19Hd:c19Pc→Nat
 | .l0 _ _=>0
def c19En(q:LokD):Option (c19Pc⊕Ret):=
 gu (∀(e:AV),e∈List.map (AV.int IntKind.i64) q.ow→e.cells.length=1) <|
 gu ((List.map (AV.int IntKind.i64) q.ow).length≤9223372036854775807) <|
 gu ((List.map (AV.int IntKind.i64) q.ow).length * 8≤140737488355328) <|
 some (.inl (.l0 ((0:Int)) ([])))
def c19S0(q:LokD)(v0:Int)(v1:List (List Int)):Option (c19Pc⊕Ret):=
 br (decide (v0<iN (gL q.qu).length))
 (gu (0≤v0) <|
  el (q.qu) (v0.toNat) fun(x21:List Int)=>
  gu (∀(e:AV),e∈List.map (AV.int IntKind.i64) x21→e.cells.length=1) <|
  gu ((List.map (AV.int IntKind.i64) x21).length≤9223372036854775807) <|
  gu ((List.map (AV.int IntKind.i64) x21).length * 8≤140737488355328) <|
  gu ((List.map lI v1).length+[AV.lst (List.map (AV.int IntKind.i64) x21)].length≤9223372036854775807) <|
  gu (((List.map lI v1).length+[AV.lst (List.map (AV.int IntKind.i64) x21)].length) * 24≤140737488355328) <|
  some (.inl (.l0 (IntKind.i64.wrap (v0+1)) (v1++[x21]))))
 (some (.inr ([some (Blk.mk (List.map (AV.int IntKind.i64) q.ow) 1 true true none),some (Blk.mk (List.map lI v1) 1 true true none)],AV.agg [AV.sl 0 0 q.ow.length,AV.sl 1 0 v1.length])))
def c19Step(q:LokD):c19Pc→Option (c19Pc⊕Ret)
 | .l0 v0 v1=>c19S0 q v0 v1
theorem c19En_ok(q:LokD)(o:c19Pc⊕Ret)(h:c19En q=some o):Arr Try.prog Try.f50 0 (c19St q) c19Hd (zB Try.f50) [] {n:=Try.f50.ntmps,fr:=enumF 0 ([lkA q]),hp:=([])} o:=
 Scr.ok h mix (
 .rn 0 [] [] [] [] (al (u2 t2)) <|
 .gu fun a0=>
 .gu fun a1=>
 .gu fun a2=>
 .lq [] [] [] [] [(2003,1)] [0,1,3,2,4] [1,2,3,4] (up [] [(2,[AV.agg [AV.sl 3 0 (List.map (iv) q.ow).length,AV.sl 4 0 0]])] (c19St q (.l0 ((0:Int)) ([])))) (aj (aj (u2 (u2 (aj (ak (aj a0 (aj a1 a2))) (u2 (ak (al (k2 n11))))))) s2) (ak (k5 (aj (al t3) t3)))) (by simp[up,upF,upV,upH,upB,c19St,gL,boL,lI])) (by kernel_rfl)
theorem c19S0_ok(q:LokD)(v0:Int)(v1:List (List Int))(o:c19Pc⊕Ret)(h:c19S0 q v0 v1=some o):Arr Try.prog Try.f50 0 (c19St q) c19Hd (headC Try.f50 0) (.rnd (headC Try.f50 0)::headK Try.f50 0) (c19St q (.l0 v0 v1)) o:=
 Scr.ok h mix (
 .rn 0 [] [] [] [] (al (u2 (u2 (u2 (u2 (al t3)))))) <|
 .br (fun a0=>
 .gu fun a1=>
 .el fun x21 a2=>
 .gu fun a3=>
 .gu fun a4=>
 .gu fun a5=>
 .gu fun a6=>
 .gu fun a7=>
 .lq [27] [(21,lI x21),(23,AV.lst [])] [] [] [] [0,1,2,3,6] [1,2,3,4] (up [] [(2,[AV.agg [AV.sl 3 0 q.ow.length,AV.sl 4 0 ((List.map lI v1).length+[AV.lst (List.map (iv) x21)].length)]]),(4,List.map lI v1++[AV.lst (List.map (iv) x21)])] (c19St q (.l0 (IntKind.i64.wrap (v0+1)) (v1++[x21])))) (aj (aj a0 (aj (u2 (u2 (u2 (u2 (u2 (aj (k2 (aj a1 (getMap (f:=lI) a2))) (u2 (aj (ak (aj (aj a3 (aj a4 a5)) (show(List.map (iv) x21).length=(List.map (iv) x21).length from rfl))) (u2 (aj (k2 (aj (show(List.map lI v1).length=v1.length by simp) (aj (aj (show nat_lit 1=nat_lit 1 from rfl) (show 1≤[AV.lst (List.map (iv) x21)].length by simp)) (aj a6 a7)))) (u2 (al t3)))))))))))) (al (u2 (u2 s2))))) (ak (k5 (aj (al t3) t3)))) (by simp[up,upF,upV,upH,upB,c19St,gL,boL,lI]))
 (fun a0=>
 .rt [26] [] [] [] [3,4] [] (aj (aj a0 (al (u2 (al (k2 n11))))) (aj t3 t3)))) (by kernel_rfl)
theorem c19_ct(q:LokD)(r:Ret)(h:MReach (c19Step q) (c19En q) r):CT Try.prog 50 ([]) ([lkA q]) r.1 r.2:=
 CT.mach (fn:=Try.f50) (c:=zB Try.f50) (S:=c19St q) (hd:=c19Hd) Try.func50 (by kernel_rfl) (Nat.le_of_ble_eq_true rfl)
  (fun s o ho=>match s,ho with
   | .l0 v0 v1,ho=>c19S0_ok q v0 v1 o ho
  )
  (fun o ho=>c19En_ok q o ho) h
end Go.Proofs.Ytedjkebooffjpaa
namespace Go.Proofs.Ytedjkebooffjpaa
def wo(l:List Int)(x:Int):List Int:=l.filter (fun y=>y != x)
theorem wo_succ{l:List Int}{x:Int}{i:Nat}(h:i<l.length):wo (l.take (i+1)) x=wo (l.take i) x++(if (l.getD i 0 != x)=true then [l.getD i 0] else []):=by
 unfold wo
 rw[List.take_add_one,getE 0 h,List.filter_append]
 congr 1
 show List.filter _ [l.getD i 0]=_
 rw[List.filter_cons];rfl
theorem clb_c(l:List Bool)(hl:l.length≤1000000):CT Try.prog 55 [] [.lst (boL l)] [some (Blk.mk (boL l) 1 true true none)] (.sl 0 0 (boL l).length):=by
 have hL:=boL_len l
 by_cases h:l=[]
 ·subst h;exact cl55_e
 refine clb_ct l ([_],_) (.val ?_)
 unfold clbEn
 rw[gu_t (fun e=>h (by unfold boL at e;exact List.map_eq_nil_iff.1 e)),gu_t (boL_one _),gu_t (by omega),gu_t (by omega),List.nil_append,Nat.zero_add]
theorem cli_c(l:List Int)(hl:l.length≤1000000):CT Try.prog 97 [] [lI l] [some (Blk.mk (l.map (AV.int .i64)) 1 true true none)] (.sl 0 0 l.length):=by
 by_cases h:l=[]
 ·subst h;exact cl97_e
 refine cli_ct l ([_],_) (.val ?_)
 unfold cliEn
 rw[gu_t (fun e=>h (List.map_eq_nil_iff.1 e)),gu_t (lI_one _),gu_t (by rw[List.length_map];omega),gu_t (by rw[List.length_map];omega),List.nil_append,Nat.zero_add,List.length_map]
theorem sva_c{n:NetD}(cl:List Bool)(bw pe:List Int)(hrw:Rows n.nx):CT Try.prog 25 [] [netA n,sgA ⟨cl,bw,pe⟩] [] (.bool (sigB n ⟨cl,bw,pe⟩)):=by
 generalize hs:(⟨cl,bw,pe⟩:SigD)=s
 refine sva_ct n s ([],_) ?_
 unfold svaEn sigB cntE cntZ
 rw[gu_t hrw]
 cases hv:valB n with
 | false=>exact .ret _
 | true=>
 have hv:=valB_iff.1 hv
 obtain⟨h48,hnb⟩:=celN_le hv
 unfold sigF
 rw[if_pos rfl,if_pos rfl,br_f (by rfl),boL_len,List.length_map,List.length_map,List.length_map,Bool.true_and]
 by_cases h1:s.cl.length=celN n
 case neg=>rw[br_t (bne_iff_ne.2 (by simp only[iN];omega)),dec_f h1];exact .ret _
 rw[br_f (by rw[h1];simp),dec_t h1,Bool.true_and]
 by_cases h2:s.bw.length=celN n
 case neg=>rw[br_t (bne_iff_ne.2 (by simp only[iN];omega)),dec_f h2];exact .ret _
 rw[br_f (by rw[h2];simp),dec_t h2,Bool.true_and]
 by_cases h3:n.bs.length<s.pe.length
 ·rw[br_t (dec_t (by simp only[iN];omega))]
  have:(fnd (bdP n.bs.length s) 0 s.pe.length).isNone=false:=by
   cases hf:fnd (bdP n.bs.length s) 0 s.pe.length with
   | some i=>rfl
   | none=>
    have:=pe_bd (nb:=n.bs.length) (s:=s) (Nat.le_refl _) fun j hj=>fnd_none hf j (Nat.zero_le _) (by omega)
    omega
  rw[this,Bool.and_false];exact .ret _
 rw[br_f (dec_f (by simp only[iN];omega))]
 refine(loop_fst (fun i=>svaPc.l0 (i:Int)) s.bw.length (bdW s) (rF:=fun _=>(([],.bool false):Ret)) (r:=([],.bool (fnd (bdP n.bs.length s) 0 s.pe.length).isNone)) (fun i hi _ hp=>?_) (fun i x hi _ hp hx=>?_) (fun _=>?_)).res (by cases fnd (bdW s) 0 s.bw.length<;>rfl)
 ·refine .to (show svaS0 n s i=_ from ?_) (.ret _)
  unfold svaS0
  unfold bdW at hp
  rw[rngG 0 hi]
  cases hd1:decide (s.bw.getD i 0 < -1) with
  | true=>rw[br_t rfl]
  | false=>
   rw[hd1,Bool.false_or] at hp
   rw[br_f rfl]
   cases hd2:decide (8≤s.bw.getD i 0) with
   | true=>rw[br_t rfl]
   | false=>
    rw[hd2,Bool.false_or,Bool.and_eq_true] at hp
    rw[br_f rfl,br_t hp.1,elG true (show i<s.cl.length by omega),br_t hp.2]
 ·refine .to (show svaS0 n s i=_ from ?_) hx
  unfold svaS0
  unfold bdW at hp
  simp only[Bool.or_eq_false_iff] at hp
  rw[rngG 0 hi,br_f hp.1,br_f hp.2.1,zW i (by omega)]
  cases h0:decide (0≤s.bw.getD i 0) with
  | false=>rw[br_f rfl]
  | true=>
   have hq:=hp.2.2
   rw[h0,Bool.true_and] at hq
   rw[br_t rfl,elG true (show i<s.cl.length by omega),br_f hq]
 ·refine .to (show svaS0 n s s.bw.length=_ from ?_) ?_ (y:=some (.inl (.l1 ((0:Nat):Int))))
  ·unfold svaS0;rw[rngE];rfl
  refine(loop_fst (fun i=>svaPc.l1 (i:Int)) s.pe.length (bdP n.bs.length s) (rF:=fun _=>(([],.bool false):Ret)) (r:=([],.bool true)) (fun i hi hj hp=>?_) (fun i x hi hj hp hx=>?_) (fun _=>?_)).res (by cases fnd (bdP n.bs.length s) 0 s.pe.length<;>rfl)
  ·refine .to (show svaS1 n s i=_ from ?_) (.ret _)
   unfold svaS1
   unfold bdP at hp
   rw[rngG 0 hi]
   by_cases hd1:s.pe.getD i 0<0
   ·rw[br_t (dec_t hd1)]
   rw[dec_f hd1,Bool.false_or] at hp
   rw[br_f (dec_f hd1)]
   by_cases hd2:(n.bs.length:Int)≤s.pe.getD i 0
   ·rw[br_t (dec_t (by rw[List.length_map];exact hd2))]
   rw[dec_f hd2,Bool.false_or] at hp
   rw[br_f (dec_f (by rw[List.length_map];exact hd2)),gu_t (by omega),el_t (getE true (show(s.pe.getD i 0).toNat<s.cl.length by omega))]
   cases hd3:s.cl.getD (s.pe.getD i 0).toNat true with
   | true=>rw[br_t rfl]
   | false=>
    rw[hd3,Bool.false_or] at hp
    rw[br_f rfl,gu_t (lI_one _),gu_t (by simp only[iN,List.length_map];omega),take0,gu_t (by rw[List.length_take];omega),br_t hp]
  ·refine .to (show svaS1 n s i=_ from ?_) hx
   unfold svaS1
   unfold bdP at hp
   simp only[Bool.or_eq_false_iff,decide_eq_false_iff_not] at hp
   rw[rngG 0 hi,br_f (dec_f hp.1),br_f (dec_f (by rw[List.length_map];exact hp.2.1)),gu_t (by omega),el_t (getE true (show(s.pe.getD i 0).toNat<s.cl.length by omega)),br_f hp.2.2.1,gu_t (lI_one _),gu_t (by simp only[iN,List.length_map];omega),take0,gu_t (by rw[List.length_take];omega),br_f hp.2.2.2,zW i (by omega)]
  ·refine .to (show svaS1 n s s.pe.length=_ from ?_) (.ret _)
   unfold svaS1;rw[rngE]
def nsO(n:NetD):SigD:=⟨List.replicate (celN n) false,List.replicate (celN n) (-1),[]⟩
def nsE(n:NetD):Int:=if valB n=true then 0 else 20
def nsS(n:NetD):SigD:=if valB n=true then nsO n else ⟨[],[],[]⟩
theorem rep_bo(k:Nat):List.replicate k (AV.bool false)=boL (List.replicate k false):=by unfold boL;rw[List.map_replicate]
theorem n14_c{n:NetD}(hrw:Rows n.nx):CT Try.prog 14 [] [netA n] [] (.tup [sgA (nsS n),.int .i64 (nsE n)]):=by
 have h:=n14_ct n
 unfold n14En cntE cntZ at h
 unfold nsS nsE
 cases hv:valB n with
 | false=>rw[hv] at h;exact CT.w2 (h ([],_) (.val (by rw[gu_t hrw];rfl)))
 | true=>
  have h48:=celN_le (valB_iff.1 hv)
  rw[hv] at h
  have k:=CT.w2 (h ([],.tup [.agg [.lst (List.replicate (celN n) (AV.bool false)),.lst (List.map (AV.int .i64) (List.replicate (celN n) (-1))),.nils],.int .i64 0]) (.val (by
   rw[gu_t hrw,if_pos rfl,if_pos rfl,br_f (by rfl),gu_t (by omega),gu_t (by omega),gu_t (by omega),gu_t (by omega)]
   rw[gu_t (fun blk hb=>by
    rw[List.mem_singleton.1 hb]
    intro e he c hc
    obtain⟨x,_,rfl⟩:=List.mem_map.1 he
    rw[List.mem_singleton.1 hc];rfl)]
   rfl)))
  rw[rep_bo] at k
  exact k
theorem rpV_set{c i:Nat}(h:i<c):(rpV c i).set (0+i) (-1)=rpV c (i+1):=by
 obtain⟨d,hd⟩:∃d,c-i=d+1:=⟨c-i-1,by omega⟩
 have hd2:c-(i+1)=d:=by omega
 unfold rpV
 rw[hd,hd2,Nat.zero_add,List.replicate_succ,List.set_append_right _ _ (by simp)]
 simp only[List.length_replicate,Nat.sub_self,List.set_cons_zero]
 rw[List.replicate_succ',List.append_assoc];rfl
theorem rpV_0(c:Nat):rpV c 0=List.replicate c 0:=by unfold rpV;simp
theorem rpV_c(c:Nat):rpV c c=List.replicate c (-1):=by unfold rpV;simp
theorem RT.lwk{A:Nat→Prop}{w:World}{es:List AV}{v:Value}(h:RT A w (.lst es) v):RT A w (.lst (es.map wkq)) v:=by
 cases h with
 | lnil a=>exact .lnil a
 | lst _ r o cap z g hcap hA hz h1 hc hh=>
  have hl:(es.map wkq).length=es.length:=List.length_map ..
  have hcl:∀e:AV,(wkq e).cells.length=e.cells.length:=fun e=>by cases e<;>rfl
  have key:∀{e c:AV},c∈(wkq e).cells→∃c',c'∈e.cells∧(c=c'∨(c' = .nils∧c = .lst [])):=fun {e c} hc=>by
   cases e with
   | nils=>exact⟨.nils,List.mem_singleton.2 rfl,.inr ⟨rfl,List.mem_singleton.1 hc⟩⟩
   | _=>exact⟨c,hc,.inl rfl⟩
  rw[←hl]
  refine .lst _ r o cap z g (by rw[hl];exact hcap) (fun hn=>hA fun e=>hn (by rw[e];rfl)) (fun e he=>?_) (fun e he c hcm=>?_) (fun i j hi hj=>hc i j (by rw[←hl];exact hi) hj) fun i j e c he hj=>?_
  ·obtain⟨e0,he0,rfl⟩:=List.mem_map.1 he
   rw[hcl];exact hz e0 he0
  ·obtain⟨e0,he0,rfl⟩:=List.mem_map.1 he
   obtain⟨c',hc',h | ⟨_,h⟩⟩:=key hcm
   ·rw[h];exact h1 e0 he0 c' hc'
   ·rw[h];rfl
  ·rw[List.getElem?_map] at he
   obtain⟨e0,he0,rfl⟩:=Option.map_eq_some_iff.1 he
   by_cases hn:e0 = .nils
   ·subst hn
    match j,hj with
    | 0,hj=>
     cases hj
     have:=hh i 0 .nils .nils he0 rfl
     have e:g i 0 = .slice none 0 0:=by {generalize g i 0=x at this;cases this;rfl}
     rw[e];exact .lnil none
   ·have e:wkq e0=e0:=by cases e0<;>first | rfl | exact absurd rfl hn
    rw[e] at hj
    exact hh i j e0 c he0 hj
theorem VR.lwk{φ:Phi}{A:Nat→Prop}{w:World}{a b:AV}{es:List AV}{v:Value}(h:VR φ A w (.tup [.agg [a,.lst es],b]) v):VR φ A w (.tup [.agg [a,.lst (es.map wkq)],b]) v:=by
 obtain⟨us,rfl,hl,hh⟩:=h.tup_inv
 refine .tup _ us (by simpa using hl) fun i c u hc hu=>?_
 match i,hc with
 | 0,hc=>
  cases hc
  obtain⟨vs,rfl,hl2,h2⟩:=(hh 0 _ u rfl hu).agg_inv
  refine .agg _ vs (by simpa using hl2) fun j d x hd hx=>?_
  match j,hd with
  | 0,hd=>cases hd;exact h2 0 _ x rfl hx
  | 1,hd=>
   cases hd
   have:=h2 1 _ x rfl hx
   cases this with
   | imm _ _ h=>exact .imm _ _ (RT.lwk h)
  | j+2,hd=>simp at hd
 | 1,hc=>cases hc;exact hh 1 _ u rfl hu
 | i+2,hc=>simp at hc
def nlS(q:Int):LokD:=if 0≤q∧q≤48 then ⟨List.replicate q.toNat (-1),List.replicate q.toNat []⟩ else ⟨[],[]⟩
def nlE(q:Int):Int:=if 0≤q∧q≤48 then 0 else 19
theorem n19_c(q:Int):CT Try.prog 17 [] [.int .i64 q] [] (.tup [lkA (nlS q),.int .i64 (nlE q)]):=by
 have h:=n19_ct q
 unfold n19En at h
 unfold nlS nlE
 by_cases h0:q<0
 ·rw[if_neg (by omega),if_neg (by omega)]
  exact CT.w2 (h ([],_) (.val (by rw[br_t (dec_t h0)])))
 by_cases h1:48<q
 ·rw[if_neg (by omega),if_neg (by omega)]
  exact CT.w2 (h ([],_) (.val (by rw[br_f (dec_f h0),br_t (dec_t h1)])))
 rw[if_pos (by omega),if_pos (by omega)]
 obtain⟨c,rfl⟩:∃c:Nat,q=(c:Int):=⟨q.toNat,by omega⟩
 have k:=(h ([],.tup [.agg [.lst (List.map (AV.int .i64) (List.replicate c (-1))),.lst (List.replicate c .nils)],.int .i64 0]) (by
  rw[br_f (dec_f h0),br_f (dec_f h1),gu_t (by omega),gu_t (by omega),gu_t (by omega),gu_t (by omega),Int.toNat_natCast,←rpV_0]
  refine loop_up (fun i=>n19Pc.l0 (i:Int) (rpV c i)) c (fun i hi hx=>?_) ?_
  ·refine .to (show n19S0 (c:Int) i (rpV c i)=_ from ?_) hx
   unfold n19S0
   rw[br_t (dec_t (by omega)),gu_t (by omega),gu_t (by simp only[iN,rpV_len (Nat.le_of_lt hi)];omega),gu_t (show Nat.le _ _ from(by rw[List.length_map,rpV_len (Nat.le_of_lt hi)];show 0+(i:Int).toNat+1≤_;omega)),Int.toNat_natCast,rpV_set hi,zW i (by omega)]
  ·refine .to (show n19S0 (c:Int) (c:Nat) (rpV c c)=_ from ?_) (.ret _)
   unfold n19S0
   rw[br_f (dec_f (by omega)),rpV_c,Int.toNat_natCast])).less fun _ _ _ _ h=>VR.lwk h
 have e:List.map wkq (List.replicate c AV.nils)=gL (List.replicate c []):=by unfold gL;rw[List.map_replicate,List.map_replicate];rfl
 rw[e] at k
 exact k
theorem gL_take{g:List (List Int)}{i:Nat}(h:i<g.length):g.take (i+1)=g.take i++[g.getD i []]:=by
 rw[List.take_add_one,getE [] h];rfl
theorem c19_c(ow:List Int)(qu:List (List Int))(h1:ow.length≤1000)(h2:qu.length≤1000)(h3:∀r∈qu,r.length≤1000):
  CT Try.prog 50 [] [lkA ⟨ow,qu⟩] [some (Blk.mk (ow.map (AV.int .i64)) 1 true true none),some (Blk.mk (gL qu) 1 true true none)] (.agg [.sl 0 0 ow.length,.sl 1 0 qu.length]):=by
 refine c19_ct ⟨ow,qu⟩ ([_,_],_) ?_
 unfold c19En
 rw[gu_t (lI_one _),gu_t (by rw[List.length_map];show ow.length≤_;omega),gu_t (by rw[List.length_map];show ow.length * 8≤_;omega)]
 refine loop_up (fun i=>c19Pc.l0 (i:Int) (qu.take i)) qu.length (fun i hi hx=>?_) ?_
 ·refine .to (show c19S0 ⟨ow,qu⟩ i (qu.take i)=_ from ?_) hx
  have hr:=h3 (qu.getD i []) (by rw[List.getD_eq_getElem?_getD,List.getElem?_eq_getElem hi];exact List.getElem_mem _)
  unfold c19S0
  simp only
  rw[show (gL qu).length=(List.map lI qu).length from rfl,rngG [] hi,gu_t (lI_one _),gu_t (by rw[List.length_map];omega),gu_t (by rw[List.length_map];omega),gu_t (by simp only[List.length_map,List.length_take,List.length_cons,List.length_nil];omega),gu_t (by simp only[List.length_map,List.length_take,List.length_cons,List.length_nil];omega),gL_take hi,zW i (by omega)]
 ·refine .to (show c19S0 ⟨ow,qu⟩ qu.length (qu.take qu.length)=_ from ?_) (.ret _)
  unfold c19S0
  simp only
  rw[show (gL qu).length=(List.map lI qu).length from rfl,rngE,List.take_length];rfl
structure Dl(l:List Int)(w:Int)(v:List Int)(i j:Nat):Prop where
 len:v.length=l.length
 ij:i≤j
 jl:j≤l.length
 kep:v.take i=wo (l.take j) w
 rst:v.drop j=l.drop j
theorem idxZ_spec{l:List Int}{w:Int}:(idxZ l w = -1∧w∉l)∨∃i:Nat,idxZ l w=(i:Int)∧i<l.length∧l.getD i 0=w∧∀j,j<i→l.getD j 0≠w:=by
 unfold idxZ
 cases hf:fnd (fun i=>l.getD i 0==w) 0 l.length with
 | none=>
  left
  refine⟨rfl,fun hm=>?_⟩
  obtain⟨i,hi,rfl⟩:=List.mem_iff_getElem.1 hm
  have:=fnd_none hf i (Nat.zero_le _) (by omega)
  rw[List.getD_eq_getElem?_getD,List.getElem?_eq_getElem hi] at this
  simp at this
 | some i=>
  obtain⟨h1,_,h2⟩:=fnd_some hf
  exact .inr ⟨i,rfl,by omega,by simpa using h1,fun j hj e=>by
   have:=fnd_first hf j (Nat.zero_le _) hj
   rw[e] at this;simp at this⟩
theorem wo_none{l:List Int}{w:Int}(h:w∉l):wo l w=l:=by
 unfold wo
 exact List.filter_eq_self.2 fun x hx=>bne_iff_ne.2 fun e=>h (e ▸ hx)
theorem drop_get{v l:List Int}{j:Nat}(h:v.drop j=l.drop j):v.getD j 0=l.getD j 0∧v.drop (j+1)=l.drop (j+1):=by
 constructor
 ·have:=congrArg (fun x=>x.getD 0 0) h
  simpa [List.getD_eq_getElem?_getD,List.getElem?_drop] using this
 ·have:=congrArg (List.drop 1) h
  rwa [List.drop_drop,List.drop_drop] at this
theorem Dl.skip{l:List Int}{w:Int}{v:List Int}{i j:Nat}(h:Dl l w v i j)(hj:j<l.length)(he:l.getD j 0=w):Dl l w v i (j+1):=by
 refine⟨h.len,Nat.le_succ_of_le h.ij,hj,?_,(drop_get h.rst).2⟩
 rw[wo_succ hj,if_neg (by rw[he];simp),List.append_nil];exact h.kep
theorem Dl.keep{l:List Int}{w:Int}{v:List Int}{i j:Nat}(h:Dl l w v i j)(hj:j<l.length)(he:l.getD j 0≠w):Dl l w (v.set (0+i) (l.getD j 0)) (i+1) (j+1):=by
 have hij:=h.ij
 have hl:=h.len
 refine⟨by rw[List.length_set];exact hl,by omega,hj,?_,?_⟩
 ·rw[wo_succ hj,if_pos (bne_iff_ne.2 he),←h.kep,Nat.zero_add,List.take_add_one,List.take_set_of_le (Nat.le_refl _),List.getElem?_set,if_pos rfl,if_pos (by omega)];rfl
 ·rw[Nat.zero_add,List.drop_set,if_pos (by omega)];exact(drop_get h.rst).2
theorem dlf_c(l:List Int)(w:Int)(hl:l.length≤1000000):
  CT Try.prog 100 [some (Blk.mk (l.map (AV.int .i64)) 1 true true none),some (Blk.mk [.int .i64 w] 1 true true none)] [.sl 0 0 l.length,.fn 101 [.ptr 1 0 0]] [some (Blk.mk ((wo l w++List.replicate (l.length-(wo l w).length) 0).map (AV.int .i64)) 1 true true none),some (Blk.mk [.int .i64 w] 1 true true none)] (.sl 0 0 (wo l w).length):=by
 refine dlf_ct l w ([_,_],_) ?_
 unfold dlfEn
 rw[gu_t hl]
 rcases idxZ_spec (l:=l) (w:=w) with ⟨h1,h2⟩ | ⟨i0,h1,h2,h3,h4⟩
 ·rw[h1,br_t (by rfl),wo_none h2]
  simp only[Nat.sub_self,List.replicate_zero,List.append_nil]
  exact .ret _
 rw[h1,br_f (by simp),zW i0 (by omega)]
 have start:Dl l w l i0 (i0+1):=by
  refine⟨rfl,Nat.le_succ _,h2,?_,rfl⟩
  rw[wo_succ h2,if_neg (by rw[h3];simp),List.append_nil,wo_none]
  intro hm
  obtain⟨j,hj,e⟩:=List.mem_iff_getElem.1 hm
  rw[List.length_take] at hj
  rw[List.getElem_take] at e
  exact h4 j (by omega) (by rw[List.getD_eq_getElem?_getD,List.getElem?_eq_getElem (show j<l.length by omega)];exact e)
 have key:∀(d j i:Nat) (v:List Int),j+d=l.length→Dl l w v i j→MReach (dlfStep l w) (some (.inl (.l0 v (i:Int) (j:Int)))) (([some (Blk.mk ((wo l w++List.replicate (l.length-(wo l w).length) 0).map (AV.int .i64)) 1 true true none),some (Blk.mk [.int .i64 w] 1 true true none)],.sl 0 0 (wo l w).length):Ret):=by
  intro d
  induction d with
  | zero=>
   intro j i v hd h
   have hlen:=h.len
   have hij:=h.ij
   have hjl:=h.jl
   have hk:=h.kep
   rw[List.take_of_length_le (show l.length≤j by omega)] at hk
   have hi:(wo l w).length=i:=by rw[←hk,List.length_take];omega
   refine .to (show dlfS0 l w v i j=_ from ?_) (.ret _)
   unfold dlfS0
   rw[br_f (dec_f (by simp only[iN];omega)),gu_t (by omega),gu_t (by simp only[iN];omega),gu_t (show Nat.le _ _ from(by rw[List.length_map,Int.toNat_natCast];show 0+i+(v.length-i)≤v.length;omega))]
   have e:List.take (0+(i:Int).toNat) (List.map (AV.int IntKind.i64) v)++List.replicate (v.length-(i:Int).toNat) (AV.int IntKind.i64 0)++List.drop (0+(i:Int).toNat+(v.length-(i:Int).toNat)) (List.map (AV.int IntKind.i64) v)=List.map (AV.int IntKind.i64) (wo l w++List.replicate (l.length-(wo l w).length) 0):=by
    rw[Int.toNat_natCast,Nat.zero_add,List.drop_of_length_le (by rw[List.length_map];omega),List.append_nil,←List.map_take,hk,List.map_append,List.map_replicate,hi,hlen]
   rw[e,Int.toNat_natCast,hi];rfl
  | succ d ih=>
   intro j i v hd h
   have hlen:=h.len
   have hij:=h.ij
   have hjl:j<l.length:=by omega
   have hg:=(drop_get h.rst).1
   refine .to (y:=if l.getD j 0=w then some (.inl (.l0 v (i:Int) ((j+1:Nat):Int))) else some (.inl (.l0 (v.set (0+i) (l.getD j 0)) ((i+1:Nat):Int) ((j+1:Nat):Int)))) (show dlfS0 l w v i j=_ from ?_) ?_
   ·unfold dlfS0
    rw[br_t (dec_t (by simp only[iN];omega)),gu_t (by omega),gu_t (by simp only[iN];omega),Nat.zero_add,elG 0 (show j<v.length by omega),hg]
    by_cases he:l.getD j 0=w
    ·rw[br_f (by rw[he];simp),if_pos he,zW j (by omega)]
    ·rw[br_t (by rw[Bool.not_eq_true',beq_eq_false_iff_ne];exact he),if_neg he,gu_t (by omega),gu_t (by simp only[iN];omega),gu_t (show Nat.le _ _ from(by rw[List.length_map];show 0+(i:Int).toNat+1≤_;omega)),zW i (by omega),zW j (by omega),Int.toNat_natCast]
   ·by_cases he:l.getD j 0=w
    ·rw[if_pos he];exact ih (j+1) i v (by omega) (h.skip hjl he)
    ·rw[if_neg he];exact ih (j+1) (i+1) _ (by omega) (h.keep hjl he)
 exact key (l.length-(i0+1)) (i0+1) i0 l (by omega) start
theorem LessB.pre(l r:List Int):LessB (Blk.mk ((l++r).map (AV.int .i64)) 1 true true none) (Blk.mk (l.map (AV.int .i64)) 1 true true none):=by
 refine⟨rfl,fun _=>rfl,rfl,by simp,fun i e' h=>⟨e',?_,rfl,fun j c hc=>⟨c,hc,.refl _⟩⟩,fun _ e he c hc=>?_,fun _=>rfl⟩
 ·have hi:=(List.getElem?_eq_some_iff.1 h).1
  show(List.map (AV.int .i64) (l++r))[i]?=some e'
  rw[List.map_append,List.getElem?_append_left hi];exact h
 ·obtain⟨x,_,rfl⟩:=List.mem_map.1 he
  rw[List.mem_singleton.1 hc];rfl
theorem dlf_k(l:List Int)(w:Int)(k:Nat)(hk:k=l.length)(hl:l.length≤1000000):
  CT Try.prog 100 [some (Blk.mk (l.map (AV.int .i64)) 1 true true none),some (Blk.mk [.int .i64 w] 1 true true none)] [.sl 0 0 k,.fn 101 [.ptr 1 0 0]] [some (Blk.mk ((wo l w).map (AV.int .i64)) 1 true true none),some (Blk.mk [.int .i64 w] 1 true true none)] (.sl 0 0 (wo l w).length):=by
 rw[hk]
 refine CT.lessOut (dlf_c l w hl) rfl fun b blk' hb=>?_
 match b,hb with
 | 0,hb=>cases hb;exact⟨_,rfl,LessB.pre _ _,rfl⟩
 | 1,hb=>cases hb;exact⟨_,rfl,LessB.refl fun _ e he c hc=>by rw[List.mem_singleton.1 he] at hc;rw[List.mem_singleton.1 hc];rfl,rfl⟩
 | b+2,hb=>simp[nth] at hb
theorem getS{α:Type}{l:List α}{i j:Nat}{v d:α}:(l.set i v).getD j d=if i=j∧j<l.length then v else l.getD j d:=by
 rw[List.getD_eq_getElem?_getD,List.getElem?_set,List.getD_eq_getElem?_getD]
 by_cases h:i=j
 ·subst h
  by_cases hl:i<l.length
  ·rw[if_pos rfl,if_pos hl,if_pos ⟨rfl,hl⟩];rfl
  ·rw[if_pos rfl,if_neg hl,if_neg (fun e=>hl e.2),List.getElem?_eq_none (by omega)]
 ·rw[if_neg h,if_neg (fun e=>h e.1)]
theorem getS_ne{α:Type}{l:List α}{i j:Nat}{v d:α}(h:i≠j):(l.set i v).getD j d=l.getD j d:=by rw[getS,if_neg (fun e=>h e.1)]
theorem getS_eq{α:Type}{l:List α}{i:Nat}{v d:α}(h:i<l.length):(l.set i v).getD i d=v:=by rw[getS,if_pos ⟨rfl,h⟩]
theorem getR{α:Type}{n i:Nat}{v d:α}(h:i<n):(List.replicate n v).getD i d=v:=by
 rw[List.getD_eq_getElem?_getD,List.getElem?_replicate,if_pos h];rfl
def newS(n:NetD):SigD:=⟨List.replicate (celN n) false,List.replicate (celN n) (-1),[]⟩
def anS(s:SigD)(x:Int):SigD:=⟨s.cl,s.bw,s.pe++[x]⟩
def clS(s:SigD)(c r:Int):SigD:=⟨s.cl.set c.toNat true,if s.cl.getD c.toNat true=true then s.bw else s.bw.set c.toNat r,wo s.pe c⟩
def opS(s:SigD)(c:Int):SigD:=⟨s.cl.set c.toNat false,s.bw.set c.toNat (-1),wo s.pe c⟩
theorem wo_mem{l:List Int}{x y:Int}:y∈wo l x↔y∈l∧y≠x:=by unfold wo;rw[List.mem_filter,bne_iff_ne]
theorem newS_ok(n:NetD):SigOk n (newS n):=by
 refine⟨List.length_replicate ..,List.length_replicate ..,fun i hi=>?_,fun b hb=>(by cases hb),List.Pairwise.nil⟩
 have hi:i<celN n:=by have:(newS n).bw.length=celN n:=List.length_replicate ..;omega
 show -1≤(List.replicate (celN n) (-1:Int)).getD i 0∧_
 rw[show (newS n).bw=List.replicate (celN n) (-1:Int) from rfl,getR hi];omega
theorem anS_ok{n:NetD}{s:SigD}{x:Int}(h:SigOk n s)(hx:0≤x∧x<(n.bs.length:Int))(hc:s.cl.getD x.toNat true=false)(hp:x∉s.pe):SigOk n (anS s x):=by
 refine⟨h.lc,h.lb,h.bw,fun b hb=>?_,nodup_snoc h.nd hp⟩
 rcases List.mem_append.1 hb with hb | hb
 ·exact h.pb b hb
 ·rw[List.mem_singleton.1 hb];exact⟨hx.1,hx.2,hc⟩
theorem wo_nd{l:List Int}(x:Int)(h:l.Nodup):(wo l x).Nodup:=h.sublist List.filter_sublist
theorem clS_ok{n:NetD}{s:SigD}{c r:Int}(h:SigOk n s)(hc:0≤c∧c<(celN n:Int))(hr : -1≤r∧r<8):SigOk n (clS s c r):=by
 have lc:=h.lc
 have lb:=h.lb
 refine⟨by show(s.cl.set _ _).length=_;rw[List.length_set,lc],by show(if _ then s.bw else s.bw.set _ _).length=_;split<;>simp[lb],fun i hi=>?_,fun b hb=>?_,wo_nd c h.nd⟩
 ·show -1≤(if _ then s.bw else s.bw.set _ _).getD i 0∧(if _ then s.bw else s.bw.set _ _).getD i 0<8∧(0≤(if _ then s.bw else s.bw.set _ _).getD i 0→(s.cl.set c.toNat true).getD i true=true)
  have hi:i<s.bw.length:=by have:(clS s c r).bw.length=s.bw.length:=(by show(if _ then s.bw else s.bw.set _ _).length=_;split<;>simp);omega
  have hb:=h.bw i hi
  have e:(s.cl.set c.toNat true).getD i true=if c.toNat=i∧i<s.cl.length then true else s.cl.getD i true:=getS
  rw[e]
  split
  ·refine⟨hb.1,hb.2.1,fun h0=>?_⟩
   split
   ·rfl
   ·exact hb.2.2 h0
  ·rw[getS]
   split
   ·rename_i h1
    exact⟨hr.1,hr.2,fun _=>by rw[if_pos ⟨h1.1,by omega⟩]⟩
   ·refine⟨hb.1,hb.2.1,fun h0=>?_⟩
    split
    ·rfl
    ·exact hb.2.2 h0
 ·obtain⟨h1,h2⟩:=wo_mem.1 hb
  have:=h.pb b h1
  refine⟨this.1,this.2.1,?_⟩
  show(s.cl.set c.toNat true).getD b.toNat true=false
  rw[getS,if_neg (by omega)];exact this.2.2
theorem opS_ok{n:NetD}{s:SigD}{c:Int}(h:SigOk n s)(hc:0≤c∧c<(celN n:Int)):SigOk n (opS s c):=by
 have lc:=h.lc
 have lb:=h.lb
 refine⟨by show(s.cl.set _ _).length=_;rw[List.length_set,lc],by show(s.bw.set _ _).length=_;rw[List.length_set,lb],fun i hi=>?_,fun b hb=>?_,wo_nd c h.nd⟩
 ·show -1≤(s.bw.set _ _).getD i 0∧(s.bw.set _ _).getD i 0<8∧(0≤(s.bw.set _ _).getD i 0→(s.cl.set c.toNat false).getD i true=true)
  have hi:i<s.bw.length:=by have:(opS s c).bw.length=s.bw.length:=List.length_set ..;omega
  have hb:=h.bw i hi
  rw[getS,getS]
  split
  ·exact⟨by omega,by omega,fun h=>by omega⟩
  ·rename_i h1
   refine⟨hb.1,hb.2.1,fun h0=>?_⟩
   rw[if_neg (by omega)];exact hb.2.2 h0
 ·obtain⟨h1,h2⟩:=wo_mem.1 hb
  have:=h.pb b h1
  refine⟨this.1,this.2.1,?_⟩
  show(s.cl.set c.toNat false).getD b.toNat true=false
  rw[getS,if_neg (by omega)];exact this.2.2
def wtV(s:SigD)(i:Nat):Int:=if s.cl.getD i true=true then 2 else if (i:Int)∈s.pe then 1 else 0
def wantS(s:SigD):List Int:=(List.range s.cl.length).map (wtV s)
theorem want_get{s:SigD}{i:Nat}(h:i<s.cl.length):(wantS s).getD i 0=wtV s i:=by
 unfold wantS
 rw[List.getD_eq_getElem?_getD,List.getElem?_map,List.getElem?_range h];rfl
theorem want_len(s:SigD):(wantS s).length=s.cl.length:=by unfold wantS;simp
theorem want_set{s t:SigD}{c:Nat}{v:Int}(hl:t.cl.length=s.cl.length)(hc:c<s.cl.length)(h1:wtV t c=v)(h2:∀i,i<s.cl.length→i≠c→wtV t i=wtV s i):(wantS s).set c v=wantS t:=by
 apply List.ext_getElem?
 intro i
 rw[List.getElem?_set,want_len]
 unfold wantS
 rw[List.getElem?_map,List.getElem?_map,hl]
 by_cases hi:i<s.cl.length
 ·rw[List.getElem?_range hi]
  by_cases e:c=i
  ·subst e;rw[if_pos rfl,if_pos hc];exact congrArg some h1.symm
  ·rw[if_neg e];exact congrArg some (h2 i hi (fun x=>e x.symm)).symm
 ·rw[if_neg (by omega),List.getElem?_eq_none (by rw[List.length_range];omega)];rfl
theorem want_an{s:SigD}{x:Int}(h0:0≤x)(hl:x<(s.cl.length:Int))(hc:s.cl.getD x.toNat true=false):(wantS s).set x.toNat 1=wantS (anS s x):=by
 refine want_set rfl (by omega) ?_ fun i hi hne=>?_
 ·unfold wtV
  rw[show (anS s x).cl=s.cl from rfl,show(anS s x).pe=s.pe++[x] from rfl,if_neg (by rw[hc];simp),if_pos (List.mem_append.2 (.inr (List.mem_singleton.2 (by omega))))]
 ·unfold wtV
  rw[show (anS s x).cl=s.cl from rfl,show(anS s x).pe=s.pe++[x] from rfl]
  have:(i:Int)∈s.pe++[x]↔(i:Int)∈s.pe:=⟨fun h=>by rcases List.mem_append.1 h with h | h;exact h;have:=List.mem_singleton.1 h;omega,fun h=>List.mem_append.2 (.inl h)⟩
  simp only[this]
theorem want_cl{s:SigD}{c r:Int}(h0:0≤c)(hl:c<(s.cl.length:Int)):(wantS s).set c.toNat 2=wantS (clS s c r):=by
 refine want_set (List.length_set ..) (by omega) ?_ fun i hi hne=>?_
 ·unfold wtV
  rw[show (clS s c r).cl=s.cl.set c.toNat true from rfl,getS_eq (by omega),if_pos rfl]
 ·unfold wtV
  rw[show (clS s c r).cl=s.cl.set c.toNat true from rfl,show(clS s c r).pe=wo s.pe c from rfl,getS_ne (fun e=>hne e.symm)]
  have:(i:Int)∈wo s.pe c↔(i:Int)∈s.pe:=by rw[wo_mem];exact⟨fun h=>h.1,fun h=>⟨h,by omega⟩⟩
  simp only[this]
theorem want_op{s:SigD}{c:Int}(h0:0≤c)(hl:c<(s.cl.length:Int)):(wantS s).set c.toNat 0=wantS (opS s c):=by
 refine want_set (List.length_set ..) (by omega) ?_ fun i hi hne=>?_
 ·unfold wtV
  rw[show (opS s c).cl=s.cl.set c.toNat false from rfl,show(opS s c).pe=wo s.pe c from rfl,getS_eq (by omega),if_neg (by simp),if_neg fun h=>(wo_mem.1 h).2 (by omega)]
 ·unfold wtV
  rw[show (opS s c).cl=s.cl.set c.toNat false from rfl,show(opS s c).pe=wo s.pe c from rfl,getS_ne (fun e=>hne e.symm)]
  have:(i:Int)∈wo s.pe c↔(i:Int)∈s.pe:=by rw[wo_mem];exact⟨fun h=>h.1,fun h=>⟨h,by omega⟩⟩
  simp only[this]
def pnI(s:SigD):Nat→Int
 | 0=>0
 | i+1=>pnI s i+if wtV s i=1 then 1 else 0
theorem pnI_rng(s:SigD):∀i,0≤pnI s i∧pnI s i≤i:=by
 intro i
 induction i with
 | zero=>exact⟨Int.le_refl _,Int.le_refl _⟩
 | succ i ih=>unfold pnI;split<;>omega
theorem pnI_eq(s:SigD):∀i,pnI s i=(((List.range i).filter fun j=>decide (wtV s j=1)).length:Int):=by
 intro i
 induction i with
 | zero=>rfl
 | succ i ih=>
  unfold pnI
  rw[List.range_succ,List.filter_append,List.length_append,ih]
  by_cases h:wtV s i=1
  ·rw[if_pos h,List.filter_cons,if_pos (by simpa using h)];simp
  ·rw[if_neg h,List.filter_cons,if_neg (by simpa using h)];simp
theorem pn_all{n:NetD}{s:SigD}(hv:ValidN n)(h:SigOk n s):pnI s s.cl.length=(s.pe.length:Int):=by
 rw[pnI_eq]
 have lc:=h.lc
 have hce:=hv.cel
 have e:(((List.range s.cl.length).filter fun j=>decide (wtV s j=1)).map fun j:Nat=>(j:Int)).length=s.pe.length:=by
  refine Nat.le_antisymm (nodup_len ?_ fun x hx=>?_) (nodup_len h.nd fun x hx=>?_)
  ·refine List.Pairwise.map _ (fun a b (hab:a≠b)=>fun e=>hab (by omega)) (List.Pairwise.filter _ List.nodup_range)
  ·obtain⟨j,hj,rfl⟩:=List.mem_map.1 hx
   have:=of_decide_eq_true (List.mem_filter.1 hj).2
   unfold wtV at this
   split at this
   ·cases this
   ·split at this
    ·rename_i h;exact h
    ·cases this
  ·have hb:=h.pb x hx
   refine List.mem_map.2 ⟨x.toNat,List.mem_filter.2 ⟨List.mem_range.2 (by omega),decide_eq_true ?_⟩,by omega⟩
   unfold wtV
   rw[if_neg (by rw[hb.2.2];simp),if_pos (by rw[Int.toNat_of_nonneg hb.1];exact hx)]
 rw[List.length_map] at e
 rw[e]
def clnSt(l:List Bool)(q w:List Int):Empty→St
 | x=>x.elim
def clnHd:Empty→Nat
 | x=>x.elim
def clnEn(l:List Bool)(q w:List Int):Option (Empty⊕Ret):=
 gu (l.length≤1000000) <|
 gu (q.length≤1000000) <|
 gu (w.length≤1000000) <|
 some (.inr ([some (Blk.mk (boL l) 1 true true none),some (Blk.mk (List.map (AV.int IntKind.i64) q) 1 true true none),some (Blk.mk (List.map (AV.int IntKind.i64) w) 1 true true none)],AV.agg [AV.sl 0 0 (boL l).length,AV.sl 1 0 q.length,AV.sl 2 0 w.length]))
def clnStep(l:List Bool)(q w:List Int):Empty→Option (Empty⊕Ret)
 | x=>x.elim
theorem clnEn_ok(l:List Bool)(q w:List Int)(o:Empty⊕Ret)(h:clnEn l q w=some o):Arr Try.prog Try.f48 0 (clnSt l q w) clnHd (zB Try.f48) [] {n:=Try.f48.ntmps,fr:=enumF 0 ([sgA ⟨l,q,w⟩]),hp:=([])} o:=
 Scr.ok h mix (
 .rn 0 [] [] [] [] (al (u2 t2)) <|
 .gu fun a0=>
 .gu fun a1=>
 .gu fun a2=>
 have c0:=clb_c l a0;
 have c1:=cli_c q a1;
 have c2:=cli_c w a2;
 .rt [] [] [(5,hK c0 [] []),(8,hK c1 [] []),(11,hK c2 [] [])] [] [2,3,4] [] (aj (al (u2 (u2 (aj (k2 (al (c0))) (u2 (u2 (aj (k2 (al (c1))) (u2 (u2 (aj (k2 (al (c2))) (aj t4 (al (k2 n11))))))))))))) (aj t4 t4))) (by kernel_rfl)
theorem cln_ct(l:List Bool)(q w:List Int)(r:Ret)(h:MReach (clnStep l q w) (clnEn l q w) r):CT Try.prog 48 ([]) ([sgA ⟨l,q,w⟩]) r.1 r.2:=
 CT.mach (fn:=Try.f48) (c:=zB Try.f48) (S:=clnSt l q w) (hd:=clnHd) Try.func48 (by kernel_rfl) (Nat.le_of_ble_eq_true rfl)
  (fun s o ho=>match s,ho with
   | x,_=>x.elim)
  (fun o ho=>clnEn_ok l q w o ho) h
def schSt(n:NetD)(q:SigD)(c:Int):Empty→St
 | x=>x.elim
def schHd:Empty→Nat
 | x=>x.elim
def schEn(n:NetD)(q:SigD)(c:Int):Option (Empty⊕Ret):=
 gu (Rows n.nx) <|
 br (!sigB n q)
 (some (.inr ([],AV.int IntKind.i64 20)))
 (br (decide (c<0))
  (some (.inr ([],AV.int IntKind.i64 19)))
  (br (decide (iN (boL q.cl).length≤c))
   (some (.inr ([],AV.int IntKind.i64 19)))
   (some (.inr ([],AV.int IntKind.i64 0)))))
def schStep(n:NetD)(q:SigD)(c:Int):Empty→Option (Empty⊕Ret)
 | x=>x.elim
theorem schEn_ok(n:NetD)(q:SigD)(c:Int)(o:Empty⊕Ret)(h:schEn n q c=some o):Arr Try.prog Try.f46 0 (schSt n q c) schHd (zB Try.f46) [] {n:=Try.f46.ntmps,fr:=enumF 0 ([netA n,sgA q,.int .i64 c]),hp:=([])} o:=
 Scr.ok h mix (
 .rn 0 [] [] [] [] (al (u2 (u2 t2))) <|
 .gu fun a0=>
 have c0:=sva_c (q.cl) (q.bw) (q.pe) a0;
 .rn 0 [] [] [(10,hK c0 [] [])] [] (al (u2 (u2 (aj (k2 (aj t9 (aj t4 (al (c0))))) (u2 s2))))) <|
 .br (fun a1=>
 .rt [15] [] [] [] [] [] (aj (aj a1 s2) t2))
 (fun a1=>
 .br (fun a2=>
  .rt [14,31] [] [] [] [] [] (aj (aj a1 (aj (u2 (u2 (u2 (aj a2 (aj a2 (aj a2 (aj a2 (aj a2 (ag a2 s2))))))))) (ak s2))) t2))
 (fun a2=>
  .rn 0 [14,30] [] [] [] (aj a1 (al (u2 (u2 (u2 (ag a2 (ag a2 (ag a2 (ag a2 (aj (aj a2 t3) (ag a2 s2))))))))))) <|
  .br (fun a3=>
  .rt [30,25] [] [] [] [] [] (aj (aj a3 s2) t2))
  (fun a3=>
  .rt [30,24] [] [] [] [] [] (aj (aj a3 s2) t2))))) (by kernel_rfl)
theorem sch_ct(n:NetD)(q:SigD)(c:Int)(r:Ret)(h:MReach (schStep n q c) (schEn n q c) r):CT Try.prog 46 ([]) ([netA n,sgA q,.int .i64 c]) r.1 r.2:=
 CT.mach (fn:=Try.f46) (c:=zB Try.f46) (S:=schSt n q c) (hd:=schHd) Try.func46 (by kernel_rfl) (Nat.le_of_ble_eq_true rfl)
  (fun s o ho=>match s,ho with
   | x,_=>x.elim)
  (fun o ho=>schEn_ok n q c o ho) h
inductive sshPc where
 | l0 (v0:Int) (v1:List Bool)
def sshSt(n:NetD)(q:SigD):sshPc→St
 | .l0 v0 v1=>St.mk 28 [(6,AV.sl 0 0 (boL q.cl).length),(17,AV.lst (List.map (iv) q.pe)),(18,iv (iN (List.map (iv) q.pe).length)),(19,iv v0)] [some (Blk.mk (List.map AV.bool v1) 1 true true none)]
def sshHd:sshPc→Nat
 | .l0 _ _=>0
def sshEn(n:NetD)(q:SigD):Option (sshPc⊕Ret):=
 gu (Rows n.nx) <|
 br (!sigB n q)
 (some (.inr ([],AV.tup [AV.nils,AV.int IntKind.i64 20])))
 (gu (q.cl.length≤1000000) <|
  some (.inl (.l0 ((0:Int)) (q.cl))))
def sshS0(n:NetD)(q:SigD)(v0:Int)(v1:List Bool):Option (sshPc⊕Ret):=
 br (decide (v0<iN (List.map (AV.int IntKind.i64) q.pe).length))
 (gu (0≤v0) <|
  el (q.pe) (v0.toNat) fun(x21:Int)=>
  gu (0≤x21) <|
  gu (x21<iN (boL q.cl).length) <|
  gu ((0+x21.toNat).succ.le (List.map AV.bool v1).length) <|
  some (.inl (.l0 (IntKind.i64.wrap (v0+1)) (v1.set (0+x21.toNat) true))))
 (gu ((boL q.cl).length=(List.map AV.bool v1).length) <|
  some (.inr ([],AV.tup [AV.lst (List.map AV.bool v1),AV.int IntKind.i64 0])))
def sshStep(n:NetD)(q:SigD):sshPc→Option (sshPc⊕Ret)
 | .l0 v0 v1=>sshS0 n q v0 v1
theorem sshEn_ok(n:NetD)(q:SigD)(o:sshPc⊕Ret)(h:sshEn n q=some o):Arr Try.prog Try.f24 0 (sshSt n q) sshHd (zB Try.f24) [] {n:=Try.f24.ntmps,fr:=enumF 0 ([netA n,sgA q]),hp:=([])} o:=
 Scr.ok h mix (
 .rn 0 [] [] [] [] (al (u2 (u2 t3))) <|
 .gu fun a0=>
 have c0:=sva_c (q.cl) (q.bw) (q.pe) a0;
 .rn 0 [] [] [(11,hK c0 [] [])] [] (al (u2 (u2 (aj (k2 (aj t9 (aj t4 (al (c0))))) s2)))) <|
 .br (fun a1=>
 .rt [25] [] [] [] [] [] (aj (aj a1 (al t3)) (al t3)))
 (fun a1=>
 .gu fun a2=>
 have c1:=clb_c (q.cl) a2;
 .lp [24] [] [(15,hK c1 [] [])] [] [] [2] [6,17,18,19] (aj (aj a1 (aj (u2 (u2 (aj (k2 (al (c1))) s2))) (al (u2 (u2 (u2 t2)))))) t6))) (by kernel_rfl)
theorem sshS0_ok(n:NetD)(q:SigD)(v0:Int)(v1:List Bool)(o:sshPc⊕Ret)(h:sshS0 n q v0 v1=some o):Arr Try.prog Try.f24 0 (sshSt n q) sshHd (headC Try.f24 0) (.rnd (headC Try.f24 0)::headK Try.f24 0) (sshSt n q (.l0 v0 v1)) o:=
 Scr.ok h mix (
 .rn 0 [] [] [] [] (al (al t3)) <|
 .br (fun a0=>
 .gu fun a1=>
 .el fun x21 a2=>
 .rn 0 [41] [(21,iv x21)] [] [] (aj a0 (al (aj (k2 (aj a1 (getMap (f:=iv) a2))) (u2 s2)))) <|
 .gu fun a3=>
 .gu fun a4=>
 .gu fun a5=>
 .lq [] [] [] [] [] [0] [6,17,18,19] (up [] [(0,(List.map AV.bool v1).set (0+x21.toNat) (AV.bool true))] (sshSt n q (.l0 (IntKind.i64.wrap (v0+1)) (v1.set (0+x21.toNat) true)))) (aj (aj (u2 (u2 (aj (k2 (aj a3 a4)) (al (ak a5))))) (al (u2 s2))) t6) (by simp[up,upF,upV,upH,upB,sshSt,gL,boL,lI,sA,bA]))
 (fun a0=>
 .rn 0 [40] [] [] [] (aj a0 (al (u2 (u2 t2)))) <|
 .gu fun a1=>
 .rt [] [] [] [] [] [0] (ak (al (aj a1 t2))))) (by kernel_rfl)
theorem ssh_ct(n:NetD)(q:SigD)(r:Ret)(h:MReach (sshStep n q) (sshEn n q) r):CT Try.prog 24 ([]) ([netA n,sgA q]) r.1 r.2:=
 CT.mach (fn:=Try.f24) (c:=zB Try.f24) (S:=sshSt n q) (hd:=sshHd) Try.func24 (by kernel_rfl) (Nat.le_of_ble_eq_true rfl)
  (fun s o ho=>match s,ho with
   | .l0 v0 v1,ho=>sshS0_ok n q v0 v1 o ho
  )
  (fun o ho=>sshEn_ok n q o ho) h
def k19St(q:LokD)(c d:Int):Empty→St
 | x=>x.elim
def k19Hd:Empty→Nat
 | x=>x.elim
def k19En(q:LokD)(c d:Int):Option (Empty⊕Ret):=
 br (!lokB q)
 (some (.inr ([],AV.int IntKind.i64 20)))
 (br (decide (c<0))
  (some (.inr ([],AV.int IntKind.i64 19)))
  (br (decide (8≤c))
   (some (.inr ([],AV.int IntKind.i64 19)))
   (br (decide (d<0))
    (some (.inr ([],AV.int IntKind.i64 19)))
    (br (decide (iN (List.map (AV.int IntKind.i64) q.ow).length≤d))
     (some (.inr ([],AV.int IntKind.i64 19)))
     (some (.inr ([],AV.int IntKind.i64 0)))))))
def k19Step(q:LokD)(c d:Int):Empty→Option (Empty⊕Ret)
 | x=>x.elim
theorem k19En_ok(q:LokD)(c d:Int)(o:Empty⊕Ret)(h:k19En q c d=some o):Arr Try.prog Try.f49 0 (k19St q c d) k19Hd (zB Try.f49) [] {n:=Try.f49.ntmps,fr:=enumF 0 ([lkA q,.int .i64 c,.int .i64 d]),hp:=([])} o:=
 Scr.ok h mix (
 have c0:=rlv_c (q);
 .rn 1 [] [] [(8,hK c0 [] [])] [] (ag t2 (al (u2 (aj (ak (aj t3 (al (c0)))) s2)))) <|
 .br (fun a0=>
 .rt [19] [] [] [] [] [] (aj (aj a0 s2) t2))
 (fun a0=>
 .br (fun a1=>
  .rt [18,25] [] [] [] [] [] (aj (aj a0 (aj (u2 (u2 (u2 (aj a1 (aj a1 (ag a1 (u2 (k2 (aj t3 (u2 (k5 (al t3)))))))))))) (ak s2))) t2))
 (fun a1=>
  .br (fun a2=>
  .rt [18,24,33] [] [] [] [] [] (aj (aj a0 (aj (u2 (u2 (u2 (ag a1 (ag a1 (ag a1 (u2 (aj a2 (aj a2 (ag a2 (u2 (k5 (al t3))))))))))))) (ak s2))) t2))
  (fun a2=>
  .br (fun a3=>
   .rt [18,24,32,41] [] [] [] [] [] (aj (aj a0 (aj (u2 (u2 (u2 (ag a1 (ag a1 (ag a1 (u2 (ag a2 (ag a2 (ag a2 (u2 (aj a3 (aj a3 (aj a3 (aj a3 (aj a3 (al (aj a3 t2)))))))))))))))))) (ak s2))) t2))
  (fun a3=>
   .rn 0 [18,24,32,40] [] [] [] (aj a0 (al (u2 (u2 (u2 (ag a1 (ag a1 (ag a1 (u2 (ag a2 (ag a2 (ag a2 (u2 (ag a3 (ag a3 (ag a3 (ag a3 (aj (aj a3 t3) (al (aj a3 t2)))))))))))))))))))) <|
   .br (fun a4=>
   .rt [24,32,40,53] [] [] [] [] [] (aj (aj a4 s2) t2))
   (fun a4=>
   .rt [24,32,40,52] [] [] [] [] [] (aj (aj a4 s2) t2))))))) (by kernel_rfl)
theorem k19_ct(q:LokD)(c d:Int)(r:Ret)(h:MReach (k19Step q c d) (k19En q c d) r):CT Try.prog 49 ([]) ([lkA q,.int .i64 c,.int .i64 d]) r.1 r.2:=
 CT.mach (fn:=Try.f49) (c:=zB Try.f49) (S:=k19St q c d) (hd:=k19Hd) Try.func49 (by kernel_rfl) (Nat.le_of_ble_eq_true rfl)
  (fun s o ho=>match s,ho with
   | x,_=>x.elim)
  (fun o ho=>k19En_ok q c d o ho) h
def shE(n:NetD)(s:SigD):Int:=if sigB n s=true then 0 else 20
def shO(n:NetD)(s:SigD):List Bool:=if sigB n s=true then shtS s else []
theorem sig_len{n:NetD}{s:SigD}(h:sigB n s=true):ValidN n∧SigOk n s∧s.cl.length≤48∧s.bw.length≤48∧s.pe.length≤48∧n.bs.length≤s.cl.length∧∀b∈s.pe,0≤b∧b<(s.cl.length:Int):=by
 obtain⟨hv,h⟩:=sigB_iff.1 h
 have hc:=celN_le hv
 have lc:=h.lc
 have lb:=h.lb
 have pl:=h.pl
 exact⟨hv,h,by omega,by omega,by omega,by omega,fun b hb=>by have:=h.pb b hb;omega⟩
theorem cln_c(cl:List Bool)(bw pe:List Int)(h1:cl.length≤1000000)(h2:bw.length≤1000000)(h3:pe.length≤1000000):
  CT Try.prog 48 [] [sgA ⟨cl,bw,pe⟩] [some (Blk.mk (boL cl) 1 true true none),some (Blk.mk (bw.map (AV.int .i64)) 1 true true none),some (Blk.mk (pe.map (AV.int .i64)) 1 true true none)] (.agg [.sl 0 0 (boL cl).length,.sl 1 0 bw.length,.sl 2 0 pe.length]):=by
 refine cln_ct cl bw pe ([_,_,_],_) (.val ?_)
 unfold clnEn
 rw[gu_t h1,gu_t h2,gu_t h3]
def scE(n:NetD)(s:SigD)(c:Int):Int:=if sigB n s=true then (if c<0∨(s.cl.length:Int)≤c then 19 else 0) else 20
theorem sch_c{n:NetD}(cl:List Bool)(bw pe:List Int)(c:Int)(hrw:Rows n.nx):CT Try.prog 46 [] [netA n,sgA ⟨cl,bw,pe⟩,.int .i64 c] [] (.int .i64 (scE n ⟨cl,bw,pe⟩ c)):=by
 refine sch_ct n ⟨cl,bw,pe⟩ c ([],_) (.val ?_)
 unfold schEn scE
 simp only
 rw[gu_t hrw]
 cases h:sigB n ⟨cl,bw,pe⟩ with
 | false=>rfl
 | true=>
  rw[br_f (by rfl),if_pos rfl]
  by_cases h0:c<0
  ·rw[br_t (dec_t h0),if_pos (.inl h0)]
  by_cases h1:(cl.length:Int)≤c
  ·rw[br_f (dec_f h0),br_t (dec_t (by rw[boL_len];exact h1)),if_pos (.inr h1)]
  ·rw[br_f (dec_f h0),br_f (dec_f (by rw[boL_len];exact h1)),if_neg (by omega)]
theorem ssh_c{n:NetD}(cl:List Bool)(bw pe:List Int)(hrw:Rows n.nx):CT Try.prog 24 [] [netA n,sgA ⟨cl,bw,pe⟩] [] (.tup [.lst (boL (shO n ⟨cl,bw,pe⟩)),.int .i64 (shE n ⟨cl,bw,pe⟩)]):=by
 generalize hs:(⟨cl,bw,pe⟩:SigD)=s
 have k:=ssh_ct n s
 unfold sshEn at k
 unfold shO shE
 cases h:sigB n s with
 | false=>rw[h] at k;exact CT.w2 (k ([],_) (.val (by rw[gu_t hrw];rfl)))
 | true=>
  obtain⟨hv,hS,l1,l2,l3,l4,l5⟩:=sig_len h
  rw[h] at k
  refine k ([],_) ?_
  rw[gu_t hrw,br_f (by rfl),gu_t (by omega)]
  refine loop_fold (L:=fun i b=>sshPc.l0 (i:Int) b) (f:=fun c b=>c.set b.toNat true) (l:=s.pe) s.cl (fun i x hx h=>?_) ?_
  ·have hlen:=sht_len (s.pe.take i) s.cl
   have h2:=l5 x (List.mem_of_getElem? hx)
   have hi:=(List.getElem?_eq_some_iff.1 hx).1
   have hL:=boL_len s.cl
   generalize (s.pe.take i).foldl (fun c b=>c.set b.toNat true) s.cl=c at *
   refine .to (show sshS0 n s i c=_ from ?_) h
   unfold sshS0
   rw[rngS hx,gu_t h2.1,gu_t (by simp only[iN];omega),gu_t (show Nat.le _ _ from(by simp only[List.length_map];show 0+x.toNat+1≤_;omega)),zW i (by omega),Nat.zero_add]
  ·refine .to (show sshS0 n s s.pe.length (shtS s)=_ from ?_) (.ret _)
   unfold sshS0
   rw[rngE,gu_t (by rw[boL_len,List.length_map,shtS_len])];rfl
def anE(n:NetD)(s:SigD)(x:Int):Int:=if sigB n s=true then (if 0≤x∧x<(n.bs.length:Int) then (if (shtS s).getD x.toNat true=true then 24 else 0) else 19) else 20
def anO(n:NetD)(s:SigD)(x:Int):SigD:=if anE n s x=0 then anS s x else ⟨[],[],[]⟩
theorem anE_ok{n:NetD}{s:SigD}{x:Int}(h:anE n s x=0):sigB n s=true∧(0≤x∧x<(n.bs.length:Int))∧(shtS s).getD x.toNat true=false:=by
 unfold anE at h
 split at h
 ·rename_i h1
  split at h
  ·rename_i h2
   split at h
   ·cases h
   ·rename_i h3;exact⟨h1,h2,by simpa using h3⟩
  ·cases h
 ·cases h
theorem anE_zero{n:NetD}{s:SigD}{x:Int}(h1:sigB n s=true)(h2:0≤x∧x<(n.bs.length:Int))(h3:(shtS s).getD x.toNat true=false):anE n s x=0:=by
 unfold anE;rw[if_pos h1,if_pos h2,if_neg (by rw[h3];simp)]
def k9E(l:LokD)(c d:Int):Int:=if lokB l=true then (if 0≤c∧c<8∧0≤d∧d<(l.ow.length:Int) then 0 else 19) else 20
theorem k19_c(ow:List Int)(qu:List (List Int))(c d:Int):CT Try.prog 49 [] [lkA ⟨ow,qu⟩,.int .i64 c,.int .i64 d] [] (.int .i64 (k9E ⟨ow,qu⟩ c d)):=by
 refine k19_ct ⟨ow,qu⟩ c d ([],_) (.val ?_)
 unfold k19En k9E
 simp only
 cases h:lokB ⟨ow,qu⟩ with
 | false=>rfl
 | true=>
  rw[br_f (by rfl),if_pos rfl,List.length_map]
  by_cases h0:c<0
  ·rw[br_t (dec_t h0),if_neg (by omega)]
  by_cases h1:8≤c
  ·rw[br_f (dec_f h0),br_t (dec_t h1),if_neg (by omega)]
  by_cases h2:d<0
  ·rw[br_f (dec_f h0),br_f (dec_f h1),br_t (dec_t h2),if_neg (by omega)]
  by_cases h3:(ow.length:Int)≤d
  ·rw[br_f (dec_f h0),br_f (dec_f h1),br_f (dec_f h2),br_t (dec_t h3),if_neg (by omega)]
  ·rw[br_f (dec_f h0),br_f (dec_f h1),br_f (dec_f h2),br_f (dec_f h3),if_pos (by omega)]
def wolSt(l:List Int)(w:Int)(z:Nat):Empty→St
 | x=>x.elim
def wolHd:Empty→Nat
 | x=>x.elim
def wolEn(l:List Int)(w:Int)(z:Nat):Option (Empty⊕Ret):=
 gu (8 * iN z≤281474976710656) <|
 gu (iN z≤9223372036854775807) <|
 gu (0+z≤(List.map (AV.int IntKind.i64) l).length) <|
 gu (z=(List.take (min (List.take z (List.drop 0 (List.map (AV.int IntKind.i64) l))).length z) (List.take z (List.drop 0 l))++List.drop (0+min (List.take z (List.drop 0 (List.map (AV.int IntKind.i64) l))).length z) (List.replicate z 0)).length) <|
 gu ((List.take (min (List.take z (List.drop 0 (List.map (AV.int IntKind.i64) l))).length z) (List.take z (List.drop 0 l))++List.drop (0+min (List.take z (List.drop 0 (List.map (AV.int IntKind.i64) l))).length z) (List.replicate z 0)).length≤1000000) <|
 some (.inr ([some (Blk.mk (List.map (AV.int IntKind.i64) l) 1 true true none),some (Blk.mk (List.map (AV.int IntKind.i64) (wo (List.take (min (List.take z (List.drop 0 (List.map (AV.int IntKind.i64) l))).length z) (List.take z (List.drop 0 l))++List.drop (0+min (List.take z (List.drop 0 (List.map (AV.int IntKind.i64) l))).length z) (List.replicate z 0)) w)) 1 true true none)],AV.sl 1 0 (wo (List.take (min (List.take z (List.drop 0 (List.map (AV.int IntKind.i64) l))).length z) (List.take z (List.drop 0 l))++List.drop (0+min (List.take z (List.drop 0 (List.map (AV.int IntKind.i64) l))).length z) (List.replicate z 0)) w).length))
def wolStep(l:List Int)(w:Int)(z:Nat):Empty→Option (Empty⊕Ret)
 | x=>x.elim
theorem wolEn_ok(l:List Int)(w:Int)(z:Nat)(o:Empty⊕Ret)(h:wolEn l w z=some o):Arr Try.prog Try.f54 1 (wolSt l w z) wolHd (zB Try.f54) [] {n:=Try.f54.ntmps,fr:=enumF 0 ([.sl 0 0 z,.int .i64 w]),hp:=([some (Blk.mk (l.map (AV.int .i64)) 1 true true none)])} o:=
 Scr.ok h mix (
 .rn 0 [] [] [] [] (al (u2 t2)) <|
 .gu fun a0=>
 .gu fun a1=>
 .rn 0 [] [] [] [] (al (u2 (u2 (aj (k2 (aj (show 0≤iN z from(Int.natCast_nonneg _)) (aj (show iN z≤iN z by omega) (aj a0 a1)))) s2)))) <|
 .gu fun a2=>
 .rn 0 [] [] [] [] (al (u2 (u2 (al (k2 (aj (show 0+z≤(List.replicate z (iv 0)).length by simp) (aj (show nat_lit 1=nat_lit 1 from rfl) a2))))))) <|
 .gu fun a3=>
 .gu fun a4=>
 have c0:=dlf_k (List.take (min (List.take z (List.drop 0 (List.map (iv) l))).length z) (List.take z (List.drop 0 l))++List.drop (0+min (List.take z (List.drop 0 (List.map (iv) l))).length z) (List.replicate z 0)) w z a3 a4;
 .rt [] [] [(14,hK c0 [2,1] [])] [] [0,2] [] (aj (al (u2 (u2 (aj (k3 (u2 (k2 (al (show CT Try.prog 100 [some (Blk.mk ([]++List.take (min (List.take z (List.drop 0 (List.map (iv) l))).length z) (List.take z (List.drop 0 (List.map (iv) l)))++List.drop (0+min (List.take z (List.drop 0 (List.map (iv) l))).length z) (List.replicate z (iv 0))) 1 true true none),some (Blk.mk [iv w] 1 true true none)] [AV.sl 0 0 z,AV.fn 101 [AV.ptr 1 0 0]] [some (Blk.mk (List.map (iv) (wo (List.take (min (List.take z (List.drop 0 (List.map (iv) l))).length z) (List.take z (List.drop 0 l))++List.drop (0+min (List.take z (List.drop 0 (List.map (iv) l))).length z) (List.replicate z 0)) w)) 1 true true none),some (Blk.mk [iv w] 1 true true none)] (AV.sl 0 0 (wo (List.take (min (List.take z (List.drop 0 (List.map (iv) l))).length z) (List.take z (List.drop 0 l))++List.drop (0+min (List.take z (List.drop 0 (List.map (iv) l))).length z) (List.replicate z 0)) w).length) from CT.eqs (c0) (by first | (simp only[boL,List.map_append,List.map_set,List.map_take,List.map_drop,List.map_replicate,List.nil_append];done) | (simp only[boL,List.map_append,List.map_set,List.map_take,List.map_drop,List.map_replicate,List.nil_append];rfl) | (simp[gL,boL,lI];done) | (simp[gL,boL,lI];rfl) | (simp only[netA,List.map_append,List.map_set,List.map_cons,List.map_nil];rfl)) (by first | (simp only[boL,List.map_append,List.map_set,List.map_take,List.map_drop,List.map_replicate,List.nil_append];done) | (simp only[boL,List.map_append,List.map_set,List.map_take,List.map_drop,List.map_replicate,List.nil_append];rfl) | (simp[gL,boL,lI];done) | (simp[gL,boL,lI];rfl) | (simp only[netA,List.map_append,List.map_set,List.map_cons,List.map_nil];rfl))))))) s2)))) t4)) (by kernel_rfl)
theorem wol_ct(l:List Int)(w:Int)(z:Nat)(r:Ret)(h:MReach (wolStep l w z) (wolEn l w z) r):CT Try.prog 54 ([some (Blk.mk (l.map (AV.int .i64)) 1 true true none)]) ([.sl 0 0 z,.int .i64 w]) r.1 r.2:=
 CT.mach (fn:=Try.f54) (c:=zB Try.f54) (S:=wolSt l w z) (hd:=wolHd) Try.func54 (by kernel_rfl) (Nat.le_of_ble_eq_true rfl)
  (fun s o ho=>match s,ho with
   | x,_=>x.elim)
  (fun o ho=>wolEn_ok l w z o ho) h
theorem wol_c(l:List Int)(w:Int)(z:Nat)(hz:z=l.length)(hl:l.length≤1000000):CT Try.prog 54 [some (Blk.mk (l.map (AV.int .i64)) 1 true true none)] [.sl 0 0 z,.int .i64 w] [some (Blk.mk (l.map (AV.int .i64)) 1 true true none),some (Blk.mk ((wo l w).map (AV.int .i64)) 1 true true none)] (.sl 1 0 (wo l w).length):=by
 subst hz
 refine wol_ct l w l.length ([_,_],_) (.val ?_)
 unfold wolEn
 have e:List.take (min (List.take l.length (List.drop 0 (List.map (AV.int IntKind.i64) l))).length l.length) (List.take l.length (List.drop 0 l))++List.drop (0+min (List.take l.length (List.drop 0 (List.map (AV.int IntKind.i64) l))).length l.length) (List.replicate l.length 0)=l:=by
  have h:(List.take l.length (List.drop 0 (List.map (AV.int IntKind.i64) l))).length=l.length:=by rw[List.drop_zero,List.length_take,List.length_map,Nat.min_self]
  rw[h,Nat.min_self,List.drop_zero,List.take_length,List.take_length,Nat.zero_add,List.drop_of_length_le (by simp),List.append_nil]
 rw[e,gu_t (by simp only[iN];omega),gu_t (by simp only[iN];omega),gu_t (by rw[List.length_map];omega),gu_t rfl,gu_t hl]
def annSt(n:NetD)(q:SigD)(c:Int):Empty→St
 | x=>x.elim
def annHd:Empty→Nat
 | x=>x.elim
def annEn(n:NetD)(q:SigD)(c:Int):Option (Empty⊕Ret):=
 gu (Rows n.nx) <|
 br (scE n q c != 0)
 (some (.inr ([],AV.tup [AV.agg [AV.nils,AV.nils,AV.nils],AV.int IntKind.i64 (scE n q c)])))
 (br (decide (iN (List.map bA n.bs).length≤c))
  (some (.inr ([],AV.tup [AV.agg [AV.nils,AV.nils,AV.nils],AV.int IntKind.i64 19])))
  (gu (0≤c) <|
   el (q.cl) (c.toNat) fun(x29:Bool)=>
   br x29
   (some (.inr ([],AV.tup [AV.agg [AV.nils,AV.nils,AV.nils],AV.int IntKind.i64 24])))
   (gu (q.pe.length≤9000000000000000000) <|
    br (hasZ q.pe c)
    (some (.inr ([],AV.tup [AV.agg [AV.nils,AV.nils,AV.nils],AV.int IntKind.i64 24])))
    (gu (q.cl.length≤1000000) <|
     gu (q.bw.length≤1000000) <|
     gu (q.pe.length≤1000000) <|
     gu ((List.map (AV.int IntKind.i64) q.pe).length+[AV.int IntKind.i64 c].length≤9223372036854775807) <|
     gu (((List.map (AV.int IntKind.i64) q.pe).length+[AV.int IntKind.i64 c].length) * 8≤140737488355328) <|
     some (.inr ([],AV.tup [AV.agg [AV.lst (boL q.cl),AV.lst (List.map (AV.int IntKind.i64) q.bw),AV.lst (List.map (AV.int IntKind.i64) q.pe++[AV.int IntKind.i64 c])],AV.int IntKind.i64 0]))))))
def annStep(n:NetD)(q:SigD)(c:Int):Empty→Option (Empty⊕Ret)
 | x=>x.elim
theorem annEn_ok(n:NetD)(q:SigD)(c:Int)(o:Empty⊕Ret)(h:annEn n q c=some o):Arr Try.prog Try.f16 0 (annSt n q c) annHd (zB Try.f16) [] {n:=Try.f16.ntmps,fr:=enumF 0 ([netA n,sgA q,.int .i64 c]),hp:=([])} o:=
 Scr.ok h mix (
 .rn 0 [] [] [] [] (al (u2 (u2 t3))) <|
 .gu fun a0=>
 have c0:=sch_c (q.cl) (q.bw) (q.pe) c a0;
 .rn 1 [] [] [(12,hK c0 [] [])] [] (aj (u2 (u2 (u2 (aj (k3 (aj t9 (aj t4 (ak (al (c0)))))) s2)))) (al (u2 (u2 s2)))) <|
 .br (fun a1=>
 .rt [27] [] [] [] [] [] (aj (aj a1 (al (ak (u2 (aj (k2 n11) s2))))) (al (aj t4 t2))))
 (fun a1=>
 .rn 0 [26] [] [] [] (aj a1 (al (u2 (u2 (u2 (u2 (aj t3 s2))))))) <|
 .br (fun a2=>
  .rt [37] [] [] [] [] [] (aj (aj a2 (al (ak (aj (k2 n11) t2)))) (al (aj t4 t2))))
 (fun a2=>
  .gu fun a3=>
  .el fun x29 a4=>
  .br (fun a5=>
  .rt [36,63] [(29,AV.bool x29)] [] [] [] [] (aj (aj a2 (aj (u2 (u2 (u2 (aj (k2 (aj a3 (getMap (f:=AV.bool) a4))) (u2 (u2 (aj a5 (aj a5 (aj a5 (aj a5 (ag a5 s2))))))))))) (ak (al (ak (aj (k2 n11) t2)))))) (al (aj t4 t2))))
  (fun a5=>
  .gu fun a6=>
  have c1:=con_c (q.pe) c a6;
  .rn 0 [36,62] [(29,AV.bool x29)] [(35,hK c1 [] [])] [] (aj a2 (al (u2 (u2 (u2 (aj (k2 (aj a3 (getMap (f:=AV.bool) a4))) (u2 (u2 (ag a5 (ag a5 (ag a5 (aj (aj a5 (ak (k3 (al (c1))))) (ag a5 s2))))))))))))) <|
  .br (fun a7=>
   .rt [62,51] [] [] [] [] [] (aj (aj a7 (al (ak (aj (k2 n11) t2)))) (al (aj t4 t2))))
  (fun a7=>
   .gu fun a8=>
   .gu fun a9=>
   .gu fun a10=>
   have c2:=cln_c (q.cl) (q.bw) (q.pe) a8 a9 a10;
   .rn 0 [62,50] [] [(39,hK c2 [] [])] [] (aj a7 (al (u2 (aj (ak (aj t4 (al (c2)))) (al (k2 (show Nat.le 1 [AV.agg [AV.lst (boL q.cl),AV.lst (List.map (iv) q.bw),AV.lst (List.map (iv) q.pe)]].length from(Nat.le_of_ble_eq_true rfl)))))))) <|
   .gu fun a11=>
   .gu fun a12=>
   .rt [62] [] [] [] [] [3,4,7] (aj (aj (u2 (u2 (u2 (u2 (aj (k2 (aj (show(List.map (iv) q.pe).length=q.pe.length by simp) (aj (aj (show nat_lit 1=nat_lit 1 from rfl) (show 1≤[iv c].length by simp)) (aj a11 a12)))) (u2 (al t3))))))) (al (u2 (aj (k2 n11) t2)))) (al (aj (aj (show(boL q.cl).length=(boL q.cl).length from rfl) (aj (show q.bw.length=(List.map (iv) q.bw).length by simp) (al (show(List.map (iv) q.pe).length+[iv c].length=(List.map (iv) q.pe++[iv c]).length by simp)))) t2)))))))) (by kernel_rfl)
theorem ann_ct(n:NetD)(q:SigD)(c:Int)(r:Ret)(h:MReach (annStep n q c) (annEn n q c) r):CT Try.prog 16 ([]) ([netA n,sgA q,.int .i64 c]) r.1 r.2:=
 CT.mach (fn:=Try.f16) (c:=zB Try.f16) (S:=annSt n q c) (hd:=annHd) Try.func16 (by kernel_rfl) (Nat.le_of_ble_eq_true rfl)
  (fun s o ho=>match s,ho with
   | x,_=>x.elim)
  (fun o ho=>annEn_ok n q c o ho) h
def cloSt(n:NetD)(q:SigD)(c d:Int):Empty→St
 | x=>x.elim
def cloHd:Empty→Nat
 | x=>x.elim
def cloEn(n:NetD)(q:SigD)(c d:Int):Option (Empty⊕Ret):=
 gu (Rows n.nx) <|
 br (scE n q c != 0)
 (some (.inr ([],AV.tup [AV.agg [AV.nils,AV.nils,AV.nils],AV.int IntKind.i64 (scE n q c)])))
 (br (decide (d < -1))
  (some (.inr ([],AV.tup [AV.agg [AV.nils,AV.nils,AV.nils],AV.int IntKind.i64 19])))
  (br (decide (8≤d))
   (some (.inr ([],AV.tup [AV.agg [AV.nils,AV.nils,AV.nils],AV.int IntKind.i64 19])))
   (gu (q.cl.length≤1000000) <|
    gu (q.bw.length≤1000000) <|
    gu (q.pe.length≤1000000) <|
    gu (0≤c) <|
    gu (c<iN (boL q.cl).length) <|
    el (q.cl) (0+c.toNat) fun(x34:Bool)=>
    br (!x34)
    (gu ((0+c.toNat).succ.le (boL q.cl).length) <|
     gu (c<iN q.bw.length) <|
     gu ((0+c.toNat).succ.le (List.map (AV.int IntKind.i64) q.bw).length) <|
     some (.inr ([],AV.tup [AV.agg [AV.lst ((boL q.cl).set (0+c.toNat) (AV.bool true)),AV.lst ((List.map (AV.int IntKind.i64) q.bw).set (0+c.toNat) (AV.int IntKind.i64 d)),AV.lst (List.map (AV.int IntKind.i64) (wo q.pe c))],AV.int IntKind.i64 0])))
    (some (.inr ([],AV.tup [AV.agg [AV.lst (boL q.cl),AV.lst (List.map (AV.int IntKind.i64) q.bw),AV.lst (List.map (AV.int IntKind.i64) q.pe)],AV.int IntKind.i64 0]))))))
def cloStep(n:NetD)(q:SigD)(c d:Int):Empty→Option (Empty⊕Ret)
 | x=>x.elim
theorem cloEn_ok(n:NetD)(q:SigD)(c d:Int)(o:Empty⊕Ret)(h:cloEn n q c d=some o):Arr Try.prog Try.f21 0 (cloSt n q c d) cloHd (zB Try.f21) [] {n:=Try.f21.ntmps,fr:=enumF 0 ([netA n,sgA q,.int .i64 c,.int .i64 d]),hp:=([])} o:=
 Scr.ok h mix (
 .rn 0 [] [] [] [] (al (u2 (u2 t3))) <|
 .gu fun a0=>
 have c0:=sch_c (q.cl) (q.bw) (q.pe) c a0;
 .rn 1 [] [] [(14,hK c0 [] [])] [] (aj (u2 (u2 (u2 (aj (k3 (aj t9 (aj t4 (ak (al (c0)))))) s2)))) (al (u2 (u2 s2)))) <|
 .br (fun a1=>
 .rt [31] [] [] [] [] [] (aj (aj a1 (al (ak (u2 (aj (k2 n11) s2))))) (al (aj t4 t2))))
 (fun a1=>
 .br (fun a2=>
  .rt [30,47] [] [] [] [] [] (aj (aj a1 (aj (u2 (u2 (u2 (aj a2 (aj a2 (ag a2 s2)))))) (ak (al (ak (aj (k2 n11) t2)))))) (al (aj t4 t2))))
 (fun a2=>
  .rn 0 [30,46] [] [] [] (aj a1 (al (u2 (u2 (u2 (ag a2 (ag a2 (ag a2 s2)))))))) <|
  .br (fun a3=>
  .rt [46,41] [] [] [] [] [] (aj (aj a3 (al (ak (aj (k2 n11) t2)))) (al (aj t4 t2))))
  (fun a3=>
  .gu fun a4=>
  .gu fun a5=>
  .gu fun a6=>
  have c1:=cln_c (q.cl) (q.bw) (q.pe) a4 a5 a6;
  .rn 0 [46,40] [] [(29,hK c1 [] [])] [] (aj a3 (al (u2 (aj (ak (aj t4 (al (c1)))) (al (k2 (show Nat.le 1 [AV.agg [AV.lst (boL q.cl),AV.lst (List.map (iv) q.bw),AV.lst (List.map (iv) q.pe)]].length from(Nat.le_of_ble_eq_true rfl)))))))) <|
  .gu fun a7=>
  .gu fun a8=>
  .el fun x34 a9=>
  .rn 0 [46] [(34,AV.bool x34)] [] [] (al (u2 (u2 (u2 (aj (k2 (aj a7 a8)) (aj (ak (getMap (f:=AV.bool) a9)) s2)))))) <|
  .br (fun a10=>
   .gu fun a11=>
   .gu fun a12=>
   .gu fun a13=>
   have c2:=wol_c (q.pe) c (q.pe.length) (show q.pe.length=q.pe.length from rfl) a6;
   .rt [46,71] [] [(46,hK c2 [5] [])] [] [] [3,4,6] (aj (aj a10 (aj (u2 (u2 (u2 (u2 (u2 (u2 (u2 (u2 (u2 (u2 (aj (k5 (al (c2))) (aj (k2 (aj a7 a8)) (aj (ak a11) (aj (k2 (aj a7 a12)) (aj (k2 a13) (u2 (al t3))))))))))))))))) (al (u2 (aj (k2 n11) t2))))) (al (aj (aj (show(boL q.cl).length=((boL q.cl).set (0+c.toNat) (AV.bool true)).length by simp) (aj (show q.bw.length=((List.map (iv) q.bw).set (0+c.toNat) (iv d)).length by simp) (al (show(wo q.pe c).length=(List.map (iv) (wo q.pe c)).length by simp)))) t2))))
  (fun a10=>
   .rt [46,70] [] [] [] [] [3,4,5] (aj (aj a10 (al (u2 (aj (k2 n11) t2)))) (al (aj (aj (show(boL q.cl).length=(boL q.cl).length from rfl) (aj (show q.bw.length=(List.map (iv) q.bw).length by simp) (al (show q.pe.length=(List.map (iv) q.pe).length by simp)))) t2)))))))) (by kernel_rfl)
theorem clo_ct(n:NetD)(q:SigD)(c d:Int)(r:Ret)(h:MReach (cloStep n q c d) (cloEn n q c d) r):CT Try.prog 21 ([]) ([netA n,sgA q,.int .i64 c,.int .i64 d]) r.1 r.2:=
 CT.mach (fn:=Try.f21) (c:=zB Try.f21) (S:=cloSt n q c d) (hd:=cloHd) Try.func21 (by kernel_rfl) (Nat.le_of_ble_eq_true rfl)
  (fun s o ho=>match s,ho with
   | x,_=>x.elim)
  (fun o ho=>cloEn_ok n q c d o ho) h
def opnSt(n:NetD)(q:SigD)(c:Int):Empty→St
 | x=>x.elim
def opnHd:Empty→Nat
 | x=>x.elim
def opnEn(n:NetD)(q:SigD)(c:Int):Option (Empty⊕Ret):=
 gu (Rows n.nx) <|
 br (scE n q c != 0)
 (some (.inr ([],AV.tup [AV.agg [AV.nils,AV.nils,AV.nils],AV.int IntKind.i64 (scE n q c)])))
 (gu (q.cl.length≤1000000) <|
  gu (q.bw.length≤1000000) <|
  gu (q.pe.length≤1000000) <|
  gu (0≤c) <|
  gu (c<iN (boL q.cl).length) <|
  gu ((0+c.toNat).succ.le (boL q.cl).length) <|
  gu (c<iN q.bw.length) <|
  gu ((0+c.toNat).succ.le (List.map (AV.int IntKind.i64) q.bw).length) <|
  some (.inr ([],AV.tup [AV.agg [AV.lst ((boL q.cl).set (0+c.toNat) (AV.bool false)),AV.lst ((List.map (AV.int IntKind.i64) q.bw).set (0+c.toNat) (AV.int IntKind.i64 (-1))),AV.lst (List.map (AV.int IntKind.i64) (wo q.pe c))],AV.int IntKind.i64 0])))
def opnStep(n:NetD)(q:SigD)(c:Int):Empty→Option (Empty⊕Ret)
 | x=>x.elim
theorem opnEn_ok(n:NetD)(q:SigD)(c:Int)(o:Empty⊕Ret)(h:opnEn n q c=some o):Arr Try.prog Try.f23 0 (opnSt n q c) opnHd (zB Try.f23) [] {n:=Try.f23.ntmps,fr:=enumF 0 ([netA n,sgA q,.int .i64 c]),hp:=([])} o:=
 Scr.ok h mix (
 .rn 0 [] [] [] [] (al (u2 (u2 t3))) <|
 .gu fun a0=>
 have c0:=sch_c (q.cl) (q.bw) (q.pe) c a0;
 .rn 1 [] [] [(12,hK c0 [] [])] [] (aj (u2 (u2 (u2 (aj (k3 (aj t9 (aj t4 (ak (al (c0)))))) s2)))) (al (u2 s2))) <|
 .br (fun a1=>
 .rt [29] [] [] [] [] [] (aj (aj a1 (al (ak (u2 (aj (k2 n11) s2))))) (al (aj t4 t2))))
 (fun a1=>
 .gu fun a2=>
 .gu fun a3=>
 .gu fun a4=>
 have c1:=cln_c (q.cl) (q.bw) (q.pe) a2 a3 a4;
 .rn 0 [28] [] [(18,hK c1 [] [])] [] (aj a1 (al (u2 (aj (ak (aj t4 (al (c1)))) (al (k2 (show Nat.le 1 [AV.agg [AV.lst (boL q.cl),AV.lst (List.map (iv) q.bw),AV.lst (List.map (iv) q.pe)]].length from(Nat.le_of_ble_eq_true rfl)))))))) <|
 .gu fun a5=>
 .gu fun a6=>
 .gu fun a7=>
 .gu fun a8=>
 .gu fun a9=>
 have c2:=wol_c (q.pe) c (q.pe.length) (show q.pe.length=q.pe.length from rfl) a4;
 .rt [] [] [(28,hK c2 [5] [])] [] [] [3,4,6] (aj (aj (u2 (u2 (u2 (u2 (u2 (u2 (u2 (u2 (u2 (aj (k5 (al (c2))) (aj (k2 (aj a5 a6)) (aj (ak a7) (aj (k2 (aj a5 a8)) (aj (ak a9) (u2 (al t3)))))))))))))))) (al (u2 (aj (k2 n11) t2)))) (al (aj (aj (show(boL q.cl).length=((boL q.cl).set (0+c.toNat) (AV.bool false)).length by simp) (aj (show q.bw.length=((List.map (iv) q.bw).set (0+c.toNat) (iv (-1))).length by simp) (al (show(wo q.pe c).length=(List.map (iv) (wo q.pe c)).length by simp)))) t2))))) (by kernel_rfl)
theorem opn_ct(n:NetD)(q:SigD)(c:Int)(r:Ret)(h:MReach (opnStep n q c) (opnEn n q c) r):CT Try.prog 23 ([]) ([netA n,sgA q,.int .i64 c]) r.1 r.2:=
 CT.mach (fn:=Try.f23) (c:=zB Try.f23) (S:=opnSt n q c) (hd:=opnHd) Try.func23 (by kernel_rfl) (Nat.le_of_ble_eq_true rfl)
  (fun s o ho=>match s,ho with
   | x,_=>x.elim)
  (fun o ho=>opnEn_ok n q c o ho) h
def rd1St(l:List Int)(c:Int):Empty→St
 | x=>x.elim
def rd1Hd:Empty→Nat
 | x=>x.elim
def rd1En(l:List Int)(c:Int):Option (Empty⊕Ret):=
 gu (l.length≤9000000000000000000) <|
 some (.inr ([some (Blk.mk [AV.int IntKind.i64 c] 1 true true none)],AV.bool (hasZ l c)))
def rd1Step(l:List Int)(c:Int):Empty→Option (Empty⊕Ret)
 | x=>x.elim
theorem rd1En_ok(l:List Int)(c:Int)(o:Empty⊕Ret)(h:rd1En l c=some o):Arr Try.prog Try.f53 1 (rd1St l c) rd1Hd (zB Try.f53) [] {n:=Try.f53.ntmps,fr:=enumF 0 ([lI l,.ptr 0 0 0]),hp:=([some (Blk.mk [.int .i64 c] 1 true true none)])} o:=
 Scr.ok h mix (
 .rn 0 [] [] [] [] s2 <|
 .gu fun a0=>
 have c0:=con_c l c a0;
 .rt [] [] [(6,hK c0 [] [])] [] [0] [] (aj (al (u2 (u2 (aj (ak (k3 (al (c0)))) s2)))) t3)) (by kernel_rfl)
theorem rd1_ct(l:List Int)(c:Int)(r:Ret)(h:MReach (rd1Step l c) (rd1En l c) r):CT Try.prog 53 ([some (Blk.mk [.int .i64 c] 1 true true none)]) ([lI l,.ptr 0 0 0]) r.1 r.2:=
 CT.mach (fn:=Try.f53) (c:=zB Try.f53) (S:=rd1St l c) (hd:=rd1Hd) Try.func53 (by kernel_rfl) (Nat.le_of_ble_eq_true rfl)
  (fun s o ho=>match s,ho with
   | x,_=>x.elim)
  (fun o ho=>rd1En_ok l c o ho) h
def ownSt(q:LokD)(c d:Int):Empty→St
 | x=>x.elim
def ownHd:Empty→Nat
 | x=>x.elim
def ownEn(q:LokD)(c d:Int):Option (Empty⊕Ret):=
 br (k9E q c d != 0)
 (some (.inr ([],AV.tup [AV.agg [AV.nils,AV.nils],AV.int IntKind.i64 (k9E q c d)])))
 (gu (0≤d) <|
  el (q.ow) (d.toNat) fun(x20:Int)=>
  br (x20 != -1)
  (some (.inr ([],AV.tup [AV.agg [AV.nils,AV.nils],AV.int IntKind.i64 24])))
  (el (q.qu) (d.toNat) fun(x27:List Int)=>
   gu (x27.length≤9000000000000000000) <|
   br (hasZ x27 c)
   (some (.inr ([],AV.tup [AV.agg [AV.nils,AV.nils],AV.int IntKind.i64 24])))
   (gu (q.ow.length≤1000) <|
    gu (q.qu.length≤1000) <|
    gu (∀(r:List Int),r∈q.qu→r.length≤1000) <|
    gu (d<iN q.ow.length) <|
    gu ((0+d.toNat).succ.le (List.map (AV.int IntKind.i64) q.ow).length) <|
    gu (q.qu.length=(gL q.qu).length) <|
    some (.inr ([],AV.tup [AV.agg [AV.lst ((List.map (AV.int IntKind.i64) q.ow).set (0+d.toNat) (AV.int IntKind.i64 c)),AV.lst (gL q.qu)],AV.int IntKind.i64 0])))))
def ownStep(q:LokD)(c d:Int):Empty→Option (Empty⊕Ret)
 | x=>x.elim
theorem ownEn_ok(q:LokD)(c d:Int)(o:Empty⊕Ret)(h:ownEn q c d=some o):Arr Try.prog Try.f19 0 (ownSt q c d) ownHd (zB Try.f19) [] {n:=Try.f19.ntmps,fr:=enumF 0 ([lkA q,.int .i64 c,.int .i64 d]),hp:=([])} o:=
 Scr.ok h mix (
 have c0:=k19_c (q.ow) (q.qu) c (d);
 .rn 2 [] [] [(12,hK c0 [] [])] [] (aj (u2 t3) (aj (u2 (u2 (u2 (aj (k3 (aj t3 (k2 (al (c0))))) s2)))) (al (u2 s2)))) <|
 .br (fun a0=>
 .rt [29] [] [] [] [] [] (aj (aj a0 (al (ak (u2 (aj (k2 n11) s2))))) (al (aj t3 t2))))
 (fun a0=>
 .gu fun a1=>
 .el fun x20 a2=>
 .br (fun a3=>
  .rt [28,47] [(20,iv x20)] [] [] [] [] (aj (aj a0 (aj (u2 (u2 (u2 (aj (k2 (aj a1 (getMap (f:=iv) a2))) (u2 (u2 (u2 (aj a3 (aj a3 (aj a3 (aj a3 (aj a3 (aj a3 (aj a3 (al (aj a3 t2)))))))))))))))) (ak (al (ak (aj (k2 n11) t2)))))) (al (aj t3 t2))))
 (fun a3=>
  .el fun x27 a4=>
  .gu fun a5=>
  have c1:=has_ct x27 c a5;
  .rn 0 [28,46] [(20,iv x20),(27,lI x27)] [(30,hK c1 [] [])] [] (aj a0 (al (u2 (u2 (u2 (aj (k2 (aj a1 (getMap (f:=iv) a2))) (u2 (u2 (u2 (ag a3 (ag a3 (ag a3 (aj (aj a3 (k2 (aj a1 (getMap (f:=lI) a4)))) (ag a3 (ag a3 (aj (aj a3 (ak (k3 (al (c1))))) (al (aj a3 t2)))))))))))))))))) <|
  .br (fun a6=>
  .rt [46,63] [] [] [] [] [] (aj (aj a6 (al (ak (aj (k2 n11) t2)))) (al (aj t3 t2))))
  (fun a6=>
  .gu fun a7=>
  .gu fun a8=>
  .gu fun a9=>
  have c2:=c19_c (q.ow) (q.qu) a7 a8 a9;
  .rn 0 [46,62] [] [(34,hK c2 [] [])] [] (aj a6 (al (u2 (aj (ak (aj t3 (al (c2)))) (al (k2 (show Nat.le 1 [AV.agg [AV.lst (List.map (iv) q.ow),AV.lst (gL q.qu)]].length from(Nat.le_of_ble_eq_true rfl)))))))) <|
  .gu fun a10=>
  .gu fun a11=>
  .rn 1 [46] [] [] [] (aj (u2 (u2 (u2 (u2 (aj (k2 (aj a1 a10)) (al (k2 a11))))))) (al (u2 (aj (k2 n11) t2)))) <|
  .gu fun a12=>
  .rt [46] [] [] [] [] [2,3] (ak (al (aj (aj (show q.ow.length=((List.map (iv) q.ow).set (0+d.toNat) (iv c)).length by simp) (al a12)) t2))))))) (by kernel_rfl)
theorem own_ct(q:LokD)(c d:Int)(r:Ret)(h:MReach (ownStep q c d) (ownEn q c d) r):CT Try.prog 19 ([]) ([lkA q,.int .i64 c,.int .i64 d]) r.1 r.2:=
 CT.mach (fn:=Try.f19) (c:=zB Try.f19) (S:=ownSt q c d) (hd:=ownHd) Try.func19 (by kernel_rfl) (Nat.le_of_ble_eq_true rfl)
  (fun s o ho=>match s,ho with
   | x,_=>x.elim)
  (fun o ho=>ownEn_ok q c d o ho) h
def relSt(q:LokD)(c:Int):Empty→St
 | x=>x.elim
def relHd:Empty→Nat
 | x=>x.elim
def relEn(q:LokD)(c:Int):Option (Empty⊕Ret):=
 br (k9E q 0 c != 0)
 (some (.inr ([],AV.tup [AV.agg [AV.nils,AV.nils],AV.int IntKind.i64 (k9E q 0 c)])))
 (gu (0≤c) <|
  el (q.ow) (c.toNat) fun(x17:Int)=>
  br (x17 == -1)
  (some (.inr ([],AV.tup [AV.agg [AV.nils,AV.nils],AV.int IntKind.i64 24])))
  (gu (q.ow.length≤1000) <|
   gu (q.qu.length≤1000) <|
   gu (∀(r:List Int),r∈q.qu→r.length≤1000) <|
   gu (c<iN q.ow.length) <|
   gu ((0+c.toNat).succ.le (List.map (AV.int IntKind.i64) q.ow).length) <|
   gu (q.qu.length=(gL q.qu).length) <|
   some (.inr ([],AV.tup [AV.agg [AV.lst ((List.map (AV.int IntKind.i64) q.ow).set (0+c.toNat) (AV.int IntKind.i64 (-1))),AV.lst (gL q.qu)],AV.int IntKind.i64 0]))))
def relStep(q:LokD)(c:Int):Empty→Option (Empty⊕Ret)
 | x=>x.elim
theorem relEn_ok(q:LokD)(c:Int)(o:Empty⊕Ret)(h:relEn q c=some o):Arr Try.prog Try.f42 0 (relSt q c) relHd (zB Try.f42) [] {n:=Try.f42.ntmps,fr:=enumF 0 ([lkA q,.int .i64 c]),hp:=([])} o:=
 Scr.ok h mix (
 have c0:=k19_c (q.ow) (q.qu) (0) (c);
 .rn 2 [] [] [(9,hK c0 [] [])] [] (aj (u2 t3) (aj (u2 (u2 (aj (k2 (aj t3 (k2 (al (c0))))) s2))) (al (u2 s2)))) <|
 .br (fun a0=>
 .rt [23] [] [] [] [] [] (aj (aj a0 (al (ak (u2 (aj (k2 n11) s2))))) (al (aj t3 t2))))
 (fun a0=>
 .gu fun a1=>
 .el fun x17 a2=>
 .rn 0 [22] [(17,iv x17)] [] [] (aj a0 (al (u2 (u2 (u2 (aj (k2 (aj a1 (getMap (f:=iv) a2))) (u2 s2))))))) <|
 .br (fun a3=>
  .rt [39] [] [] [] [] [] (aj (aj a3 (al (ak (aj (k2 n11) t2)))) (al (aj t3 t2))))
 (fun a3=>
  .gu fun a4=>
  .gu fun a5=>
  .gu fun a6=>
  have c1:=c19_c (q.ow) (q.qu) a4 a5 a6;
  .rn 0 [38] [] [(22,hK c1 [] [])] [] (aj a3 (al (u2 (aj (ak (aj t3 (al (c1)))) (al (k2 (show Nat.le 1 [AV.agg [AV.lst (List.map (iv) q.ow),AV.lst (gL q.qu)]].length from(Nat.le_of_ble_eq_true rfl)))))))) <|
  .gu fun a7=>
  .gu fun a8=>
  .rn 1 [] [] [] [] (aj (u2 (u2 (u2 (aj (k2 (aj a1 a7)) (al (ak a8)))))) (al (u2 (aj (k2 n11) t2)))) <|
  .gu fun a9=>
  .rt [] [] [] [] [] [2,3] (ak (al (aj (aj (show q.ow.length=((List.map (iv) q.ow).set (0+c.toNat) (iv (-1))).length by simp) (al a9)) t2)))))) (by kernel_rfl)
theorem rel_ct(q:LokD)(c:Int)(r:Ret)(h:MReach (relStep q c) (relEn q c) r):CT Try.prog 42 ([]) ([lkA q,.int .i64 c]) r.1 r.2:=
 CT.mach (fn:=Try.f42) (c:=zB Try.f42) (S:=relSt q c) (hd:=relHd) Try.func42 (by kernel_rfl) (Nat.le_of_ble_eq_true rfl)
  (fun s o ho=>match s,ho with
   | x,_=>x.elim)
  (fun o ho=>relEn_ok q c o ho) h
theorem scE_eq{n:NetD}{s:SigD}{c:Int}:scE n s c=0↔sigB n s=true∧0≤c∧c<(s.cl.length:Int):=by
 unfold scE
 cases sigB n s with
 | false=>simp
 | true=>
  rw[if_pos rfl]
  split
  ·simp;omega
  ·simp;omega
theorem ann_c{n:NetD}(cl:List Bool)(bw pe:List Int)(x:Int)(hrw:Rows n.nx):CT Try.prog 16 [] [netA n,sgA ⟨cl,bw,pe⟩,.int .i64 x] [] (.tup [sgA (anO n ⟨cl,bw,pe⟩ x),.int .i64 (anE n ⟨cl,bw,pe⟩ x)]):=by
 generalize hs:(⟨cl,bw,pe⟩:SigD)=s
 have k:=ann_ct n s x
 unfold annEn at k
 rw[gu_t hrw] at k
 unfold anO
 have hbad:anE n s x≠0→(.tup [sgA (if anE n s x=0 then anS s x else ⟨[],[],[]⟩),.int .i64 (anE n s x)]:AV)=wk2 (.tup [.agg [.nils,.nils,.nils],.int .i64 (anE n s x)]):=fun h=>by rw[if_neg h];rfl
 by_cases h1:scE n s x=0
 case neg=>
  have e:anE n s x=scE n s x:=by
   unfold anE
   unfold scE at h1 ⊢
   cases h:sigB n s with
   | false=>rfl
   | true=>
    obtain⟨_,_,_,_,_,l4,_⟩:=sig_len h
    rw[h,if_pos rfl] at h1
    rw[if_pos rfl,if_pos rfl]
    split at h1
    ·rename_i h2;rw[if_neg (by omega),if_pos h2]
    ·exact absurd rfl h1
  rw[hbad (by rw[e];exact h1),e]
  exact CT.w2 (k ([],_) (.val (by rw[br_t (bne_iff_ne.2 h1)])))
 obtain⟨h,h0,hl⟩:=scE_eq.1 h1
 obtain⟨hv,hS,l1,l2,l3,l4,l5⟩:=sig_len h
 rw[h1,br_f (by rfl)] at k
 have hsl:=shtS_get hv hS x.toNat
 rw[Int.toNat_of_nonneg h0] at hsl
 by_cases h2:(n.bs.length:Int)≤x
 ·have e:anE n s x=19:=by unfold anE;rw[if_pos h,if_neg (by omega)]
  rw[hbad (by rw[e];decide),e]
  exact CT.w2 (k ([],_) (.val (by rw[br_t (dec_t (by rw[List.length_map];exact h2))])))
 rw[br_f (dec_f (by rw[List.length_map];exact h2)),gu_t h0,el_t (getE true (show x.toNat<s.cl.length by omega))] at k
 have eE:anE n s x=if (s.cl.getD x.toNat true||hasZ s.pe x)=true then 24 else 0:=by unfold anE;rw[if_pos h,if_pos ⟨h0,by omega⟩,hsl]
 cases hc:s.cl.getD x.toNat true with
 | true=>
  rw[hc] at k eE
  have e:anE n s x=24:=by rw[eE];rfl
  rw[hbad (by rw[e];decide),e]
  exact CT.w2 (k ([],_) (.val (by rw[br_t rfl])))
 | false=>
  rw[hc,br_f rfl,gu_t (by omega)] at k
  rw[hc,Bool.false_or] at eE
  cases hp:hasZ s.pe x with
  | true=>
   rw[hp] at k eE
   have e:anE n s x=24:=by rw[eE];rfl
   rw[hbad (by rw[e];decide),e]
   exact CT.w2 (k ([],_) (.val (by rw[br_t rfl])))
  | false=>
   rw[hp,br_f rfl,gu_t (by omega),gu_t (by omega),gu_t (by omega),gu_t (by simp only[List.length_map,List.length_cons,List.length_nil];omega),gu_t (by simp only[List.length_map,List.length_cons,List.length_nil];omega)] at k
   rw[hp] at eE
   have e:anE n s x=0:=by rw[eE];rfl
   rw[e,if_pos rfl]
   have e2:(.tup [sgA (anS s x),.int .i64 0]:AV) = .tup [.agg [.lst (boL s.cl),.lst (List.map (AV.int .i64) s.bw),.lst (List.map (AV.int .i64) s.pe++[.int .i64 x])],.int .i64 0]:=by
    unfold anS sgA lI
    rw[List.map_append];rfl
   rw[e2]
   exact k ([],_) (.ret _)
theorem lok_rows{l:LokD}(h:lokB l=true):∀r∈l.qu,r.length≤8:=fun r hr=>by
 unfold lokB at h
 simp only[Bool.and_eq_true,Option.isNone_iff_eq_none] at h
 obtain⟨c,hc,rfl⟩:=List.mem_iff_getElem.1 hr
 have hb:=fnd_none h.2.2 c (Nat.zero_le _) (by omega)
 unfold bdR at hb
 rw[Bool.or_eq_false_iff] at hb
 have e:l.qu.getD c []=l.qu[c]:=by rw[List.getD_eq_getElem?_getD,List.getElem?_eq_getElem hc];rfl
 rw[←e]
 refine row8 (Nat.le_refl _) fun j hj=>?_
 cases hf:fnd (bdQ l c) 0 (l.qu.getD c []).length with
 | none=>exact fnd_none hf j (Nat.zero_le _) (by omega)
 | some i=>rw[hf] at hb;cases hb.2
theorem k9E_ok{l:LokD}{c d:Int}(h:k9E l c d=0):lokB l=true∧(0≤c∧c<8)∧0≤d∧d<(l.ow.length:Int):=by
 unfold k9E at h
 split at h
 ·rename_i h1
  split at h
  ·rename_i h2;exact⟨h1,⟨h2.1,h2.2.1⟩,h2.2.2⟩
  ·cases h
 ·cases h
def owS(l:LokD)(r c:Int):LokD:=⟨l.ow.set c.toNat r,l.qu⟩
def owE(l:LokD)(r c:Int):Int:=if k9E l r c=0 then (if l.ow.getD c.toNat 0≠-1∨hasZ (l.qu.getD c.toNat []) r=true then 24 else 0) else k9E l r c
def owO(l:LokD)(r c:Int):LokD:=if owE l r c=0 then owS l r c else ⟨[],[]⟩
def reE(l:LokD)(c:Int):Int:=if k9E l 0 c=0 then (if l.ow.getD c.toNat 0 = -1 then 24 else 0) else k9E l 0 c
def reO(l:LokD)(c:Int):LokD:=if reE l c=0 then owS l (-1) c else ⟨[],[]⟩
theorem owS_av(l:LokD)(r c:Int):(.tup [lkA (owS l r c),.int .i64 0]:AV) = .tup [.agg [.lst ((List.map (AV.int .i64) l.ow).set (0+c.toNat) (.int .i64 r)),.lst (gL l.qu)],.int .i64 0]:=by
 unfold owS lkA lI
 simp only[Nat.zero_add]
 rw[List.map_set]
theorem own_c(ow:List Int)(qu:List (List Int))(r c:Int):CT Try.prog 19 [] [lkA ⟨ow,qu⟩,.int .i64 r,.int .i64 c] [] (.tup [lkA (owO ⟨ow,qu⟩ r c),.int .i64 (owE ⟨ow,qu⟩ r c)]):=by
 generalize hs:(⟨ow,qu⟩:LokD)=l
 have k:=own_ct l r c
 unfold ownEn at k
 unfold owO
 have hbad:owE l r c≠0→(.tup [lkA (if owE l r c=0 then owS l r c else ⟨[],[]⟩),.int .i64 (owE l r c)]:AV)=wk2 (.tup [.agg [.nils,.nils],.int .i64 (owE l r c)]):=fun h=>by rw[if_neg h];rfl
 by_cases h1:k9E l r c=0
 case neg=>
  have e:owE l r c=k9E l r c:=by unfold owE;rw[if_neg h1]
  rw[hbad (by rw[e];exact h1),e]
  exact CT.w2 (k ([],_) (.val (by rw[br_t (bne_iff_ne.2 h1)])))
 obtain⟨hb,hr,hc0,hc1⟩:=k9E_ok h1
 obtain⟨hlen,h48⟩:=lokB_len hb
 have hrows:=lok_rows hb
 have eE:owE l r c=if l.ow.getD c.toNat 0≠-1∨hasZ (l.qu.getD c.toNat []) r=true then 24 else 0:=by unfold owE;rw[if_pos h1]
 have hq:=getE ([]:List Int) (show c.toNat<l.qu.length by omega)
 have hql:=hrows _ (List.mem_of_getElem? hq)
 rw[h1,br_f (by rfl),gu_t hc0,el_t (getE 0 (show c.toNat<l.ow.length by omega))] at k
 by_cases h2:l.ow.getD c.toNat 0 = -1
 case neg=>
  have e:owE l r c=24:=by rw[eE,if_pos (.inl h2)]
  rw[hbad (by rw[e];decide),e]
  exact CT.w2 (k ([],_) (.val (by rw[br_t (bne_iff_ne.2 h2)])))
 rw[h2,br_f (by rfl),el_t hq,gu_t (by omega)] at k
 cases h3:hasZ (l.qu.getD c.toNat []) r with
 | true=>
  rw[h3] at k
  have e:owE l r c=24:=by rw[eE,if_pos (.inr h3)]
  rw[hbad (by rw[e];decide),e]
  exact CT.w2 (k ([],_) (.val (by rw[br_t rfl])))
 | false=>
  rw[h3,br_f rfl,gu_t (by omega),gu_t (by omega),gu_t (fun x hx=>by have:=hrows x hx;omega),gu_t hc1,gu_t (show Nat.le _ _ from(by rw[List.length_map];show 0+c.toNat+1≤_;omega)),gu_t (gL_len _).symm] at k
  have e:owE l r c=0:=by rw[eE,if_neg (by rw[h2,h3];simp)]
  rw[e,if_pos rfl,owS_av]
  exact k ([],_) (.ret _)
theorem rel_c(ow:List Int)(qu:List (List Int))(c:Int):CT Try.prog 42 [] [lkA ⟨ow,qu⟩,.int .i64 c] [] (.tup [lkA (reO ⟨ow,qu⟩ c),.int .i64 (reE ⟨ow,qu⟩ c)]):=by
 generalize hs:(⟨ow,qu⟩:LokD)=l
 have k:=rel_ct l c
 unfold relEn at k
 unfold reO
 have hbad:reE l c≠0→(.tup [lkA (if reE l c=0 then owS l (-1) c else ⟨[],[]⟩),.int .i64 (reE l c)]:AV)=wk2 (.tup [.agg [.nils,.nils],.int .i64 (reE l c)]):=fun h=>by rw[if_neg h];rfl
 by_cases h1:k9E l 0 c=0
 case neg=>
  have e:reE l c=k9E l 0 c:=by unfold reE;rw[if_neg h1]
  rw[hbad (by rw[e];exact h1),e]
  exact CT.w2 (k ([],_) (.val (by rw[br_t (bne_iff_ne.2 h1)])))
 obtain⟨hb,hr,hc0,hc1⟩:=k9E_ok h1
 obtain⟨hlen,h48⟩:=lokB_len hb
 have hrows:=lok_rows hb
 have eE:reE l c=if l.ow.getD c.toNat 0 = -1 then 24 else 0:=by unfold reE;rw[if_pos h1]
 rw[h1,br_f (by rfl),gu_t hc0,el_t (getE 0 (show c.toNat<l.ow.length by omega))] at k
 by_cases h2:l.ow.getD c.toNat 0 = -1
 ·have e:reE l c=24:=by rw[eE,if_pos h2]
  rw[hbad (by rw[e];decide),e]
  exact CT.w2 (k ([],_) (.val (by rw[br_t (beq_iff_eq.2 h2)])))
 ·rw[br_f (beq_eq_false_iff_ne.2 h2),gu_t (by omega),gu_t (by omega),gu_t (fun x hx=>by have:=hrows x hx;omega),gu_t hc1,gu_t (show Nat.le _ _ from(by rw[List.length_map];show 0+c.toNat+1≤_;omega)),gu_t (gL_len _).symm] at k
  have e:reE l c=0:=by rw[eE,if_neg h2]
  rw[e,if_pos rfl,owS_av]
  exact k ([],_) (.ret _)
theorem rd1_c(l:List Int)(c:Int)(hl:l.length≤9000000000000000000):CT Try.prog 53 [some (Blk.mk [.int .i64 c] 1 true true none)] [lI l,.ptr 0 0 0] [some (Blk.mk [.int .i64 c] 1 true true none)] (.bool (hasZ l c)):=by
 refine rd1_ct l c ([_],_) (.val ?_)
 unfold rd1En
 rw[gu_t hl]
def Chn(n:NetD):Int→List Int→Prop
 | _,[]=>True
 | c,x::l=>folB n c x=true∧Chn n x l
def lstC:Int→List Int→Int
 | c,[]=>c
 | _,x::l=>lstC x l
theorem Chn.app{n:NetD}:∀{l m:List Int} {c:Int},Chn n c l→Chn n (lstC c l) m→Chn n c (l++m)
 | [],_,_,_,h=>h
 | _::_,_,_,h,k=>⟨h.1,Chn.app h.2 k⟩
theorem Chn.of{n:NetD}:∀{l:List Int} {c:Int},(∀k,k<l.length→folB n ((c::l).getD k 0) (l.getD k 0)=true)→Chn n c l
 | [],_,_=>trivial
 | x::l,c,h=>⟨h 0 (by simp),Chn.of fun k hk=>h (k+1) (by simpa using hk)⟩
theorem Chn.get{n:NetD}:∀{l:List Int} {c:Int},Chn n c l→∀k,k<l.length→folB n ((c::l).getD k 0) (l.getD k 0)=true
 | [],_,_,k,hk=>absurd hk (Nat.not_lt_zero _)
 | x::l,c,h,0,_=>h.1
 | x::l,c,h,k+1,hk=>Chn.get h.2 k (by simpa using hk)
inductive ixrPc where
 | l0 (v0:Int)
def ixrSt(l:List (List Int))(c:Int):ixrPc→St
 | .l0 v0=>St.mk 19 [(0,AV.lst (gL l)),(1,AV.fn 53 [AV.ptr 0 0 0]),(7,iv (iN (gL l).length)),(8,iv v0)] [some (Blk.mk [iv c] 1 true true none)]
def ixrHd:ixrPc→Nat
 | .l0 _=>0
def ixrEn(l:List (List Int))(c:Int):Option (ixrPc⊕Ret):=
 some (.inl (.l0 ((0:Int))))
def ixrS0(l:List (List Int))(c v0:Int):Option (ixrPc⊕Ret):=
 br (decide (v0<iN (gL l).length))
 (gu (0≤v0) <|
  el l (v0.toNat) fun(x14:List Int)=>
  gu (x14.length≤9000000000000000000) <|
  br (hasZ x14 c)
  (some (.inr ([some (Blk.mk [AV.int IntKind.i64 c] 1 true true none)],AV.int IntKind.i64 v0)))
  (some (.inl (.l0 (IntKind.i64.wrap (v0+1))))))
 (some (.inr ([some (Blk.mk [AV.int IntKind.i64 c] 1 true true none)],AV.int IntKind.i64 (-1))))
def ixrStep(l:List (List Int))(c:Int):ixrPc→Option (ixrPc⊕Ret)
 | .l0 v0=>ixrS0 l c v0
theorem ixrEn_ok(l:List (List Int))(c:Int)(o:ixrPc⊕Ret)(h:ixrEn l c=some o):Arr Try.prog Try.f99 1 (ixrSt l c) ixrHd (zB Try.f99) [] {n:=Try.f99.ntmps,fr:=enumF 0 ([.lst (gL l),.fn 53 [.ptr 0 0 0]]),hp:=([some (Blk.mk [.int .i64 c] 1 true true none)])} o:=
 Scr.ok h mix (
 .lp [] [] [] [] [] [0] [0,1,7,8] (aj (u2 (al (u2 (u2 t2)))) (ak (u2 t4)))) (by kernel_rfl)
theorem ixrS0_ok(l:List (List Int))(c v0:Int)(o:ixrPc⊕Ret)(h:ixrS0 l c v0=some o):Arr Try.prog Try.f99 1 (ixrSt l c) ixrHd (headC Try.f99 0) (.rnd (headC Try.f99 0)::headK Try.f99 0) (ixrSt l c (.l0 v0)) o:=
 Scr.ok h mix (
 .rn 0 [] [] [] [] (al (al t3)) <|
 .br (fun a0=>
 .rn 0 [19] [] [] [] (aj a0 (al (u2 s2))) <|
 .gu fun a1=>
 .el fun x14 a2=>
 .gu fun a3=>
 have c0:=rd1_c x14 c a3;
 .rn 0 [] [(14,lI x14)] [(16,hK c0 [0] [])] [] (al (u2 (u2 (u2 (aj (k2 (aj a1 (getMap (f:=lI) a2))) (u2 (al (k5 (al (c0)))))))))) <|
 .br (fun a4=>
  .rt [33] [] [] [] [0] [] (aj (aj a4 (al (u2 s2))) t3))
 (fun a4=>
  .lp [32] [] [] [] [] [0] [0,1,7,8] (aj (aj a4 (al (u2 s2))) (ak (u2 t4)))))
 (fun a0=>
 .rt [18] [] [] [] [0] [] (aj (aj a0 s2) t3))) (by kernel_rfl)
theorem ixr_ct(l:List (List Int))(c:Int)(r:Ret)(h:MReach (ixrStep l c) (ixrEn l c) r):CT Try.prog 99 ([some (Blk.mk [.int .i64 c] 1 true true none)]) ([.lst (gL l),.fn 53 [.ptr 0 0 0]]) r.1 r.2:=
 CT.mach (fn:=Try.f99) (c:=zB Try.f99) (S:=ixrSt l c) (hd:=ixrHd) Try.func99 (by kernel_rfl) (Nat.le_of_ble_eq_true rfl)
  (fun s o ho=>match s,ho with
   | .l0 v0,ho=>ixrS0_ok l c v0 o ho
  )
  (fun o ho=>ixrEn_ok l c o ho) h
def ixR(c:Int):List (List Int)→Nat→Int
 | [],_=> -1
 | r::l,i=>match hasZ r c with | true=>(i:Int) | false=>ixR c l (i+1)
def anyR(l:List (List Int))(c:Int):Bool:=l.any fun r=>hasZ r c
theorem ixR_any{c:Int}:∀(l:List (List Int)) (i:Nat),decide (0≤ixR c l i)=anyR l c:=by
 intro l
 induction l with
 | nil=>intro i;rfl
 | cons r l ih=>
  intro i
  unfold ixR anyR
  rw[List.any_cons]
  cases h:hasZ r c with
  | true=>exact decide_eq_true (by show(0:Int)≤i;omega)
  | false=>exact(ih (i+1)).trans rfl
theorem ixr_c(l:List (List Int))(c:Int)(hl:l.length≤1000000000)(hr:∀r∈l,r.length≤1000000000):CT Try.prog 99 [some (Blk.mk [.int .i64 c] 1 true true none)] [.lst (gL l),.fn 53 [.ptr 0 0 0]] [some (Blk.mk [.int .i64 c] 1 true true none)] (.int .i64 (ixR c l 0)):=by
 refine ixr_ct l c ([_],_) ?_
 have main:∀(t:List (List Int)) (i:Nat),l.drop i=t→i≤l.length→MReach (ixrStep l c) (some (.inl (.l0 (i:Int)))) ([some (Blk.mk [.int .i64 c] 1 true true none)],.int .i64 (ixR c t i)):=by
  intro t
  induction t with
  | nil=>
   intro i hd hi
   have hlen:i=l.length:=by have:=congrArg List.length hd;simp at this;omega
   subst hlen
   refine .to (show ixrS0 l c _=_ from ?_) (.ret _)
   unfold ixrS0
   rw[show (gL l).length=(List.map lI l).length from rfl,rngE]
   rfl
  | cons x t ih=>
   intro i hd hi
   have hx:l[i]?=some x:=by have:=congrArg (·[0]?) hd;simpa using this
   have hil:=(List.getElem?_eq_some_iff.1 hx).1
   have hx2:=hr x (List.mem_of_getElem? hx)
   have hn:l.drop (i+1)=t:=by rw[←List.drop_drop,hd];rfl
   have e:ixrS0 l c (i:Int)=br (hasZ x c) (some (.inr ([some (Blk.mk [.int .i64 c] 1 true true none)],AV.int IntKind.i64 (i:Int)))) (some (.inl (.l0 ((i+1:Nat):Int)))):=by
    unfold ixrS0
    rw[show (gL l).length=(List.map lI l).length from rfl,rngS hx,gu_t (by omega),zW i (by omega)]
   unfold ixR
   cases h:hasZ x c with
   | true=>
    refine .to (show ixrS0 l c _=_ from ?_) (.ret _)
    rw[e,h,br_t rfl]
   | false=>
    refine .to (show ixrS0 l c _=_ from ?_) (ih (i+1) hn hil)
    rw[e,h,br_f rfl]
 exact main l 0 rfl (Nat.zero_le _)
def cofSt(l:List (List Int))(c:Int):Empty→St
 | x=>x.elim
def cofHd:Empty→Nat
 | x=>x.elim
def cofEn(l:List (List Int))(c:Int):Option (Empty⊕Ret):=
 gu (l.length≤1000000000) <|
 gu (∀(r:List Int),r∈l→r.length≤1000000000) <|
 some (.inr ([some (Blk.mk [AV.int IntKind.i64 c] 1 true true none)],AV.bool (decide (0≤ixR c l 0))))
def cofStep(l:List (List Int))(c:Int):Empty→Option (Empty⊕Ret)
 | x=>x.elim
theorem cofEn_ok(l:List (List Int))(c:Int)(o:Empty⊕Ret)(h:cofEn l c=some o):Arr Try.prog Try.f52 1 (cofSt l c) cofHd (zB Try.f52) [] {n:=Try.f52.ntmps,fr:=enumF 0 ([.lst (gL l),.fn 53 [.ptr 0 0 0]]),hp:=([some (Blk.mk [.int .i64 c] 1 true true none)])} o:=
 Scr.ok h mix (
 .rn 0 [] [] [] [] s2 <|
 .gu fun a0=>
 .gu fun a1=>
 have c0:=ixr_c l c a0 a1;
 .rt [] [] [(7,hK c0 [0] [])] [] [0] [] (aj (al (u2 (u2 (aj (k3 (u2 (ak (al (c0))))) (u2 s2))))) t3)) (by kernel_rfl)
theorem cof_ct(l:List (List Int))(c:Int)(r:Ret)(h:MReach (cofStep l c) (cofEn l c) r):CT Try.prog 52 ([some (Blk.mk [.int .i64 c] 1 true true none)]) ([.lst (gL l),.fn 53 [.ptr 0 0 0]]) r.1 r.2:=
 CT.mach (fn:=Try.f52) (c:=zB Try.f52) (S:=cofSt l c) (hd:=cofHd) Try.func52 (by kernel_rfl) (Nat.le_of_ble_eq_true rfl)
  (fun s o ho=>match s,ho with
   | x,_=>x.elim)
  (fun o ho=>cofEn_ok l c o ho) h
theorem cof_c(l:List (List Int))(c:Int)(hl:l.length≤1000000000)(hr:∀r∈l,r.length≤1000000000):CT Try.prog 52 [some (Blk.mk [.int .i64 c] 1 true true none)] [.lst (gL l),.fn 53 [.ptr 0 0 0]] [some (Blk.mk [.int .i64 c] 1 true true none)] (.bool (anyR l c)):=by
 refine cof_ct l c ([_],_) (.val ?_)
 unfold cofEn
 rw[gu_t hl,gu_t hr,ixR_any]
inductive rdyPc where
 | l0 (v0 v1:Int)
def rdySt(n:NetD)(cl:List Bool)(bw pe:List Int)(ow:List Int)(qu:List (List Int))(g:List (List Int))(l:List Bool):rdyPc→St
 | .l0 v0 v1=>St.mk 95 [(4,AV.lst (boL l)),(12,AV.ptr 0 0 0),(71,AV.lst (List.map sA n.ss)),(72,iv (iN (List.map sA n.ss).length)),(73,iv v0)] [some (Blk.mk [iv v1] 1 true true none)]
def rdyHd:rdyPc→Nat
 | .l0 _ _=>0
def rdyEn(n:NetD)(cl:List Bool)(bw pe:List Int)(ow:List Int)(qu:List (List Int))(g:List (List Int))(l:List Bool):Option (rdyPc⊕Ret):=
 gu (Rows n.nx) <|
 br (!sigB n (SigD.mk cl bw pe))
 (some (.inr ([],AV.tup [AV.bool false,AV.int IntKind.i64 20])))
 (br (!lokB (LokD.mk ow qu))
  (some (.inr ([],AV.tup [AV.bool false,AV.int IntKind.i64 20])))
  (br (iN (List.map (AV.int IntKind.i64) ow).length != iN (boL cl).length)
   (some (.inr ([],AV.tup [AV.bool false,AV.int IntKind.i64 19])))
   (br (iN (boL l).length != iN (List.map sA n.ss).length)
    (some (.inr ([],AV.tup [AV.bool false,AV.int IntKind.i64 19])))
    (br (iN (List.map (AV.int IntKind.i64) pe).length==0)
     (some (.inr ([],AV.tup [AV.bool false,AV.int IntKind.i64 0])))
     (el (pe) (Int.toNat 0) fun(x48:Int)=>
      gu (0≤x48) <|
      el (ow) (x48.toNat) fun(x53:Int)=>
      br (x53 != -1)
      (some (.inr ([],AV.tup [AV.bool false,AV.int IntKind.i64 0])))
      (el (qu) (x48.toNat) fun(x60:List Int)=>
       br (decide (0<iN (List.map (AV.int IntKind.i64) x60).length))
       (some (.inr ([],AV.tup [AV.bool false,AV.int IntKind.i64 0])))
       (gu (g.length≤1000000000) <|
        gu (∀(r:List Int),r∈g→r.length≤1000000000) <|
        br (anyR g x48)
        (some (.inr ([],AV.tup [AV.bool false,AV.int IntKind.i64 0])))
        (some (.inl (.l0 ((0:Int)) x48))))))))))
def rdyS0(n:NetD)(cl:List Bool)(bw pe:List Int)(ow:List Int)(qu:List (List Int))(g:List (List Int))(l:List Bool)(v0 v1:Int):Option (rdyPc⊕Ret):=
 br (decide (v0<iN (List.map sA n.ss).length))
 (gu (0≤v0) <|
  el (n.ss) (v0.toNat) fun(x76:SpuD)=>
  el l (v0.toNat) fun(x80:Bool)=>
  br x80
  (br (x76.i==v1)
   (some (.inr ([],AV.tup [AV.bool false,AV.int IntKind.i64 0])))
   (br (x76.o==v1)
    (some (.inr ([],AV.tup [AV.bool false,AV.int IntKind.i64 0])))
    (some (.inl (.l0 (IntKind.i64.wrap (v0+1)) v1)))))
  (some (.inl (.l0 (IntKind.i64.wrap (v0+1)) v1))))
 (some (.inr ([],AV.tup [AV.bool true,AV.int IntKind.i64 0])))
def rdyStep(n:NetD)(cl:List Bool)(bw pe:List Int)(ow:List Int)(qu:List (List Int))(g:List (List Int))(l:List Bool):rdyPc→Option (rdyPc⊕Ret)
 | .l0 v0 v1=>rdyS0 n cl bw pe ow qu g l v0 v1
theorem rdyEn_ok(n:NetD)(cl:List Bool)(bw pe:List Int)(ow:List Int)(qu:List (List Int))(g:List (List Int))(l:List Bool)(o:rdyPc⊕Ret)(h:rdyEn n cl bw pe ow qu g l=some o):Arr Try.prog Try.f20 0 (rdySt n cl bw pe ow qu g l) rdyHd (zB Try.f20) [] {n:=Try.f20.ntmps,fr:=enumF 0 ([netA n,sgA ⟨cl,bw,pe⟩,lkA ⟨ow,qu⟩,.lst (gL g),.lst (boL l)]),hp:=([])} o:=
 Scr.ok h mix (
 .rn 0 [] [] [] [] (al (u2 (u2 (u2 t3)))) <|
 .gu fun a0=>
 .br (fun a1=>
 have c0:=sva_c (cl) (bw) (pe) a0;
 .rt [41] [] [(18,hK c0 [] [])] [] [] [] (aj (aj (u2 (u2 (aj (k2 (aj t9 (aj t4 (al (c0))))) (u2 (u2 (aj a1 (aj a1 (aj a1 (ag a1 s2))))))))) (ak (al t3))) (al t3)))
 (fun a1=>
 have c0:=sva_c (cl) (bw) (pe) a0;
 have c1:=ilv_c (LokD.mk ow qu);
 .rn 0 [40] [] [(18,hK c0 [] []),(22,hK c1 [] [])] [] (al (u2 (u2 (aj (k2 (aj t9 (aj t4 (al (c0))))) (u2 (u2 (ag a1 (aj (aj a1 (ak (aj t3 (al (c1))))) (ag a1 (ag a1 s2)))))))))) <|
 .br (fun a2=>
  .rt [40,31] [] [] [] [] [] (aj (aj a2 (al t3)) (al t3)))
 (fun a2=>
  .br (fun a3=>
  .rt [40,30,67] [] [] [] [] [] (aj (aj a2 (aj (u2 (u2 (u2 (u2 (u2 (u2 (aj t3 (u2 (aj a3 (aj a3 (aj a3 (aj a3 (aj a3 (aj a3 (ag a3 s2))))))))))))))) (ak (al t3)))) (al t3)))
  (fun a3=>
  .rn 0 [40,30,66] [] [] [] (aj a2 (al (u2 (u2 (u2 (u2 (u2 (u2 (aj t3 (u2 (ag a3 (ag a3 (ag a3 (ag a3 (ag a3 (aj (aj a3 t3) (ag a3 s2))))))))))))))))) <|
  .br (fun a4=>
   .rt [40,66,51] [] [] [] [] [] (aj (aj a4 (al t3)) (al t3)))
  (fun a4=>
   .rn 0 [40,66,50] [] [] [] (aj a4 (al (u2 (u2 (u2 (u2 s2)))))) <|
   .br (fun a5=>
   .rt [40,66,83] [] [] [] [] [] (aj (aj a5 (al t3)) (al t3)))
   (fun a5=>
   .el fun x48 a6=>
   .rn 0 [40,66,82] [(48,iv x48)] [] [] (aj a5 (al (u2 (u2 (aj (ak (aj (show(0:Int)≤(0:Int) from(by first | exact Nat.le_of_ble_eq_true rfl | decide)) (getMap (f:=iv) a6))) (u2 (ak (al (k2 n11))))))))) <|
   .gu fun a7=>
   .el fun x53 a8=>
   .br (fun a9=>
    .rt [40,66,113] [(53,iv x53)] [] [] [] [] (aj (aj (u2 (u2 (u2 (aj (k2 (aj a7 (getMap (f:=iv) a8))) (u2 (u2 (u2 (aj a9 (aj a9 (aj a9 (aj a9 (aj a9 (aj a9 (aj a9 (ag a9 (u2 (k3 (al t3)))))))))))))))))) (ak (al t3))) (al t3)))
   (fun a9=>
    .el fun x60 a10=>
    .br (fun a11=>
    .rt [40,66,112,131] [(53,iv x53),(60,lI x60)] [] [] [] [] (aj (aj (u2 (u2 (u2 (aj (k2 (aj a7 (getMap (f:=iv) a8))) (u2 (u2 (u2 (ag a9 (ag a9 (ag a9 (aj (aj a9 (k2 (aj a7 (getMap (f:=lI) a10)))) (ag a9 (ag a9 (ag a9 (ag a9 (u2 (aj a11 (aj a11 (aj a11 (al (aj a11 t2))))))))))))))))))))) (ak (al t3))) (al t3)))
    (fun a11=>
    .gu fun a12=>
    .gu fun a13=>
    have c2:=cof_c g x48 a12 a13;
    .rn 0 [40,66,112,130] [(53,iv x53),(60,lI x60)] [(68,hK c2 [3] [])] [] (al (u2 (u2 (u2 (aj (k2 (aj a7 (getMap (f:=iv) a8))) (u2 (u2 (u2 (ag a9 (ag a9 (ag a9 (aj (aj a9 (k2 (aj a7 (getMap (f:=lI) a10)))) (ag a9 (ag a9 (ag a9 (ag a9 (u2 (ag a11 (ag a11 (aj (aj a11 (k3 (u2 (ak (al (c2)))))) (al (aj a11 t2)))))))))))))))))))))) <|
    .br (fun a14=>
     .rt [40,66,112,130,139] [] [] [] [] [] (aj (aj a14 (al t3)) (al t3)))
    (fun a14=>
     .lp [40,66,112,130,138] [] [] [] [] [3] [4,12,71,72,73] (aj (aj a14 (al (u2 (u2 (u2 t2))))) t7)))))))))) (by kernel_rfl)
theorem rdyS0_ok(n:NetD)(cl:List Bool)(bw pe:List Int)(ow:List Int)(qu:List (List Int))(g:List (List Int))(l:List Bool)(v0 v1:Int)(o:rdyPc⊕Ret)(h:rdyS0 n cl bw pe ow qu g l v0 v1=some o):Arr Try.prog Try.f20 0 (rdySt n cl bw pe ow qu g l) rdyHd (headC Try.f20 0) (.rnd (headC Try.f20 0)::headK Try.f20 0) (rdySt n cl bw pe ow qu g l (.l0 v0 v1)) o:=
 Scr.ok h mix (
 .rn 0 [] [] [] [] (al (al t3)) <|
 .br (fun a0=>
 .gu fun a1=>
 .el fun x76 a2=>
 .rn 0 [149] [(76,sA x76)] [] [] (aj a0 (al (u2 (aj (k2 (aj a1 (getMap (f:=sA) a2))) (u2 (ak (u2 (al (k2 n11))))))))) <|
 .el fun x80 a3=>
 .br (fun a4=>
  .br (fun a5=>
  .rt [165,175] [(80,AV.bool x80)] [] [] [] [] (aj (aj (u2 (u2 (aj (k2 (aj a1 (getMap (f:=AV.bool) a3))) (u2 (u2 (ag a4 (ag a4 (ag a4 (aj (aj a4 t3) (ag a4 (aj a5 (aj a5 (aj a5 (aj a5 (aj (aj a4 (aj a5 t2)) (al (aj a4 t2))))))))))))))))) (ak (al t3))) (al t3)))
  (fun a5=>
  .rn 0 [165,174] [(80,AV.bool x80)] [] [] (al (u2 (u2 (aj (k2 (aj a1 (getMap (f:=AV.bool) a3))) (u2 (u2 (ag a4 (ag a4 (ag a4 (aj (aj a4 t3) (ag a4 (ag a5 (ag a5 (ag a5 (aj (aj a5 t3) (aj (aj a4 (aj a5 t2)) (al (aj a4 t2)))))))))))))))))) <|
  .br (fun a6=>
   .rt [165,174,187] [] [] [] [] [] (aj (aj a6 (al t3)) (al t3)))
  (fun a6=>
   .lp [165,174,186] [] [] [] [] [0] [4,12,71,72,73] (aj (aj a6 (al (u2 s2))) t7))))
 (fun a4=>
  .lp [164] [(80,AV.bool x80)] [] [] [] [0] [4,12,71,72,73] (aj (aj (u2 (u2 (aj (k2 (aj a1 (getMap (f:=AV.bool) a3))) (u2 (u2 (aj a4 (aj a4 (aj a4 (aj a4 (aj a4 (ak (k3 (aj a4 (al (aj a4 t2))))))))))))))) (ak (al (u2 s2)))) t7)))
 (fun a0=>
 .rt [148] [] [] [] [] [] (aj (aj a0 (al t3)) (al t3)))) (by kernel_rfl)
theorem rdy_ct(n:NetD)(cl:List Bool)(bw pe:List Int)(ow:List Int)(qu:List (List Int))(g:List (List Int))(l:List Bool)(r:Ret)(h:MReach (rdyStep n cl bw pe ow qu g l) (rdyEn n cl bw pe ow qu g l) r):CT Try.prog 20 ([]) ([netA n,sgA ⟨cl,bw,pe⟩,lkA ⟨ow,qu⟩,.lst (gL g),.lst (boL l)]) r.1 r.2:=
 CT.mach (fn:=Try.f20) (c:=zB Try.f20) (S:=rdySt n cl bw pe ow qu g l) (hd:=rdyHd) Try.func20 (by kernel_rfl) (Nat.le_of_ble_eq_true rfl)
  (fun s o ho=>match s,ho with
   | .l0 v0 v1,ho=>rdyS0_ok n cl bw pe ow qu g l v0 v1 o ho
  )
  (fun o ho=>rdyEn_ok n cl bw pe ow qu g l o ho) h
def rdL(c:Int)(l:List Bool):List SpuD→Nat→Bool
 | [],_=>true
 | q::t,i=>match l.getD i false&&(q.i==c||q.o==c) with | true=>false | false=>rdL c l t (i+1)
def rdC(n:NetD)(w:LokD)(g:List (List Int))(l:List Bool):List Int→Bool
 | []=>false
 | c::_=>match w.ow.getD c.toNat 0 != -1||decide (0<iN (List.map (AV.int .i64) (w.qu.getD c.toNat [])).length)||anyR g c with | true=>false | false=>rdL c l n.ss 0
def rdE(n:NetD)(s:SigD)(w:LokD)(l:List Bool):Int:=if (sigB n s&&lokB w)=true then (if w.ow.length=s.cl.length∧l.length=n.ss.length then 0 else 19) else 20
def rdB(n:NetD)(s:SigD)(w:LokD)(g:List (List Int))(l:List Bool):Bool:=if rdE n s w l=0 then rdC n w g l s.pe else false
theorem rdL_no{c:Int}{l:List Bool}(h:∀i,l.getD i false=false):∀(t:List SpuD) (i:Nat),rdL c l t i=true:=by
 intro t
 induction t with
 | nil=>intro i;rfl
 | cons q t ih=>intro i;unfold rdL;rw[h];exact ih (i+1)
theorem rdy_c{n:NetD}(cl:List Bool)(bw pe ow:List Int)(qu g:List (List Int))(l:List Bool)(hrw:Rows n.nx)(hl:g.length≤1000000000)(hr:∀r∈g,r.length≤1000000000):CT Try.prog 20 [] [netA n,sgA ⟨cl,bw,pe⟩,lkA ⟨ow,qu⟩,.lst (gL g),.lst (boL l)] [] (.tup [.bool (rdB n ⟨cl,bw,pe⟩ ⟨ow,qu⟩ g l),.int .i64 (rdE n ⟨cl,bw,pe⟩ ⟨ow,qu⟩ l)]):=by
 refine rdy_ct n cl bw pe ow qu g l ([],_) ?_
 unfold rdyEn
 rw[gu_t hrw]
 have bad:∀{e:Int},rdE n ⟨cl,bw,pe⟩ ⟨ow,qu⟩ l=e→e≠0→rdB n ⟨cl,bw,pe⟩ ⟨ow,qu⟩ g l=false:=fun h h2=>by unfold rdB;rw[if_neg (by rw[h];exact h2)]
 cases h1:sigB n ⟨cl,bw,pe⟩ with
 | false=>
  have e:rdE n ⟨cl,bw,pe⟩ ⟨ow,qu⟩ l=20:=by unfold rdE;rw[h1];rfl
  rw[br_t (by rfl),bad e (by decide),e];exact .ret _
 | true=>
 rw[br_f (by rfl)]
 cases h2:lokB ⟨ow,qu⟩ with
 | false=>
  have e:rdE n ⟨cl,bw,pe⟩ ⟨ow,qu⟩ l=20:=by unfold rdE;rw[h1,h2];rfl
  rw[br_t (by rfl),bad e (by decide),e];exact .ret _
 | true=>
 obtain⟨hv,hS,l1,l2,l3,l4,l5⟩:=sig_len h1
 obtain⟨hlen,h48⟩:=lokB_len h2
 have hrows:=lok_rows h2
 have hss:=hv.ns
 simp only at hlen h48 hrows l1 l2 l3 l4 l5
 have eE:rdE n ⟨cl,bw,pe⟩ ⟨ow,qu⟩ l=if ow.length=cl.length∧l.length=n.ss.length then 0 else 19:=by unfold rdE;rw[h1,h2];rfl
 have hbl:=boL_len cl
 have hbl2:=boL_len l
 rw[br_f (by rfl)]
 by_cases h3:ow.length=cl.length
 case neg=>
  have e:=eE.trans (if_neg fun hh=>h3 hh.1)
  rw[br_t (bne_iff_ne.2 (by rw[List.length_map,hbl];simp only[iN];omega)),bad e (by decide),e];exact .ret _
 rw[br_f (by rw[List.length_map,hbl,h3];simp)]
 by_cases h4:l.length=n.ss.length
 case neg=>
  have e:=eE.trans (if_neg fun hh=>h4 hh.2)
  rw[br_t (bne_iff_ne.2 (by rw[List.length_map,hbl2];simp only[iN];omega)),bad e (by decide),e];exact .ret _
 rw[br_f (by rw[List.length_map,hbl2,h4];simp)]
 have e:=eE.trans (if_pos ⟨h3,h4⟩)
 have eB:rdB n ⟨cl,bw,pe⟩ ⟨ow,qu⟩ g l=rdC n ⟨ow,qu⟩ g l pe:=by unfold rdB;rw[if_pos e]
 rw[e,eB]
 cases hpe:pe with
 | nil=>rw[br_t (by rfl)];exact .ret _
 | cons c t=>
  have hc:=l5 c (by rw[hpe];exact List.mem_cons_self ..)
  have hq:=getE ([]:List Int) (show c.toNat<qu.length by omega)
  rw[br_f (beq_eq_false_iff_ne.2 (by simp only[iN,List.length_map,List.length_cons];omega)),el_t (show(c::t)[Int.toNat 0]?=some c from rfl),gu_t hc.1,el_t (getE 0 (show c.toNat<ow.length by omega))]
  unfold rdC
  simp only
  cases k1:ow.getD c.toNat 0 != -1 with
  | true=>rw[br_t rfl];exact .ret _
  | false=>
  rw[br_f rfl,el_t hq,Bool.false_or]
  cases k2:decide (0<iN (List.map (AV.int .i64) (qu.getD c.toNat [])).length) with
  | true=>rw[br_t rfl];exact .ret _
  | false=>
  rw[br_f rfl,gu_t hl,gu_t hr,Bool.false_or]
  cases k3:anyR g c with
  | true=>rw[br_t rfl];exact .ret _
  | false=>
  rw[br_f rfl]
  simp only
  have main:∀(t:List SpuD) (i:Nat),n.ss.drop i=t→i≤n.ss.length→MReach (rdyStep n cl bw pe ow qu g l) (some (.inl (.l0 (i:Int) c))) ([],.tup [.bool (rdL c l t i),.int .i64 0]):=by
   intro t
   induction t with
   | nil=>
    intro i hd hi
    have hlen:i=n.ss.length:=by have:=congrArg List.length hd;simp at this;omega
    subst hlen
    refine .to (show rdyS0 n cl bw pe ow qu g l _ _=_ from ?_) (.ret _)
    unfold rdyS0
    rw[rngE];rfl
   | cons x t ih=>
    intro i hd hi
    have hx:n.ss[i]?=some x:=by have:=congrArg (·[0]?) hd;simpa using this
    have hil:=(List.getElem?_eq_some_iff.1 hx).1
    have hn:n.ss.drop (i+1)=t:=by rw[←List.drop_drop,hd];rfl
    have e:rdyS0 n cl bw pe ow qu g l (i:Int) c=br (l.getD i false&&(x.i==c||x.o==c)) (some (.inr ([],AV.tup [AV.bool false,AV.int IntKind.i64 0]))) (some (.inl (.l0 ((i+1:Nat):Int) c))):=by
     unfold rdyS0
     rw[rngS hx,elG false (show i<l.length by omega),zW i (by omega),br_or,br_and]
    unfold rdL
    cases h:l.getD i false&&(x.i==c||x.o==c) with
    | true=>
     refine .to (show rdyS0 n cl bw pe ow qu g l _ _=_ from ?_) (.ret _)
     rw[e,h,br_t rfl]
    | false=>
     refine .to (show rdyS0 n cl bw pe ow qu g l _ _=_ from ?_) (ih (i+1) hn hil)
     rw[e,h,br_f rfl]
  have hfin:=main n.ss 0 rfl (Nat.zero_le _)
  rw[hpe] at hfin
  exact hfin
def kC(n:NetD):List Bool:=List.replicate (celN n) false
def kB(n:NetD):List Int:=List.replicate (celN n) (-1)
def kO(n:NetD):List Int:=List.replicate (celN n) (-1)
def kP(n:NetD):List Int:=(kO n).set 0 0
def kQ(n:NetD):List (List Int):=List.replicate (celN n) []
theorem kO_len(n:NetD):(kO n).length=celN n:=List.length_replicate ..
theorem kP_len(n:NetD):(kP n).length=celN n:=(List.length_set ..).trans (kO_len n)
theorem kC_len(n:NetD):(kC n).length=celN n:=List.length_replicate ..
theorem kQ_get(n:NetD)(i:Nat):(kQ n).getD i []=[]:=by
 unfold kQ
 rw[List.getD_eq_getElem?_getD,List.getElem?_replicate]
 split<;>rfl
theorem kC_get{n:NetD}{i:Nat}(h:i<celN n):(kC n).getD i true=false:=getR h
theorem kO_get{n:NetD}{i:Nat}(h:i<celN n):(kO n).getD i 0 = -1:=getR h
theorem lok_emp{ow:List Int}{k:Nat}(hk:k≤48)(hl:ow.length=k)(h:∀i,i<k→-1≤ow.getD i 0∧ow.getD i 0<8):lokB ⟨ow,List.replicate k []⟩=true:=by
 unfold lokB
 simp only[Bool.and_eq_true,decide_eq_true_eq,Option.isNone_iff_eq_none,List.length_replicate]
 refine⟨by omega,hl,fnd_false fun i _ hi=>?_⟩
 have:=h i (by omega)
 have e:(List.replicate k ([]:List Int)).getD i []=[]:=by
  rw[List.getD_eq_getElem?_getD,List.getElem?_replicate];split<;>rfl
 unfold bdR bdO
 simp only[e]
 rw[dec_f (by omega),dec_f (by omega)];rfl
theorem kO_ok{n:NetD}(hv:ValidN n):lokB ⟨kO n,kQ n⟩=true:=lok_emp (celN_le hv).1 (kO_len n) fun i hi=>by rw[kO_get hi];omega
theorem kP_ok{n:NetD}(hv:ValidN n):lokB ⟨kP n,kQ n⟩=true:=lok_emp (celN_le hv).1 (kP_len n) fun i hi=>by
 unfold kP
 rw[getS]
 split
 ·omega
 ·rw[kO_get hi];omega
theorem kS0_ok(n:NetD):SigOk n ⟨kC n,kB n,[]⟩:=newS_ok n
theorem kS1_ok{n:NetD}(hv:ValidN n):SigOk n ⟨kC n,kB n,[0]⟩:=by
 have h1:=celN_le hv
 have h2:=hv.nb24
 exact anS_ok (s:=⟨kC n,kB n,[]⟩) (x:=0) (kS0_ok n) ⟨by omega,by omega⟩ (kC_get (by show 0<_;omega)) (by simp)
theorem kS2_ok{n:NetD}(hv:ValidN n)(h2:2≤n.bs.length):SigOk n ⟨kC n,kB n,[0,1]⟩:=by
 have h1:=celN_le hv
 exact anS_ok (s:=⟨kC n,kB n,[0]⟩) (x:=1) (kS1_ok hv) ⟨by omega,by omega⟩ (kC_get (by show 1<_;omega)) (by simp)
theorem ks_b{n:NetD}(hv:ValidN n){s:SigD}(h:SigOk n s):sigB n s=true:=sigB_iff.2 ⟨hv,h⟩
theorem n14_x{n:NetD}(hv:ValidN n)(hrw:Rows n.nx):CT Try.prog 14 [] [netA n] [] (.tup [sgA ⟨kC n,kB n,[]⟩,.int .i64 0]):=by
 have h:=n14_c hrw
 have e1:nsS n=⟨kC n,kB n,[]⟩:=by unfold nsS;rw[valB_iff.2 hv];rfl
 have e2:nsE n=0:=by unfold nsE;rw[valB_iff.2 hv];rfl
 rw[e1,e2] at h
 exact h
theorem an_x{n:NetD}{cl:List Bool}{bw pe:List Int}{x:Int}(hv:ValidN n)(hrw:Rows n.nx)(hs:SigOk n ⟨cl,bw,pe⟩)(hx:0≤x∧x<(n.bs.length:Int))(hc:cl.getD x.toNat true=false)(hp:x∉pe):CT Try.prog 16 [] [netA n,sgA ⟨cl,bw,pe⟩,.int .i64 x] [] (.tup [sgA ⟨cl,bw,pe++[x]⟩,.int .i64 0]):=by
 have h:=ann_c (n:=n) cl bw pe x hrw
 have hg:=shtS_get hv hs x.toNat
 rw[Int.toNat_of_nonneg hx.1] at hg
 have hz:hasZ pe x=false:=by cases hh:hasZ pe x with | false=>rfl | true=>exact absurd (hasZ_iff.1 hh) hp
 have e1:anE n ⟨cl,bw,pe⟩ x=0:=by
  unfold anE
  rw[if_pos (ks_b hv hs),if_pos hx,hg,if_neg]
  simp only[hc,hz];decide
 have e2:anO n ⟨cl,bw,pe⟩ x=⟨cl,bw,pe++[x]⟩:=by unfold anO;rw[if_pos e1];rfl
 rw[e1,e2] at h
 exact h
theorem an0_x{n:NetD}(hv:ValidN n)(hrw:Rows n.nx):CT Try.prog 16 [] [netA n,sgA ⟨kC n,kB n,[]⟩,.int .i64 0] [] (.tup [sgA ⟨kC n,kB n,[0]⟩,.int .i64 0]):=by
 have h1:=celN_le hv
 have h2:=hv.nb24
 exact an_x hv hrw (kS0_ok n) ⟨by omega,by omega⟩ (kC_get (by show 0<_;omega)) (by simp)
theorem an1_x{n:NetD}(hv:ValidN n)(hrw:Rows n.nx)(h2:2≤n.bs.length):CT Try.prog 16 [] [netA n,sgA ⟨kC n,kB n,[0]⟩,.int .i64 1] [] (.tup [sgA ⟨kC n,kB n,[0,1]⟩,.int .i64 0]):=by
 have h1:=celN_le hv
 exact an_x hv hrw (kS1_ok hv) ⟨by omega,by omega⟩ (kC_get (by show 1<_;omega)) (by simp)
theorem n19_x{n:NetD}(hv:ValidN n):CT Try.prog 17 [] [.int .i64 (iN (celN n))] [] (.tup [lkA ⟨kO n,kQ n⟩,.int .i64 0]):=by
 have h:=n19_c (iN (celN n))
 have h1:=celN_le hv
 have hi:0≤iN (celN n)∧iN (celN n)≤48:=⟨by simp only[iN];omega,by simp only[iN];omega⟩
 have e1:nlS (iN (celN n))=⟨kO n,kQ n⟩:=by unfold nlS;rw[if_pos hi];rfl
 have e2:nlE (iN (celN n))=0:=by unfold nlE;rw[if_pos hi]
 rw[e1,e2] at h
 exact h
theorem own_x{n:NetD}(hv:ValidN n):CT Try.prog 19 [] [lkA ⟨kO n,kQ n⟩,.int .i64 0,.int .i64 0] [] (.tup [lkA ⟨kP n,kQ n⟩,.int .i64 0]):=by
 have h:=own_c (kO n) (kQ n) 0 0
 have h1:=celN_le hv
 have h2:=hv.nb24
 have hk:k9E ⟨kO n,kQ n⟩ 0 0=0:=by unfold k9E;rw[if_pos (kO_ok hv),if_pos ⟨by omega,by omega,by omega,by show(0:Int)<((kO n).length:Int);rw[kO_len];omega⟩]
 have e1:owE ⟨kO n,kQ n⟩ 0 0=0:=by
  unfold owE
  rw[if_pos hk,if_neg]
  show ¬((kO n).getD 0 0≠-1∨hasZ ((kQ n).getD 0 []) 0=true)
  rw[kO_get (by omega),kQ_get]
  simp[hasZ_iff]
 have e2:owO ⟨kO n,kQ n⟩ 0 0=⟨kP n,kQ n⟩:=by unfold owO;rw[if_pos e1];rfl
 rw[e1,e2] at h
 exact h
theorem rel_x{n:NetD}(hv:ValidN n):CT Try.prog 42 [] [lkA ⟨kP n,kQ n⟩,.int .i64 0] [] (.tup [lkA ⟨kO n,kQ n⟩,.int .i64 0]):=by
 have h:=rel_c (kP n) (kQ n) 0
 have h1:=celN_le hv
 have h2:=hv.nb24
 have hk:k9E ⟨kP n,kQ n⟩ 0 0=0:=by unfold k9E;rw[if_pos (kP_ok hv),if_pos ⟨by omega,by omega,by omega,by show(0:Int)<((kP n).length:Int);rw[kP_len];omega⟩]
 have e1:reE ⟨kP n,kQ n⟩ 0=0:=by
  unfold reE
  rw[if_pos hk,if_neg]
  show ¬((kP n).getD 0 0 = -1)
  unfold kP
  rw[getS_eq (by rw[kO_len];omega)];decide
 have e3:(kP n).set 0 (-1)=kO n:=by
  unfold kP
  rw[List.set_set]
  refine List.ext_getElem? fun j=>?_
  rw[List.getElem?_set,kO_len]
  split
  ·rename_i hj;subst hj;rw[if_pos (by omega),getE 0 (show 0<(kO n).length by rw[kO_len];omega),kO_get (by omega)]
  ·rfl
 have e2:reO ⟨kP n,kQ n⟩ 0=⟨kO n,kQ n⟩:=by
  unfold reO;rw[if_pos e1]
  show(⟨(kP n).set 0 (-1),kQ n⟩:LokD)=_
  rw[e3]
 rw[e1,e2] at h
 exact h
theorem krdE{n:NetD}{ow:List Int}(hv:ValidN n)(h2:2≤n.bs.length)(hw:lokB ⟨ow,kQ n⟩=true)(hl:ow.length=celN n):rdE n ⟨kC n,kB n,[0,1]⟩ ⟨ow,kQ n⟩ (List.replicate n.ss.length false)=0:=by
 unfold rdE
 rw[ks_b hv (kS2_ok hv h2),hw,if_pos (by rfl),if_pos ⟨by rw[hl];exact(kC_len n).symm,List.length_replicate ..⟩]
theorem krdB{n:NetD}{ow:List Int}{g:List (List Int)}(hv:ValidN n)(h2:2≤n.bs.length)(hw:lokB ⟨ow,kQ n⟩=true)(hl:ow.length=celN n):rdB n ⟨kC n,kB n,[0,1]⟩ ⟨ow,kQ n⟩ g (List.replicate n.ss.length false)=!(ow.getD 0 0 != -1||anyR g 0):=by
 unfold rdB
 rw[if_pos (krdE hv h2 hw hl)]
 unfold rdC
 simp only[kQ_get]
 show(match ow.getD 0 0 != -1||false||anyR g 0 with | true=>false | false=>_)=_
 rw[Bool.or_false]
 cases ow.getD 0 0 != -1||anyR g 0 with
 | true=>rfl
 | false=>exact rdL_no (fun i=>by rw[List.getD_eq_getElem?_getD,List.getElem?_replicate];split<;>rfl) _ _
theorem boR(k:Nat):List.replicate k (AV.bool false)=boL (List.replicate k false):=by unfold boL;rw[List.map_replicate]
theorem rdy1_x{n:NetD}(hv:ValidN n)(hrw:Rows n.nx)(h2:2≤n.bs.length):CT Try.prog 20 [] [netA n,sgA ⟨kC n,kB n,[0,1]⟩,lkA ⟨kP n,kQ n⟩,.nils,.lst (List.replicate (List.map sA n.ss).length (.bool false))] [] (.tup [.bool false,.int .i64 0]):=by
 have h:=rdy_c (n:=n) (kC n) (kB n) [0,1] (kP n) (kQ n) [] (List.replicate n.ss.length false) hrw (by decide) (by intro r hr;cases hr)
 have h1:=celN_le hv
 rw[krdE hv h2 (kP_ok hv) (kP_len n),krdB hv h2 (kP_ok hv) (kP_len n)] at h
 rw[show (kP n).getD 0 0=0 from getS_eq (by rw[kO_len];omega)] at h
 rw[List.length_map,boR]
 exact h.nilArgs rfl
theorem rdy2_x{n:NetD}(hv:ValidN n)(hrw:Rows n.nx)(h2:2≤n.bs.length):CT Try.prog 20 [] [netA n,sgA ⟨kC n,kB n,[0,1]⟩,lkA ⟨kO n,kQ n⟩,.nils,.lst (List.replicate (List.map sA n.ss).length (.bool false))] [] (.tup [.bool true,.int .i64 0]):=by
 have h:=rdy_c (n:=n) (kC n) (kB n) [0,1] (kO n) (kQ n) [] (List.replicate n.ss.length false) hrw (by decide) (by intro r hr;cases hr)
 have h1:=celN_le hv
 rw[krdE hv h2 (kO_ok hv) (kO_len n),krdB hv h2 (kO_ok hv) (kO_len n)] at h
 rw[kO_get (by omega)] at h
 rw[List.length_map,boR]
 exact h.nilArgs rfl
theorem rdy3_x{n:NetD}(hv:ValidN n)(hrw:Rows n.nx)(h2:2≤n.bs.length):CT Try.prog 20 [] [netA n,sgA ⟨kC n,kB n,[0,1]⟩,lkA ⟨kO n,kQ n⟩,.lst (gL [[0]]),.lst (List.replicate (List.map sA n.ss).length (.bool false))] [] (.tup [.bool false,.int .i64 0]):=by
 have h:=rdy_c (n:=n) (kC n) (kB n) [0,1] (kO n) (kQ n) [[0]] (List.replicate n.ss.length false) hrw (by decide) (by intro r hr;rw[List.mem_singleton.1 hr];decide)
 have h1:=celN_le hv
 have ea:anyR [[0]] 0=true:=by unfold anyR;rw[List.any_cons,show hasZ [0] 0=true from hasZ_iff.2 (by simp)];rfl
 rw[krdE hv h2 (kO_ok hv) (kO_len n),krdB hv h2 (kO_ok hv) (kO_len n),ea,Bool.or_true] at h
 rw[List.length_map,boR]
 exact h
@[irreducible] def kN:NetD:=netM [3] 0 5
theorem kN_ok:NetOk kN:=by unfold kN;exact(net_spec (by decide) (by decide)).1
theorem kN_nb:2≤kN.bs.length:=by
 have h:=net_nb (L:=[3]) (kk:=0) (most:=5) (by decide) (by decide)
 have e:nextZ [3] 0 5=3:=by decide +kernel
 unfold kN
 omega
theorem kN_ct:CT Try.prog 28 [some (tapeB [3] 0)] [.ptr 0 0 0,.int .i64 5] [some (tapeB [3] (netK [3] 0 5))] (netA kN):=by unfold kN;exact net_ct [3] 0 5 (by decide) (by decide)
def k20St:Empty→St
 | x=>x.elim
def k20Hd:Empty→Nat
 | x=>x.elim
def k20En:Option (Empty⊕Ret):=
 br (decide (iN (List.map bA kN.bs).length<2))
 (some (.inr ([],AV.bool false)))
 (gu (ValidN kN) <|
  gu (Rows kN.nx) <|
  gu ((2:Nat)≤kN.bs.length) <|
  gu ((1:Int) * iN (List.map sA kN.ss).length≤(281474976710656:Int)) <|
  gu (iN (List.map sA kN.ss).length≤(9223372036854775807:Int)) <|
  some (.inr ([],AV.bool true)))
def k20Step:Empty→Option (Empty⊕Ret)
 | x=>x.elim
theorem k20En_ok(o:Empty⊕Ret)(h:k20En=some o):Arr Try.prog Try.f12 0 (k20St) k20Hd (zB Try.f12) [] {n:=Try.f12.ntmps,fr:=enumF 0 ([]),hp:=([])} o:=
 Scr.ok h mix (
 have c0:=kN_ct;
 .rn 2 [] [(15,AV.lst [])] [(18,hK c0 [0] [])] [] (u2 (aj (ak (u2 (u2 (aj (ak (k3 (al (c0)))) (ak (al (k2 n11))))))) (al (u2 (u2 (u2 s2)))))) <|
 .br (fun a0=>
 .rt [45] [] [] [] [] [] (aj (aj a0 s2) t2))
 (fun a0=>
 .gu fun a1=>
 .gu fun a2=>
 have c1:=n14_x a1 a2;
 have c2:=an0_x a1 a2;
 .rn 1 [44] [] [(25,hK c1 [] []),(31,hK c2 [] [])] [] (aj a0 (aj (u2 (aj (ak (aj t9 (al (c1)))) (u2 (u2 (u2 (ak (aj (k2 n11) s2))))))) (al (u2 (u2 (aj (k2 (aj t9 (aj t4 (ak (al (c2)))))) (u2 (u2 (u2 (aj (k2 (show Nat.le (nat_lit 1) [AV.agg [AV.lst (boL (kC kN)),AV.lst (List.map (iv) (kB kN)),AV.lst []]].length from(Nat.le_of_ble_eq_true rfl))) s2)))))))))) <|
 .gu fun a3=>
 have c3:=an1_x a1 a2 a3;
 have c4:=cells_ct a1;
 have c5:=n19_x a1;
 have c6:=own_x a1;
 .rn 2 [] [] [(37,hK c3 [] []),(42,hK c4 [] []),(43,hK c5 [] []),(48,hK c6 [] [])] [] (aj (u2 (u2 (aj (k2 (aj t9 (aj t4 (ak (al (c3)))))) (u2 (u2 (u2 (aj (k2 (show Nat.le (nat_lit 1) [AV.agg [AV.lst (boL (kC kN)),AV.lst (List.map (iv) (kB kN)),AV.lst [iv (0:Int)]]].length from(Nat.le_of_ble_eq_true rfl))) s2))))))) (aj (u2 (aj (ak (aj t9 (al (c4)))) (aj (k2 (al (c5))) (u2 (u2 (u2 (ak (aj (k2 n11) s2)))))))) (al (u2 (aj (ak (aj t3 (k2 (al (c6))))) (u2 (u2 (u2 (al (k2 (show Nat.le (nat_lit 1) [AV.agg [AV.lst (List.map (iv) (kO kN)),AV.lst (gL (kQ kN))]].length from(Nat.le_of_ble_eq_true rfl)))))))))))) <|
 .gu fun a4=>
 .gu fun a5=>
 have c7:=rdy1_x a1 a2 a3;
 have c8:=rel_x a1;
 have c9:=rdy2_x a1 a2 a3;
 have c10:=rdy3_x a1 a2 a3;
 .rt [] [(54,AV.lst []),(80,AV.lst []),(81,AV.lst [])] [(60,hK c7 [] []),(65,hK c8 [] []),(73,hK c9 [] []),(83,hK c10 [] [])] [] [] [] (aj (aj (u2 (u2 (u2 (aj (k2 (aj (show(0:Int)≤iN (List.map sA kN.ss).length from(Int.natCast_nonneg _)) (aj (show iN (List.map sA kN.ss).length≤iN (List.map sA kN.ss).length by omega) (aj a4 a5)))) s2)))) (aj (u2 (u2 (u2 (u2 (aj (ak (k3 (aj t9 (aj t4 (aj t3 (k2 (al (c7)))))))) (u2 (u2 (u2 (u2 s2))))))))) (aj (u2 (aj (ak (aj t3 (ak (al (c8))))) (u2 (u2 (u2 (al (k2 (show Nat.le (nat_lit 1) [AV.agg [AV.lst (List.map (iv) (kP kN)),AV.lst (gL (kQ kN))]].length from(Nat.le_of_ble_eq_true rfl))))))))) (aj (u2 (u2 (u2 (u2 (aj (ak (k3 (aj t9 (aj t4 (aj t3 (k2 (al (c9)))))))) (u2 (u2 (u2 (u2 s2))))))))) (aj (u2 (u2 (u2 (ak (u2 (u2 (aj (k5 (aj t9 (aj t4 (aj t3 (k2 (al (c10))))))) (u2 (u2 (u2 (u2 s2))))))))))) (al (u2 (u2 (u2 (aj t3 (aj t3 (aj t3 (u2 (aj t3 (aj t3 (aj t3 (u2 (aj t3 (aj t3 (aj t3 (u2 (aj t3 (aj t3 (aj t3 (u2 (aj t3 (aj t3 (aj t3 (u2 (aj t3 (aj t3 (aj t3 (u2 (aj t3 (aj t3 (u2 (aj t3 (aj t3 (aj t3 s2))))))))))))))))))))))))))))))))))))))) t2))) (by kernel_rfl)
theorem k20_ct(r:Ret)(h:MReach (k20Step) (k20En) r):CT Try.prog 12 ([]) ([]) r.1 r.2:=
 CT.mach (fn:=Try.f12) (c:=zB Try.f12) (S:=k20St) (hd:=k20Hd) Try.func12 (by kernel_rfl) (Nat.le_of_ble_eq_true rfl)
  (fun s o ho=>match s,ho with
   | x,_=>x.elim)
  (fun o ho=>k20En_ok o ho) h
theorem kn_c:CT Try.prog 12 [] [] [] (.bool true):=by
 refine k20_ct ([],_) (.val ?_)
 have h1:=kN_ok
 have h2:=kN_nb
 have h3:=h1.ln
 unfold k20En
 rw[br_f (dec_f (by rw[List.length_map];simp only[iN];omega)),gu_t h1.v,gu_t h1.rows,gu_t h2,gu_t (by rw[List.length_map];simp only[iN];omega),gu_t (by rw[List.length_map];simp only[iN];omega)]
theorem rdInts{n:Nat}{es:List AV}(h:∀x∈es,ShV Try.prog n 3 x):∃L:List Int,es=L.map (AV.int .i64):=by
 induction es with
 | nil=>exact⟨[],rfl⟩
 | cons x es ih=>
  obtain⟨L,rfl⟩:=ih fun y hy=>h y (List.mem_cons_of_mem _ hy)
  obtain⟨i,_,rfl⟩:=(h x (by simp)).intD Try.underlying3
  exact⟨i::L,rfl⟩
theorem set_self{α:Type}{l:List α}{i:Nat}{v d:α}(h:l.getD i d=v)(hi:i<l.length):l.set i v=l:=by
 refine List.ext_getElem? fun j=>?_
 rw[List.getElem?_set]
 by_cases e:i=j
 ·subst e;rw[if_pos rfl,if_pos hi,getE d hi,h]
 ·rw[if_neg e]
theorem wo_self{l:List Int}{x:Int}(h:x∉l):wo l x=l:=by
 unfold wo
 exact List.filter_eq_self.2 fun y hy=>bne_iff_ne.2 fun e=>h (e ▸ hy)
theorem clo_x{n:NetD}(cl:List Bool)(bw pe:List Int)(c d:Int)(hrw:Rows n.nx)(hv:ValidN n)(hs:SigOk n ⟨cl,bw,pe⟩)(hc:0≤c∧c<(celN n:Int))(hd : -1≤d∧d<8):
  CT Try.prog 21 [] [netA n,sgA ⟨cl,bw,pe⟩,.int .i64 c,.int .i64 d] [] (.tup [sgA (clS ⟨cl,bw,pe⟩ c d),.int .i64 0]):=by
 obtain⟨_,_,l1,l2,l3,l4,l5⟩:=sig_len (ks_b hv hs)
 have lc:cl.length=celN n:=hs.lc
 have lb:bw.length=celN n:=hs.lb
 have h48:=(celN_le hv).1
 have h24:=hv.nb24
 have e0:scE n ⟨cl,bw,pe⟩ c=0:=scE_eq.2 ⟨ks_b hv hs,hc.1,by show c<(cl.length:Int);omega⟩
 have hbl:(boL cl).length=cl.length:=boL_len cl
 refine clo_ct n ⟨cl,bw,pe⟩ c d ([],_) (.val ?_)
 unfold cloEn
 simp only at l1 l2 l3 l4 l5 ⊢
 rw[gu_t hrw,e0,br_f (by rfl),br_f (dec_f (by omega)),br_f (dec_f (by omega)),gu_t (by omega),gu_t (by omega),gu_t (by omega),gu_t hc.1,gu_t (by simp only[iN];omega),Nat.zero_add,el_t (getE true (show c.toNat<cl.length by omega))]
 unfold clS
 simp only
 cases h:cl.getD c.toNat true with
 | false=>
  rw[br_t (show(!false)=true from rfl),gu_t (show Nat.le c.toNat.succ (boL cl).length from by show c.toNat+1≤_;omega),gu_t (by simp only[iN];omega),gu_t (show Nat.le c.toNat.succ (List.map (AV.int .i64) bw).length from by show c.toNat+1≤_;rw[List.length_map];omega),if_neg (by simp)]
  unfold sgA boL lI
  rw[List.map_set,List.map_set]
 | true=>
  have hp:c∉pe:=fun hm=>by
   have:=(hs.pb c hm).2.2
   simp only at this
   rw[h] at this;cases this
  rw[br_f (show(!true)=false from rfl),if_pos rfl,set_self h (by omega),wo_self hp];rfl
theorem opn_x{n:NetD}(cl:List Bool)(bw pe:List Int)(c:Int)(hrw:Rows n.nx)(hv:ValidN n)(hs:SigOk n ⟨cl,bw,pe⟩)(hc:0≤c∧c<(celN n:Int)):
  CT Try.prog 23 [] [netA n,sgA ⟨cl,bw,pe⟩,.int .i64 c] [] (.tup [sgA (opS ⟨cl,bw,pe⟩ c),.int .i64 0]):=by
 obtain⟨_,_,l1,l2,l3,l4,l5⟩:=sig_len (ks_b hv hs)
 have lc:cl.length=celN n:=hs.lc
 have lb:bw.length=celN n:=hs.lb
 have h48:=(celN_le hv).1
 have h24:=hv.nb24
 have e0:scE n ⟨cl,bw,pe⟩ c=0:=scE_eq.2 ⟨ks_b hv hs,hc.1,by show c<(cl.length:Int);omega⟩
 have hbl:(boL cl).length=cl.length:=boL_len cl
 refine opn_ct n ⟨cl,bw,pe⟩ c ([],_) (.val ?_)
 unfold opnEn
 simp only at l1 l2 l3 l4 l5 ⊢
 rw[gu_t hrw,e0,br_f (by rfl),gu_t (by omega),gu_t (by omega),gu_t (by omega),gu_t hc.1,gu_t (by simp only[iN];omega),Nat.zero_add,gu_t (show Nat.le c.toNat.succ (boL cl).length from by show c.toNat+1≤_;omega),gu_t (by simp only[iN];omega),gu_t (show Nat.le c.toNat.succ (List.map (AV.int .i64) bw).length from by show c.toNat+1≤_;rw[List.length_map];omega)]
 unfold opS sgA boL lI
 simp only
 rw[List.map_set,List.map_set]
theorem nsJ_ex(n:NetD):∃s:SigD,s=newS n:=⟨_,rfl⟩
@[irreducible] def nsJ(n:NetD):SigD:=Classical.choose (nsJ_ex n)
theorem nsJ_eq(n:NetD):nsJ n=newS n:=by unfold nsJ;exact Classical.choose_spec (nsJ_ex n)
theorem n14_j{n:NetD}(hv:ValidN n)(hrw:Rows n.nx):CT Try.prog 14 [] [netA n] [] (.tup [sgA (nsJ n),.int .i64 0]):=by rw[nsJ_eq];exact n14_x hv hrw
@[irreducible] def anJ(n:NetD)(s:SigD)(x:Int):SigD:=anO n s x
theorem ann_j{n:NetD}(cl:List Bool)(bw pe:List Int)(x:Int)(hrw:Rows n.nx):CT Try.prog 16 [] [netA n,sgA ⟨cl,bw,pe⟩,.int .i64 x] [] (.tup [sgA (anJ n ⟨cl,bw,pe⟩ x),.int .i64 (anE n ⟨cl,bw,pe⟩ x)]):=by unfold anJ;exact ann_c cl bw pe x hrw
@[irreducible] def clJ(s:SigD)(c d:Int):SigD:=clS s c d
theorem clo_j{n:NetD}(cl:List Bool)(bw pe:List Int)(c d:Int)(hrw:Rows n.nx)(hv:ValidN n)(hs:SigOk n ⟨cl,bw,pe⟩)(hc:0≤c∧c<(celN n:Int))(hd : -1≤d∧d<8):
  CT Try.prog 21 [] [netA n,sgA ⟨cl,bw,pe⟩,.int .i64 c,.int .i64 d] [] (.tup [sgA (clJ ⟨cl,bw,pe⟩ c d),.int .i64 0]):=by unfold clJ;exact clo_x cl bw pe c d hrw hv hs hc hd
@[irreducible] def opJ(s:SigD)(c:Int):SigD:=opS s c
theorem opn_j{n:NetD}(cl:List Bool)(bw pe:List Int)(c:Int)(hrw:Rows n.nx)(hv:ValidN n)(hs:SigOk n ⟨cl,bw,pe⟩)(hc:0≤c∧c<(celN n:Int)):
  CT Try.prog 23 [] [netA n,sgA ⟨cl,bw,pe⟩,.int .i64 c] [] (.tup [sgA (opJ ⟨cl,bw,pe⟩ c),.int .i64 0]):=by unfold opJ;exact opn_x cl bw pe c hrw hv hs hc
inductive sstPc where
 | l0 (v0:List Int) (v1:Int) (v2:Nat) (v3:SigD)
 | l1 (v0:List Int) (v1:Int) (v2:List Bool) (v3 v4:Int) (v5:Nat) (v6:SigD)
def sstSt(ls:List Int):sstPc→St
 | .l0 v0 v1 v2 v3=>St.mk 189 [(3,AV.ptr 0 0 0),(4,AV.ptr 1 0 0),(5,AV.ptr 2 0 0),(7,iv (iN (boL (nsJ (looM ls 0 6)).cl).length)),(8,AV.sl 3 0 v0.length),(9,iv v1)] [some (tapeB ls v2),some (Blk.mk [netA (looM ls 0 6)] 8 true true none),some (Blk.mk [AV.agg [AV.lst (List.map AV.bool v3.cl),AV.lst (List.map (iv) v3.bw),AV.lst (List.map (iv) v3.pe)]] 3 true true none),some (Blk.mk (List.map (iv) v0) 1 true true none)]
 | .l1 v0 v1 v2 v3 v4 v5 v6=>St.mk 189 [(3,AV.ptr 0 0 0),(4,AV.ptr 1 0 0),(5,AV.ptr 2 0 0),(7,iv (iN (boL (nsJ (looM ls 0 6)).cl).length)),(8,AV.sl 3 0 v0.length),(9,iv v1),(17,AV.lst (List.map AV.bool v2)),(19,iv v3),(20,iv v4)] [some (tapeB ls v5),some (Blk.mk [netA (looM ls 0 6)] 8 true true none),some (Blk.mk [AV.agg [AV.lst (List.map AV.bool v6.cl),AV.lst (List.map (iv) v6.bw),AV.lst (List.map (iv) v6.pe)]] 3 true true none),some (Blk.mk (List.map (iv) v0) 1 true true none)]
def sstHd:sstPc→Nat
 | .l0 _ _ _ _=>0
 | .l1 _ _ _ _ _ _ _=>1
def sstEn(ls:List Int):Option (sstPc⊕Ret):=
 gu (ValidN (looM ls 0 6)) <|
 gu (Rows (looM ls 0 6).nx) <|
 gu (8 * iN (boL (nsJ (looM ls 0 6)).cl).length≤281474976710656) <|
 gu (iN (boL (nsJ (looM ls 0 6)).cl).length≤9223372036854775807) <|
 some (.inl (.l0 (List.replicate (boL (nsJ (looM ls 0 6)).cl).length 0) ((0:Int)) (looK ls 0 6) (nsJ (looM ls 0 6))))
def sstS0(ls v0:List Int)(v1:Int)(v2:Nat)(v3:SigD):Option (sstPc⊕Ret):=
 br (decide (v1<25))
 (gu (v2<9223372036854775807) <|
  gu (v2+1<9223372036854775807) <|
  br (nextZ ls (v2+1) 3==0)
  (gu (Rows (looM ls 0 6).nx) <|
   br (decide (nextZ ls v2 (iN (boL (nsJ (looM ls 0 6)).cl).length)<iN (List.map bA (looM ls 0 6).bs).length))
   (gu (0≤nextZ ls v2 (iN (boL (nsJ (looM ls 0 6)).cl).length)) <|
    gu (nextZ ls v2 (iN (boL (nsJ (looM ls 0 6)).cl).length)<iN v0.length) <|
    el v0 (0+(nextZ ls v2 (iN (boL (nsJ (looM ls 0 6)).cl).length)).toNat) fun(x82:Int)=>
    br (!(anE (looM ls 0 6) v3 (nextZ ls v2 (iN (boL (nsJ (looM ls 0 6)).cl).length))==0)==(x82==0))
    (some (.inr ([],AV.bool false)))
    (br (anE (looM ls 0 6) v3 (nextZ ls v2 (iN (boL (nsJ (looM ls 0 6)).cl).length))==0)
     (gu ((0+(nextZ ls v2 (iN (boL (nsJ (looM ls 0 6)).cl).length)).toNat).succ.le (List.map (AV.int IntKind.i64) v0).length) <|
      br (shE (looM ls 0 6) (anJ (looM ls 0 6) v3 (nextZ ls v2 (iN (boL (nsJ (looM ls 0 6)).cl).length))) != 0)
      (some (.inr ([],AV.bool false)))
      (br (iN (boL (shO (looM ls 0 6) (anJ (looM ls 0 6) v3 (nextZ ls v2 (iN (boL (nsJ (looM ls 0 6)).cl).length))))).length != iN (boL (nsJ (looM ls 0 6)).cl).length)
       (some (.inr ([],AV.bool false)))
       (br (iN (boL (anJ (looM ls 0 6) v3 (nextZ ls v2 (iN (boL (nsJ (looM ls 0 6)).cl).length))).cl).length != iN (boL (nsJ (looM ls 0 6)).cl).length)
        (some (.inr ([],AV.bool false)))
        (br (!sigB (looM ls 0 6) (anJ (looM ls 0 6) v3 (nextZ ls v2 (iN (boL (nsJ (looM ls 0 6)).cl).length))))
         (some (.inr ([],AV.bool false)))
         (some (.inl (.l1 (v0.set (0+(nextZ ls v2 (iN (boL (nsJ (looM ls 0 6)).cl).length)).toNat) 1) v1 (shO (looM ls 0 6) (anJ (looM ls 0 6) v3 (nextZ ls v2 (iN (boL (nsJ (looM ls 0 6)).cl).length)))) ((0:Int)) ((0:Int)) (v2+1+1) (anJ (looM ls 0 6) v3 (nextZ ls v2 (iN (boL (nsJ (looM ls 0 6)).cl).length))))))))))
     (br (shE (looM ls 0 6) v3 != 0)
      (some (.inr ([],AV.bool false)))
      (br (iN (boL (shO (looM ls 0 6) v3)).length != iN (boL (nsJ (looM ls 0 6)).cl).length)
       (some (.inr ([],AV.bool false)))
       (br (iN (List.map AV.bool v3.cl).length != iN (boL (nsJ (looM ls 0 6)).cl).length)
        (some (.inr ([],AV.bool false)))
        (br (!sigB (looM ls 0 6) v3)
         (some (.inr ([],AV.bool false)))
         (some (.inl (.l1 v0 v1 (shO (looM ls 0 6) v3) ((0:Int)) ((0:Int)) (v2+1+1) v3)))))))))
   (br (!(anE (looM ls 0 6) v3 (nextZ ls v2 (iN (boL (nsJ (looM ls 0 6)).cl).length))==0)==false)
    (some (.inr ([],AV.bool false)))
    (br (anE (looM ls 0 6) v3 (nextZ ls v2 (iN (boL (nsJ (looM ls 0 6)).cl).length))==0)
     (gu (0≤nextZ ls v2 (iN (boL (nsJ (looM ls 0 6)).cl).length)) <|
      gu (nextZ ls v2 (iN (boL (nsJ (looM ls 0 6)).cl).length)<iN v0.length) <|
      gu ((0+(nextZ ls v2 (iN (boL (nsJ (looM ls 0 6)).cl).length)).toNat).succ.le (List.map (AV.int IntKind.i64) v0).length) <|
      br (shE (looM ls 0 6) (anJ (looM ls 0 6) v3 (nextZ ls v2 (iN (boL (nsJ (looM ls 0 6)).cl).length))) != 0)
      (some (.inr ([],AV.bool false)))
      (br (iN (boL (shO (looM ls 0 6) (anJ (looM ls 0 6) v3 (nextZ ls v2 (iN (boL (nsJ (looM ls 0 6)).cl).length))))).length != iN (boL (nsJ (looM ls 0 6)).cl).length)
       (some (.inr ([],AV.bool false)))
       (br (iN (boL (anJ (looM ls 0 6) v3 (nextZ ls v2 (iN (boL (nsJ (looM ls 0 6)).cl).length))).cl).length != iN (boL (nsJ (looM ls 0 6)).cl).length)
        (some (.inr ([],AV.bool false)))
        (br (!sigB (looM ls 0 6) (anJ (looM ls 0 6) v3 (nextZ ls v2 (iN (boL (nsJ (looM ls 0 6)).cl).length))))
         (some (.inr ([],AV.bool false)))
         (some (.inl (.l1 (v0.set (0+(nextZ ls v2 (iN (boL (nsJ (looM ls 0 6)).cl).length)).toNat) 1) v1 (shO (looM ls 0 6) (anJ (looM ls 0 6) v3 (nextZ ls v2 (iN (boL (nsJ (looM ls 0 6)).cl).length)))) ((0:Int)) ((0:Int)) (v2+1+1) (anJ (looM ls 0 6) v3 (nextZ ls v2 (iN (boL (nsJ (looM ls 0 6)).cl).length))))))))))
     (br (shE (looM ls 0 6) v3 != 0)
      (some (.inr ([],AV.bool false)))
      (br (iN (boL (shO (looM ls 0 6) v3)).length != iN (boL (nsJ (looM ls 0 6)).cl).length)
       (some (.inr ([],AV.bool false)))
       (br (iN (List.map AV.bool v3.cl).length != iN (boL (nsJ (looM ls 0 6)).cl).length)
        (some (.inr ([],AV.bool false)))
        (br (!sigB (looM ls 0 6) v3)
         (some (.inr ([],AV.bool false)))
         (some (.inl (.l1 v0 v1 (shO (looM ls 0 6) v3) ((0:Int)) ((0:Int)) (v2+1+1) v3))))))))))
  (br (nextZ ls (v2+1) 3==1)
   (gu (v2+1+1<9223372036854775807) <|
    gu (Rows (looM ls 0 6).nx) <|
    gu (ValidN (looM ls 0 6)) <|
    gu (SigOk (looM ls 0 6) v3) <|
    gu (0≤nextZ ls v2 (iN (boL (nsJ (looM ls 0 6)).cl).length)∧nextZ ls v2 (iN (boL (nsJ (looM ls 0 6)).cl).length)<iN (celN (looM ls 0 6))) <|
    gu (-1≤IntKind.i64.wrap (nextZ ls (v2+1+1) 3-1)∧IntKind.i64.wrap (nextZ ls (v2+1+1) 3-1)<8) <|
    gu (0≤nextZ ls v2 (iN (boL (nsJ (looM ls 0 6)).cl).length)) <|
    gu (nextZ ls v2 (iN (boL (nsJ (looM ls 0 6)).cl).length)<iN v0.length) <|
    gu ((0+(nextZ ls v2 (iN (boL (nsJ (looM ls 0 6)).cl).length)).toNat).succ.le (List.map (AV.int IntKind.i64) v0).length) <|
    br (shE (looM ls 0 6) (clJ v3 (nextZ ls v2 (iN (boL (nsJ (looM ls 0 6)).cl).length)) (IntKind.i64.wrap (nextZ ls (v2+1+1) 3-1))) != 0)
    (some (.inr ([],AV.bool false)))
    (br (iN (boL (shO (looM ls 0 6) (clJ v3 (nextZ ls v2 (iN (boL (nsJ (looM ls 0 6)).cl).length)) (IntKind.i64.wrap (nextZ ls (v2+1+1) 3-1))))).length != iN (boL (nsJ (looM ls 0 6)).cl).length)
     (some (.inr ([],AV.bool false)))
     (br (iN (boL (clJ v3 (nextZ ls v2 (iN (boL (nsJ (looM ls 0 6)).cl).length)) (IntKind.i64.wrap (nextZ ls (v2+1+1) 3-1))).cl).length != iN (boL (nsJ (looM ls 0 6)).cl).length)
      (some (.inr ([],AV.bool false)))
      (br (!sigB (looM ls 0 6) (clJ v3 (nextZ ls v2 (iN (boL (nsJ (looM ls 0 6)).cl).length)) (IntKind.i64.wrap (nextZ ls (v2+1+1) 3-1))))
       (some (.inr ([],AV.bool false)))
       (some (.inl (.l1 (v0.set (0+(nextZ ls v2 (iN (boL (nsJ (looM ls 0 6)).cl).length)).toNat) 2) v1 (shO (looM ls 0 6) (clJ v3 (nextZ ls v2 (iN (boL (nsJ (looM ls 0 6)).cl).length)) (IntKind.i64.wrap (nextZ ls (v2+1+1) 3-1)))) ((0:Int)) ((0:Int)) (v2+1+1+1) (clJ v3 (nextZ ls v2 (iN (boL (nsJ (looM ls 0 6)).cl).length)) (IntKind.i64.wrap (nextZ ls (v2+1+1) 3-1))))))))))
   (gu (Rows (looM ls 0 6).nx) <|
    gu (ValidN (looM ls 0 6)) <|
    gu (SigOk (looM ls 0 6) v3) <|
    gu (0≤nextZ ls v2 (iN (boL (nsJ (looM ls 0 6)).cl).length)∧nextZ ls v2 (iN (boL (nsJ (looM ls 0 6)).cl).length)<iN (celN (looM ls 0 6))) <|
    gu (0≤nextZ ls v2 (iN (boL (nsJ (looM ls 0 6)).cl).length)) <|
    gu (nextZ ls v2 (iN (boL (nsJ (looM ls 0 6)).cl).length)<iN v0.length) <|
    gu ((0+(nextZ ls v2 (iN (boL (nsJ (looM ls 0 6)).cl).length)).toNat).succ.le (List.map (AV.int IntKind.i64) v0).length) <|
    br (shE (looM ls 0 6) (opJ v3 (nextZ ls v2 (iN (boL (nsJ (looM ls 0 6)).cl).length))) != 0)
    (some (.inr ([],AV.bool false)))
    (br (iN (boL (shO (looM ls 0 6) (opJ v3 (nextZ ls v2 (iN (boL (nsJ (looM ls 0 6)).cl).length))))).length != iN (boL (nsJ (looM ls 0 6)).cl).length)
     (some (.inr ([],AV.bool false)))
     (br (iN (boL (opJ v3 (nextZ ls v2 (iN (boL (nsJ (looM ls 0 6)).cl).length))).cl).length != iN (boL (nsJ (looM ls 0 6)).cl).length)
      (some (.inr ([],AV.bool false)))
      (br (!sigB (looM ls 0 6) (opJ v3 (nextZ ls v2 (iN (boL (nsJ (looM ls 0 6)).cl).length))))
       (some (.inr ([],AV.bool false)))
       (some (.inl (.l1 (v0.set (0+(nextZ ls v2 (iN (boL (nsJ (looM ls 0 6)).cl).length)).toNat) 0) v1 (shO (looM ls 0 6) (opJ v3 (nextZ ls v2 (iN (boL (nsJ (looM ls 0 6)).cl).length)))) ((0:Int)) ((0:Int)) (v2+1+1) (opJ v3 (nextZ ls v2 (iN (boL (nsJ (looM ls 0 6)).cl).length))))))))))))
 (some (.inr ([],AV.bool true)))
def sstS1(ls v0:List Int)(v1:Int)(v2:List Bool)(v3 v4:Int)(v5:Nat)(v6:SigD):Option (sstPc⊕Ret):=
 br (decide (v4<iN (boL (nsJ (looM ls 0 6)).cl).length))
 (gu (0≤v4) <|
  el v2 (v4.toNat) fun(x144:Bool)=>
  gu (v4<iN v0.length) <|
  el v0 (0+v4.toNat) fun(x149:Int)=>
  br (!x144==decide (0<x149))
  (some (.inr ([],AV.bool false)))
  (el (v6.cl) (v4.toNat) fun(x156:Bool)=>
   el v0 (0+v4.toNat) fun(x161:Int)=>
   br (!x156==(x161==2))
   (some (.inr ([],AV.bool false)))
   (gu (v6.pe.length≤9000000000000000000) <|
    el v0 (0+v4.toNat) fun(x173:Int)=>
    br (!hasZ v6.pe v4==(x173==1))
    (some (.inr ([],AV.bool false)))
    (el v0 (0+v4.toNat) fun(x180:Int)=>
     br (x180==1)
     (some (.inl (.l1 v0 v1 v2 (IntKind.i64.wrap (v3+1)) (IntKind.i64.wrap (v4+1)) v5 v6)))
     (some (.inl (.l1 v0 v1 v2 v3 (IntKind.i64.wrap (v4+1)) v5 v6)))))))
 (br (v3 != iN (List.map (AV.int IntKind.i64) v6.pe).length)
  (some (.inr ([],AV.bool false)))
  (some (.inl (.l0 v0 (IntKind.i64.wrap (v1+1)) v5 v6))))
def sstStep(ls:List Int):sstPc→Option (sstPc⊕Ret)
 | .l0 v0 v1 v2 v3=>sstS0 ls v0 v1 v2 v3
 | .l1 v0 v1 v2 v3 v4 v5 v6=>sstS1 ls v0 v1 v2 v3 v4 v5 v6
theorem sstEn_ok(ls:List Int)(o:sstPc⊕Ret)(h:sstEn ls=some o):Arr Try.prog Try.f4 0 (sstSt ls) sstHd (zB Try.f4) [] {n:=Try.f4.ntmps,fr:=enumF 0 ([lI ls]),hp:=([])} o:=
 Scr.ok h mix (
 have c0:=kn_c;
 have c1:=loose_ct (ls) (0) (6) (show nat_lit 0≤(5000:Nat) from(by first | exact Nat.le_of_ble_eq_true rfl | decide)) (show(1:Int)≤(6:Int)∧(6:Int)≤(20:Int) from ⟨(by first | exact Nat.le_of_ble_eq_true rfl | decide),(by first | exact Nat.le_of_ble_eq_true rfl | decide)⟩);
 .rn 3 [] [] [(21,hK c0 [] []),(27,hK c1 [0] [])] [] (u2 (aj (aj (al (c0)) s2) (ak (aj (u2 (u2 (u2 s2))) (al (u2 (aj (ak (k3 (al (c1)))) (ak (al (k2 n11)))))))))) <|
 .gu fun a0=>
 .gu fun a1=>
 have c2:=n14_j a0 a1;
 .rn 2 [] [] [(30,hK c2 [] [])] [] (aj (u2 (aj (ak (aj t9 (al (c2)))) (u2 (u2 (u2 (ak (aj (k2 n11) s2))))))) (aj (u2 s2) (ak (al (u2 (u2 (u2 s2))))))) <|
 .gu fun a2=>
 .gu fun a3=>
 .lq [] [] [] [] [] [0,1,2,3] [3,4,5,7,8,9] (up [(8,AV.sl 3 0 (boL (nsJ (looM ls 0 6)).cl).length)] [(3,List.replicate (boL (nsJ (looM ls 0 6)).cl).length (iv 0))] (sstSt ls (.l0 (List.replicate (boL (nsJ (looM ls 0 6)).cl).length 0) ((0:Int)) (looK ls 0 6) (nsJ (looM ls 0 6))))) (aj (aj (u2 (aj (k2 (aj (show 0≤iN (boL (nsJ (looM ls 0 6)).cl).length from(Int.natCast_nonneg _)) (aj (show iN (boL (nsJ (looM ls 0 6)).cl).length≤iN (boL (nsJ (looM ls 0 6)).cl).length by omega) (aj a2 a3)))) s2)) s2) (k2 t9)) (by simp[up,upF,upV,upH,upB,sstSt,gL,boL,lI,sA,bA])) (by kernel_rfl)
theorem sstS0_ok(ls v0:List Int)(v1:Int)(v2:Nat)(v3:SigD)(o:sstPc⊕Ret)(h:sstS0 ls v0 v1 v2 v3=some o):Arr Try.prog Try.f4 0 (sstSt ls) sstHd (headC Try.f4 0) (.rnd (headC Try.f4 0)::headK Try.f4 0) (sstSt ls (.l0 v0 v1 v2 v3)) o:=
 Scr.ok h mix (
 .rn 0 [] [] [] [] (al (u2 s2)) <|
 .br (fun a0=>
 .gu fun a1=>
 have c0:=next_ct (ls) v2 (iN (boL (nsJ (looM ls 0 6)).cl).length) a1;
 .rn 0 [83] [] [(46,hK c0 [0] [])] [] (aj a0 (al (u2 (u2 (aj (k5 (al (c0))) s2))))) <|
 .gu fun a2=>
 have c1:=next_ct (ls) (v2+1) (3) a2;
 .rn 1 [] [] [(48,hK c1 [0] [])] [] (aj (u2 (al (ak (k3 (al (c1)))))) (al (u2 s2))) <|
 .br (fun a3=>
  .gu fun a4=>
  have c2:=ann_j (v3.cl) (v3.bw) (v3.pe) (nextZ ls v2 (iN (boL (nsJ (looM ls 0 6)).cl).length)) a4;
  .rn 0 [125] [] [(68,hK c2 [] [])] [] (aj a3 (al (u2 (u2 (u2 (aj (k3 (aj t9 (aj t4 (ak (al (c2)))))) (u2 (u2 (u2 (ak (aj (k2 n11) s2))))))))))) <|
  .br (fun a5=>
  .gu fun a6=>
  .gu fun a7=>
  .el fun x82 a8=>
  .rn 0 [157] [(82,iv x82)] [] [] (al (u2 (u2 (u2 (u2 (u2 (u2 (aj t3 (u2 (ag a5 (ag a5 (aj (aj a5 (k2 (aj a6 a7))) (aj (aj a5 (ak (getMap (f:=iv) a8))) (ag a5 (ag a5 (al t3)))))))))))))))) <|
  .br (fun a9=>
   .rt [157,171] [] [] [] [] [] (aj (aj a9 s2) t2))
  (fun a9=>
   .rn 0 [157,170] [] [] [] (aj a9 (al (u2 s2))) <|
   .br (fun a10=>
   .gu fun a11=>
   have c3:=ssh_c ((anJ (looM ls 0 6) v3 (nextZ ls v2 (iN (boL (nsJ (looM ls 0 6)).cl).length))).cl) ((anJ (looM ls 0 6) v3 (nextZ ls v2 (iN (boL (nsJ (looM ls 0 6)).cl).length))).bw) ((anJ (looM ls 0 6) v3 (nextZ ls v2 (iN (boL (nsJ (looM ls 0 6)).cl).length))).pe) a4;
   .rn 1 [157,175] [] [(113,hK c3 [] [])] [] (aj a10 (aj (u2 (u2 (u2 (aj (k2 (show Nat.le 1 [AV.agg [AV.lst (List.map AV.bool v3.cl),AV.lst (List.map (iv) v3.bw),AV.lst (List.map (iv) v3.pe)]].length from(Nat.le_of_ble_eq_true rfl))) (aj (k2 (aj a6 a7)) (al (ak a11))))))) (al (u2 (u2 (aj (k2 (aj t9 (aj t4 (al (c3))))) (u2 (u2 (u2 (u2 s2)))))))))) <|
   .br (fun a12=>
    .rt [157,237] [] [] [] [] [] (aj (aj (u2 (u2 (u2 (aj a12 (aj a12 (aj a12 (aj a12 (ag a12 (u2 (k5 (aj t3 (u2 (ak (k3 (al t3))))))))))))))) (ak s2)) t2))
   (fun a12=>
    .br (fun a13=>
    .rt [157,236,249] [] [] [] [] [] (aj (aj (u2 (u2 (u2 (ag a12 (ag a12 (ag a12 (aj (aj a12 t3) (ag a12 (u2 (aj a13 (aj a13 (aj a13 (aj a13 (aj a13 (ag a13 (u2 (ak (k3 (al t3))))))))))))))))))) (ak s2)) t2))
    (fun a13=>
    .br (fun a14=>
     .rt [157,236,248,263] [] [] [] [] [] (aj (aj (u2 (u2 (u2 (ag a12 (ag a12 (ag a12 (aj (aj a12 t3) (ag a12 (u2 (ag a13 (ag a13 (ag a13 (ag a13 (aj (aj a13 t3) (ag a13 (u2 (aj a14 (aj a14 (aj a14 (aj a14 (al (aj a14 t2)))))))))))))))))))))) (ak s2)) t2))
    (fun a14=>
     have c4:=sva_c ((anJ (looM ls 0 6) v3 (nextZ ls v2 (iN (boL (nsJ (looM ls 0 6)).cl).length))).cl) ((anJ (looM ls 0 6) v3 (nextZ ls v2 (iN (boL (nsJ (looM ls 0 6)).cl).length))).bw) ((anJ (looM ls 0 6) v3 (nextZ ls v2 (iN (boL (nsJ (looM ls 0 6)).cl).length))).pe) a4;
     .rn 0 [157,236,248,262] [] [(134,hK c4 [] [])] [] (al (u2 (u2 (u2 (ag a12 (ag a12 (ag a12 (aj (aj a12 t3) (ag a12 (u2 (ag a13 (ag a13 (ag a13 (ag a13 (aj (aj a13 t3) (ag a13 (u2 (ag a14 (ag a14 (aj (aj a14 (k2 (aj t9 (aj t4 (al (c4)))))) (ag a14 (al (aj a14 t2))))))))))))))))))))))) <|
     .br (fun a15=>
     .rt [157,236,248,262,273] [] [] [] [] [] (aj (aj a15 s2) t2))
     (fun a15=>
     .lq [157,236,248,262,272] [] [] [] [] [0,1,2,3] [3,4,5,7,8,9,17,19,20] (up [(8,AV.sl 3 0 v0.length)] [(3,(List.map (iv) v0).set (0+(nextZ ls v2 (iN (boL (nsJ (looM ls 0 6)).cl).length)).toNat) (iv 1))] (sstSt ls (.l1 (v0.set (0+(nextZ ls v2 (iN (boL (nsJ (looM ls 0 6)).cl).length)).toNat) 1) v1 (shO (looM ls 0 6) (anJ (looM ls 0 6) v3 (nextZ ls v2 (iN (boL (nsJ (looM ls 0 6)).cl).length)))) ((0:Int)) ((0:Int)) (v2+1+1) (anJ (looM ls 0 6) v3 (nextZ ls v2 (iN (boL (nsJ (looM ls 0 6)).cl).length)))))) (aj (aj a15 (u2 s2)) (k5 t9)) (by simp[up,upF,upV,upH,upB,sstSt,gL,boL,lI,sA,bA]))))))
   (fun a10=>
   have c3:=ssh_c (v3.cl) (v3.bw) (v3.pe) a4;
   .rn 0 [157,174] [] [(113,hK c3 [] [])] [] (aj a10 (al (u2 (u2 (aj (k2 (aj t9 (aj t4 (al (c3))))) (u2 (u2 (u2 (u2 s2))))))))) <|
   .br (fun a11=>
    .rt [157,237] [] [] [] [] [] (aj (aj (u2 (u2 (u2 (aj a11 (aj a11 (aj a11 (aj a11 (ag a11 (u2 (k5 (aj t3 (u2 (ak (k3 (al t3))))))))))))))) (ak s2)) t2))
   (fun a11=>
    .br (fun a12=>
    .rt [157,236,249] [] [] [] [] [] (aj (aj (u2 (u2 (u2 (ag a11 (ag a11 (ag a11 (aj (aj a11 t3) (ag a11 (u2 (aj a12 (aj a12 (aj a12 (aj a12 (aj a12 (ag a12 (u2 (ak (k3 (al t3))))))))))))))))))) (ak s2)) t2))
    (fun a12=>
    .br (fun a13=>
     .rt [157,236,248,263] [] [] [] [] [] (aj (aj (u2 (u2 (u2 (ag a11 (ag a11 (ag a11 (aj (aj a11 t3) (ag a11 (u2 (ag a12 (ag a12 (ag a12 (ag a12 (aj (aj a12 t3) (ag a12 (u2 (aj a13 (aj a13 (aj a13 (aj a13 (al (aj a13 t2)))))))))))))))))))))) (ak s2)) t2))
    (fun a13=>
     have c4:=sva_c (v3.cl) (v3.bw) (v3.pe) a4;
     .rn 0 [157,236,248,262] [] [(134,hK c4 [] [])] [] (al (u2 (u2 (u2 (ag a11 (ag a11 (ag a11 (aj (aj a11 t3) (ag a11 (u2 (ag a12 (ag a12 (ag a12 (ag a12 (aj (aj a12 t3) (ag a12 (u2 (ag a13 (ag a13 (aj (aj a13 (k2 (aj t9 (aj t4 (al (c4)))))) (ag a13 (al (aj a13 t2))))))))))))))))))))))) <|
     .br (fun a14=>
     .rt [157,236,248,262,273] [] [] [] [] [] (aj (aj a14 s2) t2))
     (fun a14=>
     .lp [157,236,248,262,272] [] [] [] [] [0,1,2,3] [3,4,5,7,8,9,17,19,20] (aj (aj a14 (u2 s2)) (k5 t9)))))))))
  (fun a5=>
  .rn 0 [156] [] [] [] (al (u2 (u2 (u2 (u2 (u2 (u2 (aj t3 (u2 (aj a5 (aj a5 (aj a5 (aj a5 (aj a5 (ag a5 (al t3)))))))))))))))) <|
  .br (fun a6=>
   .rt [156,171] [] [] [] [] [] (aj (aj a6 s2) t2))
  (fun a6=>
   .rn 0 [156,170] [] [] [] (aj a6 (al (u2 s2))) <|
   .br (fun a7=>
   .gu fun a8=>
   .gu fun a9=>
   .gu fun a10=>
   have c3:=ssh_c ((anJ (looM ls 0 6) v3 (nextZ ls v2 (iN (boL (nsJ (looM ls 0 6)).cl).length))).cl) ((anJ (looM ls 0 6) v3 (nextZ ls v2 (iN (boL (nsJ (looM ls 0 6)).cl).length))).bw) ((anJ (looM ls 0 6) v3 (nextZ ls v2 (iN (boL (nsJ (looM ls 0 6)).cl).length))).pe) a4;
   .rn 1 [156,175] [] [(113,hK c3 [] [])] [] (aj a7 (aj (u2 (u2 (u2 (aj (k2 (show Nat.le 1 [AV.agg [AV.lst (List.map AV.bool v3.cl),AV.lst (List.map (iv) v3.bw),AV.lst (List.map (iv) v3.pe)]].length from(Nat.le_of_ble_eq_true rfl))) (aj (k2 (aj a8 a9)) (al (ak a10))))))) (al (u2 (u2 (aj (k2 (aj t9 (aj t4 (al (c3))))) (u2 (u2 (u2 (u2 s2)))))))))) <|
   .br (fun a11=>
    .rt [156,237] [] [] [] [] [] (aj (aj (u2 (u2 (u2 (aj a11 (aj a11 (aj a11 (aj a11 (ag a11 (u2 (k5 (aj t3 (u2 (ak (k3 (al t3))))))))))))))) (ak s2)) t2))
   (fun a11=>
    .br (fun a12=>
    .rt [156,236,249] [] [] [] [] [] (aj (aj (u2 (u2 (u2 (ag a11 (ag a11 (ag a11 (aj (aj a11 t3) (ag a11 (u2 (aj a12 (aj a12 (aj a12 (aj a12 (aj a12 (ag a12 (u2 (ak (k3 (al t3))))))))))))))))))) (ak s2)) t2))
    (fun a12=>
    .br (fun a13=>
     .rt [156,236,248,263] [] [] [] [] [] (aj (aj (u2 (u2 (u2 (ag a11 (ag a11 (ag a11 (aj (aj a11 t3) (ag a11 (u2 (ag a12 (ag a12 (ag a12 (ag a12 (aj (aj a12 t3) (ag a12 (u2 (aj a13 (aj a13 (aj a13 (aj a13 (al (aj a13 t2)))))))))))))))))))))) (ak s2)) t2))
    (fun a13=>
     have c4:=sva_c ((anJ (looM ls 0 6) v3 (nextZ ls v2 (iN (boL (nsJ (looM ls 0 6)).cl).length))).cl) ((anJ (looM ls 0 6) v3 (nextZ ls v2 (iN (boL (nsJ (looM ls 0 6)).cl).length))).bw) ((anJ (looM ls 0 6) v3 (nextZ ls v2 (iN (boL (nsJ (looM ls 0 6)).cl).length))).pe) a4;
     .rn 0 [156,236,248,262] [] [(134,hK c4 [] [])] [] (al (u2 (u2 (u2 (ag a11 (ag a11 (ag a11 (aj (aj a11 t3) (ag a11 (u2 (ag a12 (ag a12 (ag a12 (ag a12 (aj (aj a12 t3) (ag a12 (u2 (ag a13 (ag a13 (aj (aj a13 (k2 (aj t9 (aj t4 (al (c4)))))) (ag a13 (al (aj a13 t2))))))))))))))))))))))) <|
     .br (fun a14=>
     .rt [156,236,248,262,273] [] [] [] [] [] (aj (aj a14 s2) t2))
     (fun a14=>
     .lq [156,236,248,262,272] [] [] [] [] [0,1,2,3] [3,4,5,7,8,9,17,19,20] (up [(8,AV.sl 3 0 v0.length)] [(3,(List.map (iv) v0).set (0+(nextZ ls v2 (iN (boL (nsJ (looM ls 0 6)).cl).length)).toNat) (iv 1))] (sstSt ls (.l1 (v0.set (0+(nextZ ls v2 (iN (boL (nsJ (looM ls 0 6)).cl).length)).toNat) 1) v1 (shO (looM ls 0 6) (anJ (looM ls 0 6) v3 (nextZ ls v2 (iN (boL (nsJ (looM ls 0 6)).cl).length)))) ((0:Int)) ((0:Int)) (v2+1+1) (anJ (looM ls 0 6) v3 (nextZ ls v2 (iN (boL (nsJ (looM ls 0 6)).cl).length)))))) (aj (aj a14 (u2 s2)) (k5 t9)) (by simp[up,upF,upV,upH,upB,sstSt,gL,boL,lI,sA,bA]))))))
   (fun a7=>
   have c3:=ssh_c (v3.cl) (v3.bw) (v3.pe) a4;
   .rn 0 [156,174] [] [(113,hK c3 [] [])] [] (aj a7 (al (u2 (u2 (aj (k2 (aj t9 (aj t4 (al (c3))))) (u2 (u2 (u2 (u2 s2))))))))) <|
   .br (fun a8=>
    .rt [156,237] [] [] [] [] [] (aj (aj (u2 (u2 (u2 (aj a8 (aj a8 (aj a8 (aj a8 (ag a8 (u2 (k5 (aj t3 (u2 (ak (k3 (al t3))))))))))))))) (ak s2)) t2))
   (fun a8=>
    .br (fun a9=>
    .rt [156,236,249] [] [] [] [] [] (aj (aj (u2 (u2 (u2 (ag a8 (ag a8 (ag a8 (aj (aj a8 t3) (ag a8 (u2 (aj a9 (aj a9 (aj a9 (aj a9 (aj a9 (ag a9 (u2 (ak (k3 (al t3))))))))))))))))))) (ak s2)) t2))
    (fun a9=>
    .br (fun a10=>
     .rt [156,236,248,263] [] [] [] [] [] (aj (aj (u2 (u2 (u2 (ag a8 (ag a8 (ag a8 (aj (aj a8 t3) (ag a8 (u2 (ag a9 (ag a9 (ag a9 (ag a9 (aj (aj a9 t3) (ag a9 (u2 (aj a10 (aj a10 (aj a10 (aj a10 (al (aj a10 t2)))))))))))))))))))))) (ak s2)) t2))
    (fun a10=>
     have c4:=sva_c (v3.cl) (v3.bw) (v3.pe) a4;
     .rn 0 [156,236,248,262] [] [(134,hK c4 [] [])] [] (al (u2 (u2 (u2 (ag a8 (ag a8 (ag a8 (aj (aj a8 t3) (ag a8 (u2 (ag a9 (ag a9 (ag a9 (ag a9 (aj (aj a9 t3) (ag a9 (u2 (ag a10 (ag a10 (aj (aj a10 (k2 (aj t9 (aj t4 (al (c4)))))) (ag a10 (al (aj a10 t2))))))))))))))))))))))) <|
     .br (fun a11=>
     .rt [156,236,248,262,273] [] [] [] [] [] (aj (aj a11 s2) t2))
     (fun a11=>
     .lp [156,236,248,262,272] [] [] [] [] [0,1,2,3] [3,4,5,7,8,9,17,19,20] (aj (aj a11 (u2 s2)) (k5 t9))))))))))
 (fun a3=>
  .rn 0 [124] [] [] [] (aj a3 (al (u2 s2))) <|
  .br (fun a4=>
  .gu fun a5=>
  .gu fun a6=>
  .gu fun a7=>
  .gu fun a8=>
  .gu fun a9=>
  .gu fun a10=>
  have c2:=next_ct (ls) (v2+1+1) (3) a5;
  have c3:=clo_j (v3.cl) (v3.bw) (v3.pe) (nextZ ls v2 (iN (boL (nsJ (looM ls 0 6)).cl).length)) (IntKind.i64.wrap (nextZ ls (v2+1+1) 3-1)) a6 a7 a8 a9 a10;
  .rn 1 [185] [] [(99,hK c2 [0] []),(101,hK c3 [] [])] [] (aj a4 (aj (u2 (u2 (u2 (u2 (aj (ak (k3 (al (c2)))) (u2 (aj (ak (k3 (aj t9 (aj t4 (k2 (al (c3))))))) (u2 (u2 (u2 (ak (aj (k2 n11) s2)))))))))))) (al (u2 s2)))) <|
  .gu fun a11=>
  .gu fun a12=>
  .gu fun a13=>
  have c4:=ssh_c ((clJ v3 (nextZ ls v2 (iN (boL (nsJ (looM ls 0 6)).cl).length)) (IntKind.i64.wrap (nextZ ls (v2+1+1) 3-1))).cl) ((clJ v3 (nextZ ls v2 (iN (boL (nsJ (looM ls 0 6)).cl).length)) (IntKind.i64.wrap (nextZ ls (v2+1+1) 3-1))).bw) ((clJ v3 (nextZ ls v2 (iN (boL (nsJ (looM ls 0 6)).cl).length)) (IntKind.i64.wrap (nextZ ls (v2+1+1) 3-1))).pe) a6;
  .rn 1 [] [] [(113,hK c4 [] [])] [] (ak (aj (u2 (u2 (u2 (aj (k2 (show Nat.le 1 [AV.agg [AV.lst (List.map AV.bool v3.cl),AV.lst (List.map (iv) v3.bw),AV.lst (List.map (iv) v3.pe)]].length from(Nat.le_of_ble_eq_true rfl))) (aj (k2 (aj a11 a12)) (al (ak a13))))))) (al (u2 (u2 (aj (k2 (aj t9 (aj t4 (al (c4))))) (u2 (u2 (u2 (u2 s2)))))))))) <|
  .br (fun a14=>
   .rt [237] [] [] [] [] [] (aj (aj (u2 (u2 (u2 (aj a14 (aj a14 (aj a14 (aj a14 (ag a14 (u2 (k5 (aj t3 (u2 (ak (k3 (al t3))))))))))))))) (ak s2)) t2))
  (fun a14=>
   .br (fun a15=>
   .rt [236,249] [] [] [] [] [] (aj (aj (u2 (u2 (u2 (ag a14 (ag a14 (ag a14 (aj (aj a14 t3) (ag a14 (u2 (aj a15 (aj a15 (aj a15 (aj a15 (aj a15 (ag a15 (u2 (ak (k3 (al t3))))))))))))))))))) (ak s2)) t2))
   (fun a15=>
   .br (fun a16=>
    .rt [236,248,263] [] [] [] [] [] (aj (aj (u2 (u2 (u2 (ag a14 (ag a14 (ag a14 (aj (aj a14 t3) (ag a14 (u2 (ag a15 (ag a15 (ag a15 (ag a15 (aj (aj a15 t3) (ag a15 (u2 (aj a16 (aj a16 (aj a16 (aj a16 (al (aj a16 t2)))))))))))))))))))))) (ak s2)) t2))
   (fun a16=>
    have c5:=sva_c ((clJ v3 (nextZ ls v2 (iN (boL (nsJ (looM ls 0 6)).cl).length)) (IntKind.i64.wrap (nextZ ls (v2+1+1) 3-1))).cl) ((clJ v3 (nextZ ls v2 (iN (boL (nsJ (looM ls 0 6)).cl).length)) (IntKind.i64.wrap (nextZ ls (v2+1+1) 3-1))).bw) ((clJ v3 (nextZ ls v2 (iN (boL (nsJ (looM ls 0 6)).cl).length)) (IntKind.i64.wrap (nextZ ls (v2+1+1) 3-1))).pe) a6;
    .rn 0 [236,248,262] [] [(134,hK c5 [] [])] [] (al (u2 (u2 (u2 (ag a14 (ag a14 (ag a14 (aj (aj a14 t3) (ag a14 (u2 (ag a15 (ag a15 (ag a15 (ag a15 (aj (aj a15 t3) (ag a15 (u2 (ag a16 (ag a16 (aj (aj a16 (k2 (aj t9 (aj t4 (al (c5)))))) (ag a16 (al (aj a16 t2))))))))))))))))))))))) <|
    .br (fun a17=>
    .rt [236,248,262,273] [] [] [] [] [] (aj (aj a17 s2) t2))
    (fun a17=>
    .lq [236,248,262,272] [] [] [] [] [0,1,2,3] [3,4,5,7,8,9,17,19,20] (up [(8,AV.sl 3 0 v0.length)] [(3,(List.map (iv) v0).set (0+(nextZ ls v2 (iN (boL (nsJ (looM ls 0 6)).cl).length)).toNat) (iv 2))] (sstSt ls (.l1 (v0.set (0+(nextZ ls v2 (iN (boL (nsJ (looM ls 0 6)).cl).length)).toNat) 2) v1 (shO (looM ls 0 6) (clJ v3 (nextZ ls v2 (iN (boL (nsJ (looM ls 0 6)).cl).length)) (IntKind.i64.wrap (nextZ ls (v2+1+1) 3-1)))) ((0:Int)) ((0:Int)) (v2+1+1+1) (clJ v3 (nextZ ls v2 (iN (boL (nsJ (looM ls 0 6)).cl).length)) (IntKind.i64.wrap (nextZ ls (v2+1+1) 3-1)))))) (aj (aj a17 (u2 s2)) (k5 t9)) (by simp[up,upF,upV,upH,upB,sstSt,gL,boL,lI,sA,bA]))))))
  (fun a4=>
  .gu fun a5=>
  .gu fun a6=>
  .gu fun a7=>
  .gu fun a8=>
  have c2:=opn_j (v3.cl) (v3.bw) (v3.pe) (nextZ ls v2 (iN (boL (nsJ (looM ls 0 6)).cl).length)) a5 a6 a7 a8;
  .rn 1 [184] [] [(53,hK c2 [] [])] [] (aj a4 (aj (u2 (u2 (u2 (aj (k3 (aj t9 (aj t4 (ak (al (c2)))))) (u2 (u2 (u2 (ak (aj (k2 n11) s2))))))))) (al (u2 s2)))) <|
  .gu fun a9=>
  .gu fun a10=>
  .gu fun a11=>
  have c3:=ssh_c ((opJ v3 (nextZ ls v2 (iN (boL (nsJ (looM ls 0 6)).cl).length))).cl) ((opJ v3 (nextZ ls v2 (iN (boL (nsJ (looM ls 0 6)).cl).length))).bw) ((opJ v3 (nextZ ls v2 (iN (boL (nsJ (looM ls 0 6)).cl).length))).pe) a5;
  .rn 1 [] [] [(113,hK c3 [] [])] [] (ak (aj (u2 (u2 (u2 (aj (k2 (show Nat.le 1 [AV.agg [AV.lst (List.map AV.bool v3.cl),AV.lst (List.map (iv) v3.bw),AV.lst (List.map (iv) v3.pe)]].length from(Nat.le_of_ble_eq_true rfl))) (aj (k2 (aj a9 a10)) (al (ak a11))))))) (al (u2 (u2 (aj (k2 (aj t9 (aj t4 (al (c3))))) (u2 (u2 (u2 (u2 s2)))))))))) <|
  .br (fun a12=>
   .rt [237] [] [] [] [] [] (aj (aj (u2 (u2 (u2 (aj a12 (aj a12 (aj a12 (aj a12 (ag a12 (u2 (k5 (aj t3 (u2 (ak (k3 (al t3))))))))))))))) (ak s2)) t2))
  (fun a12=>
   .br (fun a13=>
   .rt [236,249] [] [] [] [] [] (aj (aj (u2 (u2 (u2 (ag a12 (ag a12 (ag a12 (aj (aj a12 t3) (ag a12 (u2 (aj a13 (aj a13 (aj a13 (aj a13 (aj a13 (ag a13 (u2 (ak (k3 (al t3))))))))))))))))))) (ak s2)) t2))
   (fun a13=>
   .br (fun a14=>
    .rt [236,248,263] [] [] [] [] [] (aj (aj (u2 (u2 (u2 (ag a12 (ag a12 (ag a12 (aj (aj a12 t3) (ag a12 (u2 (ag a13 (ag a13 (ag a13 (ag a13 (aj (aj a13 t3) (ag a13 (u2 (aj a14 (aj a14 (aj a14 (aj a14 (al (aj a14 t2)))))))))))))))))))))) (ak s2)) t2))
   (fun a14=>
    have c4:=sva_c ((opJ v3 (nextZ ls v2 (iN (boL (nsJ (looM ls 0 6)).cl).length))).cl) ((opJ v3 (nextZ ls v2 (iN (boL (nsJ (looM ls 0 6)).cl).length))).bw) ((opJ v3 (nextZ ls v2 (iN (boL (nsJ (looM ls 0 6)).cl).length))).pe) a5;
    .rn 0 [236,248,262] [] [(134,hK c4 [] [])] [] (al (u2 (u2 (u2 (ag a12 (ag a12 (ag a12 (aj (aj a12 t3) (ag a12 (u2 (ag a13 (ag a13 (ag a13 (ag a13 (aj (aj a13 t3) (ag a13 (u2 (ag a14 (ag a14 (aj (aj a14 (k2 (aj t9 (aj t4 (al (c4)))))) (ag a14 (al (aj a14 t2))))))))))))))))))))))) <|
    .br (fun a15=>
    .rt [236,248,262,273] [] [] [] [] [] (aj (aj a15 s2) t2))
    (fun a15=>
    .lq [236,248,262,272] [] [] [] [] [0,1,2,3] [3,4,5,7,8,9,17,19,20] (up [(8,AV.sl 3 0 v0.length)] [(3,(List.map (iv) v0).set (0+(nextZ ls v2 (iN (boL (nsJ (looM ls 0 6)).cl).length)).toNat) (iv 0))] (sstSt ls (.l1 (v0.set (0+(nextZ ls v2 (iN (boL (nsJ (looM ls 0 6)).cl).length)).toNat) 0) v1 (shO (looM ls 0 6) (opJ v3 (nextZ ls v2 (iN (boL (nsJ (looM ls 0 6)).cl).length)))) ((0:Int)) ((0:Int)) (v2+1+1) (opJ v3 (nextZ ls v2 (iN (boL (nsJ (looM ls 0 6)).cl).length)))))) (aj (aj a15 (u2 s2)) (k5 t9)) (by simp[up,upF,upV,upH,upB,sstSt,gL,boL,lI,sA,bA]))))))))
 (fun a0=>
 .rt [82] [] [] [] [] [] (aj (aj a0 s2) t2))) (by kernel_rfl)
theorem sstS1_ok(ls v0:List Int)(v1:Int)(v2:List Bool)(v3 v4:Int)(v5:Nat)(v6:SigD)(o:sstPc⊕Ret)(h:sstS1 ls v0 v1 v2 v3 v4 v5 v6=some o):Arr Try.prog Try.f4 0 (sstSt ls) sstHd (headC Try.f4 1) (.rnd (headC Try.f4 1)::headK Try.f4 1) (sstSt ls (.l1 v0 v1 v2 v3 v4 v5 v6)) o:=
 Scr.ok h mix (
 .rn 0 [] [] [] [] (al (u2 (u2 (al t3)))) <|
 .br (fun a0=>
 .gu fun a1=>
 .el fun x144 a2=>
 .gu fun a3=>
 .el fun x149 a4=>
 .br (fun a5=>
  .rt [279,305] [(144,AV.bool x144),(149,iv x149)] [] [] [] [] (aj (aj a0 (aj (u2 (u2 (aj (k2 (aj a1 (getMap (f:=AV.bool) a2))) (u2 (u2 (u2 (aj (k2 (aj a1 a3)) (aj (ak (getMap (f:=iv) a4)) (u2 (aj t3 (u2 (aj a5 (aj a5 (aj a5 (aj a5 (aj a5 (aj a5 (aj a5 (aj a5 (aj a5 (aj a5 (aj a5 (ag a5 (u2 (k5 (k5 (al t3))))))))))))))))))))))))))) (ak s2))) t2))
 (fun a5=>
  .el fun x156 a6=>
  .el fun x161 a7=>
  .br (fun a8=>
  .rt [279,304,331] [(144,AV.bool x144),(149,iv x149),(156,AV.bool x156),(161,iv x161)] [] [] [] [] (aj (aj a0 (aj (u2 (u2 (aj (k2 (aj a1 (getMap (f:=AV.bool) a2))) (u2 (u2 (u2 (aj (k2 (aj a1 a3)) (aj (ak (getMap (f:=iv) a4)) (u2 (aj t3 (u2 (ag a5 (ag a5 (ag a5 (aj (aj a5 (k2 (aj a1 (getMap (f:=AV.bool) a6)))) (ag a5 (ag a5 (ag a5 (aj (aj a5 (k2 (aj a1 a3))) (aj (aj a5 (ak (getMap (f:=iv) a7))) (ag a5 (aj (aj a5 t3) (ag a5 (u2 (aj a8 (aj a8 (aj a8 (aj a8 (aj a8 (aj a8 (aj a8 (aj a8 (aj a8 (aj a8 (al (aj a8 t2)))))))))))))))))))))))))))))))))))) (ak s2))) t2))
  (fun a8=>
  .gu fun a9=>
  .el fun x173 a10=>
  have c0:=has_ct (v6.pe) v4 a9;
  .rn 0 [279,304,330] [(144,AV.bool x144),(149,iv x149),(156,AV.bool x156),(161,iv x161),(173,iv x173)] [(169,hK c0 [] [])] [] (aj a0 (al (u2 (u2 (aj (k2 (aj a1 (getMap (f:=AV.bool) a2))) (u2 (u2 (u2 (aj (k2 (aj a1 a3)) (aj (ak (getMap (f:=iv) a4)) (u2 (aj t3 (u2 (ag a5 (ag a5 (ag a5 (aj (aj a5 (k2 (aj a1 (getMap (f:=AV.bool) a6)))) (ag a5 (ag a5 (ag a5 (aj (aj a5 (k2 (aj a1 a3))) (aj (aj a5 (ak (getMap (f:=iv) a7))) (ag a5 (aj (aj a5 t3) (ag a5 (u2 (ag a8 (ag a8 (ag a8 (aj (aj a8 (ak (k3 (al (c0))))) (ag a8 (ag a8 (aj (aj a8 (k2 (aj a1 a3))) (aj (aj a8 (ak (getMap (f:=iv) a10))) (ag a8 (aj (aj a8 t3) (al (aj a8 t2)))))))))))))))))))))))))))))))))))))) <|
  .br (fun a11=>
   .rt [304,330,353] [] [] [] [] [] (aj (aj a11 s2) t2))
  (fun a11=>
   .el fun x180 a12=>
   .rn 0 [304,330,352] [(180,iv x180)] [] [] (aj a11 (al (u2 (u2 (aj (k2 (aj a1 a3)) (aj (ak (getMap (f:=iv) a12)) s2)))))) <|
   .br (fun a13=>
   .lp [304,330,363] [] [] [] [] [0,1,2,3] [3,4,5,7,8,9,17,19,20] (aj (aj a13 (aj (u2 (u2 s2)) (al (u2 (u2 s2))))) (k5 t9)))
   (fun a13=>
   .lp [304,330,362] [] [] [] [] [0,1,2,3] [3,4,5,7,8,9,17,19,20] (aj (aj a13 (al (u2 (u2 s2)))) (k5 t9)))))))
 (fun a0=>
 .rn 0 [278] [] [] [] (aj a0 (al (u2 (u2 (u2 (u2 (al t3))))))) <|
 .br (fun a1=>
  .rt [377] [] [] [] [] [] (aj (aj a1 s2) t2))
 (fun a1=>
  .lp [376] [] [] [] [] [0,1,2,3] [3,4,5,7,8,9] (aj (aj a1 (al (u2 (u2 s2)))) (k2 t9))))) (by kernel_rfl)
theorem sst_ct(ls:List Int)(r:Ret)(h:MReach (sstStep ls) (sstEn ls) r):CT Try.prog 4 ([]) ([lI ls]) r.1 r.2:=
 CT.mach (fn:=Try.f4) (c:=zB Try.f4) (S:=sstSt ls) (hd:=sstHd) Try.func4 (by kernel_rfl) (Nat.le_of_ble_eq_true rfl)
  (fun s o ho=>match s,ho with
   | .l0 v0 v1 v2 v3,ho=>sstS0_ok ls v0 v1 v2 v3 o ho
   | .l1 v0 v1 v2 v3 v4 v5 v6,ho=>sstS1_ok ls v0 v1 v2 v3 v4 v5 v6 o ho
  )
  (fun o ho=>sstEn_ok ls o ho) h
theorem anJ_ok{n:NetD}{s:SigD}{x:Int}(hv:ValidN n)(hs:SigOk n s)(h:anE n s x=0):SigOk n (anJ n s x)∧anJ n s x=anS s x∧(0≤x∧x<(n.bs.length:Int))∧s.cl.getD x.toNat true=false∧x∉s.pe:=by
 obtain⟨_,hx,hg⟩:=anE_ok h
 rw[shtS_get hv hs,Int.toNat_of_nonneg hx.1,Bool.or_eq_false_iff] at hg
 have hp:x∉s.pe:=fun hm=>by rw[hasZ_iff.2 hm] at hg;cases hg.2
 have e:anJ n s x=anS s x:=by unfold anJ anO;rw[if_pos h]
 exact⟨by rw[e];exact anS_ok hs hx hg.1 hp,e,hx,hg.1,hp⟩
theorem wt_rng(s:SigD)(i:Nat):0≤wtV s i∧wtV s i≤2:=by unfold wtV;split<;>(try split)<;>omega
theorem st_facts{n:NetD}{s:SigD}(hv:ValidN n)(hs:SigOk n s)(i:Nat):(shtS s).getD i true=decide (0<wtV s i)∧s.cl.getD i true=(wtV s i==2)∧hasZ s.pe (i:Int)=(wtV s i==1):=by
 rw[shtS_get hv hs]
 unfold wtV
 cases hc:s.cl.getD i true with
 | true=>
  have hp:hasZ s.pe (i:Int)=false:=by
   cases h:hasZ s.pe (i:Int) with
   | false=>rfl
   | true=>
    have:=(hs.pb _ (hasZ_iff.1 h)).2.2
    rw[Int.toNat_natCast,hc] at this;cases this
  rw[hp,if_pos rfl];exact⟨rfl,rfl,rfl⟩
 | false=>
  rw[if_neg (by simp)]
  cases h:hasZ s.pe (i:Int) with
  | true=>rw[if_pos (hasZ_iff.1 h)];exact⟨rfl,rfl,rfl⟩
  | false=>rw[if_neg fun hm=>by rw[hasZ_iff.2 hm] at h;cases h];exact⟨rfl,rfl,rfl⟩
theorem sst_leaf{α:Type}{n:NetD}{s:SigD}{C:Nat}(hv:ValidN n)(hs:SigOk n s)(hC:C=celN n){F K:Option α}:
  br (shE n s != 0) F (br (iN (boL (shO n s)).length != iN C) F (br (iN (boL s.cl).length != iN C) F (br (!sigB n s) F K)))=K:=by
 have hb:=ks_b hv hs
 have e1:shE n s=0:=by unfold shE;rw[hb];rfl
 have e2:shO n s=shtS s:=by unfold shO;rw[hb];rfl
 have lc:=hs.lc
 rw[e1,e2,boL_len,boL_len,shtS_len,lc,hC,hb,br_f (by rfl),br_f (bne_self_eq_false _),br_f (bne_self_eq_false _),br_f (by rfl)]
theorem sst_in(ls:List Int){s:SigD}(hs:SigOk (looM ls 0 6) s)(k kk:Nat)(hk:k≤25)(r:Ret)(h:MReach (sstStep ls) (some (.inl (.l0 (wantS s) ((k+1:Nat):Int) kk s))) r):
  MReach (sstStep ls) (some (.inl (.l1 (wantS s) (k:Int) (shO (looM ls 0 6) s) 0 0 kk s))) r:=by
 have hv:=(loo_spec (L:=ls) (kk:=0) (most:=6) (by omega) (by omega)).1.v
 have h48:=celN_le hv
 have hC:(boL (nsJ (looM ls 0 6)).cl).length=celN (looM ls 0 6):=by rw[boL_len,nsJ_eq];exact List.length_replicate ..
 have lc:=hs.lc
 have e2:shO (looM ls 0 6) s=shtS s:=by unfold shO;rw[ks_b hv hs];rfl
 have hpl:=(sig_len (ks_b hv hs)).2.2.2.2.1
 rw[e2]
 refine loop_up (fun i=>sstPc.l1 (wantS s) (k:Int) (shtS s) (pnI s i) (i:Int) kk s) (celN (looM ls 0 6)) (fun i hi hr=>?_) ?_
 ·refine .to (show sstS1 ls (wantS s) k (shtS s) (pnI s i) i kk s=_ from ?_) hr
  obtain⟨f1,f2,f3⟩:=st_facts hv hs i
  have hw:=wt_rng s i
  have hp:=pnI_rng s i
  have g1:∀{β:Type} {f:Bool→Option β},el (shtS s) (i:Int).toNat f=f ((shtS s).getD i true):=fun {β f}=>elG true (by rw[shtS_len];omega)
  have g2:∀{β:Type} {f:Int→Option β},el (wantS s) (0+(i:Int).toNat) f=f (wtV s i):=fun {β f}=>by rw[Nat.zero_add,elG 0 (by rw[want_len];omega),want_get (by omega)]
  have g3:∀{β:Type} {f:Bool→Option β},el s.cl (i:Int).toNat f=f (s.cl.getD i true):=fun {β f}=>elG true (by omega)
  unfold sstS1
  rw[hC,br_t (dec_t (by simp only[iN];omega)),gu_t (by omega),g1,gu_t (by rw[want_len];simp only[iN];omega),g2,f1,br_f (by simp),g3,g2,f2,br_f (by simp),gu_t (by omega),g2,f3,br_f (by simp),g2,zW i (by omega)]
  rw[show pnI s (i+1)=pnI s i+if wtV s i=1 then 1 else 0 from rfl]
  by_cases h1:wtV s i=1
  ·rw[br_t (beq_iff_eq.2 h1),if_pos h1,wrap_in (by omega) (by omega)]
  ·rw[br_f (beq_eq_false_iff_ne.2 h1),if_neg h1,Int.add_zero]
 ·refine .to (show sstS1 ls (wantS s) k (shtS s) (pnI s (celN (looM ls 0 6))) (celN (looM ls 0 6):Nat) kk s=_ from ?_) h
  have hp:=pn_all hv hs
  rw[lc] at hp
  unfold sstS1
  rw[hC,br_f (dec_f (by simp only[iN];omega)),hp,br_f (by simp[iN]),zW k (by omega)]
theorem sst_step(ls:List Int){s:SigD}(hs:SigOk (looM ls 0 6) s)(k kk:Nat)(hk:k<25)(hkk:kk≤1000+3 * k)
  (go:∀(s':SigD) (kk':Nat),SigOk (looM ls 0 6) s'→kk'≤1000+3 * (k+1)→MReach (sstStep ls) (some (.inl (.l0 (wantS s') ((k+1:Nat):Int) kk' s'))) ([],.bool true)):
  MReach (sstStep ls) (some (.inl (.l0 (wantS s) (k:Int) kk s))) ([],.bool true):=by
 have hl:=(loo_spec (L:=ls) (kk:=0) (most:=6) (by omega) (by omega)).1
 have hv:=hl.v
 have h48:=celN_le hv
 have h24:=hv.nb24
 have hC:(boL (nsJ (looM ls 0 6)).cl).length=celN (looM ls 0 6):=by rw[boL_len,nsJ_eq];exact List.length_replicate ..
 have lc:=hs.lc
 have hwl:=want_len s
 have hx:=nextZ_rng ls kk (iN (boL (nsJ (looM ls 0 6)).cl).length) (by simp only[iN];omega) (by simp only[iN];omega)
 have hr3:=nextZ_rng ls (kk+1+1) 3 (by omega) (by omega)
 suffices hsx:∃o,sstS0 ls (wantS s) k kk s=o∧MReach (sstStep ls) o ([],.bool true) by
  obtain⟨o,h1,h2⟩:=hsx
  exact .to (show sstS0 ls (wantS s) k kk s=o from h1) h2
 unfold sstS0
 rw[br_t (dec_t (by omega)),gu_t (by omega),gu_t (by omega)]
 generalize nextZ ls kk (iN (boL (nsJ (looM ls 0 6)).cl).length)=x at hx ⊢
 have hxc:0≤x∧x<(celN (looM ls 0 6):Int):=⟨hx.1,by have:=hx.2;simp only[iN] at this;omega⟩
 have hin:=fun(s':SigD) (kk':Nat) (h1:SigOk (looM ls 0 6) s') (h2:kk'≤1000+3 * (k+1))=>sst_in ls h1 k kk' (by omega) _ (go s' kk' h1 h2)
 obtain⟨f1,f2,f3⟩:=st_facts hv hs x.toNat
 have hw:=wt_rng s x.toNat
 have hg:(wantS s)[x.toNat]?=some (wtV s x.toNat):=by rw[getE 0 (show x.toNat<(wantS s).length by omega),want_get (by omega)]
 have hgu:∀(v:Int),Nat.le (0+x.toNat).succ (List.map (AV.int .i64) (wantS s)).length:=fun v=>by rw[List.length_map,hwl];show 0+x.toNat+1≤_;omega
 by_cases c0:nextZ ls (kk+1) 3=0
 ·rw[br_t (beq_iff_eq.2 c0),gu_t hl.rows]
  by_cases hb:x<((looM ls 0 6).bs.length:Int)
  ·rw[br_t (dec_t (by simp only[iN,List.length_map];exact hb)),gu_t hx.1,gu_t (by simp only[iN];omega),Nat.zero_add,el_t hg]
   have ea:(anE (looM ls 0 6) s x==0)=(wtV s x.toNat==0):=by
    rw[Bool.eq_iff_iff,beq_iff_eq,beq_iff_eq]
    constructor
    ·intro h
     have:=(anE_ok h).2.2
     rw[f1] at this
     have:=of_decide_eq_false this
     omega
    ·intro h
     exact anE_zero (ks_b hv hs) ⟨hx.1,hb⟩ (by rw[f1,h];rfl)
   rw[ea,br_f (by simp)]
   by_cases h0:wtV s x.toNat=0
   ·have ha:anE (looM ls 0 6) s x=0:=by rw[h0] at ea;exact beq_iff_eq.1 ea
    obtain⟨g1,g2,_,g4,_⟩:=anJ_ok hv hs ha
    have gu0:=hgu 0
    rw[Nat.zero_add] at gu0
    rw[br_t (beq_iff_eq.2 h0),gu_t gu0,want_an hx.1 (by omega) g4,←g2]
    exact⟨_,sst_leaf hv g1 hC,hin _ _ g1 (by omega)⟩
   ·rw[br_f (beq_eq_false_iff_ne.2 h0)]
    exact⟨_,sst_leaf hv hs hC,hin _ _ hs (by omega)⟩
  ·have ha:(anE (looM ls 0 6) s x==0)=false:=beq_eq_false_iff_ne.2 fun h=>hb (anE_ok h).2.1.2
   rw[br_f (dec_f (by simp only[iN,List.length_map];exact hb)),ha,br_f (by rfl),br_f rfl]
   exact⟨_,sst_leaf hv hs hC,hin _ _ hs (by omega)⟩
 ·rw[br_f (beq_eq_false_iff_ne.2 c0)]
  have gu0:=hgu 0
  rw[Nat.zero_add] at gu0
  by_cases c1:nextZ ls (kk+1) 3=1
  ·have hw1:IntKind.i64.wrap (nextZ ls (kk+1+1) 3-1)=nextZ ls (kk+1+1) 3-1:=wrap_in (by omega) (by omega)
   rw[br_t (beq_iff_eq.2 c1),gu_t (by omega),gu_t hl.rows,gu_t hv,gu_t hs,gu_t hxc,hw1,gu_t ⟨by omega,by omega⟩,gu_t hx.1,gu_t (by simp only[iN];omega),Nat.zero_add,gu_t gu0]
   have g1:SigOk (looM ls 0 6) (clJ s x (nextZ ls (kk+1+1) 3-1)):=by unfold clJ;exact clS_ok hs hxc ⟨by omega,by omega⟩
   have g2:(wantS s).set x.toNat 2=wantS (clJ s x (nextZ ls (kk+1+1) 3-1)):=by unfold clJ;exact want_cl hx.1 (by omega)
   rw[g2]
   exact⟨_,sst_leaf hv g1 hC,hin _ _ g1 (by omega)⟩
  ·rw[br_f (beq_eq_false_iff_ne.2 c1),gu_t hl.rows,gu_t hv,gu_t hs,gu_t hxc,gu_t hx.1,gu_t (by simp only[iN];omega),Nat.zero_add,gu_t gu0]
   have g1:SigOk (looM ls 0 6) (opJ s x):=by unfold opJ;exact opS_ok hs hxc
   have g2:(wantS s).set x.toNat 0=wantS (opJ s x):=by unfold opJ;exact want_op hx.1 (by omega)
   rw[g2]
   exact⟨_,sst_leaf hv g1 hC,hin _ _ g1 (by omega)⟩
theorem sst_all(ls:List Int):∀(m k:Nat) (kk:Nat) (s:SigD),m+k=25→SigOk (looM ls 0 6) s→kk≤1000+3 * k→
  MReach (sstStep ls) (some (.inl (.l0 (wantS s) (k:Int) kk s))) ([],.bool true):=by
 intro m
 induction m with
 | zero=>
  intro k kk s hk _ _
  refine .to (show sstS0 ls (wantS s) k kk s=_ from ?_) (.ret _)
  unfold sstS0
  rw[br_f (dec_f (by omega))]
 | succ m ih=>
  intro k kk s hk hs hkk
  exact sst_step ls hs k kk (by omega) hkk fun s' kk' g1 g2=>ih (k+1) kk' s' (by omega) g1 g2
theorem sst_run(ls:List Int):CT Try.prog 4 [] [lI ls] [] (.bool true):=by
 obtain⟨hl,hk,_⟩:=loo_spec (L:=ls) (kk:=0) (most:=6) (by omega) (by omega)
 have h48:=celN_le hl.v
 have hC:(boL (nsJ (looM ls 0 6)).cl).length=celN (looM ls 0 6):=by rw[boL_len,nsJ_eq];exact List.length_replicate ..
 have hs:SigOk (looM ls 0 6) (nsJ (looM ls 0 6)):=by rw[nsJ_eq];exact newS_ok _
 have e:List.replicate (boL (nsJ (looM ls 0 6)).cl).length (0:Int)=wantS (nsJ (looM ls 0 6)):=by
  rw[hC,nsJ_eq]
  apply List.ext_getElem?
  intro i
  unfold wantS
  have hlr:(newS (looM ls 0 6)).cl.length=celN (looM ls 0 6):=List.length_replicate ..
  rw[List.getElem?_map,hlr,List.getElem?_replicate]
  by_cases hi:i<celN (looM ls 0 6)
  ·rw[if_pos hi,List.getElem?_range hi]
   show some (0:Int)=some (wtV (newS (looM ls 0 6)) i)
   unfold wtV
   rw[show (newS (looM ls 0 6)).cl.getD i true=false from getR hi,if_neg (by simp),if_neg (by show ¬(i:Int)∈([]:List Int);simp)]
  ·rw[if_neg hi,List.getElem?_eq_none (by rw[List.length_range];omega)];rfl
 refine sst_ct ls ([],_) ?_
 unfold sstEn
 rw[gu_t hl.v,gu_t hl.rows,gu_t (by simp only[iN];omega),gu_t (by simp only[iN];omega),e]
 exact sst_all ls 25 0 (looK ls 0 6) _ rfl hs (by omega)
theorem signalsStates_row(avs:List AV)(h:ShVs Try.prog 6 Try.f4.params.toList avs):CT Try.prog 4 [] avs [] (.bool true):=by
 rw[Try.params4] at h
 obtain⟨a,_,rfl,ka,h⟩:=h.consD
 obtain rfl:=h.nilD
 obtain⟨_,_,he,rfl⟩:=ka.sliceD Try.underlying22
 obtain⟨l,rfl⟩:=rdInts he
 exact sst_run l
end Go.Proofs.Ytedjkebooffjpaa

/- Parts of the proof:SgH,Rp1m,RpA,Rp2m,RpB,Rp3m,RpC,Sg3m,SgF,SgI,SgG,ItD,ItE,ItF,ItG,It4m,ItH,It3m,ItI,It5m,It6m,ItJ,It8m,ItK,It9m,ItL,It10m,ItM,It11m,It7m,ItN,Sg4m,SgJ,SgK,It12m,It13m,ItO,ItQ,ItR,Sg6m,SgL,Sg5m,SgM,SpC,SgN,Sg7m,SgO,Sg8m,SgQ,Sg9m,SgR,Sgam,SgS,SgT,Sgbm,SgU,Sgcm,SgV,RqD,SgW,Sgdm,SgX,Sh1,Si0,AxSd. -/
import Derived.KernelRfl
import Derived.Test.YtedjkebooffjpaaProg
import Derived.Test.YtedjkebooffjpaaItineraryOpenM6
noncomputable section
set_option linter.unusedVariables false
set_option linter.unusedSimpArgs false
open Go Go.AX Go.Proofs
set_option maxRecDepth 100000
set_option linter.unusedVariables false
set_option linter.unusedSimpArgs false
namespace Go.Proofs.Ytedjkebooffjpaa
theorem ok_eqNilS{P:Program}{o:Oper}{ev:Operand→AV}{h:Hp}{nb:Nat}{t t' e:TypeId}{x y:Operand}(ho:o.op = .binOp .eql t x y t')(hu:P.underlying t=some (.slice e))(hx:ev x = .lst [])(hy:ev y = .nils):
  OpOKs P o ev h nb (fun R=>∃b,R={v:=.bool b}):=by
 intro φ A w a K Q hA hv hh hn k
 have h1:=hv x;rw[hx] at h1
 have h2:=hv y;rw[hy] at h2;have h2:=h2.nils_inv
 have hs:∃ad c,a.eval x = .slice ad 0 c:=by
  rcases h1.lst_inv with ⟨_,ad,he⟩ | ⟨r,o',cap,z,g,he,_⟩
  ·exact⟨ad,0,he⟩
  ·exact⟨_,cap,he⟩
 obtain⟨ad,c,he⟩:=hs
 have key:∃b,(execOp a.eval o).run P w = .ok (.value (.bool b)) w:=by
  have hg:(eqGuard .eql t x y (.slice ad 0 c) (.slice none 0 0)).run P w = .ok () w:=by unfold eqGuard;split<;>simp_all
  have hr:∃b,(Op.equal t (.slice ad 0 c) (.slice none 0 0)).run P w = .ok b w:=by
   have key:∀d,∃b,(Op.equalIn (d+1) t (.slice ad 0 c) (.slice none 0 0)).run P w = .ok b w:=by
    intro d
    cases ad with
    | none=>exact⟨true,by simp[Op.equalIn,run_underlying hu]⟩
    | some ad=>exact⟨false,by simp[Op.equalIn,run_underlying hu]⟩
   exact key 9999
  obtain⟨b,hr⟩:=hr
  refine⟨b,?_⟩
  simp only[execOp,ho,he,h2,Sem.run_bind,hg,Result.andThen_ok,binOp,hr];rfl
 obtain⟨b,hb⟩:=key
 have hv1:OpOK P o ev h nb {v:=.bool b}→True:=fun _=>trivial
 unfold Oper.wp
 rw[hb]
 refine k {v:=.bool b} _ w φ ⟨b,rfl⟩ ⟨Keep.refl _ w,fun _ _=>rfl,fun b hb=>hn b (by simpa using hb),fun b r z hb h=>?_,fun b b' r z z' hb _ h _=>?_,.imm _ _ (.bool _),fun b blk hm=>by simp at hm,fun blk hm=>by simp at hm,?_,?_⟩
 ·rw[hn b hb] at h;cases h
 ·rw[hn b hb] at h;cases h
 ·intro b blk hm;simp at hm
 ·intro b blk hm;simp at hm
theorem cl55_e:CT Try.prog 55 [] [.lst []] [some (Blk.mk [] 1 true true none)] (.sl 0 0 0):=by
 refine CT.of Try.func55 (show Try.f55.body=some (zB Try.f55) from by kernel_rfl) (Nat.le_of_ble_eq_true rfl) ?_
 refine T.seq ?_
 refine T.ops (st':=?st1) ?steps1 ?post1
 case steps1=>
  refine .av (.nils) rfl rfl rfl (by kernel_rfl) ?_
  exact .nil _
 show T Try.prog 0 _ _ _
 refine T.seq (T.seq ?_)
 refine T.opsN (.val (v:=.lst []) (noG rfl) rfl (Nat.le_of_ble_eq_true rfl) (aop_sound (hint:=.no) (R:={v:=.lst []}) (p:=True) (by kernel_rfl) trivial).1 (.one (S:=fun R=>∃b,R={v:=.bool b}) (noG rfl) (ok_eqNilS (e:=4) rfl (by kernel_rfl) rfl rfl) (fun R hR=>?_) (fun R hR=>?_)))
 ·obtain⟨b,rfl⟩:=hR
  exact⟨OpR.fits_value _ _,fun b hb=>by simp at hb,fun d hd=>by cases hd;exact Nat.le_of_ble_eq_true rfl⟩
 obtain⟨b,rfl⟩:=hR
 refine .nil ?_
 cases b with
 | true=>
  refine T.cond_true rfl (T.seq ?_)
  refine T.ops (st':=?st2) ?steps2 ?post2
  case steps2=>
   refine .av (.nils) rfl rfl rfl (by kernel_rfl) ?_
   exact .nil _
  refine T.ret ?_
  refine⟨.inr rfl,.nils,⟨Try.f55.ntmps,[(0,.sl 0 0 0)],[some (Blk.mk [] 1 true true none)]⟩,rfl,Ren.less rfl (Nat.zero_le _) (fun s=>?_) (fun b blk hb=>?_),rfl,rfl,(Nat.le_of_ble_eq_true rfl)⟩
  ·cases s with
   | zero=>exact .nilS _ _
   | succ s=>exact .refl _
  ·cases b with
   | zero=>simp[nth] at hb;subst hb;exact .inr ⟨Nat.le_refl _,rfl,rfl,rfl,rfl⟩
   | succ b=>simp[nth] at hb
 | false=>
  refine T.cond_false rfl (T.skip ?_)
  refine T.seq ?_
  refine T.ops (st':=?st3) ?steps3 ?post3
  case steps3=>
   refine .new (v:=.sl 0 0 0) (blk:=Blk.mk [] 1 true true none) rfl rfl (Nat.le_of_ble_eq_true rfl) (aop_sound (hint:=.no) (R:={v:=.sl 0 0 0,new:=[Blk.mk [] 1 true true none]}) (p:=True) (by kernel_rfl) trivial).1 ?_
   refine .av (.lst []) rfl rfl rfl (by kernel_rfl) ?_
   refine .move (v:=.sl 1 0 0) (b:=0) (blk:=Blk.mk [] 1 true true none) rfl rfl (Nat.le_of_ble_eq_true rfl) rfl rfl (Nat.zero_le _) (aop_sound (hint:=.no) (R:={v:=.sl 1 0 0,dead:=[0],new:=[Blk.mk [] 1 true true none]}) (p:=0=0∧SrcFit (nth [some (Blk.mk [] 1 true true none)]) 1 (.lst [])∧0+0≤9223372036854775807∧(0+0) * 1≤140737488355328) (by kernel_rfl) ⟨rfl,(fun e he=>by cases he),(by omega),(by omega)⟩).1 ?_
   refine .av (.sl 1 0 0) rfl rfl rfl (by kernel_rfl) ?_
   exact .nil _
  refine T.ret ?_
  exact⟨.inr rfl,.sl 1 0 0,⟨Try.f55.ntmps,[(0,.sl 0 0 0)],[some (Blk.mk [] 1 true true none)]⟩,rfl,Ren.of (p:=True∧True∧True) [1] [] [0] (by kernel_rfl) ⟨trivial,trivial,trivial⟩ rfl rfl rfl,rfl,rfl,(Nat.le_of_ble_eq_true rfl)⟩
end Go.Proofs.Ytedjkebooffjpaa
set_option maxHeartbeats 4000000
namespace Go.Proofs.Ytedjkebooffjpaa
def rpV(c m:Nat):List Int:=List.replicate m (-1)++List.replicate (c-m) 0
theorem rpV_len{c m:Nat}(h:m≤c):(rpV c m).length=c:=by unfold rpV;simp;omega
inductive svaPc where
 | l0 (v0:Int)
 | l1 (v0:Int)
def svaSt(n:NetD)(q:SigD):svaPc→St
 | .l0 v0=>St.mk 101 [(2,AV.ptr 0 0 0),(3,AV.ptr 1 0 0),(42,AV.lst (List.map (iv) q.bw)),(43,iv (iN (List.map (iv) q.bw).length)),(44,iv v0)] [some (Blk.mk [netA n] 8 true true none),some (Blk.mk [AV.agg [AV.lst (boL q.cl),AV.lst (List.map (iv) q.bw),AV.lst (List.map (iv) q.pe)]] 3 true true none)]
 | .l1 v0=>St.mk 101 [(2,AV.ptr 0 0 0),(3,AV.ptr 1 0 0),(69,AV.lst (List.map (iv) q.pe)),(70,iv (iN (List.map (iv) q.pe).length)),(71,iv v0)] [some (Blk.mk [netA n] 8 true true none),some (Blk.mk [AV.agg [AV.lst (boL q.cl),AV.lst (List.map (iv) q.bw),AV.lst (List.map (iv) q.pe)]] 3 true true none)]
def svaHd:svaPc→Nat
 | .l0 _=>0
 | .l1 _=>1
def svaEn(n:NetD)(q:SigD):Option (svaPc⊕Ret):=
 gu (Rows n.nx) <|
 br (cntE n != 0)
 (some (.inr ([],AV.bool false)))
 (br (iN (boL q.cl).length != cntZ n)
  (some (.inr ([],AV.bool false)))
  (br (iN (List.map (AV.int IntKind.i64) q.bw).length != cntZ n)
   (some (.inr ([],AV.bool false)))
   (br (decide (iN (List.map bA n.bs).length<iN (List.map (AV.int IntKind.i64) q.pe).length))
    (some (.inr ([],AV.bool false)))
    (some (.inl (.l0 ((0:Int))))))))
def svaS0(n:NetD)(q:SigD)(v0:Int):Option (svaPc⊕Ret):=
 br (decide (v0<iN (List.map (AV.int IntKind.i64) q.bw).length))
 (gu (0≤v0) <|
  el (q.bw) (v0.toNat) fun(x47:Int)=>
  br (decide (x47 < -1))
  (some (.inr ([],AV.bool false)))
  (br (decide (8≤x47))
   (some (.inr ([],AV.bool false)))
   (br (decide (0≤x47))
    (el (q.cl) (v0.toNat) fun(x62:Bool)=>
     br (!x62)
     (some (.inr ([],AV.bool false)))
     (some (.inl (.l0 (IntKind.i64.wrap (v0+1))))))
    (some (.inl (.l0 (IntKind.i64.wrap (v0+1))))))))
 (some (.inl (.l1 ((0:Int)))))
def svaS1(n:NetD)(q:SigD)(v0:Int):Option (svaPc⊕Ret):=
 br (decide (v0<iN (List.map (AV.int IntKind.i64) q.pe).length))
 (gu (0≤v0) <|
  el (q.pe) (v0.toNat) fun(x74:Int)=>
  br (decide (x74<0))
  (some (.inr ([],AV.bool false)))
  (br (decide (iN (List.map bA n.bs).length≤x74))
   (some (.inr ([],AV.bool false)))
   (gu (0≤x74) <|
    el (q.cl) (x74.toNat) fun(x89:Bool)=>
    br x89
    (some (.inr ([],AV.bool false)))
    (gu (∀(e:AV),e∈List.map (AV.int IntKind.i64) q.pe→e.cells.length=1) <|
     gu (v0≤iN (List.map (AV.int IntKind.i64) q.pe).length) <|
     gu ((List.take (v0.toNat-Int.toNat 0) (List.drop (Int.toNat 0) q.pe)).length≤9000000000000000000) <|
     br (hasZ (List.take (v0.toNat-Int.toNat 0) (List.drop (Int.toNat 0) q.pe)) x74)
     (some (.inr ([],AV.bool false)))
     (some (.inl (.l1 (IntKind.i64.wrap (v0+1)))))))))
 (some (.inr ([],AV.bool true)))
def svaStep(n:NetD)(q:SigD):svaPc→Option (svaPc⊕Ret)
 | .l0 v0=>svaS0 n q v0
 | .l1 v0=>svaS1 n q v0
theorem svaEn_ok(n:NetD)(q:SigD)(o:svaPc⊕Ret)(h:svaEn n q=some o):Arr Try.prog Try.f25 0 (svaSt n q) svaHd (zB Try.f25) [] {n:=Try.f25.ntmps,fr:=enumF 0 ([netA n,sgA q]),hp:=([])} o:=
 Scr.ok h mix (
 .rn 0 [] [] [] [] (al (u2 (u2 t2))) <|
 .gu fun a0=>
 have c0:=cnt_c a0;
 .rn 0 [] [] [(13,hK c0 [] [])] [] (al (u2 (aj (ak (aj t9 (al (c0)))) (u2 (u2 (u2 (u2 s2))))))) <|
 .br (fun a1=>
 .rt [37] [] [] [] [] [] (aj (aj (u2 (u2 (u2 (aj a1 (aj a1 (aj a1 (aj a1 (aj a1 (ag a1 (u2 (k5 (aj t3 (u2 (k2 (k5 (al t3)))))))))))))))) (ak s2)) t2))
 (fun a1=>
 .br (fun a2=>
  .rt [36,51] [] [] [] [] [] (aj (aj (u2 (u2 (u2 (ag a1 (ag a1 (ag a1 (ag a1 (aj (aj a1 t3) (ag a1 (u2 (aj a2 (aj a2 (aj a2 (aj a2 (aj a2 (ag a2 (u2 (k2 (k5 (al t3)))))))))))))))))))) (ak s2)) t2))
 (fun a2=>
  .br (fun a3=>
  .rt [36,50,65] [] [] [] [] [] (aj (aj (u2 (u2 (u2 (ag a1 (ag a1 (ag a1 (ag a1 (aj (aj a1 t3) (ag a1 (u2 (ag a2 (ag a2 (ag a2 (ag a2 (aj (aj a2 t3) (ag a2 (u2 (aj a3 (aj a3 (aj a3 (aj a3 (aj a3 (aj a3 (aj a3 (al (aj a3 t2)))))))))))))))))))))))))) (ak s2)) t2))
  (fun a3=>
  .rn 0 [36,50,64] [] [] [] (al (u2 (u2 (u2 (ag a1 (ag a1 (ag a1 (ag a1 (aj (aj a1 t3) (ag a1 (u2 (ag a2 (ag a2 (ag a2 (ag a2 (aj (aj a2 t3) (ag a2 (u2 (ag a3 (ag a3 (ag a3 (ag a3 (ag a3 (ag a3 (aj (aj a3 t3) (al (aj a3 t2))))))))))))))))))))))))))) <|
  .br (fun a4=>
   .rt [36,50,64,81] [] [] [] [] [] (aj (aj a4 s2) t2))
  (fun a4=>
   .lp [36,50,64,80] [] [] [] [] [0,1] [2,3,42,43,44] (aj (aj a4 (al (u2 (u2 (u2 t2))))) t8)))))) (by kernel_rfl)
theorem svaS0_ok(n:NetD)(q:SigD)(v0:Int)(o:svaPc⊕Ret)(h:svaS0 n q v0=some o):Arr Try.prog Try.f25 0 (svaSt n q) svaHd (headC Try.f25 0) (.rnd (headC Try.f25 0)::headK Try.f25 0) (svaSt n q (.l0 v0)) o:=
 Scr.ok h mix (
 .rn 0 [] [] [] [] (al (al t3)) <|
 .br (fun a0=>
 .gu fun a1=>
 .el fun x47 a2=>
 .rn 0 [91] [(47,iv x47)] [] [] (aj a0 (al (u2 (aj (k2 (aj a1 (getMap (f:=iv) a2))) (u2 (u2 s2)))))) <|
 .br (fun a3=>
  .rt [103] [] [] [] [] [] (aj (aj (u2 (u2 (u2 (aj a3 (aj a3 (ag a3 (u2 (k5 (k5 (al t3)))))))))) (ak s2)) t2))
 (fun a3=>
  .br (fun a4=>
  .rt [102,111] [] [] [] [] [] (aj (aj (u2 (u2 (u2 (ag a3 (ag a3 (ag a3 (u2 (aj a4 (aj a4 (aj a4 (ak (k5 (aj a4 (al (aj a4 t2))))))))))))))) (ak s2)) t2))
  (fun a4=>
  .br (fun a5=>
   .el fun x62 a6=>
   .rn 0 [102,110,117] [(62,AV.bool x62)] [] [] (al (u2 (u2 (u2 (ag a3 (ag a3 (ag a3 (u2 (ag a4 (ag a4 (ag a4 (ag a5 (ag a5 (ag a5 (aj (aj a5 (k2 (aj a1 (getMap (f:=AV.bool) a6)))) (ag a5 (ag a5 (aj (aj a4 (aj a5 t2)) (al (aj a4 t2)))))))))))))))))))) <|
   .br (fun a7=>
   .rt [102,110,117,133] [] [] [] [] [] (aj (aj a7 s2) t2))
   (fun a7=>
   .lp [102,110,117,132] [] [] [] [] [0,1] [2,3,42,43,44] (aj (aj a7 (al (u2 s2))) t8)))
  (fun a5=>
   .lp [102,110,116] [] [] [] [] [0,1] [2,3,42,43,44] (aj (aj (u2 (u2 (u2 (ag a3 (ag a3 (ag a3 (u2 (ag a4 (ag a4 (ag a4 (aj a5 (aj a5 (aj a5 (aj a5 (aj a5 (aj a5 (aj (aj a4 (aj a5 t2)) (al (aj a4 t2))))))))))))))))))) (ak (al (u2 s2)))) t8)))))
 (fun a0=>
 .lp [90] [] [] [] [] [0,1] [2,3,69,70,71] (aj (aj a0 (al (u2 (u2 (u2 t2))))) t8))) (by kernel_rfl)
theorem svaS1_ok(n:NetD)(q:SigD)(v0:Int)(o:svaPc⊕Ret)(h:svaS1 n q v0=some o):Arr Try.prog Try.f25 0 (svaSt n q) svaHd (headC Try.f25 1) (.rnd (headC Try.f25 1)::headK Try.f25 1) (svaSt n q (.l1 v0)) o:=
 Scr.ok h mix (
 .rn 0 [] [] [] [] (al (al t3)) <|
 .br (fun a0=>
 .gu fun a1=>
 .el fun x74 a2=>
 .rn 0 [145] [(74,iv x74)] [] [] (aj a0 (al (u2 (aj (k2 (aj a1 (getMap (f:=iv) a2))) (u2 (u2 s2)))))) <|
 .br (fun a3=>
  .rt [157] [] [] [] [] [] (aj (aj (u2 (u2 (u2 (aj a3 (aj a3 (aj a3 (aj a3 (aj a3 (ag a3 (u2 (k5 (aj t3 (u2 (ak (k5 (al t3)))))))))))))))) (ak s2)) t2))
 (fun a3=>
  .br (fun a4=>
  .rt [156,171] [] [] [] [] [] (aj (aj (u2 (u2 (u2 (ag a3 (ag a3 (ag a3 (ag a3 (aj (aj a3 t3) (ag a3 (u2 (aj a4 (aj a4 (aj a4 (aj a4 (aj a4 (ag a4 (u2 (ak (k5 (al t3)))))))))))))))))))) (ak s2)) t2))
  (fun a4=>
  .gu fun a5=>
  .el fun x89 a6=>
  .br (fun a7=>
   .rt [156,170,185] [(89,AV.bool x89)] [] [] [] [] (aj (aj (u2 (u2 (u2 (ag a3 (ag a3 (ag a3 (ag a3 (aj (aj a3 t3) (ag a3 (u2 (ag a4 (ag a4 (ag a4 (aj (aj a4 (k2 (aj a5 (getMap (f:=AV.bool) a6)))) (ag a4 (ag a4 (u2 (aj a7 (aj a7 (aj a7 (aj a7 (aj a7 (aj a7 (al (aj a7 t2))))))))))))))))))))))))) (ak s2)) t2))
  (fun a7=>
   .gu fun a8=>
   .gu fun a9=>
   .gu fun a10=>
   have c0:=con_c (List.take (v0.toNat-Int.toNat 0) (List.drop (Int.toNat 0) q.pe)) x74 a10;
   .rn 0 [156,170,184] [(89,AV.bool x89)] [(98,hK c0 [] [])] [] (al (u2 (u2 (u2 (ag a3 (ag a3 (ag a3 (ag a3 (aj (aj a3 t3) (ag a3 (u2 (ag a4 (ag a4 (ag a4 (aj (aj a4 (k2 (aj a5 (getMap (f:=AV.bool) a6)))) (ag a4 (ag a4 (u2 (ag a7 (ag a7 (ag a7 (aj (aj a7 (k2 (aj a8 (aj (show(0:Int)≤(0:Int) from(by first | exact Nat.le_of_ble_eq_true rfl | decide)) (aj a1 (aj a9 (show iN (List.map (iv) q.pe).length≤iN (List.map (iv) q.pe).length by omega))))))) (ag a7 (aj (aj a7 (ak (k3 (al (show CT Try.prog 47 [] [AV.lst (List.take (v0.toNat-Int.toNat 0) (List.drop (Int.toNat 0) (List.map (iv) q.pe))),iv x74] [] (AV.bool (hasZ (List.take (v0.toNat-Int.toNat 0) (List.drop (Int.toNat 0) q.pe)) x74)) from CT.eqs (c0) (by first | (simp only[boL,List.map_append,List.map_set,List.map_take,List.map_drop,List.map_replicate,List.nil_append];done) | (simp only[boL,List.map_append,List.map_set,List.map_take,List.map_drop,List.map_replicate,List.nil_append];rfl) | (simp[gL,boL,lI,sA,bA];done) | (simp[gL,boL,lI,sA,bA];rfl) | (simp only[netA,List.map_append,List.map_set,List.map_cons,List.map_nil];rfl)) (by first | (simp only[boL,List.map_append,List.map_set,List.map_take,List.map_drop,List.map_replicate,List.nil_append];done) | (simp only[boL,List.map_append,List.map_set,List.map_take,List.map_drop,List.map_replicate,List.nil_append];rfl) | (simp[gL,boL,lI,sA,bA];done) | (simp[gL,boL,lI,sA,bA];rfl) | (simp only[netA,List.map_append,List.map_set,List.map_cons,List.map_nil];rfl))))))) (al (aj a7 t2)))))))))))))))))))))))))) <|
   .br (fun a11=>
   .rt [156,170,184,199] [] [] [] [] [] (aj (aj a11 s2) t2))
   (fun a11=>
   .lp [156,170,184,198] [] [] [] [] [0,1] [2,3,69,70,71] (aj (aj a11 (al (u2 s2))) t8))))))
 (fun a0=>
 .rt [144] [] [] [] [] [] (aj (aj a0 s2) t2))) (by kernel_rfl)
theorem sva_ct(n:NetD)(q:SigD)(r:Ret)(h:MReach (svaStep n q) (svaEn n q) r):CT Try.prog 25 ([]) ([netA n,sgA q]) r.1 r.2:=
 CT.mach (fn:=Try.f25) (c:=zB Try.f25) (S:=svaSt n q) (hd:=svaHd) Try.func25 (by kernel_rfl) (Nat.le_of_ble_eq_true rfl)
  (fun s o ho=>match s,ho with
   | .l0 v0,ho=>svaS0_ok n q v0 o ho
   | .l1 v0,ho=>svaS1_ok n q v0 o ho
  )
  (fun o ho=>svaEn_ok n q o ho) h
def clbSt(l:List Bool):Empty→St
 | x=>x.elim
def clbHd:Empty→Nat
 | x=>x.elim
def clbEn(l:List Bool):Option (Empty⊕Ret):=
 gu (boL l=[]→False) <|
 gu (∀(e:AV),e∈boL l→e.cells.length=1) <|
 gu (0+(boL l).length≤9223372036854775807) <|
 gu ((0+(boL l).length) * 1≤140737488355328) <|
 some (.inr ([some (Blk.mk ([]++boL l) 1 true true none)],AV.sl 0 0 (0+(boL l).length)))
def clbStep(l:List Bool):Empty→Option (Empty⊕Ret)
 | x=>x.elim
theorem clbEn_ok(l:List Bool)(o:Empty⊕Ret)(h:clbEn l=some o):Arr Try.prog Try.f55 0 (clbSt l) clbHd (zB Try.f55) [] {n:=Try.f55.ntmps,fr:=enumF 0 ([.lst (boL l)]),hp:=([])} o:=
 Scr.ok h mix (
 .rn 0 [] [] [] [] s2 <|
 .gu fun a0=>
 .rn 0 [] [] [] [] (al (u2 (al (ak a0)))) <|
 .gu fun a1=>
 .gu fun a2=>
 .gu fun a3=>
 .rt [] [] [] [] [1] [] (aj (ak (al (ak (u2 (aj (k2 (aj (show nat_lit 0=nat_lit 0 from rfl) (aj a1 (aj a2 a3)))) s2))))) t3)) (by kernel_rfl)
theorem clb_ct(l:List Bool)(r:Ret)(h:MReach (clbStep l) (clbEn l) r):CT Try.prog 55 ([]) ([.lst (boL l)]) r.1 r.2:=
 CT.mach (fn:=Try.f55) (c:=zB Try.f55) (S:=clbSt l) (hd:=clbHd) Try.func55 (by kernel_rfl) (Nat.le_of_ble_eq_true rfl)
  (fun s o ho=>match s,ho with
   | x,_=>x.elim)
  (fun o ho=>clbEn_ok l o ho) h
def wo(l:List Int)(x:Int):List Int:=l.filter (fun y=>y != x)
theorem wo_succ{l:List Int}{x:Int}{i:Nat}(h:i<l.length):wo (l.take (i+1)) x=wo (l.take i) x++(if (l.getD i 0 != x)=true then [l.getD i 0] else []):=by
 unfold wo
 rw[List.take_add_one,getE 0 h,List.filter_append]
 congr 1
 show List.filter _ [l.getD i 0]=_
 rw[List.filter_cons];rfl
theorem clb_c(l:List Bool)(hl:l.length≤1000000):CT Try.prog 55 [] [.lst (boL l)] [some (Blk.mk (boL l) 1 true true none)] (.sl 0 0 (boL l).length):=by
 have hL:=boL_len l
 by_cases h:l=[]
 ·subst h;exact cl55_e
 refine clb_ct l ([_],_) (.val ?_)
 unfold clbEn
 rw[gu_t (fun e=>h (by unfold boL at e;exact List.map_eq_nil_iff.1 e)),gu_t (boL_one _),gu_t (by omega),gu_t (by omega),List.nil_append,Nat.zero_add]
theorem sva_c{n:NetD}(cl:List Bool)(bw pe:List Int)(hrw:Rows n.nx):CT Try.prog 25 [] [netA n,sgA ⟨cl,bw,pe⟩] [] (.bool (sigB n ⟨cl,bw,pe⟩)):=by
 generalize hs:(⟨cl,bw,pe⟩:SigD)=s
 refine sva_ct n s ([],_) ?_
 unfold svaEn sigB cntE cntZ
 rw[gu_t hrw]
 cases hv:valB n with
 | false=>exact .ret _
 | true=>
 have hv:=valB_iff.1 hv
 obtain⟨h48,hnb⟩:=celN_le hv
 unfold sigF
 rw[if_pos rfl,if_pos rfl,br_f (by rfl),boL_len,List.length_map,List.length_map,List.length_map,Bool.true_and]
 by_cases h1:s.cl.length=celN n
 case neg=>rw[br_t (bne_iff_ne.2 (by simp only[iN];omega)),dec_f h1];exact .ret _
 rw[br_f (by rw[h1];simp),dec_t h1,Bool.true_and]
 by_cases h2:s.bw.length=celN n
 case neg=>rw[br_t (bne_iff_ne.2 (by simp only[iN];omega)),dec_f h2];exact .ret _
 rw[br_f (by rw[h2];simp),dec_t h2,Bool.true_and]
 by_cases h3:n.bs.length<s.pe.length
 ·rw[br_t (dec_t (by simp only[iN];omega))]
  have:(fnd (bdP n.bs.length s) 0 s.pe.length).isNone=false:=by
   cases hf:fnd (bdP n.bs.length s) 0 s.pe.length with
   | some i=>rfl
   | none=>
    have:=pe_bd (nb:=n.bs.length) (s:=s) (Nat.le_refl _) fun j hj=>fnd_none hf j (Nat.zero_le _) (by omega)
    omega
  rw[this,Bool.and_false];exact .ret _
 rw[br_f (dec_f (by simp only[iN];omega))]
 refine(loop_fst (fun i=>svaPc.l0 (i:Int)) s.bw.length (bdW s) (rF:=fun _=>(([],.bool false):Ret)) (r:=([],.bool (fnd (bdP n.bs.length s) 0 s.pe.length).isNone)) (fun i hi _ hp=>?_) (fun i x hi _ hp hx=>?_) (fun _=>?_)).res (by cases fnd (bdW s) 0 s.bw.length<;>rfl)
 ·refine .to (show svaS0 n s i=_ from ?_) (.ret _)
  unfold svaS0
  unfold bdW at hp
  rw[rngG 0 hi]
  cases hd1:decide (s.bw.getD i 0 < -1) with
  | true=>rw[br_t rfl]
  | false=>
   rw[hd1,Bool.false_or] at hp
   rw[br_f rfl]
   cases hd2:decide (8≤s.bw.getD i 0) with
   | true=>rw[br_t rfl]
   | false=>
    rw[hd2,Bool.false_or,Bool.and_eq_true] at hp
    rw[br_f rfl,br_t hp.1,elG true (show i<s.cl.length by omega),br_t hp.2]
 ·refine .to (show svaS0 n s i=_ from ?_) hx
  unfold svaS0
  unfold bdW at hp
  simp only[Bool.or_eq_false_iff] at hp
  rw[rngG 0 hi,br_f hp.1,br_f hp.2.1,zW i (by omega)]
  cases h0:decide (0≤s.bw.getD i 0) with
  | false=>rw[br_f rfl]
  | true=>
   have hq:=hp.2.2
   rw[h0,Bool.true_and] at hq
   rw[br_t rfl,elG true (show i<s.cl.length by omega),br_f hq]
 ·refine .to (show svaS0 n s s.bw.length=_ from ?_) ?_ (y:=some (.inl (.l1 ((0:Nat):Int))))
  ·unfold svaS0;rw[rngE];rfl
  refine(loop_fst (fun i=>svaPc.l1 (i:Int)) s.pe.length (bdP n.bs.length s) (rF:=fun _=>(([],.bool false):Ret)) (r:=([],.bool true)) (fun i hi hj hp=>?_) (fun i x hi hj hp hx=>?_) (fun _=>?_)).res (by cases fnd (bdP n.bs.length s) 0 s.pe.length<;>rfl)
  ·refine .to (show svaS1 n s i=_ from ?_) (.ret _)
   unfold svaS1
   unfold bdP at hp
   rw[rngG 0 hi]
   by_cases hd1:s.pe.getD i 0<0
   ·rw[br_t (dec_t hd1)]
   rw[dec_f hd1,Bool.false_or] at hp
   rw[br_f (dec_f hd1)]
   by_cases hd2:(n.bs.length:Int)≤s.pe.getD i 0
   ·rw[br_t (dec_t (by rw[List.length_map];exact hd2))]
   rw[dec_f hd2,Bool.false_or] at hp
   rw[br_f (dec_f (by rw[List.length_map];exact hd2)),gu_t (by omega),el_t (getE true (show(s.pe.getD i 0).toNat<s.cl.length by omega))]
   cases hd3:s.cl.getD (s.pe.getD i 0).toNat true with
   | true=>rw[br_t rfl]
   | false=>
    rw[hd3,Bool.false_or] at hp
    rw[br_f rfl,gu_t (lI_one _),gu_t (by simp only[iN,List.length_map];omega),take0,gu_t (by rw[List.length_take];omega),br_t hp]
  ·refine .to (show svaS1 n s i=_ from ?_) hx
   unfold svaS1
   unfold bdP at hp
   simp only[Bool.or_eq_false_iff,decide_eq_false_iff_not] at hp
   rw[rngG 0 hi,br_f (dec_f hp.1),br_f (dec_f (by rw[List.length_map];exact hp.2.1)),gu_t (by omega),el_t (getE true (show(s.pe.getD i 0).toNat<s.cl.length by omega)),br_f hp.2.2.1,gu_t (lI_one _),gu_t (by simp only[iN,List.length_map];omega),take0,gu_t (by rw[List.length_take];omega),br_f hp.2.2.2,zW i (by omega)]
  ·refine .to (show svaS1 n s s.pe.length=_ from ?_) (.ret _)
   unfold svaS1;rw[rngE]
def nsO(n:NetD):SigD:=⟨List.replicate (celN n) false,List.replicate (celN n) (-1),[]⟩
def nsE(n:NetD):Int:=if valB n=true then 0 else 20
def nsS(n:NetD):SigD:=if valB n=true then nsO n else ⟨[],[],[]⟩
theorem rep_bo(k:Nat):List.replicate k (AV.bool false)=boL (List.replicate k false):=by unfold boL;rw[List.map_replicate]
theorem rpV_set{c i:Nat}(h:i<c):(rpV c i).set (0+i) (-1)=rpV c (i+1):=by
 obtain⟨d,hd⟩:∃d,c-i=d+1:=⟨c-i-1,by omega⟩
 have hd2:c-(i+1)=d:=by omega
 unfold rpV
 rw[hd,hd2,Nat.zero_add,List.replicate_succ,List.set_append_right _ _ (by simp)]
 simp only[List.length_replicate,Nat.sub_self,List.set_cons_zero]
 rw[List.replicate_succ',List.append_assoc];rfl
theorem rpV_0(c:Nat):rpV c 0=List.replicate c 0:=by unfold rpV;simp
theorem rpV_c(c:Nat):rpV c c=List.replicate c (-1):=by unfold rpV;simp
theorem r20n_c{n:NetD}(hrw:Rows n.nx):CT Try.prog 31 [] [netA n] [] (.tup [sgA (nsS n),.int .i64 (nsE n)]):=by
 have h:=r20n_ct n
 unfold r20nEn at h
 unfold nsS nsE
 cases hv:valB n with
 | false=>rw[hv] at h;exact CT.w2 (h ([],_) (.val (by rw[gu_t hrw];rfl)))
 | true=>
  have hvn:=valB_iff.1 hv
  have h48:=celN_le hvn
  rw[hv] at h
  have k:=CT.w2 (h ([],.tup [.agg [.lst (List.replicate (celN n) (AV.bool false)),.lst (List.map (AV.int .i64) (List.replicate (celN n) (-1))),.nils],.int .i64 0]) (by
   rw[gu_t hrw,br_f (by rfl),gu_t hvn,gu_t (by simp only[iN];omega),gu_t (by simp only[iN];omega),gu_t (by simp only[iN];omega)]
   rw[show (List.replicate (iN (celN n)).toNat (0:Int))=rpV (celN n) 0 from(rpV_0 _).symm]
   refine loop_up (fun i=>r20nPc.l0 (i:Int) (rpV (celN n) i)) (celN n) (fun i hi hx=>?_) ?_
   ·refine .to (show r20nS0 n i (rpV (celN n) i)=_ from ?_) hx
    unfold r20nS0
    rw[br_t (dec_t (by simp only[iN,rpV_len (Nat.le_of_lt hi)];omega)),gu_t (by omega),gu_t (by simp only[iN,rpV_len (Nat.le_of_lt hi)];omega),gu_t (show Nat.le _ _ from(by rw[List.length_map,rpV_len (Nat.le_of_lt hi)];show 0+(i:Int).toNat+1≤_;omega)),Int.toNat_natCast,rpV_set hi,zW i (by omega)]
   ·refine .to (show r20nS0 n (celN n:Nat) (rpV (celN n) (celN n))=_ from ?_) (.ret _)
    unfold r20nS0
    rw[br_f (dec_f (by simp only[iN,rpV_len (Nat.le_refl _)];omega)),rpV_c];rfl))
  rw[rep_bo] at k
  exact k
structure Dl(l:List Int)(w:Int)(v:List Int)(i j:Nat):Prop where
 len:v.length=l.length
 ij:i≤j
 jl:j≤l.length
 kep:v.take i=wo (l.take j) w
 rst:v.drop j=l.drop j
theorem drop_get{v l:List Int}{j:Nat}(h:v.drop j=l.drop j):v.getD j 0=l.getD j 0∧v.drop (j+1)=l.drop (j+1):=by
 constructor
 ·have:=congrArg (fun x=>x.getD 0 0) h
  simpa [List.getD_eq_getElem?_getD,List.getElem?_drop] using this
 ·have:=congrArg (List.drop 1) h
  rwa [List.drop_drop,List.drop_drop] at this
theorem Dl.skip{l:List Int}{w:Int}{v:List Int}{i j:Nat}(h:Dl l w v i j)(hj:j<l.length)(he:l.getD j 0=w):Dl l w v i (j+1):=by
 refine⟨h.len,Nat.le_succ_of_le h.ij,hj,?_,(drop_get h.rst).2⟩
 rw[wo_succ hj,if_neg (by rw[he];simp),List.append_nil];exact h.kep
theorem Dl.keep{l:List Int}{w:Int}{v:List Int}{i j:Nat}(h:Dl l w v i j)(hj:j<l.length)(he:l.getD j 0≠w):Dl l w (v.set (0+i) (l.getD j 0)) (i+1) (j+1):=by
 have hij:=h.ij
 have hl:=h.len
 refine⟨by rw[List.length_set];exact hl,by omega,hj,?_,?_⟩
 ·rw[wo_succ hj,if_pos (bne_iff_ne.2 he),←h.kep,Nat.zero_add,List.take_add_one,List.take_set_of_le (Nat.le_refl _),List.getElem?_set,if_pos rfl,if_pos (by omega)];rfl
 ·rw[Nat.zero_add,List.drop_set,if_pos (by omega)];exact(drop_get h.rst).2
theorem getS{α:Type}{l:List α}{i j:Nat}{v d:α}:(l.set i v).getD j d=if i=j∧j<l.length then v else l.getD j d:=by
 rw[List.getD_eq_getElem?_getD,List.getElem?_set,List.getD_eq_getElem?_getD]
 by_cases h:i=j
 ·subst h
  by_cases hl:i<l.length
  ·rw[if_pos rfl,if_pos hl,if_pos ⟨rfl,hl⟩];rfl
  ·rw[if_pos rfl,if_neg hl,if_neg (fun e=>hl e.2),List.getElem?_eq_none (by omega)]
 ·rw[if_neg h,if_neg (fun e=>h e.1)]
theorem getR{α:Type}{n i:Nat}{v d:α}(h:i<n):(List.replicate n v).getD i d=v:=by
 rw[List.getD_eq_getElem?_getD,List.getElem?_replicate,if_pos h];rfl
def newS(n:NetD):SigD:=⟨List.replicate (celN n) false,List.replicate (celN n) (-1),[]⟩
theorem newS_ok(n:NetD):SigOk n (newS n):=by
 refine⟨List.length_replicate ..,List.length_replicate ..,fun i hi=>?_,fun b hb=>(by cases hb),List.Pairwise.nil⟩
 have hi:i<celN n:=by have:(newS n).bw.length=celN n:=List.length_replicate ..;omega
 show -1≤(List.replicate (celN n) (-1:Int)).getD i 0∧_
 rw[show (newS n).bw=List.replicate (celN n) (-1:Int) from rfl,getR hi];omega
def shP(n:NetD)(s:SigD)(blk goal:Int):List Bool:=(List.range n.bs.length).map fun b:Nat=> !(!((shtS s).getD b true)||((b:Int)==blk||((b:Int)==goal&&!(s.cl.getD b true))))
def shQ(n:NetD)(s:SigD)(blk:Int):List Bool:=(List.range n.bs.length).map fun b:Nat=> !(!(s.cl.getD b true)||(b:Int)==blk)
theorem sht_mono{x:Nat}:∀{l:List Int} {c:List Bool},(l.foldl (fun c b=>c.set b.toNat true) c).getD x true=false→c.getD x true=false:=by
 intro l
 induction l with
 | nil=>intro c h;exact h
 | cons y l ih=>
  intro c h
  have:=ih h
  rw[getS] at this
  split at this
  ·cases this
  ·exact this
theorem mapR_get{f:Nat→Bool}{m x:Nat}{d:Bool}(h:x<m):((List.range m).map f).getD x d=f x:=by
 rw[List.getD_eq_getElem?_getD,List.getElem?_map,List.getElem?_range h];rfl
theorem shP_len(n:NetD)(s:SigD)(a b:Int):(shP n s a b).length=n.bs.length:=by unfold shP;simp
theorem shQ_len(n:NetD)(s:SigD)(a:Int):(shQ n s a).length=n.bs.length:=by unfold shQ;simp
theorem okg{n:NetD}(hv:ValidN n)(hrw:Rows n.nx){s:List Bool}(hs:s.length=n.bs.length):OkG n.nx s∧Asc n.nx:=by
 obtain⟨hg,ha⟩:=chk4_ok hrw hv.chk
 have hl:=hv.nx
 exact⟨⟨hg.len,hg.row,by omega⟩,ha⟩
def legP(n:NetD)(s:SigD)(blk goal:Int):List Int:=
 if pthS n.nx (shP n s blk goal) blk.toNat goal.toNat=[] then pthS n.nx (shQ n s blk) blk.toNat goal.toNat else pthS n.nx (shP n s blk goal) blk.toNat goal.toNat
theorem pth_dec{n:NetD}(hv:ValidN n)(hrw:Rows n.nx){sh:List Bool}(hl:sh.length=n.bs.length){a b:Nat}(ha:a<n.bs.length)(hb:b<n.bs.length):pthS n.nx sh a b=[]∨(0≤dsS n.nx sh a b∧Pth n.nx sh a b (pthS n.nx sh a b)):=by
 have hn:=hv.nx
 obtain⟨hg,_⟩:=okg hv hrw hl
 cases Int.lt_or_le (dsS n.nx sh a b) 0 with
 | inl h=>exact .inl (pth_none h)
 | inr h=>exact .inr ⟨h,pth_ok hg (by omega) (by omega) h⟩
theorem legP_ok{n:NetD}(hv:ValidN n)(hrw:Rows n.nx){s:SigD}{blk goal:Int}(hb:0≤blk∧blk<(n.bs.length:Int))(hg:0≤goal∧goal<(n.bs.length:Int))(hne:legP n s blk goal≠[]):
  ∃sh,Pth n.nx sh blk.toNat goal.toNat (legP n s blk goal)∧∀x∈(legP n s blk goal).tail,0≤x∧x<(n.bs.length:Int)∧x≠blk∧s.cl.getD x.toNat true=false:=by
 have hn:=hv.nx
 have key:∀sh:List Bool,Pth n.nx sh blk.toNat goal.toNat (legP n s blk goal)→(∀b:Nat,b<n.bs.length→(b:Int)≠blk→sh.getD b false=false→s.cl.getD b true=false)→∃sh,Pth n.nx sh blk.toNat goal.toNat (legP n s blk goal)∧∀x∈(legP n s blk goal).tail,0≤x∧x<(n.bs.length:Int)∧x≠blk∧s.cl.getD x.toNat true=false:=by
  intro sh hp ho
  refine⟨sh,hp,fun x hx=>?_⟩
  obtain⟨i,hi,rfl⟩:=List.mem_iff_getElem.1 hx
  rw[List.length_tail] at hi
  have e:(legP n s blk goal).tail[i]=(legP n s blk goal).getD (i+1) 0:=by
   rw[List.getElem_tail,List.getD_eq_getElem?_getD,List.getElem?_eq_getElem (show i+1<(legP n s blk goal).length by omega)];rfl
  rw[e]
  obtain⟨r1,r2,r3⟩:=hp.rng (i+1) (by omega)
  have r4:=hp.nv (i+1) (by omega) (by omega)
  rw[hn] at r2
  have r5:(legP n s blk goal).getD (i+1) 0≠blk:=by omega
  exact⟨r1,r2,r5,ho _ (by omega) (by omega) r3⟩
 have hP:=pth_dec hv hrw (shP_len n s blk goal) (a:=blk.toNat) (b:=goal.toNat) (by omega) (by omega)
 have hQ:=pth_dec hv hrw (shQ_len n s blk) (a:=blk.toNat) (b:=goal.toNat) (by omega) (by omega)
 by_cases h:pthS n.nx (shP n s blk goal) blk.toNat goal.toNat=[]
 ·have e:legP n s blk goal=pthS n.nx (shQ n s blk) blk.toNat goal.toNat:=by unfold legP;rw[if_pos h]
  refine key (shQ n s blk) ?_ fun b hb hne ho=>?_
  ·rw[e];exact(hQ.resolve_left fun h2=>hne (e.trans h2)).2
  ·unfold shQ at ho
   rw[mapR_get hb] at ho
   have:((b:Int)==blk)=false:=by simpa using hne
   rw[this] at ho
   simpa using ho
 ·have e:legP n s blk goal=pthS n.nx (shP n s blk goal) blk.toNat goal.toNat:=by unfold legP;rw[if_neg h]
  refine key (shP n s blk goal) ?_ fun b hb hne ho=>?_
  ·rw[e];exact(hP.resolve_left h).2
  ·unfold shP at ho
   rw[mapR_get hb] at ho
   have:((b:Int)==blk)=false:=by simpa using hne
   rw[this] at ho
   cases hc:s.cl.getD b true with
   | false=>rfl
   | true=>
    have hsl:(shtS s).getD b true=true:=by
     cases h2:(shtS s).getD b true with
     | true=>rfl
     | false=>exfalso;exact absurd (sht_mono h2) (by rw[hc];simp)
    rw[hc,hsl] at ho
    simp at ho
def legR(n:NetD)(s:SigD)(c sp:Int):Option (List Int):=match plF n c with
 | some i=>if (i:Int)=sp then some (sltL (n.ss.getD i s0) (c-(n.ss.getD i s0).b+1))
  else if legP n s (n.ss.getD i s0).o (n.ss.getD sp.toNat s0).i=[] then none
  else some (sltL (n.ss.getD i s0) (c-(n.ss.getD i s0).b+1)++([(n.ss.getD i s0).o]++((legP n s (n.ss.getD i s0).o (n.ss.getD sp.toNat s0).i).tail++sltL (n.ss.getD sp.toNat s0) 0)))
 | none=>if legP n s c (n.ss.getD sp.toNat s0).i=[] then none else some ((legP n s c (n.ss.getD sp.toNat s0).i).tail++sltL (n.ss.getD sp.toNat s0) 0)
def legS(n:NetD)(s:SigD)(c sp:Int):List Int×Bool:=match legR n s c sp with
 | some l=>if pasB s.cl l=true then (l,true) else ([],false)
 | none=>([],false)
def legE(n:NetD)(s:SigD)(c sp:Int):Int:=if sigB n s=true then (if (0≤c∧c<(celN n:Int))∧0≤sp∧sp<(n.ss.length:Int) then 0 else 19) else 20
theorem slt_rng{n:NetD}(hv:ValidN n){i:Nat}{t:SpuD}(ht:n.ss[i]?=some t){j:Int}(hj:0≤j):∀x∈sltL t j,0≤x∧x<(celN n:Int):=fun x hx=>by
 have:=sltL_mem.1 hx
 have he:=hv.ends ht
 have hb:=hv.sb ht
 omega
theorem legR_rng{n:NetD}(hv:ValidN n)(hrw:Rows n.nx){s:SigD}{c sp:Int}(hc:0≤c∧c<(celN n:Int))(hsp:0≤sp∧sp<(n.ss.length:Int)){l:List Int}(h:legR n s c sp=some l):
  ∀x∈l,0≤x∧x<(celN n:Int):=by
 have hs:=getE s0 (show sp.toNat<n.ss.length by omega)
 have ge:=hv.goodT _ _ hs
 have gi:=ge.hi
 have hce:=hv.cel
 have hpt:∀{blk:Int},(0≤blk∧blk<(n.bs.length:Int))→legP n s blk (n.ss.getD sp.toNat s0).i≠[]→∀x∈(legP n s blk (n.ss.getD sp.toNat s0).i).tail,0≤x∧x<(celN n:Int):=fun hb hne x hx=>by
  obtain⟨sh,_,h⟩:=legP_ok hv hrw hb (by omega) hne
  have:=h x hx
  omega
 unfold legR at h
 cases hp:plF n c with
 | none=>
  have hb:=plF_block hv hc.1 hc.2 hp
  rw[hp] at h
  simp only at h
  split at h
  ·cases h
  ·rename_i hne
   cases h
   intro x hx
   rcases List.mem_append.1 hx with hx | hx
   ·exact hpt ⟨hc.1,hb⟩ hne x hx
   ·exact slt_rng hv hs (Int.le_refl _) x hx
 | some i=>
  obtain⟨t,ht,hg,h1,h2,hil⟩:=plF_some hp
  have gt:=hv.goodT _ _ ht
  have go:=gt.ho
  rw[hp] at h
  simp only[hg] at h
  split at h
  ·cases h
   exact slt_rng hv ht (by omega)
  ·split at h
   ·cases h
   ·rename_i hne
    cases h
    intro x hx
    rcases List.mem_append.1 hx with hx | hx
    ·exact slt_rng hv ht (by omega) x hx
    rcases List.mem_append.1 hx with hx | hx
    ·rw[List.mem_singleton.1 hx];omega
    rcases List.mem_append.1 hx with hx | hx
    ·exact hpt (by omega) hne x hx
    ·exact slt_rng hv hs (Int.le_refl _) x hx
def pasZ(cl:List Bool)(l:List Int):Int:=match fnd (fun i=>cl.getD (l.getD i 0).toNat true) 0 l.length with | some i=>(i:Int) | none=> -1
theorem pasZ_b(cl:List Bool)(l:List Int):decide (0≤pasZ cl l)=!(pasB cl l):=by
 unfold pasZ pasB
 cases fnd (fun i=>cl.getD (l.getD i 0).toNat true) 0 l.length with
 | none=>rfl
 | some i=>simp
theorem lg1_c(l:List Bool)(d c:Int)(x:SpuD)(q:SigD)(hc:0≤c∧c<(l.length:Int)∧c<(q.cl.length:Int)):CT Try.prog 66 [some (Blk.mk [.lst (boL l)] 1 true true none),some (Blk.mk [.int .i64 d] 1 true true none),some (Blk.mk [sA x] 6 true true none),some (Blk.mk [sgA q] 3 true true none)] [.int .i64 c,.ptr 0 0 0,.ptr 1 0 0,.ptr 2 0 0,.ptr 3 0 0] [some (Blk.mk [.lst (boL l)] 1 true true none),some (Blk.mk [.int .i64 d] 1 true true none),some (Blk.mk [sA x] 6 true true none),some (Blk.mk [sgA q] 3 true true none)] (.bool (!(l.getD c.toNat true)||(c==d||(c==x.i&&!(q.cl.getD c.toNat true))))):=by
 refine lg1_ct l d c x q ([_,_,_,_],_) (.val ?_)
 unfold lg1En
 rw[gu_t hc.1,el_t (getE true (show c.toNat<l.length by omega)),el_t (getE true (show c.toNat<q.cl.length by omega))]
 cases l.getD c.toNat true<;>cases c==d<;>cases c==x.i<;>rfl
theorem lg2_c(d c:Int)(q:SigD)(hc:0≤c∧c<(q.cl.length:Int)):CT Try.prog 67 [some (Blk.mk [sgA q] 3 true true none),some (Blk.mk [.int .i64 d] 1 true true none)] [.int .i64 c,.ptr 0 0 0,.ptr 1 0 0] [some (Blk.mk [sgA q] 3 true true none),some (Blk.mk [.int .i64 d] 1 true true none)] (.bool (!(q.cl.getD c.toNat true)||c==d)):=by
 refine lg2_ct d c q ([_,_],_) (.val ?_)
 unfold lg2En
 rw[gu_t hc.1,el_t (getE true (show c.toNat<q.cl.length by omega))]
 cases q.cl.getD c.toNat true<;>rfl
def plO(n:NetD)(c:Int):Int:=if ckE n c=0 then plI n c else 0
def pjO(n:NetD)(c:Int):Int:=if ckE n c=0 then plJ n c else 0
theorem plc_c{n:NetD}(c:Int)(hrw:Rows n.nx):CT Try.prog 62 [] [netA n,.int .i64 c] [] (.tup [.int .i64 (plO n c),.int .i64 (pjO n c),.int .i64 (ckE n c)]):=by
 refine plc_ct n c ([],_) (.val ?_)
 unfold plcEn plO pjO
 rw[gu_t hrw]
 by_cases h:ckE n c=0
 ·obtain⟨hv,h0,h1⟩:=ckE_ok h
  have:=hv.cel
  rw[br_f (by rw[h];rfl),gu_t hv,gu_t (by omega),if_pos h,if_pos h,h]
 ·rw[br_t (bne_iff_ne.2 h),if_neg h,if_neg h]
theorem dis_c{g:List (List Int)}{s:List Bool}(w:Int)(hg:OkG g s)(hw:0≤w∧w<(g.length:Int)):CT Try.prog 71 [] [.lst (gL g),.lst (boL s),.int .i64 w] [] (lI (distL g s w.toNat g.length)):=by
 have:=distances_ct hg w.toNat (by omega)
 rw[Int.toNat_of_nonneg hw.1] at this
 exact this
theorem hop_c{g:List (List Int)}{d:List Int}(v:Int)(hg:OkG g (List.replicate g.length false))(hd:d.length=g.length)(hsm:Small d)(hv:0≤v∧v<(g.length:Int)):CT Try.prog 139 [] [.lst (gL g),lI d,.int .i64 v] [] (.int .i64 (hopZ g d v.toNat)):=by
 have:=hop_ct hg d hd hsm v.toNat (by omega)
 rw[Int.toNat_of_nonneg hv.1] at this
 exact this
theorem chkp_c{g:List (List Int)}(s:List Bool)(v w:Int)(hrw:Rows g):CT Try.prog 70 [] [.lst (gL g),.lst (boL s),.int .i64 v,.int .i64 w] [] (.int .i64 (chkZ g s v w)):=checkG_ct hrw v w
inductive ptkPc where
 | l0 (v0:List Int) (v1 v2:Int)
def ptkSt(g:List (List Int))(l:List Bool)(p q:Int):ptkPc→St
 | .l0 v0 v1 v2=>St.mk 52 [(0,AV.lst (gL g)),(11,AV.lst (List.map (iv) (distL g l q.toNat g.length))),(12,AV.sl 0 0 v0.length),(35,iv v1),(36,iv v2)] [some (Blk.mk (List.map (iv) v0) 1 true true none)]
def ptkHd:ptkPc→Nat
 | .l0 _ _ _=>0
def ptkEn(g:List (List Int))(l:List Bool)(p q:Int):Option (ptkPc⊕Ret):=
 gu (Rows g) <|
 br (chkZ g l p q != 0)
 (some (.inr ([],AV.tup [AV.nils,AV.int IntKind.i64 (chkZ g l p q)])))
 (gu (OkG g l) <|
  gu (0≤q∧q<iN g.length) <|
  gu (0≤p) <|
  el (distL g l q.toNat g.length) (p.toNat) fun(x27:Int)=>
  br (decide (x27<0))
  (some (.inr ([],AV.tup [AV.nils,AV.int IntKind.i64 0])))
  (el (distL g l q.toNat g.length) (p.toNat) fun(x34:Int)=>
   some (.inl (.l0 ([p]) x34 ((0:Int))))))
def ptkS0(g:List (List Int))(l:List Bool)(p q:Int)(v0:List Int)(v1 v2:Int):Option (ptkPc⊕Ret):=
 br (decide (v2<v1))
 (gu (0≤IntKind.i64.wrap (iN v0.length-1)) <|
  gu (IntKind.i64.wrap (iN v0.length-1)<iN v0.length) <|
  el v0 (0+(IntKind.i64.wrap (iN v0.length-1)).toNat) fun(x46:Int)=>
  gu (OkG g (List.replicate g.length false)) <|
  gu ((distL g l q.toNat g.length).length=g.length) <|
  gu (Small (distL g l q.toNat g.length)) <|
  gu (0≤x46∧x46<iN g.length) <|
  gu ((List.map (AV.int IntKind.i64) v0).length+[AV.int IntKind.i64 (hopZ g (distL g l q.toNat g.length) x46.toNat)].length≤9223372036854775807) <|
  gu (((List.map (AV.int IntKind.i64) v0).length+[AV.int IntKind.i64 (hopZ g (distL g l q.toNat g.length) x46.toNat)].length) * 8≤140737488355328) <|
  some (.inl (.l0 (v0++[hopZ g (distL g l q.toNat g.length) x46.toNat]) v1 (IntKind.i64.wrap (v2+1)))))
 (some (.inr ([some (Blk.mk (List.map (AV.int IntKind.i64) v0) 1 true true none)],AV.tup [AV.sl 0 0 v0.length,AV.int IntKind.i64 0])))
def ptkStep(g:List (List Int))(l:List Bool)(p q:Int):ptkPc→Option (ptkPc⊕Ret)
 | .l0 v0 v1 v2=>ptkS0 g l p q v0 v1 v2
theorem ptkEn_ok(g:List (List Int))(l:List Bool)(p q:Int)(o:ptkPc⊕Ret)(h:ptkEn g l p q=some o):Arr Try.prog Try.f111 0 (ptkSt g l p q) ptkHd (zB Try.f111) [] {n:=Try.f111.ntmps,fr:=enumF 0 ([.lst (gL g),.lst (boL l),.int .i64 p,.int .i64 q]),hp:=([])} o:=
 Scr.ok h mix (
 .rn 0 [] [] [] [] (al t3) <|
 .gu fun a0=>
 have c0:=chkp_c l p q a0;
 .rn 1 [] [] [(17,hK c0 [] [])] [] (aj (u2 (u2 (u2 (u2 (aj (k3 (k5 (al (c0)))) s2))))) (al (u2 s2))) <|
 .br (fun a1=>
 .rt [39] [] [] [] [] [] (aj (aj a1 (al (u2 (ak s2)))) (al t3)))
 (fun a1=>
 .gu fun a2=>
 .gu fun a3=>
 have c1:=dis_c q a2 a3;
 .rn 0 [38] [] [(24,hK c1 [] [])] [] (aj a1 (al (u2 (u2 (u2 (aj (ak (k5 (al (c1)))) s2)))))) <|
 .gu fun a4=>
 .el fun x27 a5=>
 .rn 0 [] [(27,iv x27)] [] [] (al (u2 (u2 (aj (k2 (aj a4 (getMap (f:=iv) a5))) (u2 s2))))) <|
 .br (fun a6=>
  .rt [59] [] [] [] [] [] (aj (aj a6 (al t3)) (al t3)))
 (fun a6=>
  .rn 0 [58] [] [] [] (aj a6 (al (u2 (u2 s2)))) <|
  .el fun x34 a7=>
  .lp [] [(34,iv x34)] [] [] [] [0] [0,11,12,35,36] (aj (al (u2 (u2 (aj (k2 (aj a4 (getMap (f:=iv) a7))) (u2 t2))))) t7)))) (by kernel_rfl)
theorem ptkS0_ok(g:List (List Int))(l:List Bool)(p q:Int)(v0:List Int)(v1 v2:Int)(o:ptkPc⊕Ret)(h:ptkS0 g l p q v0 v1 v2=some o):Arr Try.prog Try.f111 0 (ptkSt g l p q) ptkHd (headC Try.f111 0) (.rnd (headC Try.f111 0)::headK Try.f111 0) (ptkSt g l p q (.l0 v0 v1 v2)) o:=
 Scr.ok h mix (
 .rn 0 [] [] [] [] (al (al t3)) <|
 .br (fun a0=>
 .gu fun a1=>
 .gu fun a2=>
 .el fun x46 a3=>
 .gu fun a4=>
 .gu fun a5=>
 .gu fun a6=>
 .gu fun a7=>
 .gu fun a8=>
 .gu fun a9=>
 have c0:=hop_c x46 a4 a5 a6 a7;
 .lq [75] [(46,iv x46)] [(47,hK c0 [] [])] [] [] [2] [0,11,12,35,36] (up [(12,AV.sl 0 0 ((List.map (iv) v0).length+[iv (hopZ g (distL g l q.toNat g.length) x46.toNat)].length))] [(0,List.map (iv) v0++[iv (hopZ g (distL g l q.toNat g.length) x46.toNat)])] (ptkSt g l p q (.l0 (v0++[hopZ g (distL g l q.toNat g.length) x46.toNat]) v1 (IntKind.i64.wrap (v2+1))))) (aj (aj a0 (aj (u2 (u2 (u2 (u2 (u2 (u2 (u2 (aj (k2 (aj a1 a2)) (aj (ak (getMap (f:=iv) a3)) (aj (ak (k5 (al (c0)))) (u2 (aj (k2 (aj (show(List.map (iv) v0).length=v0.length by simp) (aj (aj (show nat_lit 1=nat_lit 1 from rfl) (show 1≤[iv (hopZ g (distL g l q.toNat g.length) x46.toNat)].length by simp)) (aj a8 a9)))) s2)))))))))))) (al (u2 s2)))) t7) (by simp[up,upF,upV,upH,upB,ptkSt,gL,boL,lI]))
 (fun a0=>
 .rt [74] [] [] [] [0] [] (aj (aj a0 (al (u2 (u2 t2)))) (aj t3 t2)))) (by kernel_rfl)
theorem ptk_ct(g:List (List Int))(l:List Bool)(p q:Int)(r:Ret)(h:MReach (ptkStep g l p q) (ptkEn g l p q) r):CT Try.prog 111 ([]) ([.lst (gL g),.lst (boL l),.int .i64 p,.int .i64 q]) r.1 r.2:=
 CT.mach (fn:=Try.f111) (c:=zB Try.f111) (S:=ptkSt g l p q) (hd:=ptkHd) Try.func111 (by kernel_rfl) (Nat.le_of_ble_eq_true rfl)
  (fun s o ho=>match s,ho with
   | .l0 v0 v1 v2,ho=>ptkS0_ok g l p q v0 v1 v2 o ho
  )
  (fun o ho=>ptkEn_ok g l p q o ho) h
theorem pthK{g:List (List Int)}(l:List Bool)(p q:Int)(hrw:Rows g):CT Try.prog 111 [] [.lst (gL g),.lst (boL l),.int .i64 p,.int .i64 q] [some (Blk.mk ((pathO g l p q).1.map (AV.int .i64)) 1 true true none)] (.tup [.sl 0 0 (pathO g l p q).1.length,.int .i64 (pathO g l p q).2]):=by
 have k:=ptk_ct g l p q
 unfold ptkEn at k
 by_cases h:chkZ g l p q=0
 case neg=>
  have e:pathO g l p q=([],chkZ g l p q):=by unfold pathO;rw[if_neg h]
  rw[e]
  exact virtTup (hout:=[]) 1 (k ([],_) (.val (by rw[gu_t hrw,br_t (bne_iff_ne.2 h)])))
 obtain⟨hg,_,⟨h0,h1⟩,⟨h2,h3⟩⟩:=chk_ok hrw h
 have hD:=dst_ok hg (goal:=q.toNat) (by omega)
 have hdl:=hD.len
 have hbd:=hD.bnd p.toNat (by omega)
 have hgl:=hg.len
 have hel:=getE 0 (show p.toNat<(distL g l q.toNat g.length).length by omega)
 by_cases hn:(distL g l q.toNat g.length).getD p.toNat 0<0
 ·have e:pathO g l p q=([],0):=by unfold pathO;rw[if_pos h,if_pos hn]
  rw[e]
  exact virtTup (hout:=[]) 1 (k ([],_) (.val (by rw[gu_t hrw,h,br_f (by rfl),gu_t hg,gu_t ⟨h2,h3⟩,gu_t h0,el_t hel,br_t (dec_t hn)])))
 obtain⟨m,hm⟩:∃m:Nat,(distL g l q.toNat g.length).getD p.toNat 0=(m:Int):=⟨((distL g l q.toNat g.length).getD p.toNat 0).toNat,by omega⟩
 have e:pathO g l p q=(wkL g (distL g l q.toNat g.length) p.toNat m,0):=by unfold pathO;rw[if_pos h,if_neg hn,hm,Int.toNat_natCast]
 have hok:=wk_ok hg (goal:=q.toNat) (by omega) hD (by omega) hm (shN (a:=p.toNat) hD (by omega) (by omega))
 have hg0:OkG g (List.replicate g.length false):=⟨hg.len,hg.row,by simp⟩
 have hsm:=distL_small g l q.toNat g.length (by omega)
 rw[e]
 refine k ([_],_) ?_
 rw[gu_t hrw,h,br_f (by rfl),gu_t hg,gu_t ⟨h2,h3⟩,gu_t h0,el_t hel,br_f (dec_f hn),el_t hel,hm]
 have e0:([p]:List Int)=wkL g (distL g l q.toNat g.length) p.toNat 0:=by
  unfold wkL
  show [p]=[wkZ g _ p.toNat 0]
  rw[wkZ];congr 1;omega
 rw[e0]
 refine loop_up (fun i=>ptkPc.l0 (wkL g (distL g l q.toNat g.length) p.toNat i) (m:Int) (i:Int)) m (fun i hi hx=>?_) ?_
 ·refine .to (show ptkS0 g l p q _ _ _=_ from ?_) hx
  have hl:=wkL_len g (distL g l q.toNat g.length) p.toNat i
  obtain⟨a1,a2,_⟩:=hok i (by omega)
  have hw:IntKind.i64.wrap (iN (wkL g (distL g l q.toNat g.length) p.toNat i).length-1)=(i:Int):=by rw[hl,wrap_in (by simp only[iN];omega) (by simp only[iN];omega)];simp only[iN];omega
  have hgt:(wkL g (distL g l q.toNat g.length) p.toNat i)[0+i]?=some (wkZ g (distL g l q.toNat g.length) p.toNat i):=by
   rw[Nat.zero_add,getE 0 (show i<_ by omega),wkL_get (Nat.le_refl _)]
  unfold ptkS0
  rw[br_t (dec_t (by omega)),hw,gu_t (by omega),gu_t (by simp only[iN];omega),Int.toNat_natCast,el_t hgt,gu_t hg0,gu_t hdl,gu_t hsm,gu_t ⟨a1,a2⟩,gu_t (by simp only[List.length_map,List.length_cons,List.length_nil];omega),gu_t (by simp only[List.length_map,List.length_cons,List.length_nil];omega),wkL_succ,zW i (by omega)];rfl
 ·refine .to (show ptkS0 g l p q _ _ _=_ from ?_) (.ret _)
  unfold ptkS0
  rw[br_f (dec_f (by omega))]
inductive paAPc where
 | l0 (v0:List Bool) (v1:Int)
def paASt(n:NetD)(l:List Bool)(d a g:Int)(x:SpuD)(q:SigD):paAPc→St
 | .l0 v0 v1=>St.mk 40 [(1,AV.fn 66 [AV.ptr 0 0 0,AV.ptr 1 0 0,AV.ptr 2 0 0,AV.ptr 3 0 0]),(2,iv a),(3,iv g),(4,AV.ptr 4 0 0),(9,AV.sl 5 0 v0.length),(18,iv (iN (List.map bA n.bs).length)),(19,iv v1)] [some (Blk.mk [AV.lst (boL l)] 1 true true none),some (Blk.mk [iv d] 1 true true none),some (Blk.mk [sA x] 6 true true none),some (Blk.mk [AV.agg [AV.lst (boL q.cl),AV.lst (List.map (iv) q.bw),AV.lst (List.map (iv) q.pe)]] 3 true true none),some (Blk.mk [netA n] 8 true true none),some (Blk.mk (List.map AV.bool v0) 1 true true none)]
def paAHd:paAPc→Nat
 | .l0 _ _=>0
def paAEn(n:NetD)(l:List Bool)(d a g:Int)(x:SpuD)(q:SigD):Option (paAPc⊕Ret):=
 gu (1 * iN (List.map bA n.bs).length≤281474976710656) <|
 gu (iN (List.map bA n.bs).length≤9223372036854775807) <|
 some (.inl (.l0 (List.replicate (List.map bA n.bs).length false) ((0:Int))))
def paAS0(n:NetD)(l:List Bool)(d a g:Int)(x:SpuD)(q:SigD)(v0:List Bool)(v1:Int):Option (paAPc⊕Ret):=
 br (decide (v1<iN (List.map bA n.bs).length))
 (gu (0≤v1∧v1<iN l.length∧v1<iN q.cl.length) <|
  gu (0≤v1) <|
  gu (v1<iN v0.length) <|
  gu ((0+v1.toNat).succ.le (List.map AV.bool v0).length) <|
  some (.inl (.l0 (v0.set (0+v1.toNat) !(!l.getD v1.toNat true||(v1==d||v1==x.i&&!q.cl.getD v1.toNat true))) (IntKind.i64.wrap (v1+1)))))
 (gu (Rows n.nx) <|
  gu (∀(blk:Blk),blk∈[Blk.mk (List.map (AV.int IntKind.i64) (pathO n.nx v0 a g).fst) 1 true true none]→ImmB blk) <|
  some (.inr ([some (Blk.mk [AV.lst (boL l)] 1 true true none),some (Blk.mk [AV.int IntKind.i64 d] 1 true true none),some (Blk.mk [AV.agg [AV.str x.nm,AV.bool x.dep,AV.int IntKind.i64 x.i,AV.int IntKind.i64 x.o,AV.int IntKind.i64 x.k,AV.int IntKind.i64 x.b]] 6 true true none),some (Blk.mk [AV.agg [AV.lst (boL q.cl),AV.lst (List.map (AV.int IntKind.i64) q.bw),AV.lst (List.map (AV.int IntKind.i64) q.pe)]] 3 true true none)],AV.lst (List.map (AV.int IntKind.i64) (pathO n.nx v0 a g).fst))))
def paAStep(n:NetD)(l:List Bool)(d a g:Int)(x:SpuD)(q:SigD):paAPc→Option (paAPc⊕Ret)
 | .l0 v0 v1=>paAS0 n l d a g x q v0 v1
theorem paAEn_ok(n:NetD)(l:List Bool)(d a g:Int)(x:SpuD)(q:SigD)(o:paAPc⊕Ret)(h:paAEn n l d a g x q=some o):Arr Try.prog Try.f65 4 (paASt n l d a g x q) paAHd (zB Try.f65) [] {n:=Try.f65.ntmps,fr:=enumF 0 ([netA n,.fn 66 [.ptr 0 0 0,.ptr 1 0 0,.ptr 2 0 0,.ptr 3 0 0],.int .i64 a,.int .i64 g]),hp:=([some (Blk.mk [.lst (boL l)] 1 true true none),some (Blk.mk [.int .i64 d] 1 true true none),some (Blk.mk [sA x] 6 true true none),some (Blk.mk [sgA q] 3 true true none)])} o:=
 Scr.ok h mix (
 .rn 0 [] [] [] [] (al (u2 t2)) <|
 .gu fun a0=>
 .gu fun a1=>
 .lq [] [] [] [] [] [0,1,2,3,4,5] [1,2,3,4,9,18,19] (up [(9,AV.sl 5 0 (List.map bA n.bs).length)] [(5,List.replicate (List.map bA n.bs).length (AV.bool false))] (paASt n l d a g x q (.l0 (List.replicate (List.map bA n.bs).length false) ((0:Int))))) (aj (aj (u2 (u2 (u2 (aj (k2 (aj (show 0≤iN (List.map bA n.bs).length from(Int.natCast_nonneg _)) (aj (show iN (List.map bA n.bs).length≤iN (List.map bA n.bs).length by omega) (aj a0 a1)))) s2)))) (al (u2 (u2 t2)))) (aj t5 (ak (k3 t9)))) (by simp[up,upF,upV,upH,upB,paASt,gL,boL,lI,sA,bA])) (by kernel_rfl)
theorem paAS0_ok(n:NetD)(l:List Bool)(d a g:Int)(x:SpuD)(q:SigD)(v0:List Bool)(v1:Int)(o:paAPc⊕Ret)(h:paAS0 n l d a g x q v0 v1=some o):Arr Try.prog Try.f65 4 (paASt n l d a g x q) paAHd (headC Try.f65 0) (.rnd (headC Try.f65 0)::headK Try.f65 0) (paASt n l d a g x q (.l0 v0 v1)) o:=
 Scr.ok h mix (
 .rn 0 [] [] [] [] (al (al t3)) <|
 .br (fun a0=>
 .rn 0 [41] [] [] [] (aj a0 (al (u2 s2))) <|
 .gu fun a1=>
 .gu fun a2=>
 .gu fun a3=>
 .gu fun a4=>
 have c0:=lg1_c l d v1 x q a1;
 .lq [] [] [(26,hK c0 [0,1,2,3] [])] [] [] [0,1,2,3,4,5] [1,2,3,4,9,18,19] (up [(9,AV.sl 5 0 v0.length)] [(5,(List.map AV.bool v0).set (0+v1.toNat) (AV.bool !(!l.getD v1.toNat true||(v1==d||v1==x.i&&!q.cl.getD v1.toNat true))))] (paASt n l d a g x q (.l0 (v0.set (0+v1.toNat) !(!l.getD v1.toNat true||(v1==d||v1==x.i&&!q.cl.getD v1.toNat true))) (IntKind.i64.wrap (v1+1))))) (aj (aj (u2 (u2 (u2 (u2 (aj (ak (k5 (k5 (al (c0))))) (u2 (aj (k2 (aj a2 a3)) (al (k2 a4))))))))) (al (u2 s2))) (aj t5 (ak (k3 t9)))) (by simp[up,upF,upV,upH,upB,paASt,gL,boL,lI,sA,bA]))
 (fun a0=>
 .gu fun a1=>
 .gu fun a2=>
 have c0:=pthK v0 a g a1;
 .rt [40] [] [(36,hK c0 [] [5])] [] [0,1,2,3] [6] (aj (aj a0 (aj (u2 (u2 (u2 (u2 (u2 (aj (k5 (aj (show v0.length=(List.map AV.bool v0).length by simp) (k2 (aj (c0) a2)))) (u2 (u2 (u2 (u2 s2)))))))))) (al (u2 s2)))) (aj (show(pathO n.nx v0 a g).fst.length=(List.map (iv) (pathO n.nx v0 a g).fst).length by simp) t5)))) (by kernel_rfl)
theorem paA_ct(n:NetD)(l:List Bool)(d a g:Int)(x:SpuD)(q:SigD)(r:Ret)(h:MReach (paAStep n l d a g x q) (paAEn n l d a g x q) r):CT Try.prog 65 ([some (Blk.mk [.lst (boL l)] 1 true true none),some (Blk.mk [.int .i64 d] 1 true true none),some (Blk.mk [sA x] 6 true true none),some (Blk.mk [sgA q] 3 true true none)]) ([netA n,.fn 66 [.ptr 0 0 0,.ptr 1 0 0,.ptr 2 0 0,.ptr 3 0 0],.int .i64 a,.int .i64 g]) r.1 r.2:=
 CT.mach (fn:=Try.f65) (c:=zB Try.f65) (S:=paASt n l d a g x q) (hd:=paAHd) Try.func65 (by kernel_rfl) (Nat.le_of_ble_eq_true rfl)
  (fun s o ho=>match s,ho with
   | .l0 v0 v1,ho=>paAS0_ok n l d a g x q v0 v1 o ho
  )
  (fun o ho=>paAEn_ok n l d a g x q o ho) h
inductive paBPc where
 | l0 (v0:List Bool) (v1:Int)
def paBSt(n:NetD)(d a g:Int)(q:SigD):paBPc→St
 | .l0 v0 v1=>St.mk 40 [(1,AV.fn 67 [AV.ptr 0 0 0,AV.ptr 1 0 0]),(2,iv a),(3,iv g),(4,AV.ptr 2 0 0),(9,AV.sl 3 0 v0.length),(18,iv (iN (List.map bA n.bs).length)),(19,iv v1)] [some (Blk.mk [AV.agg [AV.lst (boL q.cl),AV.lst (List.map (iv) q.bw),AV.lst (List.map (iv) q.pe)]] 3 true true none),some (Blk.mk [iv d] 1 true true none),some (Blk.mk [netA n] 8 true true none),some (Blk.mk (List.map AV.bool v0) 1 true true none)]
def paBHd:paBPc→Nat
 | .l0 _ _=>0
def paBEn(n:NetD)(d a g:Int)(q:SigD):Option (paBPc⊕Ret):=
 gu (1 * iN (List.map bA n.bs).length≤281474976710656) <|
 gu (iN (List.map bA n.bs).length≤9223372036854775807) <|
 some (.inl (.l0 (List.replicate (List.map bA n.bs).length false) ((0:Int))))
def paBS0(n:NetD)(d a g:Int)(q:SigD)(v0:List Bool)(v1:Int):Option (paBPc⊕Ret):=
 br (decide (v1<iN (List.map bA n.bs).length))
 (gu (0≤v1∧v1<iN q.cl.length) <|
  gu (0≤v1) <|
  gu (v1<iN v0.length) <|
  gu ((0+v1.toNat).succ.le (List.map AV.bool v0).length) <|
  some (.inl (.l0 (v0.set (0+v1.toNat) !(!q.cl.getD v1.toNat true||v1==d)) (IntKind.i64.wrap (v1+1)))))
 (gu (Rows n.nx) <|
  gu (∀(blk:Blk),blk∈[Blk.mk (List.map (AV.int IntKind.i64) (pathO n.nx v0 a g).fst) 1 true true none]→ImmB blk) <|
  some (.inr ([some (Blk.mk [AV.agg [AV.lst (boL q.cl),AV.lst (List.map (AV.int IntKind.i64) q.bw),AV.lst (List.map (AV.int IntKind.i64) q.pe)]] 3 true true none),some (Blk.mk [AV.int IntKind.i64 d] 1 true true none)],AV.lst (List.map (AV.int IntKind.i64) (pathO n.nx v0 a g).fst))))
def paBStep(n:NetD)(d a g:Int)(q:SigD):paBPc→Option (paBPc⊕Ret)
 | .l0 v0 v1=>paBS0 n d a g q v0 v1
theorem paBEn_ok(n:NetD)(d a g:Int)(q:SigD)(o:paBPc⊕Ret)(h:paBEn n d a g q=some o):Arr Try.prog Try.f65 2 (paBSt n d a g q) paBHd (zB Try.f65) [] {n:=Try.f65.ntmps,fr:=enumF 0 ([netA n,.fn 67 [.ptr 0 0 0,.ptr 1 0 0],.int .i64 a,.int .i64 g]),hp:=([some (Blk.mk [sgA q] 3 true true none),some (Blk.mk [.int .i64 d] 1 true true none)])} o:=
 Scr.ok h mix (
 .rn 0 [] [] [] [] (al (u2 t2)) <|
 .gu fun a0=>
 .gu fun a1=>
 .lq [] [] [] [] [] [0,1,2,3] [1,2,3,4,9,18,19] (up [(9,AV.sl 3 0 (List.map bA n.bs).length)] [(3,List.replicate (List.map bA n.bs).length (AV.bool false))] (paBSt n d a g q (.l0 (List.replicate (List.map bA n.bs).length false) ((0:Int))))) (aj (aj (u2 (u2 (u2 (aj (k2 (aj (show 0≤iN (List.map bA n.bs).length from(Int.natCast_nonneg _)) (aj (show iN (List.map bA n.bs).length≤iN (List.map bA n.bs).length by omega) (aj a0 a1)))) s2)))) (al (u2 (u2 t2)))) (aj t3 (k2 t9))) (by simp[up,upF,upV,upH,upB,paBSt,gL,boL,lI,sA,bA])) (by kernel_rfl)
theorem paBS0_ok(n:NetD)(d a g:Int)(q:SigD)(v0:List Bool)(v1:Int)(o:paBPc⊕Ret)(h:paBS0 n d a g q v0 v1=some o):Arr Try.prog Try.f65 2 (paBSt n d a g q) paBHd (headC Try.f65 0) (.rnd (headC Try.f65 0)::headK Try.f65 0) (paBSt n d a g q (.l0 v0 v1)) o:=
 Scr.ok h mix (
 .rn 0 [] [] [] [] (al (al t3)) <|
 .br (fun a0=>
 .rn 0 [41] [] [] [] (aj a0 (al (u2 s2))) <|
 .gu fun a1=>
 .gu fun a2=>
 .gu fun a3=>
 .gu fun a4=>
 have c0:=lg2_c d v1 q a1;
 .lq [] [] [(26,hK c0 [0,1] [])] [] [] [0,1,2,3] [1,2,3,4,9,18,19] (up [(9,AV.sl 3 0 v0.length)] [(3,(List.map AV.bool v0).set (0+v1.toNat) (AV.bool !(!q.cl.getD v1.toNat true||v1==d)))] (paBSt n d a g q (.l0 (v0.set (0+v1.toNat) !(!q.cl.getD v1.toNat true||v1==d)) (IntKind.i64.wrap (v1+1))))) (aj (aj (u2 (u2 (u2 (u2 (aj (k2 (k5 (al (c0)))) (u2 (aj (k2 (aj a2 a3)) (al (k2 a4))))))))) (al (u2 s2))) (aj t3 (k2 t9))) (by simp[up,upF,upV,upH,upB,paBSt,gL,boL,lI,sA,bA]))
 (fun a0=>
 .gu fun a1=>
 .gu fun a2=>
 have c0:=pthK v0 a g a1;
 .rt [40] [] [(36,hK c0 [] [3])] [] [0,1] [4] (aj (aj a0 (aj (u2 (u2 (u2 (u2 (u2 (aj (k5 (aj (show v0.length=(List.map AV.bool v0).length by simp) (k2 (aj (c0) a2)))) (u2 (u2 (u2 (u2 s2)))))))))) (al (u2 s2)))) (aj (show(pathO n.nx v0 a g).fst.length=(List.map (iv) (pathO n.nx v0 a g).fst).length by simp) t3)))) (by kernel_rfl)
theorem paB_ct(n:NetD)(d a g:Int)(q:SigD)(r:Ret)(h:MReach (paBStep n d a g q) (paBEn n d a g q) r):CT Try.prog 65 ([some (Blk.mk [sgA q] 3 true true none),some (Blk.mk [.int .i64 d] 1 true true none)]) ([netA n,.fn 67 [.ptr 0 0 0,.ptr 1 0 0],.int .i64 a,.int .i64 g]) r.1 r.2:=
 CT.mach (fn:=Try.f65) (c:=zB Try.f65) (S:=paBSt n d a g q) (hd:=paBHd) Try.func65 (by kernel_rfl) (Nat.le_of_ble_eq_true rfl)
  (fun s o ho=>match s,ho with
   | .l0 v0 v1,ho=>paBS0_ok n d a g q v0 v1 o ho
  )
  (fun o ho=>paBEn_ok n d a g q o ho) h
def bmV(f:Nat→Bool)(c i:Nat):List Bool:=(List.range i).map f++List.replicate (c-i) false
theorem bmV_len{f:Nat→Bool}{c i:Nat}(h:i≤c):(bmV f c i).length=c:=by unfold bmV;simp;omega
theorem bmV_set{f:Nat→Bool}{c i:Nat}(h:i<c):(bmV f c i).set (0+i) (f i)=bmV f c (i+1):=by
 obtain⟨d,hd⟩:∃d,c-i=d+1:=⟨c-i-1,by omega⟩
 have hd2:c-(i+1)=d:=by omega
 unfold bmV
 rw[hd,hd2,Nat.zero_add,List.replicate_succ,List.set_append_right _ _ (by simp)]
 simp only[List.length_map,List.length_range,Nat.sub_self,List.set_cons_zero]
 rw[List.range_succ,List.map_append,List.append_assoc];rfl
theorem bmV_0(f:Nat→Bool)(c:Nat):bmV f c 0=List.replicate c false:=by unfold bmV;simp
theorem bmV_c(f:Nat→Bool)(c:Nat):bmV f c c=(List.range c).map f:=by unfold bmV;simp
def shG(nb:Nat)(l cl:List Bool)(d goal:Int):List Bool:=(List.range nb).map fun b:Nat=> !(!(l.getD b true)||((b:Int)==d||((b:Int)==goal&&!(cl.getD b true))))
def shW(nb:Nat)(cl:List Bool)(d:Int):List Bool:=(List.range nb).map fun b:Nat=> !(!(cl.getD b true)||(b:Int)==d)
theorem immI(l:List Int):∀(blk:Blk),blk∈[Blk.mk (List.map (AV.int .i64) l) 1 true true none]→ImmB blk:=fun blk hb=>by
 rw[List.mem_singleton.1 hb]
 intro e he c hc
 obtain⟨x,_,rfl⟩:=List.mem_map.1 he
 rw[List.mem_singleton.1 hc];rfl
theorem paA_c(n:NetD)(l:List Bool)(d a g:Int)(x:SpuD)(q:SigD)(hrw:Rows n.nx)(hn:n.bs.length≤1000∧n.bs.length≤l.length∧n.bs.length≤q.cl.length):
  CT Try.prog 65 [some (Blk.mk [.lst (boL l)] 1 true true none),some (Blk.mk [.int .i64 d] 1 true true none),some (Blk.mk [sA x] 6 true true none),some (Blk.mk [sgA q] 3 true true none)] [netA n,.fn 66 [.ptr 0 0 0,.ptr 1 0 0,.ptr 2 0 0,.ptr 3 0 0],.int .i64 a,.int .i64 g] [some (Blk.mk [.lst (boL l)] 1 true true none),some (Blk.mk [.int .i64 d] 1 true true none),some (Blk.mk [sA x] 6 true true none),some (Blk.mk [sgA q] 3 true true none)] (lI (pathO n.nx (shG n.bs.length l q.cl d x.i) a g).1):=by
 refine paA_ct n l d a g x q ([_,_,_,_],_) ?_
 obtain⟨n1,n2,n3⟩:=hn
 unfold paAEn
 have hb:(List.map bA n.bs).length=n.bs.length:=List.length_map ..
 rw[hb,gu_t (by simp only[iN];omega),gu_t (by simp only[iN];omega)]
 rw[←bmV_0 (fun b:Nat=> !(!(l.getD b true)||((b:Int)==d||((b:Int)==x.i&&!(q.cl.getD b true)))))]
 refine loop_up (fun i=>paAPc.l0 (bmV (fun b:Nat=> !(!(l.getD b true)||((b:Int)==d||((b:Int)==x.i&&!(q.cl.getD b true))))) n.bs.length i) (i:Int)) n.bs.length (fun i hi hx=>?_) ?_
 ·refine .to (show paAS0 n l d a g x q _ _=_ from ?_) hx
  unfold paAS0
  have hl:=bmV_len (f:=fun b:Nat=> !(!(l.getD b true)||((b:Int)==d||((b:Int)==x.i&&!(q.cl.getD b true))))) (Nat.le_of_lt hi)
  rw[hb,br_t (dec_t (by simp only[iN];omega)),gu_t (by simp only[iN];omega),gu_t (by omega),gu_t (by simp only[iN,hl];omega),gu_t (show Nat.le _ _ from(by rw[List.length_map,hl];show 0+(i:Int).toNat+1≤_;omega)),Int.toNat_natCast,bmV_set (f:=fun b:Nat=> !(!(l.getD b true)||((b:Int)==d||((b:Int)==x.i&&!(q.cl.getD b true))))) hi,zW i (by omega)]
 ·refine .to (show paAS0 n l d a g x q _ _=_ from ?_) (.ret _)
  unfold paAS0
  rw[hb,br_f (dec_f (by simp only[iN];omega)),gu_t hrw,gu_t (immI _),bmV_c];rfl
theorem paB_c(n:NetD)(d a g:Int)(q:SigD)(hrw:Rows n.nx)(hn:n.bs.length≤1000∧n.bs.length≤q.cl.length):
  CT Try.prog 65 [some (Blk.mk [sgA q] 3 true true none),some (Blk.mk [.int .i64 d] 1 true true none)] [netA n,.fn 67 [.ptr 0 0 0,.ptr 1 0 0],.int .i64 a,.int .i64 g] [some (Blk.mk [sgA q] 3 true true none),some (Blk.mk [.int .i64 d] 1 true true none)] (lI (pathO n.nx (shW n.bs.length q.cl d) a g).1):=by
 refine paB_ct n d a g q ([_,_],_) ?_
 obtain⟨n1,n3⟩:=hn
 unfold paBEn
 have hb:(List.map bA n.bs).length=n.bs.length:=List.length_map ..
 rw[hb,gu_t (by simp only[iN];omega),gu_t (by simp only[iN];omega)]
 rw[←bmV_0 (fun b:Nat=> !(!(q.cl.getD b true)||(b:Int)==d))]
 refine loop_up (fun i=>paBPc.l0 (bmV (fun b:Nat=> !(!(q.cl.getD b true)||(b:Int)==d)) n.bs.length i) (i:Int)) n.bs.length (fun i hi hx=>?_) ?_
 ·refine .to (show paBS0 n d a g q _ _=_ from ?_) hx
  unfold paBS0
  have hl:=bmV_len (f:=fun b:Nat=> !(!(q.cl.getD b true)||(b:Int)==d)) (Nat.le_of_lt hi)
  rw[hb,br_t (dec_t (by simp only[iN];omega)),gu_t (by simp only[iN];omega),gu_t (by omega),gu_t (by simp only[iN,hl];omega),gu_t (show Nat.le _ _ from(by rw[List.length_map,hl];show 0+(i:Int).toNat+1≤_;omega)),Int.toNat_natCast,bmV_set (f:=fun b:Nat=> !(!(q.cl.getD b true)||(b:Int)==d)) hi,zW i (by omega)]
 ·refine .to (show paBS0 n d a g q _ _=_ from ?_) (.ret _)
  unfold paBS0
  rw[hb,br_f (dec_f (by simp only[iN];omega)),gu_t hrw,gu_t (immI _),bmV_c];rfl
def grwSt(z:Int):Empty→St
 | x=>x.elim
def grwHd:Empty→Nat
 | x=>x.elim
def grwEn(z:Int):Option (Empty⊕Ret):=
 br (decide (z<0))
 (none)
 (br (decide (0<IntKind.i64.wrap (z-0)))
  (gu (0<IntKind.i64.wrap (z-0)) <|
   gu (IntKind.i64.wrap (z-0)≤9223372036854775807) <|
   gu ((IntKind.i64.wrap (z-0)).toNat * 8≤140737488355328) <|
   some (.inr ([some (Blk.mk (List.replicate (IntKind.i64.wrap (z-0)).toNat (AV.int IntKind.i64 0)) 1 true true none)],AV.sl 0 0 0)))
  (some (.inr ([],AV.nils))))
def grwStep(z:Int):Empty→Option (Empty⊕Ret)
 | x=>x.elim
theorem grwEn_ok(z:Int)(o:Empty⊕Ret)(h:grwEn z=some o):Arr Try.prog Try.f112 0 (grwSt z) grwHd (zB Try.f112) [] {n:=Try.f112.ntmps,fr:=enumF 0 ([.nils,.int .i64 z]),hp:=([])} o:=
 Scr.ok h mix (
 .rn 1 [] [] [] [] (u2 (al (u2 s2))) <|
 .br (fun a0=>
 .no)
 (fun a0=>
 .rn 1 [12] [] [] [] (aj a0 (aj (u2 (u2 (u2 (u2 (u2 (aj t3 (aj t3 s2))))))) (al (u2 s2)))) <|
 .br (fun a1=>
  .gu fun a2=>
  .gu fun a3=>
  .gu fun a4=>
  .rt [33] [] [] [] [0] [] (aj (aj a1 (aj (u2 (u2 (u2 (aj t3 (u2 (aj (k2 (aj a2 (aj a3 a4))) (u2 (u2 (aj (k2 (aj (show(0:Int)≤(0:Int) from(by first | exact Nat.le_of_ble_eq_true rfl | decide)) (aj (show(0:Int)≤(0:Int) from(by first | exact Nat.le_of_ble_eq_true rfl | decide)) (aj (show 0≤iN (IntKind.i64.wrap (z-0)).toNat from(Int.natCast_nonneg _)) (show iN (IntKind.i64.wrap (z-0)).toNat≤iN (IntKind.i64.wrap (z-0)).toNat by omega))))) s2))))))))) (al (u2 s2)))) t3))
 (fun a1=>
  .rt [32] [] [] [] [] [] (aj (aj a1 (al (u2 s2))) t2)))) (by kernel_rfl)
theorem grw_ct(z:Int)(r:Ret)(h:MReach (grwStep z) (grwEn z) r):CT Try.prog 112 ([]) ([.nils,.int .i64 z]) r.1 r.2:=
 CT.mach (fn:=Try.f112) (c:=zB Try.f112) (S:=grwSt z) (hd:=grwHd) Try.func112 (by kernel_rfl) (Nat.le_of_ble_eq_true rfl)
  (fun s o ho=>match s,ho with
   | x,_=>x.elim)
  (fun o ho=>grwEn_ok z o ho) h
inductive slkPc where
 | l0 (v0:Int) (v1:List Int)
def slkSt(x:SpuD)(k:Int):slkPc→St
 | .l0 v0 v1=>St.mk 20 [(1,iv v0),(2,AV.ptr 0 0 0),(5,AV.sl 1 0 v1.length)] [some (Blk.mk [sA x] 6 true true none),some (Blk.mk (List.map (iv) v1) 1 true true none)]
def slkHd:slkPc→Nat
 | .l0 _ _=>0
def slkEn(x:SpuD)(k:Int):Option (slkPc⊕Ret):=
 some (.inl (.l0 k ([])))
def slkS0(x:SpuD)(k v0:Int)(v1:List Int):Option (slkPc⊕Ret):=
 br (decide (v0<x.k))
 (gu ((List.map (AV.int IntKind.i64) v1).length+[AV.int IntKind.i64 (IntKind.i64.wrap (x.b+v0))].length≤9223372036854775807) <|
  gu (((List.map (AV.int IntKind.i64) v1).length+[AV.int IntKind.i64 (IntKind.i64.wrap (x.b+v0))].length) * 8≤140737488355328) <|
  some (.inl (.l0 (IntKind.i64.wrap (v0+1)) (v1++[IntKind.i64.wrap (x.b+v0)]))))
 (some (.inr ([some (Blk.mk (List.map (AV.int IntKind.i64) v1) 1 true true none)],AV.sl 0 0 v1.length)))
def slkStep(x:SpuD)(k:Int):slkPc→Option (slkPc⊕Ret)
 | .l0 v0 v1=>slkS0 x k v0 v1
theorem slkEn_ok(x:SpuD)(k:Int)(o:slkPc⊕Ret)(h:slkEn x k=some o):Arr Try.prog Try.f63 0 (slkSt x k) slkHd (zB Try.f63) [] {n:=Try.f63.ntmps,fr:=enumF 0 ([sA x,.int .i64 k]),hp:=([])} o:=
 Scr.ok h mix (
 .lp [] [] [] [] [(5,1)] [0,1] [1,2,5] (aj (ag t2 s2) t6)) (by kernel_rfl)
theorem slkS0_ok(x:SpuD)(k v0:Int)(v1:List Int)(o:slkPc⊕Ret)(h:slkS0 x k v0 v1=some o):Arr Try.prog Try.f63 0 (slkSt x k) slkHd (headC Try.f63 0) (.rnd (headC Try.f63 0)::headK Try.f63 0) (slkSt x k (.l0 v0 v1)) o:=
 Scr.ok h mix (
 .rn 0 [] [] [] [] (al (u2 (u2 (u2 (al t3))))) <|
 .br (fun a0=>
 .gu fun a1=>
 .gu fun a2=>
 .lq [19] [] [] [] [] [0,3] [1,2,5] (up [(5,AV.sl 1 0 ((List.map (iv) v1).length+[iv (IntKind.i64.wrap (x.b+v0))].length))] [(1,List.map (iv) v1++[iv (IntKind.i64.wrap (x.b+v0))])] (slkSt x k (.l0 (IntKind.i64.wrap (v0+1)) (v1++[IntKind.i64.wrap (x.b+v0)])))) (aj (aj a0 (aj (u2 (u2 (u2 (u2 (aj t3 (u2 (aj (k2 (aj (show(List.map (iv) v1).length=v1.length by simp) (aj (aj (show nat_lit 1=nat_lit 1 from rfl) (show 1≤[iv (IntKind.i64.wrap (x.b+v0))].length by simp)) (aj a1 a2)))) s2))))))) (al (u2 (u2 s2))))) t6) (by simp[up,upF,upV,upH,upB,slkSt,gL,boL,lI,sA]))
 (fun a0=>
 .rt [18] [] [] [] [1] [] (aj (aj a0 (al (u2 s2))) t3))) (by kernel_rfl)
theorem slk_ct(x:SpuD)(k:Int)(r:Ret)(h:MReach (slkStep x k) (slkEn x k) r):CT Try.prog 63 ([]) ([sA x,.int .i64 k]) r.1 r.2:=
 CT.mach (fn:=Try.f63) (c:=zB Try.f63) (S:=slkSt x k) (hd:=slkHd) Try.func63 (by kernel_rfl) (Nat.le_of_ble_eq_true rfl)
  (fun s o ho=>match s,ho with
   | .l0 v0 v1,ho=>slkS0_ok x k v0 v1 o ho
  )
  (fun o ho=>slkEn_ok x k o ho) h
theorem CT.virt{f:FuncId}{hin hout:List (Option Blk)}{args:List AV}(z:Nat)(h:CT Try.prog f hin args hout .nils):CT Try.prog f hin args (hout++[some (Blk.mk [] z true true none)]) (.sl hout.length 0 0):=by
 intro φ A w vs h1 h2 h3 h4 h5
 refine(h φ A w vs h1 h2 h3 h4 h5).mono fun e w' ⟨v,φ',he,C⟩=>⟨v,φ',he,?_⟩
 have hnone:φ' hout.length=none:=C.out _ (Nat.le_refl _)
 have hmut:∀r,Mut φ' (nth (hout++[some (Blk.mk [] z true true none)])) r→Mut φ' (nth hout) r:=by
  rintro r ⟨b,blk',z',g1,g2,g3⟩
  rcases nth_snoc g1 with g | ⟨rfl,rfl⟩
  ·exact⟨b,blk',z',g,g2,g3⟩
  ·rw[hnone] at g3;cases g3
 have hok:∀r,Ok A w.heap.size φ' (nth hout) w' r→Ok A w.heap.size φ' (nth (hout++[some (Blk.mk [] z true true none)])) w' r:=fun r ⟨g1,g2,g3⟩=>⟨g1,g2,fun h=>g3 (hmut r h)⟩
 have brm:∀{b:Nat} {blk:Blk},BR φ' (Ok A w.heap.size φ' (nth hout) w') w' b blk→BR φ' (Ok A w.heap.size φ' (nth (hout++[some (Blk.mk [] z true true none)])) w') w' b blk:=by
  rintro b blk (h1 | ⟨r,cs,T,h1,h2,h3,h5⟩ | h1)
  ·exact .inl h1
  ·refine .inr (.inl ⟨r,cs,T,h1,h2,h3,fun i e he=>⟨(h5 i e he).1,fun j c hc=>?_⟩⟩)
   obtain⟨g3,v,g4,g5⟩:=(h5 i e he).2 j c hc
   exact⟨g3,v,g4,g5.mono (fun _ _ h=>h) hok (fun _ _=>rfl) (fun _=>Nat.le_refl _)⟩
  ·exact .inr (.inr h1)
 have hlen:(hout++[some (Blk.mk [] z true true none)]).length=hout.length+1:=by simp
 have hs:∀b r z',(nth (hout++[some (Blk.mk [] z true true none)]) b).isSome=true→φ' b=some (r,z')→(nth hout b).isSome=true:=by
  intro b r z' g1 g2
  obtain⟨blk',g⟩:=Option.isSome_iff_exists.1 g1
  rcases nth_snoc g with g | ⟨rfl,_⟩
  ·rw[g];rfl
  ·rw[hnone] at g2;cases g2
 refine⟨C.par,C.keep,fun r hr=>C.mutd r (hmut r hr),⟨fun b blk' hb'=>?_,fun b blk' hb' hf=>?_,fun b b' r z1 z2 g1 g2 g3 g4=>C.heap.inj b b' r z1 z2 (hs b r z1 g1 g3) (hs b' r z2 g2 g4) g3 g4⟩,?_,fun b hb'=>C.out b (by rw[hlen] at hb';omega),by have:=C.len;rw[hlen];omega,C.own⟩
 ·rcases nth_snoc hb' with g | ⟨rfl,rfl⟩
  ·exact brm (C.heap.blk b blk' g)
  ·exact .inl ⟨rfl,hnone,rfl,rfl⟩
 ·rcases nth_snoc hb' with g | ⟨rfl,rfl⟩
  ·exact C.heap.flat b blk' g hf
  ·intro e he;cases he
 ·have:=C.val
  rw[this.nils_inv]
  exact .slnil _ 0 none
theorem LessB.nought{es:List AV}{z:Nat}{fl:Bool}:LessB (Blk.mk es z fl true none) (Blk.mk [] z true true none):=⟨rfl,fun _=>rfl,rfl,Nat.zero_le _,fun i e h=>(by simp at h),fun _ e he=>(by cases he),fun _=>rfl⟩
theorem grow_c(n:Int)(h0:0≤n∧n≤10000000000):CT Try.prog 112 [] [.nils,.int .i64 n] [some (Blk.mk [] 1 true true none)] (.sl 0 0 0):=by
 obtain⟨h0,h1⟩:=h0
 have hw:IntKind.i64.wrap (n-0)=n:=by rw[Int.sub_zero];exact wrap_in (by omega) (by omega)
 by_cases hp:0<n
 ·refine CT.lessOut (hout:=[some (Blk.mk (List.replicate (IntKind.i64.wrap (n-0)).toNat (AV.int IntKind.i64 0)) 1 true true none)]) ?_ rfl fun b blk' hb=>?_
  ·refine grw_ct n ([_],.sl 0 0 0) (.val ?_)
   unfold grwEn
   rw[br_f (dec_f (by omega)),hw,br_t (dec_t hp),gu_t hp,gu_t (by omega),gu_t (by omega)]
  ·match b,hb with
   | 0,hb=>cases hb;exact⟨_,rfl,LessB.nought,rfl⟩
 ·have e:n=0:=by omega
  subst e
  refine CT.virt 1 (hout:=[]) ?_
  refine grw_ct 0 ([],.nils) (.val ?_)
  unfold grwEn
  rw[br_f (by rfl),hw,br_f (by rfl)]
theorem slk_c(x:SpuD)(k:Int)(hk:0≤k∧k≤1000)(hb:0≤x.b∧x.b≤1000)(hx:x.k≤1000):CT Try.prog 63 [] [sA x,.int .i64 k] [some (Blk.mk ((sltL x k).map (AV.int .i64)) 1 true true none)] (.sl 0 0 (sltL x k).length):=by
 refine slk_ct x k ([_],_) ?_
 unfold slkEn
 have e0:(some (.inl (slkPc.l0 (k+((0:Nat):Int)) ((List.range 0).map fun i:Nat=>x.b+k+(i:Int)))):Option (slkPc⊕Ret))=some (.inl (.l0 k [])):=by simp
 rw[←e0]
 refine loop_up (fun i=>slkPc.l0 (k+(i:Int)) ((List.range i).map fun i:Nat=>x.b+k+(i:Int))) (x.k-k).toNat (fun i hi hx=>?_) ?_
 ·refine .to (show slkS0 x k _ _=_ from ?_) hx
  unfold slkS0
  have w1:IntKind.i64.wrap (x.b+(k+(i:Int)))=x.b+k+(i:Int):=by rw[wrap_in (by omega) (by omega)];omega
  have w2:IntKind.i64.wrap (k+(i:Int)+1)=k+((i+1:Nat):Int):=by rw[wrap_in (by omega) (by omega)];omega
  rw[br_t (dec_t (by omega)),gu_t (by simp only[List.length_map,List.length_range,List.length_cons,List.length_nil];omega),gu_t (by simp only[List.length_map,List.length_range,List.length_cons,List.length_nil];omega),w1,w2,rngM]
 ·refine .to (show slkS0 x k _ _=_ from ?_) (.ret _)
  unfold slkS0
  rw[br_f (dec_f (by omega))];rfl
inductive ixlPc where
 | l0 (v0:Int)
def ixlSt(q:SigD)(l:List Int)(z:Nat):ixlPc→St
 | .l0 v0=>St.mk 19 [(0,AV.sl 0 0 z),(1,AV.fn 138 [AV.ptr 1 0 0]),(7,iv (iN z)),(8,iv v0)] [some (Blk.mk (List.map (iv) l) 1 true true none),some (Blk.mk [AV.agg [AV.lst (boL q.cl),AV.lst (List.map (iv) q.bw),AV.lst (List.map (iv) q.pe)]] 3 true true none)]
def ixlHd:ixlPc→Nat
 | .l0 _=>0
def ixlEn(q:SigD)(l:List Int)(z:Nat):Option (ixlPc⊕Ret):=
 some (.inl (.l0 ((0:Int))))
def ixlS0(q:SigD)(l:List Int)(z:Nat)(v0:Int):Option (ixlPc⊕Ret):=
 br (decide (v0<iN z))
 (gu (0≤v0) <|
  gu (v0<iN z) <|
  el l (0+v0.toNat) fun(x15:Int)=>
  gu (0≤x15∧x15<iN q.cl.length) <|
  br (q.cl.getD x15.toNat true)
  (some (.inr ([some (Blk.mk (List.map (AV.int IntKind.i64) l) 1 true true none),some (Blk.mk [AV.agg [AV.lst (boL q.cl),AV.lst (List.map (AV.int IntKind.i64) q.bw),AV.lst (List.map (AV.int IntKind.i64) q.pe)]] 3 true true none)],AV.int IntKind.i64 v0)))
  (some (.inl (.l0 (IntKind.i64.wrap (v0+1))))))
 (some (.inr ([some (Blk.mk (List.map (AV.int IntKind.i64) l) 1 true true none),some (Blk.mk [AV.agg [AV.lst (boL q.cl),AV.lst (List.map (AV.int IntKind.i64) q.bw),AV.lst (List.map (AV.int IntKind.i64) q.pe)]] 3 true true none)],AV.int IntKind.i64 (-1))))
def ixlStep(q:SigD)(l:List Int)(z:Nat):ixlPc→Option (ixlPc⊕Ret)
 | .l0 v0=>ixlS0 q l z v0
theorem ixlEn_ok(q:SigD)(l:List Int)(z:Nat)(o:ixlPc⊕Ret)(h:ixlEn q l z=some o):Arr Try.prog Try.f133 2 (ixlSt q l z) ixlHd (zB Try.f133) [] {n:=Try.f133.ntmps,fr:=enumF 0 ([.sl 0 0 z,.fn 138 [.ptr 1 0 0]]),hp:=([some (Blk.mk (l.map (AV.int .i64)) 1 true true none),some (Blk.mk [sgA q] 3 true true none)])} o:=
 Scr.ok h mix (
 .lp [] [] [] [] [] [0,1] [0,1,7,8] (aj (u2 (al (u2 (u2 t2)))) (ak (u2 t5)))) (by kernel_rfl)
theorem ixlS0_ok(q:SigD)(l:List Int)(z:Nat)(v0:Int)(o:ixlPc⊕Ret)(h:ixlS0 q l z v0=some o):Arr Try.prog Try.f133 2 (ixlSt q l z) ixlHd (headC Try.f133 0) (.rnd (headC Try.f133 0)::headK Try.f133 0) (ixlSt q l z (.l0 v0)) o:=
 Scr.ok h mix (
 .rn 0 [] [] [] [] (al (al t3)) <|
 .br (fun a0=>
 .rn 0 [19] [] [] [] (aj a0 (al (u2 s2))) <|
 .gu fun a1=>
 .gu fun a2=>
 .el fun x15 a3=>
 .gu fun a4=>
 have c0:=pd1_c q x15 a4;
 .rn 0 [] [(15,iv x15)] [(16,hK c0 [1] [])] [] (al (u2 (u2 (u2 (aj (k2 (aj a1 a2)) (aj (ak (getMap (f:=iv) a3)) (al (k5 (al (c0)))))))))) <|
 .br (fun a5=>
  .rt [33] [] [] [] [0,1] [] (aj (aj a5 (al (u2 s2))) t4))
 (fun a5=>
  .lp [32] [] [] [] [] [0,1] [0,1,7,8] (aj (aj a5 (al (u2 s2))) (ak (u2 t5)))))
 (fun a0=>
 .rt [18] [] [] [] [0,1] [] (aj (aj a0 s2) t4))) (by kernel_rfl)
theorem ixl_ct(q:SigD)(l:List Int)(z:Nat)(r:Ret)(h:MReach (ixlStep q l z) (ixlEn q l z) r):CT Try.prog 133 ([some (Blk.mk (l.map (AV.int .i64)) 1 true true none),some (Blk.mk [sgA q] 3 true true none)]) ([.sl 0 0 z,.fn 138 [.ptr 1 0 0]]) r.1 r.2:=
 CT.mach (fn:=Try.f133) (c:=zB Try.f133) (S:=ixlSt q l z) (hd:=ixlHd) Try.func133 (by kernel_rfl) (Nat.le_of_ble_eq_true rfl)
  (fun s o ho=>match s,ho with
   | .l0 v0,ho=>ixlS0_ok q l z v0 o ho
  )
  (fun o ho=>ixlEn_ok q l z o ho) h
theorem ixl_c(q:SigD)(l:List Int)(z:Nat)(hz:z=l.length)(hl:l.length≤1000000)(hr:∀c∈l,0≤c∧c<(q.cl.length:Int)):CT Try.prog 133 [some (Blk.mk (l.map (AV.int .i64)) 1 true true none),some (Blk.mk [sgA q] 3 true true none)] [.sl 0 0 z,.fn 138 [.ptr 1 0 0]] [some (Blk.mk (l.map (AV.int .i64)) 1 true true none),some (Blk.mk [sgA q] 3 true true none)] (.int .i64 (pasZ q.cl l)):=by
 subst hz
 refine ixl_ct q l l.length ([_,_],_) ?_
 unfold ixlEn pasZ
 refine(loop_fnd (fun i=>ixlPc.l0 (i:Int)) l.length (fun i=>q.cl.getD (l.getD i 0).toNat true) (rF:=fun i=>(([some (Blk.mk (l.map (AV.int .i64)) 1 true true none),some (Blk.mk [sgA q] 3 true true none)],.int .i64 (i:Int)):Ret)) (r:=([some (Blk.mk (l.map (AV.int .i64)) 1 true true none),some (Blk.mk [sgA q] 3 true true none)],.int .i64 (-1))) (fun i hi hp=>?_) (fun i x hi hp hx=>?_) (fun _=>?_)).res (by cases fnd (fun i=>q.cl.getD (l.getD i 0).toNat true) 0 l.length<;>rfl)
 ·have hm:=hr _ (getD_mem hi)
  refine .to (show ixlS0 q l l.length i=_ from ?_) (.ret _)
  unfold ixlS0
  rw[br_t (dec_t (by simp only[iN];omega)),gu_t (by omega),gu_t (by simp only[iN];omega),Nat.zero_add,elG 0 hi,gu_t hm,br_t hp];rfl
 ·have hm:=hr _ (getD_mem hi)
  refine .to (show ixlS0 q l l.length i=_ from ?_) hx
  unfold ixlS0
  rw[br_t (dec_t (by simp only[iN];omega)),gu_t (by omega),gu_t (by simp only[iN];omega),Nat.zero_add,elG 0 hi,gu_t hm,br_f hp,zW i (by omega)]
 ·refine .to (show ixlS0 q l l.length l.length=_ from ?_) (.ret _)
  unfold ixlS0
  rw[br_f (dec_f (by simp only[iN];omega))];rfl
def cflSt(q:SigD)(l:List Int)(z:Nat):Empty→St
 | x=>x.elim
def cflHd:Empty→Nat
 | x=>x.elim
def cflEn(q:SigD)(l:List Int)(z:Nat):Option (Empty⊕Ret):=
 gu (z=l.length) <|
 gu (l.length≤1000000) <|
 gu (∀(c:Int),c∈l→0≤c∧c<iN q.cl.length) <|
 some (.inr ([some (Blk.mk (List.map (AV.int IntKind.i64) l) 1 true true none),some (Blk.mk [AV.agg [AV.lst (boL q.cl),AV.lst (List.map (AV.int IntKind.i64) q.bw),AV.lst (List.map (AV.int IntKind.i64) q.pe)]] 3 true true none)],AV.bool (decide (0≤pasZ q.cl l))))
def cflStep(q:SigD)(l:List Int)(z:Nat):Empty→Option (Empty⊕Ret)
 | x=>x.elim
theorem cflEn_ok(q:SigD)(l:List Int)(z:Nat)(o:Empty⊕Ret)(h:cflEn q l z=some o):Arr Try.prog Try.f137 2 (cflSt q l z) cflHd (zB Try.f137) [] {n:=Try.f137.ntmps,fr:=enumF 0 ([.sl 0 0 z,.fn 138 [.ptr 1 0 0]]),hp:=([some (Blk.mk (l.map (AV.int .i64)) 1 true true none),some (Blk.mk [sgA q] 3 true true none)])} o:=
 Scr.ok h mix (
 .rn 0 [] [] [] [] s2 <|
 .gu fun a0=>
 .gu fun a1=>
 .gu fun a2=>
 have c0:=ixl_c q l z a0 a1 a2;
 .rt [] [] [(7,hK c0 [0,1] [])] [] [0,1] [] (aj (al (u2 (u2 (aj (k3 (u2 (k2 (al (c0))))) (u2 s2))))) t4)) (by kernel_rfl)
theorem cfl_ct(q:SigD)(l:List Int)(z:Nat)(r:Ret)(h:MReach (cflStep q l z) (cflEn q l z) r):CT Try.prog 137 ([some (Blk.mk (l.map (AV.int .i64)) 1 true true none),some (Blk.mk [sgA q] 3 true true none)]) ([.sl 0 0 z,.fn 138 [.ptr 1 0 0]]) r.1 r.2:=
 CT.mach (fn:=Try.f137) (c:=zB Try.f137) (S:=cflSt q l z) (hd:=cflHd) Try.func137 (by kernel_rfl) (Nat.le_of_ble_eq_true rfl)
  (fun s o ho=>match s,ho with
   | x,_=>x.elim)
  (fun o ho=>cflEn_ok q l z o ho) h
theorem cfl_c(q:SigD)(l:List Int)(z:Nat)(hz:z=l.length)(hl:l.length≤1000000)(hr:∀c∈l,0≤c∧c<(q.cl.length:Int)):CT Try.prog 137 [some (Blk.mk (l.map (AV.int .i64)) 1 true true none),some (Blk.mk [sgA q] 3 true true none)] [.sl 0 0 z,.fn 138 [.ptr 1 0 0]] [some (Blk.mk (l.map (AV.int .i64)) 1 true true none),some (Blk.mk [sgA q] 3 true true none)] (.bool (!(pasB q.cl l))):=by
 refine cfl_ct q l z ([_,_],_) (.val ?_)
 unfold cflEn
 rw[gu_t hz,gu_t hl,gu_t hr,pasZ_b];rfl
def palSt(q:SigD)(l:List Int)(z:Nat):Empty→St
 | x=>x.elim
def palHd:Empty→Nat
 | x=>x.elim
def palEn(q:SigD)(l:List Int)(z:Nat):Option (Empty⊕Ret):=
 gu (z=l.length) <|
 gu (l.length≤1000000) <|
 gu (∀(c:Int),c∈l→0≤c∧c<iN q.cl.length) <|
 some (.inr ([some (Blk.mk (List.map (AV.int IntKind.i64) l) 1 true true none)],AV.bool !!pasB q.cl l))
def palStep(q:SigD)(l:List Int)(z:Nat):Empty→Option (Empty⊕Ret)
 | x=>x.elim
theorem palEn_ok(q:SigD)(l:List Int)(z:Nat)(o:Empty⊕Ret)(h:palEn q l z=some o):Arr Try.prog Try.f110 1 (palSt q l z) palHd (zB Try.f110) [] {n:=Try.f110.ntmps,fr:=enumF 0 ([sgA q,.sl 0 0 z]),hp:=([some (Blk.mk (l.map (AV.int .i64)) 1 true true none)])} o:=
 Scr.ok h mix (
 .rn 0 [] [] [] [] (al (u2 t2)) <|
 .gu fun a0=>
 .gu fun a1=>
 .gu fun a2=>
 have c0:=cfl_c q l z a0 a1 a2;
 .rt [] [] [(7,hK c0 [0,1] [])] [] [0] [] (aj (al (u2 (u2 (aj (k3 (u2 (k2 (al (c0))))) (u2 s2))))) t3)) (by kernel_rfl)
theorem pal_ct(q:SigD)(l:List Int)(z:Nat)(r:Ret)(h:MReach (palStep q l z) (palEn q l z) r):CT Try.prog 110 ([some (Blk.mk (l.map (AV.int .i64)) 1 true true none)]) ([sgA q,.sl 0 0 z]) r.1 r.2:=
 CT.mach (fn:=Try.f110) (c:=zB Try.f110) (S:=palSt q l z) (hd:=palHd) Try.func110 (by kernel_rfl) (Nat.le_of_ble_eq_true rfl)
  (fun s o ho=>match s,ho with
   | x,_=>x.elim)
  (fun o ho=>palEn_ok q l z o ho) h
theorem pal_c(q:SigD)(l:List Int)(z:Nat)(hz:z=l.length)(hl:l.length≤1000000)(hr:∀c∈l,0≤c∧c<(q.cl.length:Int)):CT Try.prog 110 [some (Blk.mk (l.map (AV.int .i64)) 1 true true none)] [sgA q,.sl 0 0 z] [some (Blk.mk (l.map (AV.int .i64)) 1 true true none)] (.bool (pasB q.cl l)):=by
 refine pal_ct q l z ([_],_) (.val ?_)
 unfold palEn
 rw[gu_t hz,gu_t hl,gu_t hr,Bool.not_not]
def rskSt(q:SigD)(l:List Int)(z:Nat):Empty→St
 | x=>x.elim
def rskHd:Empty→Nat
 | x=>x.elim
def rskEn(q:SigD)(l:List Int)(z:Nat):Option (Empty⊕Ret):=
 gu (z=l.length) <|
 gu (l.length≤1000000) <|
 gu (∀(c:Int),c∈l→0≤c∧c<iN q.cl.length) <|
 br (!pasB q.cl l)
 (some (.inr ([some (Blk.mk (List.map (AV.int IntKind.i64) l) 1 true true none)],AV.tup [AV.nils,AV.bool false,AV.int IntKind.i64 0])))
 (some (.inr ([some (Blk.mk (List.map (AV.int IntKind.i64) l) 1 true true none)],AV.tup [AV.sl 0 0 z,AV.bool true,AV.int IntKind.i64 0])))
def rskStep(q:SigD)(l:List Int)(z:Nat):Empty→Option (Empty⊕Ret)
 | x=>x.elim
theorem rskEn_ok(q:SigD)(l:List Int)(z:Nat)(o:Empty⊕Ret)(h:rskEn q l z=some o):Arr Try.prog Try.f64 1 (rskSt q l z) rskHd (zB Try.f64) [] {n:=Try.f64.ntmps,fr:=enumF 0 ([sgA q,.sl 0 0 z]),hp:=([some (Blk.mk (l.map (AV.int .i64)) 1 true true none)])} o:=
 Scr.ok h mix (
 .rn 0 [] [] [] [] (al (u2 t4)) <|
 .gu fun a0=>
 .gu fun a1=>
 .gu fun a2=>
 have c0:=pal_c q l z a0 a1 a2;
 .rn 0 [] [] [(9,hK c0 [0] [])] [] (al (u2 (u2 (aj (k2 (aj t4 (k2 (al (c0))))) s2)))) <|
 .br (fun a3=>
 .rt [21] [] [] [] [0] [] (aj (aj a3 (al t4)) (aj t4 t2)))
 (fun a3=>
 .rt [20] [] [] [] [0] [] (aj (aj a3 (al (u2 (u2 t3)))) (aj t4 t2)))) (by kernel_rfl)
theorem rsk_ct(q:SigD)(l:List Int)(z:Nat)(r:Ret)(h:MReach (rskStep q l z) (rskEn q l z) r):CT Try.prog 64 ([some (Blk.mk (l.map (AV.int .i64)) 1 true true none)]) ([sgA q,.sl 0 0 z]) r.1 r.2:=
 CT.mach (fn:=Try.f64) (c:=zB Try.f64) (S:=rskSt q l z) (hd:=rskHd) Try.func64 (by kernel_rfl) (Nat.le_of_ble_eq_true rfl)
  (fun s o ho=>match s,ho with
   | x,_=>x.elim)
  (fun o ho=>rskEn_ok q l z o ho) h
inductive cc3Pc where
 | l0 (v0 v1:Int)
 | l1 (v0:List Int) (v1:Int)
def cc3St(l y z:List Int):cc3Pc→St
 | .l0 v0 v1=>St.mk 36 [(0,AV.sl 0 0 3),(3,iv v0),(9,AV.sl 0 0 3),(10,iv 3),(11,iv v1)] [some (Blk.mk [AV.lst (List.map (iv) l),AV.lst (List.map (iv) y),AV.lst (List.map (iv) z)] 1 true true none)]
 | .l1 v0 v1=>St.mk 36 [(6,AV.sl 1 0 v0.length),(25,AV.sl 0 0 3),(26,iv 3),(27,iv v1)] [some (Blk.mk [AV.lst (List.map (iv) l),AV.lst (List.map (iv) y),AV.lst (List.map (iv) z)] 1 true true none),some (Blk.mk (List.map (iv) v0) 1 true true none)]
def cc3Hd:cc3Pc→Nat
 | .l0 _ _=>0
 | .l1 _ _=>1
def cc3En(l y z:List Int):Option (cc3Pc⊕Ret):=
 some (.inl (.l0 ((0:Int)) ((0:Int))))
def cc3S0(l y z:List Int)(v0 v1:Int):Option (cc3Pc⊕Ret):=
 br (decide (v1<3))
 (gu (0≤v1) <|
  gu (v1<3) <|
  el ([l,y,z]) (0+v1.toNat) fun(x14:List Int)=>
  br (decide (IntKind.i64.wrap (v0+iN (List.map (AV.int IntKind.i64) x14).length)<0))
  (none)
  (some (.inl (.l0 (IntKind.i64.wrap (v0+iN (List.map (AV.int IntKind.i64) x14).length)) (IntKind.i64.wrap (v1+1))))))
 (gu (0≤v0∧v0≤10000000000) <|
  some (.inl (.l1 ([]) ((0:Int)))))
def cc3S1(l y z:List Int)(v0:List Int)(v1:Int):Option (cc3Pc⊕Ret):=
 br (decide (v1<3))
 (gu (0≤v1) <|
  gu (v1<3) <|
  el ([l,y,z]) (0+v1.toNat) fun(x30:List Int)=>
  gu (∀(e:AV),e∈List.map (AV.int IntKind.i64) x30→e.cells.length=1) <|
  gu ((List.map (AV.int IntKind.i64) v0).length+(List.map (AV.int IntKind.i64) x30).length≤9223372036854775807) <|
  gu (((List.map (AV.int IntKind.i64) v0).length+(List.map (AV.int IntKind.i64) x30).length) * 8≤140737488355328) <|
  some (.inl (.l1 (v0++x30) (IntKind.i64.wrap (v1+1)))))
 (some (.inr ([some (Blk.mk [AV.lst (List.map (AV.int IntKind.i64) l),AV.lst (List.map (AV.int IntKind.i64) y),AV.lst (List.map (AV.int IntKind.i64) z)] 1 true true none),some (Blk.mk (List.map (AV.int IntKind.i64) v0) 1 true true none)],AV.sl 1 0 v0.length)))
def cc3Step(l y z:List Int):cc3Pc→Option (cc3Pc⊕Ret)
 | .l0 v0 v1=>cc3S0 l y z v0 v1
 | .l1 v0 v1=>cc3S1 l y z v0 v1
theorem cc3En_ok(l y z:List Int)(o:cc3Pc⊕Ret)(h:cc3En l y z=some o):Arr Try.prog Try.f68 1 (cc3St l y z) cc3Hd (zB Try.f68) [] {n:=Try.f68.ntmps,fr:=enumF 0 ([.sl 0 0 3]),hp:=([some (Blk.mk [lI l,lI y,lI z] 1 true true none)])} o:=
 Scr.ok h mix (
 .lp [] [] [] [] [] [0] [0,3,9,10,11] (aj (u2 (u2 (al (u2 (u2 t2))))) t7)) (by kernel_rfl)
theorem cc3S0_ok(l y z:List Int)(v0 v1:Int)(o:cc3Pc⊕Ret)(h:cc3S0 l y z v0 v1=some o):Arr Try.prog Try.f68 1 (cc3St l y z) cc3Hd (headC Try.f68 0) (.rnd (headC Try.f68 0)::headK Try.f68 0) (cc3St l y z (.l0 v0 v1)) o:=
 Scr.ok h mix (
 .rn 0 [] [] [] [] (al (al t3)) <|
 .br (fun a0=>
 .gu fun a1=>
 .gu fun a2=>
 .el fun x14 a3=>
 .rn 2 [25] [(14,lI x14)] [] [] (aj a0 (aj (aj (k2 (aj a1 a2)) (aj (ak (getMap (f:=lI) a3)) s2)) (aj (u2 (u2 (u2 (aj t3 s2)))) (al (u2 s2))))) <|
 .br (fun a4=>
  .no)
 (fun a4=>
  .lp [40] [] [] [] [] [0] [0,3,9,10,11] (aj (aj a4 (al (u2 s2))) t7)))
 (fun a0=>
 .gu fun a1=>
 have c0:=grow_c v0 a1;
 .lp [24] [] [(24,hK c0 [] [])] [] [] [0,1] [6,25,26,27] (aj (aj a0 (aj (u2 (aj (k3 (al (c0))) s2)) (al (u2 (u2 t2))))) t7))) (by kernel_rfl)
theorem cc3S1_ok(l y z:List Int)(v0:List Int)(v1:Int)(o:cc3Pc⊕Ret)(h:cc3S1 l y z v0 v1=some o):Arr Try.prog Try.f68 1 (cc3St l y z) cc3Hd (headC Try.f68 1) (.rnd (headC Try.f68 1)::headK Try.f68 1) (cc3St l y z (.l1 v0 v1)) o:=
 Scr.ok h mix (
 .rn 0 [] [] [] [] (al (al t3)) <|
 .br (fun a0=>
 .gu fun a1=>
 .gu fun a2=>
 .el fun x30 a3=>
 .rn 0 [57] [(30,lI x30)] [] [] (aj a0 (al (aj (k2 (aj a1 a2)) (aj (ak (getMap (f:=lI) a3)) s2)))) <|
 .gu fun a4=>
 .gu fun a5=>
 .gu fun a6=>
 .lq [] [] [] [] [] [0,2] [6,25,26,27] (up [(6,AV.sl 1 0 ((List.map (iv) v0).length+(List.map (iv) x30).length))] [(1,List.map (iv) v0++List.map (iv) x30)] (cc3St l y z (.l1 (v0++x30) (IntKind.i64.wrap (v1+1))))) (aj (aj (u2 (u2 (aj (k2 (aj (show(List.map (iv) v0).length=v0.length by simp) (aj a4 (aj a5 a6)))) s2))) (al (u2 s2))) t7) (by simp[up,upF,upV,upH,upB,cc3St,gL,boL,lI]))
 (fun a0=>
 .rt [56] [] [] [] [0,1] [] (aj (aj a0 (al (u2 s2))) t4))) (by kernel_rfl)
theorem cc3_ct(l y z:List Int)(r:Ret)(h:MReach (cc3Step l y z) (cc3En l y z) r):CT Try.prog 68 ([some (Blk.mk [lI l,lI y,lI z] 1 true true none)]) ([.sl 0 0 3]) r.1 r.2:=
 CT.mach (fn:=Try.f68) (c:=zB Try.f68) (S:=cc3St l y z) (hd:=cc3Hd) Try.func68 (by kernel_rfl) (Nat.le_of_ble_eq_true rfl)
  (fun s o ho=>match s,ho with
   | .l0 v0 v1,ho=>cc3S0_ok l y z v0 v1 o ho
   | .l1 v0 v1,ho=>cc3S1_ok l y z v0 v1 o ho
  )
  (fun o ho=>cc3En_ok l y z o ho) h
theorem rsT_c(q:SigD)(l:List Int)(z:Nat)(hz:z=l.length)(hl:l.length≤1000000)(hr:∀c∈l,0≤c∧c<(q.cl.length:Int))(hp:pasB q.cl l=true):CT Try.prog 64 [some (Blk.mk (l.map (AV.int .i64)) 1 true true none)] [sgA q,.sl 0 0 z] [some (Blk.mk (l.map (AV.int .i64)) 1 true true none)] (.tup [.sl 0 0 z,.bool true,.int .i64 0]):=by
 refine rsk_ct q l z ([_],_) (.val ?_)
 unfold rskEn
 rw[gu_t hz,gu_t hl,gu_t hr,hp,br_f (by rfl)]
theorem rsF_c(q:SigD)(l:List Int)(z:Nat)(hz:z=l.length)(hl:l.length≤1000000)(hr:∀c∈l,0≤c∧c<(q.cl.length:Int))(hp:pasB q.cl l=false):CT Try.prog 64 [some (Blk.mk (l.map (AV.int .i64)) 1 true true none)] [sgA q,.sl 0 0 z] [some (Blk.mk (l.map (AV.int .i64)) 1 true true none)] (.tup [.nils,.bool false,.int .i64 0]):=by
 refine rsk_ct q l z ([_],_) (.val ?_)
 unfold rskEn
 rw[gu_t hz,gu_t hl,gu_t hr,hp,br_t (by rfl)]
theorem cc3_c(l y z:List Int)(hl:(l++y++z).length≤1000000):CT Try.prog 68 [some (Blk.mk [lI l,lI y,lI z] 1 true true none)] [.sl 0 0 3] [some (Blk.mk [.any,.any,.any] 1 true true none),some (Blk.mk ((l++y++z).map (AV.int .i64)) 1 true true none)] (.sl 1 0 (l++y++z).length):=by
 simp only[List.length_append] at hl
 obtain⟨h1,h2,h3⟩:l.length≤1000000∧y.length≤1000000∧z.length≤1000000:=⟨by omega,by omega,by omega⟩
 refine CT.lessOut (hout:=[some (Blk.mk [lI l,lI y,lI z] 1 true true none),some (Blk.mk ((l++y++z).map (AV.int .i64)) 1 true true none)]) ?_ rfl fun b blk' hb=>?_
 ·refine cc3_ct l y z ([_,_],_) ?_
  unfold cc3En
  have w1:IntKind.i64.wrap (0+iN (List.map (AV.int IntKind.i64) l).length)=(l.length:Int):=by
   rw[Int.zero_add,wrap_in]<;>simp only[iN,List.length_map]<;>omega
  have w2:IntKind.i64.wrap ((l.length:Int)+iN (List.map (AV.int IntKind.i64) y).length)=((l.length+y.length:Nat):Int):=by
   rw[wrap_in]<;>simp only[iN,List.length_map]<;>omega
  have w5:IntKind.i64.wrap (((l.length+y.length:Nat):Int)+iN (List.map (AV.int IntKind.i64) z).length)=((l.length+y.length+z.length:Nat):Int):=by
   rw[wrap_in]<;>simp only[iN,List.length_map]<;>omega
  have w3:IntKind.i64.wrap (0+1)=1:=by decide
  have w4:IntKind.i64.wrap (1+1)=2:=by decide
  have w6:IntKind.i64.wrap (2+1)=3:=by decide
  refine .to (show cc3S0 l y z 0 0=some (.inl (.l0 (l.length:Int) 1)) from ?_) (.to (show cc3S0 l y z _ 1=some (.inl (.l0 ((l.length+y.length:Nat):Int) 2)) from ?_) (.to (show cc3S0 l y z _ 2=some (.inl (.l0 ((l.length+y.length+z.length:Nat):Int) 3)) from ?_) (.to (show cc3S0 l y z _ 3=some (.inl (.l1 [] 0)) from ?_) (.to (show cc3S1 l y z [] 0=some (.inl (.l1 l 1)) from ?_) (.to (show cc3S1 l y z l 1=some (.inl (.l1 (l++y) 2)) from ?_) (.to (show cc3S1 l y z (l++y) 2=some (.inl (.l1 (l++y++z) 3)) from ?_) (.to (show cc3S1 l y z (l++y++z) 3=_ from ?_) (.ret _))))))))
  ·unfold cc3S0
   rw[br_t (dec_t (by omega)),gu_t (by omega),gu_t (by omega),el_t (show [l,y,z][0+Int.toNat 0]?=some l from rfl),w1,br_f (dec_f (by omega)),w3]
  ·unfold cc3S0
   rw[br_t (dec_t (by omega)),gu_t (by omega),gu_t (by omega),el_t (show [l,y,z][0+Int.toNat 1]?=some y from rfl),w2,br_f (dec_f (by omega)),w4]
  ·unfold cc3S0
   rw[br_t (dec_t (by omega)),gu_t (by omega),gu_t (by omega),el_t (show [l,y,z][0+Int.toNat 2]?=some z from rfl),w5,br_f (dec_f (by omega)),w6]
  ·unfold cc3S0
   rw[br_f (dec_f (by omega)),gu_t (by omega)]
  ·unfold cc3S1
   rw[br_t (dec_t (by omega)),gu_t (by omega),gu_t (by omega),el_t (show [l,y,z][0+Int.toNat 0]?=some l from rfl),gu_t (lI_one _),gu_t (by simp only[List.length_map,List.length_nil];omega),gu_t (by simp only[List.length_map,List.length_nil];omega),w3,List.nil_append]
  ·unfold cc3S1
   rw[br_t (dec_t (by omega)),gu_t (by omega),gu_t (by omega),el_t (show [l,y,z][0+Int.toNat 1]?=some y from rfl),gu_t (lI_one _),gu_t (by simp only[List.length_map];omega),gu_t (by simp only[List.length_map];omega),w4]
  ·unfold cc3S1
   rw[br_t (dec_t (by omega)),gu_t (by omega),gu_t (by omega),el_t (show [l,y,z][0+Int.toNat 2]?=some z from rfl),gu_t (lI_one _),gu_t (by simp only[List.length_map,List.length_append];omega),gu_t (by simp only[List.length_map,List.length_append];omega),w6]
  ·unfold cc3S1
   rw[br_f (dec_f (by omega))];rfl
 ·match b,hb with
  | 0,hb=>cases hb;exact⟨_,rfl,⟨rfl,fun _=>rfl,rfl,Nat.le_refl _,fun i e he=>(by
    match i,he with
    | 0,he=>cases he;exact⟨_,rfl,rfl,fun j c hc=>(by match j,hc with | 0,hc=>cases hc;exact⟨_,rfl,LessC.any rfl⟩)⟩
    | 1,he=>cases he;exact⟨_,rfl,rfl,fun j c hc=>(by match j,hc with | 0,hc=>cases hc;exact⟨_,rfl,LessC.any rfl⟩)⟩
    | 2,he=>cases he;exact⟨_,rfl,rfl,fun j c hc=>(by match j,hc with | 0,hc=>cases hc;exact⟨_,rfl,LessC.any rfl⟩)⟩),fun _ e he=>(by simp only[List.mem_cons,List.not_mem_nil,or_false] at he;rcases he with rfl | rfl | rfl<;>intro c hc<;>rw[List.mem_singleton.1 hc]<;>rfl),fun e=>(by cases e)⟩,rfl⟩
  | 1,hb=>cases hb;exact⟨_,rfl,LessB.refl (fun _ e he=>by obtain⟨x,_,rfl⟩:=List.mem_map.1 he;intro c hc;rw[List.mem_singleton.1 hc];rfl),rfl⟩
  | b+2,hb=>simp[nth] at hb
inductive sshPc where
 | l0 (v0:Int) (v1:List Bool)
def sshSt(n:NetD)(q:SigD):sshPc→St
 | .l0 v0 v1=>St.mk 28 [(6,AV.sl 0 0 (boL q.cl).length),(17,AV.lst (List.map (iv) q.pe)),(18,iv (iN (List.map (iv) q.pe).length)),(19,iv v0)] [some (Blk.mk (List.map AV.bool v1) 1 true true none)]
def sshHd:sshPc→Nat
 | .l0 _ _=>0
def sshEn(n:NetD)(q:SigD):Option (sshPc⊕Ret):=
 gu (Rows n.nx) <|
 br (!sigB n q)
 (some (.inr ([],AV.tup [AV.nils,AV.int IntKind.i64 20])))
 (gu (q.cl.length≤1000000) <|
  some (.inl (.l0 ((0:Int)) (q.cl))))
def sshS0(n:NetD)(q:SigD)(v0:Int)(v1:List Bool):Option (sshPc⊕Ret):=
 br (decide (v0<iN (List.map (AV.int IntKind.i64) q.pe).length))
 (gu (0≤v0) <|
  el (q.pe) (v0.toNat) fun(x21:Int)=>
  gu (0≤x21) <|
  gu (x21<iN (boL q.cl).length) <|
  gu ((0+x21.toNat).succ.le (List.map AV.bool v1).length) <|
  some (.inl (.l0 (IntKind.i64.wrap (v0+1)) (v1.set (0+x21.toNat) true))))
 (gu ((boL q.cl).length=(List.map AV.bool v1).length) <|
  some (.inr ([],AV.tup [AV.lst (List.map AV.bool v1),AV.int IntKind.i64 0])))
def sshStep(n:NetD)(q:SigD):sshPc→Option (sshPc⊕Ret)
 | .l0 v0 v1=>sshS0 n q v0 v1
theorem sshEn_ok(n:NetD)(q:SigD)(o:sshPc⊕Ret)(h:sshEn n q=some o):Arr Try.prog Try.f24 0 (sshSt n q) sshHd (zB Try.f24) [] {n:=Try.f24.ntmps,fr:=enumF 0 ([netA n,sgA q]),hp:=([])} o:=
 Scr.ok h mix (
 .rn 0 [] [] [] [] (al (u2 (u2 t3))) <|
 .gu fun a0=>
 have c0:=sva_c (q.cl) (q.bw) (q.pe) a0;
 .rn 0 [] [] [(11,hK c0 [] [])] [] (al (u2 (u2 (aj (k2 (aj t9 (aj t4 (al (c0))))) s2)))) <|
 .br (fun a1=>
 .rt [25] [] [] [] [] [] (aj (aj a1 (al t3)) (al t3)))
 (fun a1=>
 .gu fun a2=>
 have c1:=clb_c (q.cl) a2;
 .lp [24] [] [(15,hK c1 [] [])] [] [] [2] [6,17,18,19] (aj (aj a1 (aj (u2 (u2 (aj (k2 (al (c1))) s2))) (al (u2 (u2 (u2 t2)))))) t6))) (by kernel_rfl)
theorem sshS0_ok(n:NetD)(q:SigD)(v0:Int)(v1:List Bool)(o:sshPc⊕Ret)(h:sshS0 n q v0 v1=some o):Arr Try.prog Try.f24 0 (sshSt n q) sshHd (headC Try.f24 0) (.rnd (headC Try.f24 0)::headK Try.f24 0) (sshSt n q (.l0 v0 v1)) o:=
 Scr.ok h mix (
 .rn 0 [] [] [] [] (al (al t3)) <|
 .br (fun a0=>
 .gu fun a1=>
 .el fun x21 a2=>
 .rn 0 [41] [(21,iv x21)] [] [] (aj a0 (al (aj (k2 (aj a1 (getMap (f:=iv) a2))) (u2 s2)))) <|
 .gu fun a3=>
 .gu fun a4=>
 .gu fun a5=>
 .lq [] [] [] [] [] [0] [6,17,18,19] (up [] [(0,(List.map AV.bool v1).set (0+x21.toNat) (AV.bool true))] (sshSt n q (.l0 (IntKind.i64.wrap (v0+1)) (v1.set (0+x21.toNat) true)))) (aj (aj (u2 (u2 (aj (k2 (aj a3 a4)) (al (ak a5))))) (al (u2 s2))) t6) (by simp[up,upF,upV,upH,upB,sshSt,gL,boL,lI,sA,bA]))
 (fun a0=>
 .rn 0 [40] [] [] [] (aj a0 (al (u2 (u2 t2)))) <|
 .gu fun a1=>
 .rt [] [] [] [] [] [0] (ak (al (aj a1 t2))))) (by kernel_rfl)
theorem ssh_ct(n:NetD)(q:SigD)(r:Ret)(h:MReach (sshStep n q) (sshEn n q) r):CT Try.prog 24 ([]) ([netA n,sgA q]) r.1 r.2:=
 CT.mach (fn:=Try.f24) (c:=zB Try.f24) (S:=sshSt n q) (hd:=sshHd) Try.func24 (by kernel_rfl) (Nat.le_of_ble_eq_true rfl)
  (fun s o ho=>match s,ho with
   | .l0 v0 v1,ho=>sshS0_ok n q v0 v1 o ho
  )
  (fun o ho=>sshEn_ok n q o ho) h
def shE(n:NetD)(s:SigD):Int:=if sigB n s=true then 0 else 20
def shO(n:NetD)(s:SigD):List Bool:=if sigB n s=true then shtS s else []
theorem sig_len{n:NetD}{s:SigD}(h:sigB n s=true):ValidN n∧SigOk n s∧s.cl.length≤48∧s.bw.length≤48∧s.pe.length≤48∧n.bs.length≤s.cl.length∧∀b∈s.pe,0≤b∧b<(s.cl.length:Int):=by
 obtain⟨hv,h⟩:=sigB_iff.1 h
 have hc:=celN_le hv
 have lc:=h.lc
 have lb:=h.lb
 have pl:=h.pl
 exact⟨hv,h,by omega,by omega,by omega,by omega,fun b hb=>by have:=h.pb b hb;omega⟩
theorem ssh_c{n:NetD}(cl:List Bool)(bw pe:List Int)(hrw:Rows n.nx):CT Try.prog 24 [] [netA n,sgA ⟨cl,bw,pe⟩] [] (.tup [.lst (boL (shO n ⟨cl,bw,pe⟩)),.int .i64 (shE n ⟨cl,bw,pe⟩)]):=by
 generalize hs:(⟨cl,bw,pe⟩:SigD)=s
 have k:=ssh_ct n s
 unfold sshEn at k
 unfold shO shE
 cases h:sigB n s with
 | false=>rw[h] at k;exact CT.w2 (k ([],_) (.val (by rw[gu_t hrw];rfl)))
 | true=>
  obtain⟨hv,hS,l1,l2,l3,l4,l5⟩:=sig_len h
  rw[h] at k
  refine k ([],_) ?_
  rw[gu_t hrw,br_f (by rfl),gu_t (by omega)]
  refine loop_fold (L:=fun i b=>sshPc.l0 (i:Int) b) (f:=fun c b=>c.set b.toNat true) (l:=s.pe) s.cl (fun i x hx h=>?_) ?_
  ·have hlen:=sht_len (s.pe.take i) s.cl
   have h2:=l5 x (List.mem_of_getElem? hx)
   have hi:=(List.getElem?_eq_some_iff.1 hx).1
   have hL:=boL_len s.cl
   generalize (s.pe.take i).foldl (fun c b=>c.set b.toNat true) s.cl=c at *
   refine .to (show sshS0 n s i c=_ from ?_) h
   unfold sshS0
   rw[rngS hx,gu_t h2.1,gu_t (by simp only[iN];omega),gu_t (show Nat.le _ _ from(by simp only[List.length_map];show 0+x.toNat+1≤_;omega)),zW i (by omega),Nat.zero_add]
  ·refine .to (show sshS0 n s s.pe.length (shtS s)=_ from ?_) (.ret _)
   unfold sshS0
   rw[rngE,gu_t (by rw[boL_len,List.length_map,shtS_len])];rfl
def leTSt(n:NetD)(q:SigD)(c d:Int):Empty→St
 | x=>x.elim
def leTHd:Empty→Nat
 | x=>x.elim
def leTEn(n:NetD)(q:SigD)(c d:Int):Option (Empty⊕Ret):=
 gu (Rows n.nx) <|
 br (shE n q != 0)
 (some (.inr ([],AV.tup [AV.nils,AV.bool false,AV.int IntKind.i64 (shE n q)])))
 (br (decide (c<0))
  (some (.inr ([],AV.tup [AV.nils,AV.bool false,AV.int IntKind.i64 19])))
  (br (decide (iN (boL (shO n q)).length≤c))
   (some (.inr ([],AV.tup [AV.nils,AV.bool false,AV.int IntKind.i64 19])))
   (br (decide (d<0))
    (some (.inr ([],AV.tup [AV.nils,AV.bool false,AV.int IntKind.i64 19])))
    (br (decide (iN (List.map sA n.ss).length≤d))
     (some (.inr ([],AV.tup [AV.nils,AV.bool false,AV.int IntKind.i64 19])))
     (gu (0≤d) <|
      el (n.ss) (d.toNat) fun(x54:SpuD)=>
      br (plO n c==d)
      (gu (0≤pjO n c∧pjO n c≤1000) <|
       gu (0≤x54.b∧x54.b≤1000) <|
       gu (x54.k≤1000) <|
       gu ((sltL x54 (pjO n c)).length≤1000000) <|
       gu (∀(c_1:Int),c_1∈sltL x54 (pjO n c)→0≤c_1∧c_1<iN q.cl.length) <|
       br (pasB q.cl (sltL x54 (pjO n c)))
       (some (.inr ([],AV.tup [AV.lst (List.map (AV.int IntKind.i64) (sltL x54 (pjO n c))),AV.bool true,AV.int IntKind.i64 0])))
       (none))
      (br (decide (0≤plO n c))
       (gu (0≤plO n c) <|
        el (n.ss) ((plO n c).toNat) fun(x81:SpuD)=>
        el (n.ss) ((plO n c).toNat) fun(x87:SpuD)=>
        gu (0≤pjO n c∧pjO n c≤1000) <|
        gu (0≤x87.b∧x87.b≤1000) <|
        gu (x87.k≤1000) <|
        gu ((List.map (AV.int IntKind.i64) (sltL x87 (pjO n c))).length+[AV.int IntKind.i64 x81.o].length≤9223372036854775807) <|
        gu (((List.map (AV.int IntKind.i64) (sltL x87 (pjO n c))).length+[AV.int IntKind.i64 x81.o].length) * 8≤140737488355328) <|
        gu (n.bs.length≤1000∧n.bs.length≤(shO n q).length∧n.bs.length≤q.cl.length) <|
        br (iN (List.map (AV.int IntKind.i64) (pathO n.nx (shG n.bs.length (shO n q) q.cl x81.o x54.i) x81.o x54.i).fst).length==0)
        (gu (n.bs.length≤1000∧n.bs.length≤q.cl.length) <|
         br (iN (List.map (AV.int IntKind.i64) (pathO n.nx (shW n.bs.length q.cl x81.o) x81.o x54.i).fst).length==0)
         (some (.inr ([],AV.tup [AV.nils,AV.bool false,AV.int IntKind.i64 0])))
         (gu (∀(e:AV),e∈List.map (AV.int IntKind.i64) (pathO n.nx (shW n.bs.length q.cl x81.o) x81.o x54.i).fst→e.cells.length=1) <|
          gu (1≤iN (List.map (AV.int IntKind.i64) (pathO n.nx (shW n.bs.length q.cl x81.o) x81.o x54.i).fst).length) <|
          gu (0≤x54.b∧x54.b≤1000) <|
          gu (x54.k≤1000) <|
          gu ((sltL x87 (pjO n c)++[x81.o]++List.take ((List.map (AV.int IntKind.i64) (pathO n.nx (shW n.bs.length q.cl x81.o) x81.o x54.i).fst).length-Int.toNat 1) (List.drop (Int.toNat 1) (pathO n.nx (shW n.bs.length q.cl x81.o) x81.o x54.i).fst)++sltL x54 0).length≤1000000) <|
          gu (∀(blk:Blk),blk∈[Blk.mk [AV.any,AV.any,AV.any] 1 true true none,Blk.mk (List.map (AV.int IntKind.i64) (sltL x87 (pjO n c)++[x81.o]++List.take ((List.map (AV.int IntKind.i64) (pathO n.nx (shW n.bs.length q.cl x81.o) x81.o x54.i).fst).length-Int.toNat 1) (List.drop (Int.toNat 1) (pathO n.nx (shW n.bs.length q.cl x81.o) x81.o x54.i).fst)++sltL x54 0)) 1 true true none]→ImmB blk) <|
          gu (∀(c_1:Int),c_1∈sltL x87 (pjO n c)++[x81.o]++List.take ((List.map (AV.int IntKind.i64) (pathO n.nx (shW n.bs.length q.cl x81.o) x81.o x54.i).fst).length-Int.toNat 1) (List.drop (Int.toNat 1) (pathO n.nx (shW n.bs.length q.cl x81.o) x81.o x54.i).fst)++sltL x54 0→0≤c_1∧c_1<iN q.cl.length) <|
          br (pasB q.cl (sltL x87 (pjO n c)++[x81.o]++List.take ((List.map (AV.int IntKind.i64) (pathO n.nx (shW n.bs.length q.cl x81.o) x81.o x54.i).fst).length-Int.toNat 1) (List.drop (Int.toNat 1) (pathO n.nx (shW n.bs.length q.cl x81.o) x81.o x54.i).fst)++sltL x54 0))
          (some (.inr ([],AV.tup [AV.lst (List.map (AV.int IntKind.i64) (sltL x87 (pjO n c)++[x81.o]++List.take ((List.map (AV.int IntKind.i64) (pathO n.nx (shW n.bs.length q.cl x81.o) x81.o x54.i).fst).length-Int.toNat 1) (List.drop (Int.toNat 1) (pathO n.nx (shW n.bs.length q.cl x81.o) x81.o x54.i).fst)++sltL x54 0)),AV.bool true,AV.int IntKind.i64 0])))
          (none)))
        (gu (∀(e:AV),e∈List.map (AV.int IntKind.i64) (pathO n.nx (shG n.bs.length (shO n q) q.cl x81.o x54.i) x81.o x54.i).fst→e.cells.length=1) <|
         gu (1≤iN (List.map (AV.int IntKind.i64) (pathO n.nx (shG n.bs.length (shO n q) q.cl x81.o x54.i) x81.o x54.i).fst).length) <|
         gu (0≤x54.b∧x54.b≤1000) <|
         gu (x54.k≤1000) <|
         gu ((sltL x87 (pjO n c)++[x81.o]++List.take ((List.map (AV.int IntKind.i64) (pathO n.nx (shG n.bs.length (shO n q) q.cl x81.o x54.i) x81.o x54.i).fst).length-Int.toNat 1) (List.drop (Int.toNat 1) (pathO n.nx (shG n.bs.length (shO n q) q.cl x81.o x54.i) x81.o x54.i).fst)++sltL x54 0).length≤1000000) <|
         gu (∀(blk:Blk),blk∈[Blk.mk [AV.any,AV.any,AV.any] 1 true true none,Blk.mk (List.map (AV.int IntKind.i64) (sltL x87 (pjO n c)++[x81.o]++List.take ((List.map (AV.int IntKind.i64) (pathO n.nx (shG n.bs.length (shO n q) q.cl x81.o x54.i) x81.o x54.i).fst).length-Int.toNat 1) (List.drop (Int.toNat 1) (pathO n.nx (shG n.bs.length (shO n q) q.cl x81.o x54.i) x81.o x54.i).fst)++sltL x54 0)) 1 true true none]→ImmB blk) <|
         gu (∀(c_1:Int),c_1∈sltL x87 (pjO n c)++[x81.o]++List.take ((List.map (AV.int IntKind.i64) (pathO n.nx (shG n.bs.length (shO n q) q.cl x81.o x54.i) x81.o x54.i).fst).length-Int.toNat 1) (List.drop (Int.toNat 1) (pathO n.nx (shG n.bs.length (shO n q) q.cl x81.o x54.i) x81.o x54.i).fst)++sltL x54 0→0≤c_1∧c_1<iN q.cl.length) <|
         br (pasB q.cl (sltL x87 (pjO n c)++[x81.o]++List.take ((List.map (AV.int IntKind.i64) (pathO n.nx (shG n.bs.length (shO n q) q.cl x81.o x54.i) x81.o x54.i).fst).length-Int.toNat 1) (List.drop (Int.toNat 1) (pathO n.nx (shG n.bs.length (shO n q) q.cl x81.o x54.i) x81.o x54.i).fst)++sltL x54 0))
         (some (.inr ([],AV.tup [AV.lst (List.map (AV.int IntKind.i64) (sltL x87 (pjO n c)++[x81.o]++List.take ((List.map (AV.int IntKind.i64) (pathO n.nx (shG n.bs.length (shO n q) q.cl x81.o x54.i) x81.o x54.i).fst).length-Int.toNat 1) (List.drop (Int.toNat 1) (pathO n.nx (shG n.bs.length (shO n q) q.cl x81.o x54.i) x81.o x54.i).fst)++sltL x54 0)),AV.bool true,AV.int IntKind.i64 0])))
         (none)))
       (gu (n.bs.length≤1000∧n.bs.length≤(shO n q).length∧n.bs.length≤q.cl.length) <|
        br (iN (List.map (AV.int IntKind.i64) (pathO n.nx (shG n.bs.length (shO n q) q.cl c x54.i) c x54.i).fst).length==0)
        (gu (n.bs.length≤1000∧n.bs.length≤q.cl.length) <|
         br (iN (List.map (AV.int IntKind.i64) (pathO n.nx (shW n.bs.length q.cl c) c x54.i).fst).length==0)
         (some (.inr ([],AV.tup [AV.nils,AV.bool false,AV.int IntKind.i64 0])))
         (gu (∀(e:AV),e∈List.map (AV.int IntKind.i64) (pathO n.nx (shW n.bs.length q.cl c) c x54.i).fst→e.cells.length=1) <|
          gu (1≤iN (List.map (AV.int IntKind.i64) (pathO n.nx (shW n.bs.length q.cl c) c x54.i).fst).length) <|
          gu (0≤x54.b∧x54.b≤1000) <|
          gu (x54.k≤1000) <|
          gu (([]++List.take ((List.map (AV.int IntKind.i64) (pathO n.nx (shW n.bs.length q.cl c) c x54.i).fst).length-Int.toNat 1) (List.drop (Int.toNat 1) (pathO n.nx (shW n.bs.length q.cl c) c x54.i).fst)++sltL x54 0).length≤1000000) <|
          gu (∀(blk:Blk),blk∈[Blk.mk [AV.any,AV.any,AV.any] 1 true true none,Blk.mk (List.map (AV.int IntKind.i64) ([]++List.take ((List.map (AV.int IntKind.i64) (pathO n.nx (shW n.bs.length q.cl c) c x54.i).fst).length-Int.toNat 1) (List.drop (Int.toNat 1) (pathO n.nx (shW n.bs.length q.cl c) c x54.i).fst)++sltL x54 0)) 1 true true none]→ImmB blk) <|
          gu (∀(c_1:Int),c_1∈[]++List.take ((List.map (AV.int IntKind.i64) (pathO n.nx (shW n.bs.length q.cl c) c x54.i).fst).length-Int.toNat 1) (List.drop (Int.toNat 1) (pathO n.nx (shW n.bs.length q.cl c) c x54.i).fst)++sltL x54 0→0≤c_1∧c_1<iN q.cl.length) <|
          br (pasB q.cl ([]++List.take ((List.map (AV.int IntKind.i64) (pathO n.nx (shW n.bs.length q.cl c) c x54.i).fst).length-Int.toNat 1) (List.drop (Int.toNat 1) (pathO n.nx (shW n.bs.length q.cl c) c x54.i).fst)++sltL x54 0))
          (some (.inr ([],AV.tup [AV.lst (List.map (AV.int IntKind.i64) ([]++List.take ((List.map (AV.int IntKind.i64) (pathO n.nx (shW n.bs.length q.cl c) c x54.i).fst).length-Int.toNat 1) (List.drop (Int.toNat 1) (pathO n.nx (shW n.bs.length q.cl c) c x54.i).fst)++sltL x54 0)),AV.bool true,AV.int IntKind.i64 0])))
          (none)))
        (gu (∀(e:AV),e∈List.map (AV.int IntKind.i64) (pathO n.nx (shG n.bs.length (shO n q) q.cl c x54.i) c x54.i).fst→e.cells.length=1) <|
         gu (1≤iN (List.map (AV.int IntKind.i64) (pathO n.nx (shG n.bs.length (shO n q) q.cl c x54.i) c x54.i).fst).length) <|
         gu (0≤x54.b∧x54.b≤1000) <|
         gu (x54.k≤1000) <|
         gu (([]++List.take ((List.map (AV.int IntKind.i64) (pathO n.nx (shG n.bs.length (shO n q) q.cl c x54.i) c x54.i).fst).length-Int.toNat 1) (List.drop (Int.toNat 1) (pathO n.nx (shG n.bs.length (shO n q) q.cl c x54.i) c x54.i).fst)++sltL x54 0).length≤1000000) <|
         gu (∀(blk:Blk),blk∈[Blk.mk [AV.any,AV.any,AV.any] 1 true true none,Blk.mk (List.map (AV.int IntKind.i64) ([]++List.take ((List.map (AV.int IntKind.i64) (pathO n.nx (shG n.bs.length (shO n q) q.cl c x54.i) c x54.i).fst).length-Int.toNat 1) (List.drop (Int.toNat 1) (pathO n.nx (shG n.bs.length (shO n q) q.cl c x54.i) c x54.i).fst)++sltL x54 0)) 1 true true none]→ImmB blk) <|
         gu (∀(c_1:Int),c_1∈[]++List.take ((List.map (AV.int IntKind.i64) (pathO n.nx (shG n.bs.length (shO n q) q.cl c x54.i) c x54.i).fst).length-Int.toNat 1) (List.drop (Int.toNat 1) (pathO n.nx (shG n.bs.length (shO n q) q.cl c x54.i) c x54.i).fst)++sltL x54 0→0≤c_1∧c_1<iN q.cl.length) <|
         br (pasB q.cl ([]++List.take ((List.map (AV.int IntKind.i64) (pathO n.nx (shG n.bs.length (shO n q) q.cl c x54.i) c x54.i).fst).length-Int.toNat 1) (List.drop (Int.toNat 1) (pathO n.nx (shG n.bs.length (shO n q) q.cl c x54.i) c x54.i).fst)++sltL x54 0))
         (some (.inr ([],AV.tup [AV.lst (List.map (AV.int IntKind.i64) ([]++List.take ((List.map (AV.int IntKind.i64) (pathO n.nx (shG n.bs.length (shO n q) q.cl c x54.i) c x54.i).fst).length-Int.toNat 1) (List.drop (Int.toNat 1) (pathO n.nx (shG n.bs.length (shO n q) q.cl c x54.i) c x54.i).fst)++sltL x54 0)),AV.bool true,AV.int IntKind.i64 0])))
         (none)))))))))
def leTStep(n:NetD)(q:SigD)(c d:Int):Empty→Option (Empty⊕Ret)
 | x=>x.elim
theorem leTEn_ok(n:NetD)(q:SigD)(c d:Int)(o:Empty⊕Ret)(h:leTEn n q c d=some o):Arr Try.prog Try.f30 0 (leTSt n q c d) leTHd (zB Try.f30) [] {n:=Try.f30.ntmps,fr:=enumF 0 ([netA n,sgA q,.int .i64 c,.int .i64 d]),hp:=([])} o:=
 Scr.ok h mix (
 .rn 0 [] [] [] [] (al (u2 (u2 t4))) <|
 .gu fun a0=>
 have c0:=ssh_c (q.cl) (q.bw) (q.pe) a0;
 .rn 1 [] [] [(24,hK c0 [] [])] [] (aj (u2 (u2 (aj (k2 (aj t9 (aj t4 (al (c0))))) (u2 (u2 (u2 (ak (aj (k2 n11) s2)))))))) (al (u2 (u2 s2)))) <|
 .br (fun a1=>
 .rt [55] [] [] [] [] [] (aj (aj a1 (al (u2 (k2 s2)))) (al t4)))
 (fun a1=>
 .br (fun a2=>
  .rt [54,69] [] [] [] [] [] (aj (aj a1 (aj (u2 (u2 (u2 (aj a2 (aj a2 (aj a2 (aj a2 (ag a2 (u2 (k2 (aj t3 (u2 (k5 (aj t3 s2)))))))))))))) (ak (al t4)))) (al t4)))
 (fun a2=>
  .br (fun a3=>
  .rt [54,68,81] [] [] [] [] [] (aj (aj a1 (aj (u2 (u2 (u2 (ag a2 (ag a2 (ag a2 (aj (aj a2 t3) (ag a2 (u2 (aj a3 (aj a3 (ag a3 (u2 (k5 (aj t3 s2))))))))))))))) (ak (al t4)))) (al t4)))
  (fun a3=>
  .br (fun a4=>
   .rt [54,68,80,89] [] [] [] [] [] (aj (aj a1 (aj (u2 (u2 (u2 (ag a2 (ag a2 (ag a2 (aj (aj a2 t3) (ag a2 (u2 (ag a3 (ag a3 (ag a3 (u2 (aj a4 (aj a4 (aj a4 (aj a4 (aj a4 (ag a4 s2))))))))))))))))))) (ak (al t4)))) (al t4)))
  (fun a4=>
   .rn 0 [54,68,80,88] [] [] [] (aj a1 (al (u2 (u2 (u2 (ag a2 (ag a2 (ag a2 (aj (aj a2 t3) (ag a2 (u2 (ag a3 (ag a3 (ag a3 (u2 (ag a4 (ag a4 (ag a4 (ag a4 (aj (aj a4 t3) (ag a4 s2))))))))))))))))))))) <|
   .br (fun a5=>
   .rt [68,80,88,63] [] [] [] [] [] (aj (aj a5 (al t4)) (al t4)))
   (fun a5=>
   .gu fun a6=>
   .el fun x54 a7=>
   have c1:=plc_c c a0;
   .rn 2 [68,80,88,62] [(54,sA x54)] [(59,hK c1 [] [])] [] (aj a5 (aj (u2 (u2 (u2 (aj (k2 (aj a6 (getMap (f:=sA) a7))) (u2 (ak (al (k2 n11)))))))) (aj (u2 (u2 (aj (k2 (aj t9 (ak (al (c1))))) (u2 (u2 (u2 (u2 (u2 (u2 s2))))))))) (al (u2 (u2 (al t3))))))) <|
   .br (fun a8=>
    .gu fun a9=>
    .gu fun a10=>
    .gu fun a11=>
    have c2:=slk_c x54 (pjO n c) a9 a10 a11;
    .rn 0 [68,80,88,131] [] [(68,hK c2 [] [])] [] (aj a8 (al (u2 (u2 (aj (k2 (aj t7 (ak (al (c2))))) s2))))) <|
    .gu fun a12=>
    .gu fun a13=>
    .br (fun a14=>
    have c3:=rsT_c q (sltL x54 (pjO n c)) ((sltL x54 (pjO n c)).length) (show(sltL x54 (pjO n c)).length=(sltL x54 (pjO n c)).length from rfl) a12 a13 a14;
    .rt [68,80,88] [] [(71,hK c3 [4] [])] [] [] [4] (aj (al (u2 (u2 (aj (k2 (aj t4 (k2 (al (c3))))) (u2 (u2 (u2 (u2 (u2 s2))))))))) (al (aj (show(sltL x54 (pjO n c)).length=(List.map (iv) (sltL x54 (pjO n c))).length by simp) t3))))
    (fun a14=>
    .no))
   (fun a8=>
    .rn 2 [68,80,88,130] [] [] [] (aj a8 (u2 (aj (u2 (ak (al (k2 n11)))) (al (u2 s2))))) <|
    .br (fun a9=>
    .gu fun a10=>
    .el fun x81 a11=>
    .rn 0 [68,80,88,155] [(81,sA x81)] [] [] (aj a9 (al (u2 (u2 (u2 (aj (k2 (aj a10 (getMap (f:=sA) a11))) (u2 (u2 (al (k2 (show Nat.le 1 [iv c].length from(Nat.le_of_ble_eq_true rfl)))))))))))) <|
    .el fun x87 a12=>
    .gu fun a13=>
    .gu fun a14=>
    .gu fun a15=>
    .gu fun a16=>
    .gu fun a17=>
    have c2:=slk_c x87 (pjO n c) a13 a14 a15;
    .rn 0 [68,80,88] [(87,sA x87)] [(90,hK c2 [] [])] [] (al (u2 (u2 (u2 (aj (k2 (aj a10 (getMap (f:=sA) a12))) (u2 (u2 (aj (k2 (aj t7 (ak (al (c2))))) (u2 (u2 (aj (k2 (aj (show(List.map (iv) (sltL x87 (pjO n c))).length=(sltL x87 (pjO n c)).length by simp) (aj (aj (show nat_lit 1=nat_lit 1 from rfl) (show 1≤[iv x81.o].length by simp)) (aj a16 a17)))) s2))))))))))) <|
    .gu fun a18=>
    have c3:=paA_c n (shO n q) (x81.o) (x81.o) (x54.i) x54 q a0 a18;
    .rn 1 [68,80,88] [] [(99,hK c3 [2,4,3,1] [])] [] (aj (u2 (aj t5 (u2 (u2 (u2 (aj (ak (k3 (aj t9 (aj t5 (ak (k5 (al (c3)))))))) s2)))))) (al (u2 (u2 s2)))) <|
    .br (fun a19=>
     .gu fun a20=>
     have c4:=paB_c n (x81.o) (x81.o) (x54.i) q a0 a20;
     .rn 1 [68,80,88,205] [] [(108,hK c4 [1,4] [])] [] (aj a19 (aj (u2 (aj t3 (u2 (u2 (u2 (aj (ak (k3 (aj t9 (aj t3 (ak (k3 (al (c4)))))))) s2)))))) (al (u2 (u2 s2))))) <|
     .br (fun a21=>
     .rt [68,80,88,223] [] [] [] [] [] (aj (aj a21 (al t4)) (al t4)))
     (fun a21=>
     .gu fun a22=>
     .gu fun a23=>
     .gu fun a24=>
     .gu fun a25=>
     .gu fun a26=>
     .gu fun a27=>
     .gu fun a28=>
     .br (fun a29=>
      have c5:=slk_c x54 (0) (show(0:Int)≤(0:Int)∧(0:Int)≤(1000:Int) from ⟨(by first | exact Nat.le_of_ble_eq_true rfl | decide),(by first | exact Nat.le_of_ble_eq_true rfl | decide)⟩) a24 a25;
      have c6:=cc3_c (sltL x87 (pjO n c)++[x81.o]) (List.take ((List.map (iv) (pathO n.nx (shW n.bs.length q.cl x81.o) x81.o x54.i).fst).length-Int.toNat 1) (List.drop (Int.toNat 1) (pathO n.nx (shW n.bs.length q.cl x81.o) x81.o x54.i).fst)) (sltL x54 0) a26;
      have c7:=rsT_c q (sltL x87 (pjO n c)++[x81.o]++List.take ((List.map (iv) (pathO n.nx (shW n.bs.length q.cl x81.o) x81.o x54.i).fst).length-Int.toNat 1) (List.drop (Int.toNat 1) (pathO n.nx (shW n.bs.length q.cl x81.o) x81.o x54.i).fst)++sltL x54 0) ((sltL x87 (pjO n c)++[x81.o]++List.take ((List.map (iv) (pathO n.nx (shW n.bs.length q.cl x81.o) x81.o x54.i).fst).length-Int.toNat 1) (List.drop (Int.toNat 1) (pathO n.nx (shW n.bs.length q.cl x81.o) x81.o x54.i).fst)++sltL x54 0).length) (show(sltL x87 (pjO n c)++[x81.o]++List.take ((List.map (iv) (pathO n.nx (shW n.bs.length q.cl x81.o) x81.o x54.i).fst).length-Int.toNat 1) (List.drop (Int.toNat 1) (pathO n.nx (shW n.bs.length q.cl x81.o) x81.o x54.i).fst)++sltL x54 0).length=(sltL x87 (pjO n c)++[x81.o]++List.take ((List.map (iv) (pathO n.nx (shW n.bs.length q.cl x81.o) x81.o x54.i).fst).length-Int.toNat 1) (List.drop (Int.toNat 1) (pathO n.nx (shW n.bs.length q.cl x81.o) x81.o x54.i).fst)++sltL x54 0).length from rfl) a26 a28 a29;
      .rt [68,80,88,222] [] [(117,hK c5 [] []),(119,hK c6 [9] [7,8]),(120,hK c7 [10] [])] [] [] [10] (aj (aj a21 (al (u2 (u2 (u2 (aj (ak (aj a22 (aj (show(0:Int)≤(1:Int) from(by first | exact Nat.le_of_ble_eq_true rfl | decide)) (aj a23 (aj (show iN (List.map (iv) (pathO n.nx (shW n.bs.length q.cl x81.o) x81.o x54.i).fst).length≤iN (List.map (iv) (pathO n.nx (shW n.bs.length q.cl x81.o) x81.o x54.i).fst).length by omega) (show iN (List.map (iv) (pathO n.nx (shW n.bs.length q.cl x81.o) x81.o x54.i).fst).length≤iN (List.map (iv) (pathO n.nx (shW n.bs.length q.cl x81.o) x81.o x54.i).fst).length by omega)))))) (u2 (aj (ak (aj t7 (ak (al (c5))))) (aj t4 (aj (k2 (aj (aj (show(List.map (iv) (sltL x87 (pjO n c))).length+[iv x81.o].length=(List.map (iv) (sltL x87 (pjO n c))++[iv x81.o]).length by simp) (ak (al (show(sltL x54 0).length=(List.map (iv) (sltL x54 0)).length by simp)))) (aj (show CT Try.prog 68 [some (Blk.mk [AV.lst (List.map (iv) (sltL x87 (pjO n c))++[iv x81.o]),AV.lst (List.take ((List.map (iv) (pathO n.nx (shW n.bs.length q.cl x81.o) x81.o x54.i).fst).length-Int.toNat 1) (List.drop (Int.toNat 1) (List.map (iv) (pathO n.nx (shW n.bs.length q.cl x81.o) x81.o x54.i).fst))),AV.lst (List.map (iv) (sltL x54 0))] 1 true true none)] [AV.sl 0 0 3] [some (Blk.mk [AV.any,AV.any,AV.any] 1 true true none),some (Blk.mk (List.map (iv) (sltL x87 (pjO n c)++[x81.o]++List.take ((List.map (iv) (pathO n.nx (shW n.bs.length q.cl x81.o) x81.o x54.i).fst).length-Int.toNat 1) (List.drop (Int.toNat 1) (pathO n.nx (shW n.bs.length q.cl x81.o) x81.o x54.i).fst)++sltL x54 0)) 1 true true none)] (AV.sl 1 0 (sltL x87 (pjO n c)++[x81.o]++List.take ((List.map (iv) (pathO n.nx (shW n.bs.length q.cl x81.o) x81.o x54.i).fst).length-Int.toNat 1) (List.drop (Int.toNat 1) (pathO n.nx (shW n.bs.length q.cl x81.o) x81.o x54.i).fst)++sltL x54 0).length) from CT.eqs (c6) (by first | (simp only[boL,List.map_append,List.map_set,List.map_take,List.map_drop,List.map_replicate,List.nil_append];done) | (simp only[boL,List.map_append,List.map_set,List.map_take,List.map_drop,List.map_replicate,List.nil_append];rfl) | (simp[gL,boL,lI,sA,bA];done) | (simp[gL,boL,lI,sA,bA];rfl) | (simp only[netA,List.map_append,List.map_set,List.map_cons,List.map_nil];rfl)) (by first | (simp only[boL,List.map_append,List.map_set,List.map_take,List.map_drop,List.map_replicate,List.nil_append];done) | (simp only[boL,List.map_append,List.map_set,List.map_take,List.map_drop,List.map_replicate,List.nil_append];rfl) | (simp[gL,boL,lI,sA,bA];done) | (simp[gL,boL,lI,sA,bA];rfl) | (simp only[netA,List.map_append,List.map_set,List.map_cons,List.map_nil];rfl))) a27))) (aj (k2 (aj t4 (k2 (al (c7))))) (u2 (u2 (u2 (u2 (u2 s2)))))))))))))))) (al (aj (show(sltL x87 (pjO n c)++[x81.o]++List.take ((List.map (iv) (pathO n.nx (shW n.bs.length q.cl x81.o) x81.o x54.i).fst).length-Int.toNat 1) (List.drop (Int.toNat 1) (pathO n.nx (shW n.bs.length q.cl x81.o) x81.o x54.i).fst)++sltL x54 0).length=(List.map (iv) (sltL x87 (pjO n c)++[x81.o]++List.take ((List.map (iv) (pathO n.nx (shW n.bs.length q.cl x81.o) x81.o x54.i).fst).length-Int.toNat 1) (List.drop (Int.toNat 1) (pathO n.nx (shW n.bs.length q.cl x81.o) x81.o x54.i).fst)++sltL x54 0)).length by simp) t3))))
     (fun a29=>
      .no)))
    (fun a19=>
     .rn 0 [68,80,88,204] [] [] [] (aj a19 (al (u2 (u2 s2)))) <|
     .gu fun a20=>
     .gu fun a21=>
     .gu fun a22=>
     .gu fun a23=>
     .gu fun a24=>
     .gu fun a25=>
     .gu fun a26=>
     .br (fun a27=>
     have c4:=slk_c x54 (0) (show(0:Int)≤(0:Int)∧(0:Int)≤(1000:Int) from ⟨(by first | exact Nat.le_of_ble_eq_true rfl | decide),(by first | exact Nat.le_of_ble_eq_true rfl | decide)⟩) a22 a23;
     have c5:=cc3_c (sltL x87 (pjO n c)++[x81.o]) (List.take ((List.map (iv) (pathO n.nx (shG n.bs.length (shO n q) q.cl x81.o x54.i) x81.o x54.i).fst).length-Int.toNat 1) (List.drop (Int.toNat 1) (pathO n.nx (shG n.bs.length (shO n q) q.cl x81.o x54.i) x81.o x54.i).fst)) (sltL x54 0) a24;
     have c6:=rsT_c q (sltL x87 (pjO n c)++[x81.o]++List.take ((List.map (iv) (pathO n.nx (shG n.bs.length (shO n q) q.cl x81.o x54.i) x81.o x54.i).fst).length-Int.toNat 1) (List.drop (Int.toNat 1) (pathO n.nx (shG n.bs.length (shO n q) q.cl x81.o x54.i) x81.o x54.i).fst)++sltL x54 0) ((sltL x87 (pjO n c)++[x81.o]++List.take ((List.map (iv) (pathO n.nx (shG n.bs.length (shO n q) q.cl x81.o x54.i) x81.o x54.i).fst).length-Int.toNat 1) (List.drop (Int.toNat 1) (pathO n.nx (shG n.bs.length (shO n q) q.cl x81.o x54.i) x81.o x54.i).fst)++sltL x54 0).length) (show(sltL x87 (pjO n c)++[x81.o]++List.take ((List.map (iv) (pathO n.nx (shG n.bs.length (shO n q) q.cl x81.o x54.i) x81.o x54.i).fst).length-Int.toNat 1) (List.drop (Int.toNat 1) (pathO n.nx (shG n.bs.length (shO n q) q.cl x81.o x54.i) x81.o x54.i).fst)++sltL x54 0).length=(sltL x87 (pjO n c)++[x81.o]++List.take ((List.map (iv) (pathO n.nx (shG n.bs.length (shO n q) q.cl x81.o x54.i) x81.o x54.i).fst).length-Int.toNat 1) (List.drop (Int.toNat 1) (pathO n.nx (shG n.bs.length (shO n q) q.cl x81.o x54.i) x81.o x54.i).fst)++sltL x54 0).length from rfl) a24 a26 a27;
     .rt [68,80,88,222] [] [(117,hK c4 [] []),(119,hK c5 [9] [7,8]),(120,hK c6 [10] [])] [] [] [10] (aj (aj a19 (al (u2 (u2 (u2 (aj (ak (aj a20 (aj (show(0:Int)≤(1:Int) from(by first | exact Nat.le_of_ble_eq_true rfl | decide)) (aj a21 (aj (show iN (List.map (iv) (pathO n.nx (shG n.bs.length (shO n q) q.cl x81.o x54.i) x81.o x54.i).fst).length≤iN (List.map (iv) (pathO n.nx (shG n.bs.length (shO n q) q.cl x81.o x54.i) x81.o x54.i).fst).length by omega) (show iN (List.map (iv) (pathO n.nx (shG n.bs.length (shO n q) q.cl x81.o x54.i) x81.o x54.i).fst).length≤iN (List.map (iv) (pathO n.nx (shG n.bs.length (shO n q) q.cl x81.o x54.i) x81.o x54.i).fst).length by omega)))))) (u2 (aj (ak (aj t7 (ak (al (c4))))) (aj t4 (aj (k2 (aj (aj (show(List.map (iv) (sltL x87 (pjO n c))).length+[iv x81.o].length=(List.map (iv) (sltL x87 (pjO n c))++[iv x81.o]).length by simp) (ak (al (show(sltL x54 0).length=(List.map (iv) (sltL x54 0)).length by simp)))) (aj (show CT Try.prog 68 [some (Blk.mk [AV.lst (List.map (iv) (sltL x87 (pjO n c))++[iv x81.o]),AV.lst (List.take ((List.map (iv) (pathO n.nx (shG n.bs.length (shO n q) q.cl x81.o x54.i) x81.o x54.i).fst).length-Int.toNat 1) (List.drop (Int.toNat 1) (List.map (iv) (pathO n.nx (shG n.bs.length (shO n q) q.cl x81.o x54.i) x81.o x54.i).fst))),AV.lst (List.map (iv) (sltL x54 0))] 1 true true none)] [AV.sl 0 0 3] [some (Blk.mk [AV.any,AV.any,AV.any] 1 true true none),some (Blk.mk (List.map (iv) (sltL x87 (pjO n c)++[x81.o]++List.take ((List.map (iv) (pathO n.nx (shG n.bs.length (shO n q) q.cl x81.o x54.i) x81.o x54.i).fst).length-Int.toNat 1) (List.drop (Int.toNat 1) (pathO n.nx (shG n.bs.length (shO n q) q.cl x81.o x54.i) x81.o x54.i).fst)++sltL x54 0)) 1 true true none)] (AV.sl 1 0 (sltL x87 (pjO n c)++[x81.o]++List.take ((List.map (iv) (pathO n.nx (shG n.bs.length (shO n q) q.cl x81.o x54.i) x81.o x54.i).fst).length-Int.toNat 1) (List.drop (Int.toNat 1) (pathO n.nx (shG n.bs.length (shO n q) q.cl x81.o x54.i) x81.o x54.i).fst)++sltL x54 0).length) from CT.eqs (c5) (by first | (simp only[boL,List.map_append,List.map_set,List.map_take,List.map_drop,List.map_replicate,List.nil_append];done) | (simp only[boL,List.map_append,List.map_set,List.map_take,List.map_drop,List.map_replicate,List.nil_append];rfl) | (simp[gL,boL,lI,sA,bA];done) | (simp[gL,boL,lI,sA,bA];rfl) | (simp only[netA,List.map_append,List.map_set,List.map_cons,List.map_nil];rfl)) (by first | (simp only[boL,List.map_append,List.map_set,List.map_take,List.map_drop,List.map_replicate,List.nil_append];done) | (simp only[boL,List.map_append,List.map_set,List.map_take,List.map_drop,List.map_replicate,List.nil_append];rfl) | (simp[gL,boL,lI,sA,bA];done) | (simp[gL,boL,lI,sA,bA];rfl) | (simp only[netA,List.map_append,List.map_set,List.map_cons,List.map_nil];rfl))) a25))) (aj (k2 (aj t4 (k2 (al (c6))))) (u2 (u2 (u2 (u2 (u2 s2)))))))))))))))) (al (aj (show(sltL x87 (pjO n c)++[x81.o]++List.take ((List.map (iv) (pathO n.nx (shG n.bs.length (shO n q) q.cl x81.o x54.i) x81.o x54.i).fst).length-Int.toNat 1) (List.drop (Int.toNat 1) (pathO n.nx (shG n.bs.length (shO n q) q.cl x81.o x54.i) x81.o x54.i).fst)++sltL x54 0).length=(List.map (iv) (sltL x87 (pjO n c)++[x81.o]++List.take ((List.map (iv) (pathO n.nx (shG n.bs.length (shO n q) q.cl x81.o x54.i) x81.o x54.i).fst).length-Int.toNat 1) (List.drop (Int.toNat 1) (pathO n.nx (shG n.bs.length (shO n q) q.cl x81.o x54.i) x81.o x54.i).fst)++sltL x54 0)).length by simp) t3))))
     (fun a27=>
     .no)))
    (fun a9=>
    .gu fun a10=>
    have c2:=paA_c n (shO n q) c c (x54.i) x54 q a0 a10;
    .rn 1 [68,80,88,154] [] [(99,hK c2 [2,4,3,1] [])] [] (aj a9 (aj (u2 (aj t5 (u2 (u2 (u2 (aj (ak (k3 (aj t9 (aj t5 (ak (k5 (al (c2)))))))) s2)))))) (al (u2 (u2 s2))))) <|
    .br (fun a11=>
     .gu fun a12=>
     have c3:=paB_c n c c (x54.i) q a0 a12;
     .rn 1 [68,80,88,205] [] [(108,hK c3 [1,4] [])] [] (aj a11 (aj (u2 (aj t3 (u2 (u2 (u2 (aj (ak (k3 (aj t9 (aj t3 (ak (k3 (al (c3)))))))) s2)))))) (al (u2 (u2 s2))))) <|
     .br (fun a13=>
     .rt [68,80,88,223] [] [] [] [] [] (aj (aj a13 (al t4)) (al t4)))
     (fun a13=>
     .gu fun a14=>
     .gu fun a15=>
     .gu fun a16=>
     .gu fun a17=>
     .gu fun a18=>
     .gu fun a19=>
     .gu fun a20=>
     .br (fun a21=>
      have c4:=slk_c x54 (0) (show(0:Int)≤(0:Int)∧(0:Int)≤(1000:Int) from ⟨(by first | exact Nat.le_of_ble_eq_true rfl | decide),(by first | exact Nat.le_of_ble_eq_true rfl | decide)⟩) a16 a17;
      have c5:=cc3_c ([]) (List.take ((List.map (iv) (pathO n.nx (shW n.bs.length q.cl c) c x54.i).fst).length-Int.toNat 1) (List.drop (Int.toNat 1) (pathO n.nx (shW n.bs.length q.cl c) c x54.i).fst)) (sltL x54 0) a18;
      have c6:=rsT_c q ([]++List.take ((List.map (iv) (pathO n.nx (shW n.bs.length q.cl c) c x54.i).fst).length-Int.toNat 1) (List.drop (Int.toNat 1) (pathO n.nx (shW n.bs.length q.cl c) c x54.i).fst)++sltL x54 0) (([]++List.take ((List.map (iv) (pathO n.nx (shW n.bs.length q.cl c) c x54.i).fst).length-Int.toNat 1) (List.drop (Int.toNat 1) (pathO n.nx (shW n.bs.length q.cl c) c x54.i).fst)++sltL x54 0).length) (show([]++List.take ((List.map (iv) (pathO n.nx (shW n.bs.length q.cl c) c x54.i).fst).length-Int.toNat 1) (List.drop (Int.toNat 1) (pathO n.nx (shW n.bs.length q.cl c) c x54.i).fst)++sltL x54 0).length=([]++List.take ((List.map (iv) (pathO n.nx (shW n.bs.length q.cl c) c x54.i).fst).length-Int.toNat 1) (List.drop (Int.toNat 1) (pathO n.nx (shW n.bs.length q.cl c) c x54.i).fst)++sltL x54 0).length from rfl) a18 a20 a21;
      .rt [68,80,88,222] [(118,AV.tup [])] [(117,hK c4 [] []),(119,hK c5 [6] [5]),(120,hK c6 [7] [])] [] [] [7] (aj (aj a13 (al (u2 (u2 (u2 (aj (ak (aj a14 (aj (show(0:Int)≤(1:Int) from(by first | exact Nat.le_of_ble_eq_true rfl | decide)) (aj a15 (aj (show iN (List.map (iv) (pathO n.nx (shW n.bs.length q.cl c) c x54.i).fst).length≤iN (List.map (iv) (pathO n.nx (shW n.bs.length q.cl c) c x54.i).fst).length by omega) (show iN (List.map (iv) (pathO n.nx (shW n.bs.length q.cl c) c x54.i).fst).length≤iN (List.map (iv) (pathO n.nx (shW n.bs.length q.cl c) c x54.i).fst).length by omega)))))) (u2 (aj (ak (aj t7 (ak (al (c4))))) (aj t4 (aj (k2 (aj (k2 (al (show(sltL x54 0).length=(List.map (iv) (sltL x54 0)).length by simp))) (aj (show CT Try.prog 68 [some (Blk.mk [AV.lst [],AV.lst (List.take ((List.map (iv) (pathO n.nx (shW n.bs.length q.cl c) c x54.i).fst).length-Int.toNat 1) (List.drop (Int.toNat 1) (List.map (iv) (pathO n.nx (shW n.bs.length q.cl c) c x54.i).fst))),AV.lst (List.map (iv) (sltL x54 0))] 1 true true none)] [AV.sl 0 0 3] [some (Blk.mk [AV.any,AV.any,AV.any] 1 true true none),some (Blk.mk (List.map (iv) ([]++List.take ((List.map (iv) (pathO n.nx (shW n.bs.length q.cl c) c x54.i).fst).length-Int.toNat 1) (List.drop (Int.toNat 1) (pathO n.nx (shW n.bs.length q.cl c) c x54.i).fst)++sltL x54 0)) 1 true true none)] (AV.sl 1 0 ([]++List.take ((List.map (iv) (pathO n.nx (shW n.bs.length q.cl c) c x54.i).fst).length-Int.toNat 1) (List.drop (Int.toNat 1) (pathO n.nx (shW n.bs.length q.cl c) c x54.i).fst)++sltL x54 0).length) from CT.eqs (c5) (by first | (simp only[boL,List.map_append,List.map_set,List.map_take,List.map_drop,List.map_replicate,List.nil_append];done) | (simp only[boL,List.map_append,List.map_set,List.map_take,List.map_drop,List.map_replicate,List.nil_append];rfl) | (simp[gL,boL,lI,sA,bA];done) | (simp[gL,boL,lI,sA,bA];rfl) | (simp only[netA,List.map_append,List.map_set,List.map_cons,List.map_nil];rfl)) (by first | (simp only[boL,List.map_append,List.map_set,List.map_take,List.map_drop,List.map_replicate,List.nil_append];done) | (simp only[boL,List.map_append,List.map_set,List.map_take,List.map_drop,List.map_replicate,List.nil_append];rfl) | (simp[gL,boL,lI,sA,bA];done) | (simp[gL,boL,lI,sA,bA];rfl) | (simp only[netA,List.map_append,List.map_set,List.map_cons,List.map_nil];rfl))) a19))) (aj (k2 (aj t4 (k2 (al (c6))))) (u2 (u2 (u2 (u2 (u2 s2)))))))))))))))) (al (aj (show([]++List.take ((List.map (iv) (pathO n.nx (shW n.bs.length q.cl c) c x54.i).fst).length-Int.toNat 1) (List.drop (Int.toNat 1) (pathO n.nx (shW n.bs.length q.cl c) c x54.i).fst)++sltL x54 0).length=(List.map (iv) ([]++List.take ((List.map (iv) (pathO n.nx (shW n.bs.length q.cl c) c x54.i).fst).length-Int.toNat 1) (List.drop (Int.toNat 1) (pathO n.nx (shW n.bs.length q.cl c) c x54.i).fst)++sltL x54 0)).length by simp) t3))))
     (fun a21=>
      .no)))
    (fun a11=>
     .rn 0 [68,80,88,204] [] [] [] (aj a11 (al (u2 (u2 s2)))) <|
     .gu fun a12=>
     .gu fun a13=>
     .gu fun a14=>
     .gu fun a15=>
     .gu fun a16=>
     .gu fun a17=>
     .gu fun a18=>
     .br (fun a19=>
     have c3:=slk_c x54 (0) (show(0:Int)≤(0:Int)∧(0:Int)≤(1000:Int) from ⟨(by first | exact Nat.le_of_ble_eq_true rfl | decide),(by first | exact Nat.le_of_ble_eq_true rfl | decide)⟩) a14 a15;
     have c4:=cc3_c ([]) (List.take ((List.map (iv) (pathO n.nx (shG n.bs.length (shO n q) q.cl c x54.i) c x54.i).fst).length-Int.toNat 1) (List.drop (Int.toNat 1) (pathO n.nx (shG n.bs.length (shO n q) q.cl c x54.i) c x54.i).fst)) (sltL x54 0) a16;
     have c5:=rsT_c q ([]++List.take ((List.map (iv) (pathO n.nx (shG n.bs.length (shO n q) q.cl c x54.i) c x54.i).fst).length-Int.toNat 1) (List.drop (Int.toNat 1) (pathO n.nx (shG n.bs.length (shO n q) q.cl c x54.i) c x54.i).fst)++sltL x54 0) (([]++List.take ((List.map (iv) (pathO n.nx (shG n.bs.length (shO n q) q.cl c x54.i) c x54.i).fst).length-Int.toNat 1) (List.drop (Int.toNat 1) (pathO n.nx (shG n.bs.length (shO n q) q.cl c x54.i) c x54.i).fst)++sltL x54 0).length) (show([]++List.take ((List.map (iv) (pathO n.nx (shG n.bs.length (shO n q) q.cl c x54.i) c x54.i).fst).length-Int.toNat 1) (List.drop (Int.toNat 1) (pathO n.nx (shG n.bs.length (shO n q) q.cl c x54.i) c x54.i).fst)++sltL x54 0).length=([]++List.take ((List.map (iv) (pathO n.nx (shG n.bs.length (shO n q) q.cl c x54.i) c x54.i).fst).length-Int.toNat 1) (List.drop (Int.toNat 1) (pathO n.nx (shG n.bs.length (shO n q) q.cl c x54.i) c x54.i).fst)++sltL x54 0).length from rfl) a16 a18 a19;
     .rt [68,80,88,222] [(118,AV.tup [])] [(117,hK c3 [] []),(119,hK c4 [6] [5]),(120,hK c5 [7] [])] [] [] [7] (aj (aj a11 (al (u2 (u2 (u2 (aj (ak (aj a12 (aj (show(0:Int)≤(1:Int) from(by first | exact Nat.le_of_ble_eq_true rfl | decide)) (aj a13 (aj (show iN (List.map (iv) (pathO n.nx (shG n.bs.length (shO n q) q.cl c x54.i) c x54.i).fst).length≤iN (List.map (iv) (pathO n.nx (shG n.bs.length (shO n q) q.cl c x54.i) c x54.i).fst).length by omega) (show iN (List.map (iv) (pathO n.nx (shG n.bs.length (shO n q) q.cl c x54.i) c x54.i).fst).length≤iN (List.map (iv) (pathO n.nx (shG n.bs.length (shO n q) q.cl c x54.i) c x54.i).fst).length by omega)))))) (u2 (aj (ak (aj t7 (ak (al (c3))))) (aj t4 (aj (k2 (aj (k2 (al (show(sltL x54 0).length=(List.map (iv) (sltL x54 0)).length by simp))) (aj (show CT Try.prog 68 [some (Blk.mk [AV.lst [],AV.lst (List.take ((List.map (iv) (pathO n.nx (shG n.bs.length (shO n q) q.cl c x54.i) c x54.i).fst).length-Int.toNat 1) (List.drop (Int.toNat 1) (List.map (iv) (pathO n.nx (shG n.bs.length (shO n q) q.cl c x54.i) c x54.i).fst))),AV.lst (List.map (iv) (sltL x54 0))] 1 true true none)] [AV.sl 0 0 3] [some (Blk.mk [AV.any,AV.any,AV.any] 1 true true none),some (Blk.mk (List.map (iv) ([]++List.take ((List.map (iv) (pathO n.nx (shG n.bs.length (shO n q) q.cl c x54.i) c x54.i).fst).length-Int.toNat 1) (List.drop (Int.toNat 1) (pathO n.nx (shG n.bs.length (shO n q) q.cl c x54.i) c x54.i).fst)++sltL x54 0)) 1 true true none)] (AV.sl 1 0 ([]++List.take ((List.map (iv) (pathO n.nx (shG n.bs.length (shO n q) q.cl c x54.i) c x54.i).fst).length-Int.toNat 1) (List.drop (Int.toNat 1) (pathO n.nx (shG n.bs.length (shO n q) q.cl c x54.i) c x54.i).fst)++sltL x54 0).length) from CT.eqs (c4) (by first | (simp only[boL,List.map_append,List.map_set,List.map_take,List.map_drop,List.map_replicate,List.nil_append];done) | (simp only[boL,List.map_append,List.map_set,List.map_take,List.map_drop,List.map_replicate,List.nil_append];rfl) | (simp[gL,boL,lI,sA,bA];done) | (simp[gL,boL,lI,sA,bA];rfl) | (simp only[netA,List.map_append,List.map_set,List.map_cons,List.map_nil];rfl)) (by first | (simp only[boL,List.map_append,List.map_set,List.map_take,List.map_drop,List.map_replicate,List.nil_append];done) | (simp only[boL,List.map_append,List.map_set,List.map_take,List.map_drop,List.map_replicate,List.nil_append];rfl) | (simp[gL,boL,lI,sA,bA];done) | (simp[gL,boL,lI,sA,bA];rfl) | (simp only[netA,List.map_append,List.map_set,List.map_cons,List.map_nil];rfl))) a17))) (aj (k2 (aj t4 (k2 (al (c5))))) (u2 (u2 (u2 (u2 (u2 s2)))))))))))))))) (al (aj (show([]++List.take ((List.map (iv) (pathO n.nx (shG n.bs.length (shO n q) q.cl c x54.i) c x54.i).fst).length-Int.toNat 1) (List.drop (Int.toNat 1) (pathO n.nx (shG n.bs.length (shO n q) q.cl c x54.i) c x54.i).fst)++sltL x54 0).length=(List.map (iv) ([]++List.take ((List.map (iv) (pathO n.nx (shG n.bs.length (shO n q) q.cl c x54.i) c x54.i).fst).length-Int.toNat 1) (List.drop (Int.toNat 1) (pathO n.nx (shG n.bs.length (shO n q) q.cl c x54.i) c x54.i).fst)++sltL x54 0)).length by simp) t3))))
     (fun a19=>
     .no)))))))))) (by kernel_rfl)
theorem leT_ct(n:NetD)(q:SigD)(c d:Int)(r:Ret)(h:MReach (leTStep n q c d) (leTEn n q c d) r):CT Try.prog 30 ([]) ([netA n,sgA q,.int .i64 c,.int .i64 d]) r.1 r.2:=
 CT.mach (fn:=Try.f30) (c:=zB Try.f30) (S:=leTSt n q c d) (hd:=leTHd) Try.func30 (by kernel_rfl) (Nat.le_of_ble_eq_true rfl)
  (fun s o ho=>match s,ho with
   | x,_=>x.elim)
  (fun o ho=>leTEn_ok n q c d o ho) h
def leFSt(n:NetD)(q:SigD)(c d:Int):Empty→St
 | x=>x.elim
def leFHd:Empty→Nat
 | x=>x.elim
def leFEn(n:NetD)(q:SigD)(c d:Int):Option (Empty⊕Ret):=
 gu (Rows n.nx) <|
 br (shE n q != 0)
 (some (.inr ([],AV.tup [AV.nils,AV.bool false,AV.int IntKind.i64 (shE n q)])))
 (br (decide (c<0))
  (some (.inr ([],AV.tup [AV.nils,AV.bool false,AV.int IntKind.i64 19])))
  (br (decide (iN (boL (shO n q)).length≤c))
   (some (.inr ([],AV.tup [AV.nils,AV.bool false,AV.int IntKind.i64 19])))
   (br (decide (d<0))
    (some (.inr ([],AV.tup [AV.nils,AV.bool false,AV.int IntKind.i64 19])))
    (br (decide (iN (List.map sA n.ss).length≤d))
     (some (.inr ([],AV.tup [AV.nils,AV.bool false,AV.int IntKind.i64 19])))
     (gu (0≤d) <|
      el (n.ss) (d.toNat) fun(x54:SpuD)=>
      br (plO n c==d)
      (gu (0≤pjO n c∧pjO n c≤1000) <|
       gu (0≤x54.b∧x54.b≤1000) <|
       gu (x54.k≤1000) <|
       gu ((sltL x54 (pjO n c)).length≤1000000) <|
       gu (∀(c_1:Int),c_1∈sltL x54 (pjO n c)→0≤c_1∧c_1<iN q.cl.length) <|
       br (pasB q.cl (sltL x54 (pjO n c)))
       (none)
       (some (.inr ([],AV.tup [AV.nils,AV.bool false,AV.int IntKind.i64 0]))))
      (br (decide (0≤plO n c))
       (gu (0≤plO n c) <|
        el (n.ss) ((plO n c).toNat) fun(x81:SpuD)=>
        el (n.ss) ((plO n c).toNat) fun(x87:SpuD)=>
        gu (0≤pjO n c∧pjO n c≤1000) <|
        gu (0≤x87.b∧x87.b≤1000) <|
        gu (x87.k≤1000) <|
        gu ((List.map (AV.int IntKind.i64) (sltL x87 (pjO n c))).length+[AV.int IntKind.i64 x81.o].length≤9223372036854775807) <|
        gu (((List.map (AV.int IntKind.i64) (sltL x87 (pjO n c))).length+[AV.int IntKind.i64 x81.o].length) * 8≤140737488355328) <|
        gu (n.bs.length≤1000∧n.bs.length≤(shO n q).length∧n.bs.length≤q.cl.length) <|
        br (iN (List.map (AV.int IntKind.i64) (pathO n.nx (shG n.bs.length (shO n q) q.cl x81.o x54.i) x81.o x54.i).fst).length==0)
        (gu (n.bs.length≤1000∧n.bs.length≤q.cl.length) <|
         br (iN (List.map (AV.int IntKind.i64) (pathO n.nx (shW n.bs.length q.cl x81.o) x81.o x54.i).fst).length==0)
         (some (.inr ([],AV.tup [AV.nils,AV.bool false,AV.int IntKind.i64 0])))
         (gu (∀(e:AV),e∈List.map (AV.int IntKind.i64) (pathO n.nx (shW n.bs.length q.cl x81.o) x81.o x54.i).fst→e.cells.length=1) <|
          gu (1≤iN (List.map (AV.int IntKind.i64) (pathO n.nx (shW n.bs.length q.cl x81.o) x81.o x54.i).fst).length) <|
          gu (0≤x54.b∧x54.b≤1000) <|
          gu (x54.k≤1000) <|
          gu ((sltL x87 (pjO n c)++[x81.o]++List.take ((List.map (AV.int IntKind.i64) (pathO n.nx (shW n.bs.length q.cl x81.o) x81.o x54.i).fst).length-Int.toNat 1) (List.drop (Int.toNat 1) (pathO n.nx (shW n.bs.length q.cl x81.o) x81.o x54.i).fst)++sltL x54 0).length≤1000000) <|
          gu (∀(blk:Blk),blk∈[Blk.mk [AV.any,AV.any,AV.any] 1 true true none,Blk.mk (List.map (AV.int IntKind.i64) (sltL x87 (pjO n c)++[x81.o]++List.take ((List.map (AV.int IntKind.i64) (pathO n.nx (shW n.bs.length q.cl x81.o) x81.o x54.i).fst).length-Int.toNat 1) (List.drop (Int.toNat 1) (pathO n.nx (shW n.bs.length q.cl x81.o) x81.o x54.i).fst)++sltL x54 0)) 1 true true none]→ImmB blk) <|
          gu (∀(c_1:Int),c_1∈sltL x87 (pjO n c)++[x81.o]++List.take ((List.map (AV.int IntKind.i64) (pathO n.nx (shW n.bs.length q.cl x81.o) x81.o x54.i).fst).length-Int.toNat 1) (List.drop (Int.toNat 1) (pathO n.nx (shW n.bs.length q.cl x81.o) x81.o x54.i).fst)++sltL x54 0→0≤c_1∧c_1<iN q.cl.length) <|
          br (pasB q.cl (sltL x87 (pjO n c)++[x81.o]++List.take ((List.map (AV.int IntKind.i64) (pathO n.nx (shW n.bs.length q.cl x81.o) x81.o x54.i).fst).length-Int.toNat 1) (List.drop (Int.toNat 1) (pathO n.nx (shW n.bs.length q.cl x81.o) x81.o x54.i).fst)++sltL x54 0))
          (none)
          (some (.inr ([],AV.tup [AV.nils,AV.bool false,AV.int IntKind.i64 0])))))
        (gu (∀(e:AV),e∈List.map (AV.int IntKind.i64) (pathO n.nx (shG n.bs.length (shO n q) q.cl x81.o x54.i) x81.o x54.i).fst→e.cells.length=1) <|
         gu (1≤iN (List.map (AV.int IntKind.i64) (pathO n.nx (shG n.bs.length (shO n q) q.cl x81.o x54.i) x81.o x54.i).fst).length) <|
         gu (0≤x54.b∧x54.b≤1000) <|
         gu (x54.k≤1000) <|
         gu ((sltL x87 (pjO n c)++[x81.o]++List.take ((List.map (AV.int IntKind.i64) (pathO n.nx (shG n.bs.length (shO n q) q.cl x81.o x54.i) x81.o x54.i).fst).length-Int.toNat 1) (List.drop (Int.toNat 1) (pathO n.nx (shG n.bs.length (shO n q) q.cl x81.o x54.i) x81.o x54.i).fst)++sltL x54 0).length≤1000000) <|
         gu (∀(blk:Blk),blk∈[Blk.mk [AV.any,AV.any,AV.any] 1 true true none,Blk.mk (List.map (AV.int IntKind.i64) (sltL x87 (pjO n c)++[x81.o]++List.take ((List.map (AV.int IntKind.i64) (pathO n.nx (shG n.bs.length (shO n q) q.cl x81.o x54.i) x81.o x54.i).fst).length-Int.toNat 1) (List.drop (Int.toNat 1) (pathO n.nx (shG n.bs.length (shO n q) q.cl x81.o x54.i) x81.o x54.i).fst)++sltL x54 0)) 1 true true none]→ImmB blk) <|
         gu (∀(c_1:Int),c_1∈sltL x87 (pjO n c)++[x81.o]++List.take ((List.map (AV.int IntKind.i64) (pathO n.nx (shG n.bs.length (shO n q) q.cl x81.o x54.i) x81.o x54.i).fst).length-Int.toNat 1) (List.drop (Int.toNat 1) (pathO n.nx (shG n.bs.length (shO n q) q.cl x81.o x54.i) x81.o x54.i).fst)++sltL x54 0→0≤c_1∧c_1<iN q.cl.length) <|
         br (pasB q.cl (sltL x87 (pjO n c)++[x81.o]++List.take ((List.map (AV.int IntKind.i64) (pathO n.nx (shG n.bs.length (shO n q) q.cl x81.o x54.i) x81.o x54.i).fst).length-Int.toNat 1) (List.drop (Int.toNat 1) (pathO n.nx (shG n.bs.length (shO n q) q.cl x81.o x54.i) x81.o x54.i).fst)++sltL x54 0))
         (none)
         (some (.inr ([],AV.tup [AV.nils,AV.bool false,AV.int IntKind.i64 0])))))
       (gu (n.bs.length≤1000∧n.bs.length≤(shO n q).length∧n.bs.length≤q.cl.length) <|
        br (iN (List.map (AV.int IntKind.i64) (pathO n.nx (shG n.bs.length (shO n q) q.cl c x54.i) c x54.i).fst).length==0)
        (gu (n.bs.length≤1000∧n.bs.length≤q.cl.length) <|
         br (iN (List.map (AV.int IntKind.i64) (pathO n.nx (shW n.bs.length q.cl c) c x54.i).fst).length==0)
         (some (.inr ([],AV.tup [AV.nils,AV.bool false,AV.int IntKind.i64 0])))
         (gu (∀(e:AV),e∈List.map (AV.int IntKind.i64) (pathO n.nx (shW n.bs.length q.cl c) c x54.i).fst→e.cells.length=1) <|
          gu (1≤iN (List.map (AV.int IntKind.i64) (pathO n.nx (shW n.bs.length q.cl c) c x54.i).fst).length) <|
          gu (0≤x54.b∧x54.b≤1000) <|
          gu (x54.k≤1000) <|
          gu (([]++List.take ((List.map (AV.int IntKind.i64) (pathO n.nx (shW n.bs.length q.cl c) c x54.i).fst).length-Int.toNat 1) (List.drop (Int.toNat 1) (pathO n.nx (shW n.bs.length q.cl c) c x54.i).fst)++sltL x54 0).length≤1000000) <|
          gu (∀(blk:Blk),blk∈[Blk.mk [AV.any,AV.any,AV.any] 1 true true none,Blk.mk (List.map (AV.int IntKind.i64) ([]++List.take ((List.map (AV.int IntKind.i64) (pathO n.nx (shW n.bs.length q.cl c) c x54.i).fst).length-Int.toNat 1) (List.drop (Int.toNat 1) (pathO n.nx (shW n.bs.length q.cl c) c x54.i).fst)++sltL x54 0)) 1 true true none]→ImmB blk) <|
          gu (∀(c_1:Int),c_1∈[]++List.take ((List.map (AV.int IntKind.i64) (pathO n.nx (shW n.bs.length q.cl c) c x54.i).fst).length-Int.toNat 1) (List.drop (Int.toNat 1) (pathO n.nx (shW n.bs.length q.cl c) c x54.i).fst)++sltL x54 0→0≤c_1∧c_1<iN q.cl.length) <|
          br (pasB q.cl ([]++List.take ((List.map (AV.int IntKind.i64) (pathO n.nx (shW n.bs.length q.cl c) c x54.i).fst).length-Int.toNat 1) (List.drop (Int.toNat 1) (pathO n.nx (shW n.bs.length q.cl c) c x54.i).fst)++sltL x54 0))
          (none)
          (some (.inr ([],AV.tup [AV.nils,AV.bool false,AV.int IntKind.i64 0])))))
        (gu (∀(e:AV),e∈List.map (AV.int IntKind.i64) (pathO n.nx (shG n.bs.length (shO n q) q.cl c x54.i) c x54.i).fst→e.cells.length=1) <|
         gu (1≤iN (List.map (AV.int IntKind.i64) (pathO n.nx (shG n.bs.length (shO n q) q.cl c x54.i) c x54.i).fst).length) <|
         gu (0≤x54.b∧x54.b≤1000) <|
         gu (x54.k≤1000) <|
         gu (([]++List.take ((List.map (AV.int IntKind.i64) (pathO n.nx (shG n.bs.length (shO n q) q.cl c x54.i) c x54.i).fst).length-Int.toNat 1) (List.drop (Int.toNat 1) (pathO n.nx (shG n.bs.length (shO n q) q.cl c x54.i) c x54.i).fst)++sltL x54 0).length≤1000000) <|
         gu (∀(blk:Blk),blk∈[Blk.mk [AV.any,AV.any,AV.any] 1 true true none,Blk.mk (List.map (AV.int IntKind.i64) ([]++List.take ((List.map (AV.int IntKind.i64) (pathO n.nx (shG n.bs.length (shO n q) q.cl c x54.i) c x54.i).fst).length-Int.toNat 1) (List.drop (Int.toNat 1) (pathO n.nx (shG n.bs.length (shO n q) q.cl c x54.i) c x54.i).fst)++sltL x54 0)) 1 true true none]→ImmB blk) <|
         gu (∀(c_1:Int),c_1∈[]++List.take ((List.map (AV.int IntKind.i64) (pathO n.nx (shG n.bs.length (shO n q) q.cl c x54.i) c x54.i).fst).length-Int.toNat 1) (List.drop (Int.toNat 1) (pathO n.nx (shG n.bs.length (shO n q) q.cl c x54.i) c x54.i).fst)++sltL x54 0→0≤c_1∧c_1<iN q.cl.length) <|
         br (pasB q.cl ([]++List.take ((List.map (AV.int IntKind.i64) (pathO n.nx (shG n.bs.length (shO n q) q.cl c x54.i) c x54.i).fst).length-Int.toNat 1) (List.drop (Int.toNat 1) (pathO n.nx (shG n.bs.length (shO n q) q.cl c x54.i) c x54.i).fst)++sltL x54 0))
         (none)
         (some (.inr ([],AV.tup [AV.nils,AV.bool false,AV.int IntKind.i64 0])))))))))))
def leFStep(n:NetD)(q:SigD)(c d:Int):Empty→Option (Empty⊕Ret)
 | x=>x.elim
theorem leFEn_ok(n:NetD)(q:SigD)(c d:Int)(o:Empty⊕Ret)(h:leFEn n q c d=some o):Arr Try.prog Try.f30 0 (leFSt n q c d) leFHd (zB Try.f30) [] {n:=Try.f30.ntmps,fr:=enumF 0 ([netA n,sgA q,.int .i64 c,.int .i64 d]),hp:=([])} o:=
 Scr.ok h mix (
 .rn 0 [] [] [] [] (al (u2 (u2 t4))) <|
 .gu fun a0=>
 have c0:=ssh_c (q.cl) (q.bw) (q.pe) a0;
 .rn 1 [] [] [(24,hK c0 [] [])] [] (aj (u2 (u2 (aj (k2 (aj t9 (aj t4 (al (c0))))) (u2 (u2 (u2 (ak (aj (k2 n11) s2)))))))) (al (u2 (u2 s2)))) <|
 .br (fun a1=>
 .rt [55] [] [] [] [] [] (aj (aj a1 (al (u2 (k2 s2)))) (al t4)))
 (fun a1=>
 .br (fun a2=>
  .rt [54,69] [] [] [] [] [] (aj (aj a1 (aj (u2 (u2 (u2 (aj a2 (aj a2 (aj a2 (aj a2 (ag a2 (u2 (k2 (aj t3 (u2 (k5 (aj t3 s2)))))))))))))) (ak (al t4)))) (al t4)))
 (fun a2=>
  .br (fun a3=>
  .rt [54,68,81] [] [] [] [] [] (aj (aj a1 (aj (u2 (u2 (u2 (ag a2 (ag a2 (ag a2 (aj (aj a2 t3) (ag a2 (u2 (aj a3 (aj a3 (ag a3 (u2 (k5 (aj t3 s2))))))))))))))) (ak (al t4)))) (al t4)))
  (fun a3=>
  .br (fun a4=>
   .rt [54,68,80,89] [] [] [] [] [] (aj (aj a1 (aj (u2 (u2 (u2 (ag a2 (ag a2 (ag a2 (aj (aj a2 t3) (ag a2 (u2 (ag a3 (ag a3 (ag a3 (u2 (aj a4 (aj a4 (aj a4 (aj a4 (aj a4 (ag a4 s2))))))))))))))))))) (ak (al t4)))) (al t4)))
  (fun a4=>
   .rn 0 [54,68,80,88] [] [] [] (aj a1 (al (u2 (u2 (u2 (ag a2 (ag a2 (ag a2 (aj (aj a2 t3) (ag a2 (u2 (ag a3 (ag a3 (ag a3 (u2 (ag a4 (ag a4 (ag a4 (ag a4 (aj (aj a4 t3) (ag a4 s2))))))))))))))))))))) <|
   .br (fun a5=>
   .rt [68,80,88,63] [] [] [] [] [] (aj (aj a5 (al t4)) (al t4)))
   (fun a5=>
   .gu fun a6=>
   .el fun x54 a7=>
   have c1:=plc_c c a0;
   .rn 2 [68,80,88,62] [(54,sA x54)] [(59,hK c1 [] [])] [] (aj a5 (aj (u2 (u2 (u2 (aj (k2 (aj a6 (getMap (f:=sA) a7))) (u2 (ak (al (k2 n11)))))))) (aj (u2 (u2 (aj (k2 (aj t9 (ak (al (c1))))) (u2 (u2 (u2 (u2 (u2 (u2 s2))))))))) (al (u2 (u2 (al t3))))))) <|
   .br (fun a8=>
    .gu fun a9=>
    .gu fun a10=>
    .gu fun a11=>
    have c2:=slk_c x54 (pjO n c) a9 a10 a11;
    .rn 0 [68,80,88,131] [] [(68,hK c2 [] [])] [] (aj a8 (al (u2 (u2 (aj (k2 (aj t7 (ak (al (c2))))) s2))))) <|
    .gu fun a12=>
    .gu fun a13=>
    .br (fun a14=>
    .no)
    (fun a14=>
    have c3:=rsF_c q (sltL x54 (pjO n c)) ((sltL x54 (pjO n c)).length) (show(sltL x54 (pjO n c)).length=(sltL x54 (pjO n c)).length from rfl) a12 a13 a14;
    .rt [68,80,88] [] [(71,hK c3 [4] [])] [] [] [] (aj (al (u2 (u2 (aj (k2 (aj t4 (k2 (al (c3))))) (u2 (u2 (u2 (u2 (u2 s2))))))))) (al t4))))
   (fun a8=>
    .rn 2 [68,80,88,130] [] [] [] (aj a8 (u2 (aj (u2 (ak (al (k2 n11)))) (al (u2 s2))))) <|
    .br (fun a9=>
    .gu fun a10=>
    .el fun x81 a11=>
    .rn 0 [68,80,88,155] [(81,sA x81)] [] [] (aj a9 (al (u2 (u2 (u2 (aj (k2 (aj a10 (getMap (f:=sA) a11))) (u2 (u2 (al (k2 (show Nat.le 1 [iv c].length from(Nat.le_of_ble_eq_true rfl)))))))))))) <|
    .el fun x87 a12=>
    .gu fun a13=>
    .gu fun a14=>
    .gu fun a15=>
    .gu fun a16=>
    .gu fun a17=>
    have c2:=slk_c x87 (pjO n c) a13 a14 a15;
    .rn 0 [68,80,88] [(87,sA x87)] [(90,hK c2 [] [])] [] (al (u2 (u2 (u2 (aj (k2 (aj a10 (getMap (f:=sA) a12))) (u2 (u2 (aj (k2 (aj t7 (ak (al (c2))))) (u2 (u2 (aj (k2 (aj (show(List.map (iv) (sltL x87 (pjO n c))).length=(sltL x87 (pjO n c)).length by simp) (aj (aj (show nat_lit 1=nat_lit 1 from rfl) (show 1≤[iv x81.o].length by simp)) (aj a16 a17)))) s2))))))))))) <|
    .gu fun a18=>
    have c3:=paA_c n (shO n q) (x81.o) (x81.o) (x54.i) x54 q a0 a18;
    .rn 1 [68,80,88] [] [(99,hK c3 [2,4,3,1] [])] [] (aj (u2 (aj t5 (u2 (u2 (u2 (aj (ak (k3 (aj t9 (aj t5 (ak (k5 (al (c3)))))))) s2)))))) (al (u2 (u2 s2)))) <|
    .br (fun a19=>
     .gu fun a20=>
     have c4:=paB_c n (x81.o) (x81.o) (x54.i) q a0 a20;
     .rn 1 [68,80,88,205] [] [(108,hK c4 [1,4] [])] [] (aj a19 (aj (u2 (aj t3 (u2 (u2 (u2 (aj (ak (k3 (aj t9 (aj t3 (ak (k3 (al (c4)))))))) s2)))))) (al (u2 (u2 s2))))) <|
     .br (fun a21=>
     .rt [68,80,88,223] [] [] [] [] [] (aj (aj a21 (al t4)) (al t4)))
     (fun a21=>
     .gu fun a22=>
     .gu fun a23=>
     .gu fun a24=>
     .gu fun a25=>
     .gu fun a26=>
     .gu fun a27=>
     .gu fun a28=>
     .br (fun a29=>
      .no)
     (fun a29=>
      have c5:=slk_c x54 (0) (show(0:Int)≤(0:Int)∧(0:Int)≤(1000:Int) from ⟨(by first | exact Nat.le_of_ble_eq_true rfl | decide),(by first | exact Nat.le_of_ble_eq_true rfl | decide)⟩) a24 a25;
      have c6:=cc3_c (sltL x87 (pjO n c)++[x81.o]) (List.take ((List.map (iv) (pathO n.nx (shW n.bs.length q.cl x81.o) x81.o x54.i).fst).length-Int.toNat 1) (List.drop (Int.toNat 1) (pathO n.nx (shW n.bs.length q.cl x81.o) x81.o x54.i).fst)) (sltL x54 0) a26;
      have c7:=rsF_c q (sltL x87 (pjO n c)++[x81.o]++List.take ((List.map (iv) (pathO n.nx (shW n.bs.length q.cl x81.o) x81.o x54.i).fst).length-Int.toNat 1) (List.drop (Int.toNat 1) (pathO n.nx (shW n.bs.length q.cl x81.o) x81.o x54.i).fst)++sltL x54 0) ((sltL x87 (pjO n c)++[x81.o]++List.take ((List.map (iv) (pathO n.nx (shW n.bs.length q.cl x81.o) x81.o x54.i).fst).length-Int.toNat 1) (List.drop (Int.toNat 1) (pathO n.nx (shW n.bs.length q.cl x81.o) x81.o x54.i).fst)++sltL x54 0).length) (show(sltL x87 (pjO n c)++[x81.o]++List.take ((List.map (iv) (pathO n.nx (shW n.bs.length q.cl x81.o) x81.o x54.i).fst).length-Int.toNat 1) (List.drop (Int.toNat 1) (pathO n.nx (shW n.bs.length q.cl x81.o) x81.o x54.i).fst)++sltL x54 0).length=(sltL x87 (pjO n c)++[x81.o]++List.take ((List.map (iv) (pathO n.nx (shW n.bs.length q.cl x81.o) x81.o x54.i).fst).length-Int.toNat 1) (List.drop (Int.toNat 1) (pathO n.nx (shW n.bs.length q.cl x81.o) x81.o x54.i).fst)++sltL x54 0).length from rfl) a26 a28 a29;
      .rt [68,80,88,222] [] [(117,hK c5 [] []),(119,hK c6 [9] [7,8]),(120,hK c7 [10] [])] [] [] [] (aj (aj a21 (al (u2 (u2 (u2 (aj (ak (aj a22 (aj (show(0:Int)≤(1:Int) from(by first | exact Nat.le_of_ble_eq_true rfl | decide)) (aj a23 (aj (show iN (List.map (iv) (pathO n.nx (shW n.bs.length q.cl x81.o) x81.o x54.i).fst).length≤iN (List.map (iv) (pathO n.nx (shW n.bs.length q.cl x81.o) x81.o x54.i).fst).length by omega) (show iN (List.map (iv) (pathO n.nx (shW n.bs.length q.cl x81.o) x81.o x54.i).fst).length≤iN (List.map (iv) (pathO n.nx (shW n.bs.length q.cl x81.o) x81.o x54.i).fst).length by omega)))))) (u2 (aj (ak (aj t7 (ak (al (c5))))) (aj t4 (aj (k2 (aj (aj (show(List.map (iv) (sltL x87 (pjO n c))).length+[iv x81.o].length=(List.map (iv) (sltL x87 (pjO n c))++[iv x81.o]).length by simp) (ak (al (show(sltL x54 0).length=(List.map (iv) (sltL x54 0)).length by simp)))) (aj (show CT Try.prog 68 [some (Blk.mk [AV.lst (List.map (iv) (sltL x87 (pjO n c))++[iv x81.o]),AV.lst (List.take ((List.map (iv) (pathO n.nx (shW n.bs.length q.cl x81.o) x81.o x54.i).fst).length-Int.toNat 1) (List.drop (Int.toNat 1) (List.map (iv) (pathO n.nx (shW n.bs.length q.cl x81.o) x81.o x54.i).fst))),AV.lst (List.map (iv) (sltL x54 0))] 1 true true none)] [AV.sl 0 0 3] [some (Blk.mk [AV.any,AV.any,AV.any] 1 true true none),some (Blk.mk (List.map (iv) (sltL x87 (pjO n c)++[x81.o]++List.take ((List.map (iv) (pathO n.nx (shW n.bs.length q.cl x81.o) x81.o x54.i).fst).length-Int.toNat 1) (List.drop (Int.toNat 1) (pathO n.nx (shW n.bs.length q.cl x81.o) x81.o x54.i).fst)++sltL x54 0)) 1 true true none)] (AV.sl 1 0 (sltL x87 (pjO n c)++[x81.o]++List.take ((List.map (iv) (pathO n.nx (shW n.bs.length q.cl x81.o) x81.o x54.i).fst).length-Int.toNat 1) (List.drop (Int.toNat 1) (pathO n.nx (shW n.bs.length q.cl x81.o) x81.o x54.i).fst)++sltL x54 0).length) from CT.eqs (c6) (by first | (simp only[boL,List.map_append,List.map_set,List.map_take,List.map_drop,List.map_replicate,List.nil_append];done) | (simp only[boL,List.map_append,List.map_set,List.map_take,List.map_drop,List.map_replicate,List.nil_append];rfl) | (simp[gL,boL,lI,sA,bA];done) | (simp[gL,boL,lI,sA,bA];rfl) | (simp only[netA,List.map_append,List.map_set,List.map_cons,List.map_nil];rfl)) (by first | (simp only[boL,List.map_append,List.map_set,List.map_take,List.map_drop,List.map_replicate,List.nil_append];done) | (simp only[boL,List.map_append,List.map_set,List.map_take,List.map_drop,List.map_replicate,List.nil_append];rfl) | (simp[gL,boL,lI,sA,bA];done) | (simp[gL,boL,lI,sA,bA];rfl) | (simp only[netA,List.map_append,List.map_set,List.map_cons,List.map_nil];rfl))) a27))) (aj (k2 (aj t4 (k2 (al (c7))))) (u2 (u2 (u2 (u2 (u2 s2)))))))))))))))) (al t4)))))
    (fun a19=>
     .rn 0 [68,80,88,204] [] [] [] (aj a19 (al (u2 (u2 s2)))) <|
     .gu fun a20=>
     .gu fun a21=>
     .gu fun a22=>
     .gu fun a23=>
     .gu fun a24=>
     .gu fun a25=>
     .gu fun a26=>
     .br (fun a27=>
     .no)
     (fun a27=>
     have c4:=slk_c x54 (0) (show(0:Int)≤(0:Int)∧(0:Int)≤(1000:Int) from ⟨(by first | exact Nat.le_of_ble_eq_true rfl | decide),(by first | exact Nat.le_of_ble_eq_true rfl | decide)⟩) a22 a23;
     have c5:=cc3_c (sltL x87 (pjO n c)++[x81.o]) (List.take ((List.map (iv) (pathO n.nx (shG n.bs.length (shO n q) q.cl x81.o x54.i) x81.o x54.i).fst).length-Int.toNat 1) (List.drop (Int.toNat 1) (pathO n.nx (shG n.bs.length (shO n q) q.cl x81.o x54.i) x81.o x54.i).fst)) (sltL x54 0) a24;
     have c6:=rsF_c q (sltL x87 (pjO n c)++[x81.o]++List.take ((List.map (iv) (pathO n.nx (shG n.bs.length (shO n q) q.cl x81.o x54.i) x81.o x54.i).fst).length-Int.toNat 1) (List.drop (Int.toNat 1) (pathO n.nx (shG n.bs.length (shO n q) q.cl x81.o x54.i) x81.o x54.i).fst)++sltL x54 0) ((sltL x87 (pjO n c)++[x81.o]++List.take ((List.map (iv) (pathO n.nx (shG n.bs.length (shO n q) q.cl x81.o x54.i) x81.o x54.i).fst).length-Int.toNat 1) (List.drop (Int.toNat 1) (pathO n.nx (shG n.bs.length (shO n q) q.cl x81.o x54.i) x81.o x54.i).fst)++sltL x54 0).length) (show(sltL x87 (pjO n c)++[x81.o]++List.take ((List.map (iv) (pathO n.nx (shG n.bs.length (shO n q) q.cl x81.o x54.i) x81.o x54.i).fst).length-Int.toNat 1) (List.drop (Int.toNat 1) (pathO n.nx (shG n.bs.length (shO n q) q.cl x81.o x54.i) x81.o x54.i).fst)++sltL x54 0).length=(sltL x87 (pjO n c)++[x81.o]++List.take ((List.map (iv) (pathO n.nx (shG n.bs.length (shO n q) q.cl x81.o x54.i) x81.o x54.i).fst).length-Int.toNat 1) (List.drop (Int.toNat 1) (pathO n.nx (shG n.bs.length (shO n q) q.cl x81.o x54.i) x81.o x54.i).fst)++sltL x54 0).length from rfl) a24 a26 a27;
     .rt [68,80,88,222] [] [(117,hK c4 [] []),(119,hK c5 [9] [7,8]),(120,hK c6 [10] [])] [] [] [] (aj (aj a19 (al (u2 (u2 (u2 (aj (ak (aj a20 (aj (show(0:Int)≤(1:Int) from(by first | exact Nat.le_of_ble_eq_true rfl | decide)) (aj a21 (aj (show iN (List.map (iv) (pathO n.nx (shG n.bs.length (shO n q) q.cl x81.o x54.i) x81.o x54.i).fst).length≤iN (List.map (iv) (pathO n.nx (shG n.bs.length (shO n q) q.cl x81.o x54.i) x81.o x54.i).fst).length by omega) (show iN (List.map (iv) (pathO n.nx (shG n.bs.length (shO n q) q.cl x81.o x54.i) x81.o x54.i).fst).length≤iN (List.map (iv) (pathO n.nx (shG n.bs.length (shO n q) q.cl x81.o x54.i) x81.o x54.i).fst).length by omega)))))) (u2 (aj (ak (aj t7 (ak (al (c4))))) (aj t4 (aj (k2 (aj (aj (show(List.map (iv) (sltL x87 (pjO n c))).length+[iv x81.o].length=(List.map (iv) (sltL x87 (pjO n c))++[iv x81.o]).length by simp) (ak (al (show(sltL x54 0).length=(List.map (iv) (sltL x54 0)).length by simp)))) (aj (show CT Try.prog 68 [some (Blk.mk [AV.lst (List.map (iv) (sltL x87 (pjO n c))++[iv x81.o]),AV.lst (List.take ((List.map (iv) (pathO n.nx (shG n.bs.length (shO n q) q.cl x81.o x54.i) x81.o x54.i).fst).length-Int.toNat 1) (List.drop (Int.toNat 1) (List.map (iv) (pathO n.nx (shG n.bs.length (shO n q) q.cl x81.o x54.i) x81.o x54.i).fst))),AV.lst (List.map (iv) (sltL x54 0))] 1 true true none)] [AV.sl 0 0 3] [some (Blk.mk [AV.any,AV.any,AV.any] 1 true true none),some (Blk.mk (List.map (iv) (sltL x87 (pjO n c)++[x81.o]++List.take ((List.map (iv) (pathO n.nx (shG n.bs.length (shO n q) q.cl x81.o x54.i) x81.o x54.i).fst).length-Int.toNat 1) (List.drop (Int.toNat 1) (pathO n.nx (shG n.bs.length (shO n q) q.cl x81.o x54.i) x81.o x54.i).fst)++sltL x54 0)) 1 true true none)] (AV.sl 1 0 (sltL x87 (pjO n c)++[x81.o]++List.take ((List.map (iv) (pathO n.nx (shG n.bs.length (shO n q) q.cl x81.o x54.i) x81.o x54.i).fst).length-Int.toNat 1) (List.drop (Int.toNat 1) (pathO n.nx (shG n.bs.length (shO n q) q.cl x81.o x54.i) x81.o x54.i).fst)++sltL x54 0).length) from CT.eqs (c5) (by first | (simp only[boL,List.map_append,List.map_set,List.map_take,List.map_drop,List.map_replicate,List.nil_append];done) | (simp only[boL,List.map_append,List.map_set,List.map_take,List.map_drop,List.map_replicate,List.nil_append];rfl) | (simp[gL,boL,lI,sA,bA];done) | (simp[gL,boL,lI,sA,bA];rfl) | (simp only[netA,List.map_append,List.map_set,List.map_cons,List.map_nil];rfl)) (by first | (simp only[boL,List.map_append,List.map_set,List.map_take,List.map_drop,List.map_replicate,List.nil_append];done) | (simp only[boL,List.map_append,List.map_set,List.map_take,List.map_drop,List.map_replicate,List.nil_append];rfl) | (simp[gL,boL,lI,sA,bA];done) | (simp[gL,boL,lI,sA,bA];rfl) | (simp only[netA,List.map_append,List.map_set,List.map_cons,List.map_nil];rfl))) a25))) (aj (k2 (aj t4 (k2 (al (c6))))) (u2 (u2 (u2 (u2 (u2 s2)))))))))))))))) (al t4)))))
    (fun a9=>
    .gu fun a10=>
    have c2:=paA_c n (shO n q) c c (x54.i) x54 q a0 a10;
    .rn 1 [68,80,88,154] [] [(99,hK c2 [2,4,3,1] [])] [] (aj a9 (aj (u2 (aj t5 (u2 (u2 (u2 (aj (ak (k3 (aj t9 (aj t5 (ak (k5 (al (c2)))))))) s2)))))) (al (u2 (u2 s2))))) <|
    .br (fun a11=>
     .gu fun a12=>
     have c3:=paB_c n c c (x54.i) q a0 a12;
     .rn 1 [68,80,88,205] [] [(108,hK c3 [1,4] [])] [] (aj a11 (aj (u2 (aj t3 (u2 (u2 (u2 (aj (ak (k3 (aj t9 (aj t3 (ak (k3 (al (c3)))))))) s2)))))) (al (u2 (u2 s2))))) <|
     .br (fun a13=>
     .rt [68,80,88,223] [] [] [] [] [] (aj (aj a13 (al t4)) (al t4)))
     (fun a13=>
     .gu fun a14=>
     .gu fun a15=>
     .gu fun a16=>
     .gu fun a17=>
     .gu fun a18=>
     .gu fun a19=>
     .gu fun a20=>
     .br (fun a21=>
      .no)
     (fun a21=>
      have c4:=slk_c x54 (0) (show(0:Int)≤(0:Int)∧(0:Int)≤(1000:Int) from ⟨(by first | exact Nat.le_of_ble_eq_true rfl | decide),(by first | exact Nat.le_of_ble_eq_true rfl | decide)⟩) a16 a17;
      have c5:=cc3_c ([]) (List.take ((List.map (iv) (pathO n.nx (shW n.bs.length q.cl c) c x54.i).fst).length-Int.toNat 1) (List.drop (Int.toNat 1) (pathO n.nx (shW n.bs.length q.cl c) c x54.i).fst)) (sltL x54 0) a18;
      have c6:=rsF_c q ([]++List.take ((List.map (iv) (pathO n.nx (shW n.bs.length q.cl c) c x54.i).fst).length-Int.toNat 1) (List.drop (Int.toNat 1) (pathO n.nx (shW n.bs.length q.cl c) c x54.i).fst)++sltL x54 0) (([]++List.take ((List.map (iv) (pathO n.nx (shW n.bs.length q.cl c) c x54.i).fst).length-Int.toNat 1) (List.drop (Int.toNat 1) (pathO n.nx (shW n.bs.length q.cl c) c x54.i).fst)++sltL x54 0).length) (show([]++List.take ((List.map (iv) (pathO n.nx (shW n.bs.length q.cl c) c x54.i).fst).length-Int.toNat 1) (List.drop (Int.toNat 1) (pathO n.nx (shW n.bs.length q.cl c) c x54.i).fst)++sltL x54 0).length=([]++List.take ((List.map (iv) (pathO n.nx (shW n.bs.length q.cl c) c x54.i).fst).length-Int.toNat 1) (List.drop (Int.toNat 1) (pathO n.nx (shW n.bs.length q.cl c) c x54.i).fst)++sltL x54 0).length from rfl) a18 a20 a21;
      .rt [68,80,88,222] [(118,AV.tup [])] [(117,hK c4 [] []),(119,hK c5 [6] [5]),(120,hK c6 [7] [])] [] [] [] (aj (aj a13 (al (u2 (u2 (u2 (aj (ak (aj a14 (aj (show(0:Int)≤(1:Int) from(by first | exact Nat.le_of_ble_eq_true rfl | decide)) (aj a15 (aj (show iN (List.map (iv) (pathO n.nx (shW n.bs.length q.cl c) c x54.i).fst).length≤iN (List.map (iv) (pathO n.nx (shW n.bs.length q.cl c) c x54.i).fst).length by omega) (show iN (List.map (iv) (pathO n.nx (shW n.bs.length q.cl c) c x54.i).fst).length≤iN (List.map (iv) (pathO n.nx (shW n.bs.length q.cl c) c x54.i).fst).length by omega)))))) (u2 (aj (ak (aj t7 (ak (al (c4))))) (aj t4 (aj (k2 (aj (k2 (al (show(sltL x54 0).length=(List.map (iv) (sltL x54 0)).length by simp))) (aj (show CT Try.prog 68 [some (Blk.mk [AV.lst [],AV.lst (List.take ((List.map (iv) (pathO n.nx (shW n.bs.length q.cl c) c x54.i).fst).length-Int.toNat 1) (List.drop (Int.toNat 1) (List.map (iv) (pathO n.nx (shW n.bs.length q.cl c) c x54.i).fst))),AV.lst (List.map (iv) (sltL x54 0))] 1 true true none)] [AV.sl 0 0 3] [some (Blk.mk [AV.any,AV.any,AV.any] 1 true true none),some (Blk.mk (List.map (iv) ([]++List.take ((List.map (iv) (pathO n.nx (shW n.bs.length q.cl c) c x54.i).fst).length-Int.toNat 1) (List.drop (Int.toNat 1) (pathO n.nx (shW n.bs.length q.cl c) c x54.i).fst)++sltL x54 0)) 1 true true none)] (AV.sl 1 0 ([]++List.take ((List.map (iv) (pathO n.nx (shW n.bs.length q.cl c) c x54.i).fst).length-Int.toNat 1) (List.drop (Int.toNat 1) (pathO n.nx (shW n.bs.length q.cl c) c x54.i).fst)++sltL x54 0).length) from CT.eqs (c5) (by first | (simp only[boL,List.map_append,List.map_set,List.map_take,List.map_drop,List.map_replicate,List.nil_append];done) | (simp only[boL,List.map_append,List.map_set,List.map_take,List.map_drop,List.map_replicate,List.nil_append];rfl) | (simp[gL,boL,lI,sA,bA];done) | (simp[gL,boL,lI,sA,bA];rfl) | (simp only[netA,List.map_append,List.map_set,List.map_cons,List.map_nil];rfl)) (by first | (simp only[boL,List.map_append,List.map_set,List.map_take,List.map_drop,List.map_replicate,List.nil_append];done) | (simp only[boL,List.map_append,List.map_set,List.map_take,List.map_drop,List.map_replicate,List.nil_append];rfl) | (simp[gL,boL,lI,sA,bA];done) | (simp[gL,boL,lI,sA,bA];rfl) | (simp only[netA,List.map_append,List.map_set,List.map_cons,List.map_nil];rfl))) a19))) (aj (k2 (aj t4 (k2 (al (c6))))) (u2 (u2 (u2 (u2 (u2 s2)))))))))))))))) (al t4)))))
    (fun a11=>
     .rn 0 [68,80,88,204] [] [] [] (aj a11 (al (u2 (u2 s2)))) <|
     .gu fun a12=>
     .gu fun a13=>
     .gu fun a14=>
     .gu fun a15=>
     .gu fun a16=>
     .gu fun a17=>
     .gu fun a18=>
     .br (fun a19=>
     .no)
     (fun a19=>
     have c3:=slk_c x54 (0) (show(0:Int)≤(0:Int)∧(0:Int)≤(1000:Int) from ⟨(by first | exact Nat.le_of_ble_eq_true rfl | decide),(by first | exact Nat.le_of_ble_eq_true rfl | decide)⟩) a14 a15;
     have c4:=cc3_c ([]) (List.take ((List.map (iv) (pathO n.nx (shG n.bs.length (shO n q) q.cl c x54.i) c x54.i).fst).length-Int.toNat 1) (List.drop (Int.toNat 1) (pathO n.nx (shG n.bs.length (shO n q) q.cl c x54.i) c x54.i).fst)) (sltL x54 0) a16;
     have c5:=rsF_c q ([]++List.take ((List.map (iv) (pathO n.nx (shG n.bs.length (shO n q) q.cl c x54.i) c x54.i).fst).length-Int.toNat 1) (List.drop (Int.toNat 1) (pathO n.nx (shG n.bs.length (shO n q) q.cl c x54.i) c x54.i).fst)++sltL x54 0) (([]++List.take ((List.map (iv) (pathO n.nx (shG n.bs.length (shO n q) q.cl c x54.i) c x54.i).fst).length-Int.toNat 1) (List.drop (Int.toNat 1) (pathO n.nx (shG n.bs.length (shO n q) q.cl c x54.i) c x54.i).fst)++sltL x54 0).length) (show([]++List.take ((List.map (iv) (pathO n.nx (shG n.bs.length (shO n q) q.cl c x54.i) c x54.i).fst).length-Int.toNat 1) (List.drop (Int.toNat 1) (pathO n.nx (shG n.bs.length (shO n q) q.cl c x54.i) c x54.i).fst)++sltL x54 0).length=([]++List.take ((List.map (iv) (pathO n.nx (shG n.bs.length (shO n q) q.cl c x54.i) c x54.i).fst).length-Int.toNat 1) (List.drop (Int.toNat 1) (pathO n.nx (shG n.bs.length (shO n q) q.cl c x54.i) c x54.i).fst)++sltL x54 0).length from rfl) a16 a18 a19;
     .rt [68,80,88,222] [(118,AV.tup [])] [(117,hK c3 [] []),(119,hK c4 [6] [5]),(120,hK c5 [7] [])] [] [] [] (aj (aj a11 (al (u2 (u2 (u2 (aj (ak (aj a12 (aj (show(0:Int)≤(1:Int) from(by first | exact Nat.le_of_ble_eq_true rfl | decide)) (aj a13 (aj (show iN (List.map (iv) (pathO n.nx (shG n.bs.length (shO n q) q.cl c x54.i) c x54.i).fst).length≤iN (List.map (iv) (pathO n.nx (shG n.bs.length (shO n q) q.cl c x54.i) c x54.i).fst).length by omega) (show iN (List.map (iv) (pathO n.nx (shG n.bs.length (shO n q) q.cl c x54.i) c x54.i).fst).length≤iN (List.map (iv) (pathO n.nx (shG n.bs.length (shO n q) q.cl c x54.i) c x54.i).fst).length by omega)))))) (u2 (aj (ak (aj t7 (ak (al (c3))))) (aj t4 (aj (k2 (aj (k2 (al (show(sltL x54 0).length=(List.map (iv) (sltL x54 0)).length by simp))) (aj (show CT Try.prog 68 [some (Blk.mk [AV.lst [],AV.lst (List.take ((List.map (iv) (pathO n.nx (shG n.bs.length (shO n q) q.cl c x54.i) c x54.i).fst).length-Int.toNat 1) (List.drop (Int.toNat 1) (List.map (iv) (pathO n.nx (shG n.bs.length (shO n q) q.cl c x54.i) c x54.i).fst))),AV.lst (List.map (iv) (sltL x54 0))] 1 true true none)] [AV.sl 0 0 3] [some (Blk.mk [AV.any,AV.any,AV.any] 1 true true none),some (Blk.mk (List.map (iv) ([]++List.take ((List.map (iv) (pathO n.nx (shG n.bs.length (shO n q) q.cl c x54.i) c x54.i).fst).length-Int.toNat 1) (List.drop (Int.toNat 1) (pathO n.nx (shG n.bs.length (shO n q) q.cl c x54.i) c x54.i).fst)++sltL x54 0)) 1 true true none)] (AV.sl 1 0 ([]++List.take ((List.map (iv) (pathO n.nx (shG n.bs.length (shO n q) q.cl c x54.i) c x54.i).fst).length-Int.toNat 1) (List.drop (Int.toNat 1) (pathO n.nx (shG n.bs.length (shO n q) q.cl c x54.i) c x54.i).fst)++sltL x54 0).length) from CT.eqs (c4) (by first | (simp only[boL,List.map_append,List.map_set,List.map_take,List.map_drop,List.map_replicate,List.nil_append];done) | (simp only[boL,List.map_append,List.map_set,List.map_take,List.map_drop,List.map_replicate,List.nil_append];rfl) | (simp[gL,boL,lI,sA,bA];done) | (simp[gL,boL,lI,sA,bA];rfl) | (simp only[netA,List.map_append,List.map_set,List.map_cons,List.map_nil];rfl)) (by first | (simp only[boL,List.map_append,List.map_set,List.map_take,List.map_drop,List.map_replicate,List.nil_append];done) | (simp only[boL,List.map_append,List.map_set,List.map_take,List.map_drop,List.map_replicate,List.nil_append];rfl) | (simp[gL,boL,lI,sA,bA];done) | (simp[gL,boL,lI,sA,bA];rfl) | (simp only[netA,List.map_append,List.map_set,List.map_cons,List.map_nil];rfl))) a17))) (aj (k2 (aj t4 (k2 (al (c5))))) (u2 (u2 (u2 (u2 (u2 s2)))))))))))))))) (al t4)))))))))))) (by kernel_rfl)
theorem leF_ct(n:NetD)(q:SigD)(c d:Int)(r:Ret)(h:MReach (leFStep n q c d) (leFEn n q c d) r):CT Try.prog 30 ([]) ([netA n,sgA q,.int .i64 c,.int .i64 d]) r.1 r.2:=
 CT.mach (fn:=Try.f30) (c:=zB Try.f30) (S:=leFSt n q c d) (hd:=leFHd) Try.func30 (by kernel_rfl) (Nat.le_of_ble_eq_true rfl)
  (fun s o ho=>match s,ho with
   | x,_=>x.elim)
  (fun o ho=>leFEn_ok n q c d o ho) h
theorem chkZ_ok{n:NetD}(hv:ValidN n){sh:List Bool}(hl:sh.length=n.bs.length){a b:Int}(ha:0≤a∧a<(n.bs.length:Int))(hb:0≤b∧b<(n.bs.length:Int)):chkZ n.nx sh a b=0:=by
 have h:=hv.chk
 have hn:=hv.nx
 unfold chk4 at h
 unfold chkZ
 split at h
 ·cases h
 ·rename_i h1
  split at h
  ·cases h
  ·rename_i h2
   rw[if_neg h1,if_neg h2,if_neg (by omega)]
theorem pathO_eq{n:NetD}(hv:ValidN n){sh:List Bool}(hl:sh.length=n.bs.length){a b:Int}(ha:0≤a∧a<(n.bs.length:Int))(hb:0≤b∧b<(n.bs.length:Int)):(pathO n.nx sh a b).1=pthS n.nx sh a.toNat b.toNat:=by
 unfold pathO pthS pthZ
 rw[if_pos (chkZ_ok hv hl ha hb)]
 split<;>rfl
theorem take_tail(p:List Int):List.take ((List.map (AV.int IntKind.i64) p).length-Int.toNat 1) (List.drop (Int.toNat 1) p)=p.tail:=by
 rw[show Int.toNat 1=1 from rfl,List.drop_one,List.length_map,List.take_of_length_le (by rw[List.length_tail];exact Nat.le_refl _)]
theorem nil_len{p:List Int}:(iN (List.map (AV.int IntKind.i64) p).length==0)=decide (p=[]):=by
 cases p with
 | nil=>rfl
 | cons x r=>rw[List.map_cons,List.length_cons];simp[iN];omega
theorem pth_le{n:NetD}(hv:ValidN n)(hrw:Rows n.nx){sh:List Bool}(hl:sh.length=n.bs.length){a b:Nat}(ha:a<n.bs.length)(hb:b<n.bs.length):(pthS n.nx sh a b).length≤100:=by
 have hn:=hv.nx
 have h24:=hv.nb24
 rcases pth_dec hv hrw hl ha hb with h | ⟨_,h⟩
 ·rw[h];exact Nat.zero_le _
 ·have:=h.len
  have hD:=(dst_ok (okg hv hrw hl).1 (goal:=b) (by omega)).bnd a (by omega)
  unfold dsS at this
  omega
theorem legP_len{n:NetD}(hv:ValidN n)(hrw:Rows n.nx){s:SigD}{blk goal:Int}(hb:0≤blk∧blk<(n.bs.length:Int))(hg:0≤goal∧goal<(n.bs.length:Int)):(legP n s blk goal).length≤100:=by
 unfold legP
 split
 ·exact pth_le hv hrw (shQ_len _ _ _) (by omega) (by omega)
 ·exact pth_le hv hrw (shP_len _ _ _ _) (by omega) (by omega)
theorem imm3(l:List Int):∀(blk:Blk),blk∈[Blk.mk [AV.any,AV.any,AV.any] 1 true true none,Blk.mk (List.map (AV.int .i64) l) 1 true true none]→ImmB blk:=fun blk hb=>by
 rcases List.mem_cons.1 hb with rfl | hb
 ·intro e he c hc
  simp only[List.mem_cons,List.not_mem_nil,or_false,or_self] at he
  subst he
  rw[List.mem_singleton.1 hc];rfl
 ·exact immI l blk hb
def legO(n:NetD)(s:SigD)(c sp:Int):List Int×Bool:=if legE n s c sp=0 then legS n s c sp else ([],false)
theorem legE_ok{n:NetD}{s:SigD}{c sp:Int}(h:legE n s c sp=0):sigB n s=true∧(0≤c∧c<(celN n:Int))∧0≤sp∧sp<(n.ss.length:Int):=by
 unfold legE at h
 split at h
 ·rename_i h1
  split at h
  ·rename_i h2;exact⟨h1,h2⟩
  ·cases h
 ·cases h
theorem leg_bad{n:NetD}{s:SigD}{c d:Int}(hrw:Rows n.nx)(h:legE n s c d≠0):CT Try.prog 30 [] [netA n,sgA s,.int .i64 c,.int .i64 d] [] (.tup [.lst [],.bool false,.int .i64 (legE n s c d)]):=by
 refine CT.w2 (res:=.tup [.nils,.bool false,.int .i64 (legE n s c d)]) (leT_ct n s c d ([],_) (.val ?_))
 unfold leTEn shE shO
 rw[gu_t hrw]
 unfold legE at h ⊢
 cases hs:sigB n s with
 | false=>rw[if_neg (by simp),if_neg (by simp)];rfl
 | true=>
  rw[hs,if_pos rfl] at h
  rw[if_pos rfl,if_pos rfl,if_pos rfl,br_f (by rfl)]
  have hlc:=(sig_len hs).2.1.lc
  have hlen:=shtS_len s
  split at h
  ·exact absurd rfl h
  ·rename_i h2
   rw[if_neg h2]
   by_cases h3:c<0
   ·rw[br_t (dec_t h3)]
   by_cases h4:(celN n:Int)≤c
   ·rw[br_f (dec_f h3),br_t (dec_t (by rw[boL_len];simp only[iN];omega))]
   by_cases h5:d<0
   ·rw[br_f (dec_f h3),br_f (dec_f (by rw[boL_len];simp only[iN];omega)),br_t (dec_t h5)]
   ·rw[br_f (dec_f h3),br_f (dec_f (by rw[boL_len];simp only[iN];omega)),br_f (dec_f h5),br_t (dec_t (by rw[List.length_map];simp only[iN];omega))]
theorem leg_T{n:NetD}{s:SigD}{c d:Int}(hrw:Rows n.nx)(h:legE n s c d=0)(hpas:∀l,legR n s c d=some l→pasB s.cl l=true):CT Try.prog 30 [] [netA n,sgA s,.int .i64 c,.int .i64 d] [] (.tup [lI (legS n s c d).1,.bool (legS n s c d).2,.int .i64 0]):=by
 obtain⟨hsb,hc,hd⟩:=legE_ok h
 obtain⟨hv,hS,l1,l2,l3,l4,l5⟩:=sig_len hsb
 have hlc:=hS.lc
 have hlen:=shtS_len s
 have hce:=hv.cel
 have h24:=hv.nb24
 have hck:=ckE_of hv hc.1 hc.2
 have hs:=getE s0 (show d.toNat<n.ss.length by omega)
 have gi:=(hv.goodT _ _ hs).hi
 have gb:=hv.sb hs
 have hR:=@legR_rng n hv hrw s c d hc hd
 have hslt:=sltL_len (n.ss.getD d.toNat s0) 0
 unfold legS
 have k:=leT_ct n s c d
 unfold leTEn shE shO plO pjO at k
 rw[gu_t hrw,if_pos hsb,if_pos hsb,br_f (by rfl),br_f (dec_f (by omega)),br_f (dec_f (by rw[boL_len];simp only[iN];omega)),br_f (dec_f (by omega)),br_f (dec_f (by rw[List.length_map];simp only[iN];omega)),gu_t hd.1,el_t hs,if_pos hck,if_pos hck] at k
 have eG:∀blk:Int,0≤blk∧blk<(n.bs.length:Int)→(pathO n.nx (shG n.bs.length (shtS s) s.cl blk (n.ss.getD d.toNat s0).i) blk (n.ss.getD d.toNat s0).i).1=pthS n.nx (shP n s blk (n.ss.getD d.toNat s0).i) blk.toNat (n.ss.getD d.toNat s0).i.toNat:=fun blk hb=>pathO_eq hv (shP_len n s blk _) hb (by omega)
 have eW:∀blk:Int,0≤blk∧blk<(n.bs.length:Int)→(pathO n.nx (shW n.bs.length s.cl blk) blk (n.ss.getD d.toNat s0).i).1=pthS n.nx (shQ n s blk) blk.toNat (n.ss.getD d.toNat s0).i.toNat:=fun blk hb=>pathO_eq hv (shQ_len n s blk) hb (by omega)
 generalize hx:n.ss.getD d.toNat s0=x at *
 cases hp:plF n c with
 | none=>
  have hb:=plF_block hv hc.1 hc.2 hp
  have hR0:legR n s c d=if legP n s c x.i=[] then none else some ((legP n s c x.i).tail++sltL x 0):=by unfold legR;rw[hp];simp only[hx]
  have hPl:=legP_len hv hrw (s:=s) ⟨hc.1,hb⟩ (goal:=x.i) (by omega)
  rw[plI_none hp,br_f (beq_eq_false_iff_ne.2 (by omega)),br_f (by rfl),gu_t ⟨by omega,by omega,by omega⟩,eG c ⟨hc.1,hb⟩,nil_len] at k
  by_cases hP:pthS n.nx (shP n s c x.i) c.toNat x.i.toNat=[]
  ·have eL:legP n s c x.i=pthS n.nx (shQ n s c) c.toNat x.i.toNat:=by unfold legP;rw[if_pos hP]
   rw[br_t (dec_t hP),gu_t ⟨by omega,by omega⟩,eW c ⟨hc.1,hb⟩,nil_len,←eL] at k
   by_cases hQ:legP n s c x.i=[]
   ·rw[hR0,if_pos hQ]
    rw[br_t (dec_t hQ)] at k
    exact CT.w2 (res:=.tup [.nils,.bool false,.int .i64 0]) (k ([],_) (.ret _))
   ·have hr:legR n s c d=some ([]++(legP n s c x.i).tail++sltL x 0):=by rw[hR0,if_neg hQ];rfl
    have hrg:=hR hr
    rw[←hlc] at hrg
    have hlen2:([]++(legP n s c x.i).tail++sltL x 0).length≤1000000:=by simp only[List.length_append,List.length_nil,List.length_tail,hslt];omega
    rw[br_f (dec_f hQ),gu_t (lI_one _),gu_t (by simp only[iN,List.length_map];have:=List.length_pos_iff.2 hQ;omega),gu_t (by omega),gu_t (by omega),take_tail,gu_t hlen2,gu_t (imm3 _),gu_t hrg,br_t (hpas _ hr)] at k
    rw[hr];simp only;rw[if_pos (hpas _ hr)]
    exact(k ([],_) (.ret _))
  ·have eL:legP n s c x.i=pthS n.nx (shP n s c x.i) c.toNat x.i.toNat:=by unfold legP;rw[if_neg hP]
   rw[br_f (dec_f hP),←eL] at k
   rw[←eL] at hP
   have hr:legR n s c d=some ([]++(legP n s c x.i).tail++sltL x 0):=by rw[hR0,if_neg hP];rfl
   have hrg:=hR hr
   rw[←hlc] at hrg
   have hlen2:([]++(legP n s c x.i).tail++sltL x 0).length≤1000000:=by simp only[List.length_append,List.length_nil,List.length_tail,hslt];omega
   rw[gu_t (lI_one _),gu_t (by simp only[iN,List.length_map];have:=List.length_pos_iff.2 hP;omega),gu_t (by omega),gu_t (by omega),take_tail,gu_t hlen2,gu_t (imm3 _),gu_t hrg,br_t (hpas _ hr)] at k
   rw[hr];simp only;rw[if_pos (hpas _ hr)]
   exact(k ([],_) (.ret _))
 | some i=>
  obtain⟨t,ht,hg,h1,h2,hil⟩:=plF_some hp
  have gt:=(hv.goodT _ _ ht).ho
  have tb:=hv.sb ht
  obtain⟨e1,e2⟩:=plI_some hp
  rw[hg] at e2
  have hst:=sltL_len t (c-t.b+1)
  rw[e1,e2] at k
  by_cases hid:(i:Int)=d
  ·have hxt:x=t:=by rw[←hx,←hg];congr 1;omega
   have hr:legR n s c d=some (sltL x (c-t.b+1)):=by unfold legR;rw[hp];simp only[hg,hxt];rw[if_pos hid]
   have hrg:=hR hr
   rw[←hlc] at hrg
   rw[br_t (beq_iff_eq.2 hid),gu_t ⟨by omega,by omega⟩,gu_t (by omega),gu_t (by omega),gu_t (by rw[hxt];rw[hst];omega),gu_t hrg,br_t (hpas _ hr)] at k
   rw[hr];simp only;rw[if_pos (hpas _ hr)]
   exact(k ([],_) (.ret _))
  have hR0:legR n s c d=if legP n s t.o x.i=[] then none else some (sltL t (c-t.b+1)++([t.o]++((legP n s t.o x.i).tail++sltL x 0))):=by unfold legR;rw[hp];simp only[hx,hg];rw[if_neg hid]
  have hPl:=legP_len hv hrw (s:=s) (blk:=t.o) (by omega) (goal:=x.i) (by omega)
  have hto:(0:Int)≤t.o∧t.o<(n.bs.length:Int):=by omega
  rw[br_f (beq_eq_false_iff_ne.2 hid),br_t (dec_t (by omega)),gu_t (by omega),Int.toNat_natCast,el_t ht,el_t ht,gu_t ⟨by omega,by omega⟩,gu_t (by omega),gu_t (by omega),gu_t (by simp only[List.length_map,List.length_cons,List.length_nil,hst];omega),gu_t (by simp only[List.length_map,List.length_cons,List.length_nil,hst];omega),gu_t ⟨by omega,by omega,by omega⟩,eG t.o hto,nil_len] at k
  by_cases hP:pthS n.nx (shP n s t.o x.i) t.o.toNat x.i.toNat=[]
  ·have eL:legP n s t.o x.i=pthS n.nx (shQ n s t.o) t.o.toNat x.i.toNat:=by unfold legP;rw[if_pos hP]
   rw[br_t (dec_t hP),gu_t ⟨by omega,by omega⟩,eW t.o hto,nil_len,←eL] at k
   by_cases hQ:legP n s t.o x.i=[]
   ·rw[hR0,if_pos hQ]
    rw[br_t (dec_t hQ)] at k
    exact CT.w2 (res:=.tup [.nils,.bool false,.int .i64 0]) (k ([],_) (.ret _))
   ·have hr:legR n s c d=some (sltL t (c-t.b+1)++[t.o]++(legP n s t.o x.i).tail++sltL x 0):=by rw[hR0,if_neg hQ];simp only[List.append_assoc]
    have hrg:=hR hr
    rw[←hlc] at hrg
    have hlen2:(sltL t (c-t.b+1)++[t.o]++(legP n s t.o x.i).tail++sltL x 0).length≤1000000:=by simp only[List.length_append,List.length_cons,List.length_nil,List.length_tail,hslt,hst];omega
    rw[br_f (dec_f hQ),gu_t (lI_one _),gu_t (by simp only[iN,List.length_map];have:=List.length_pos_iff.2 hQ;omega),gu_t (by omega),gu_t (by omega),take_tail,gu_t hlen2,gu_t (imm3 _),gu_t hrg,br_t (hpas _ hr)] at k
    rw[hr];simp only;rw[if_pos (hpas _ hr)]
    exact(k ([],_) (.ret _))
  ·have eL:legP n s t.o x.i=pthS n.nx (shP n s t.o x.i) t.o.toNat x.i.toNat:=by unfold legP;rw[if_neg hP]
   rw[br_f (dec_f hP),←eL] at k
   rw[←eL] at hP
   have hr:legR n s c d=some (sltL t (c-t.b+1)++[t.o]++(legP n s t.o x.i).tail++sltL x 0):=by rw[hR0,if_neg hP];simp only[List.append_assoc]
   have hrg:=hR hr
   rw[←hlc] at hrg
   have hlen2:(sltL t (c-t.b+1)++[t.o]++(legP n s t.o x.i).tail++sltL x 0).length≤1000000:=by simp only[List.length_append,List.length_cons,List.length_nil,List.length_tail,hslt,hst];omega
   rw[gu_t (lI_one _),gu_t (by simp only[iN,List.length_map];have:=List.length_pos_iff.2 hP;omega),gu_t (by omega),gu_t (by omega),take_tail,gu_t hlen2,gu_t (imm3 _),gu_t hrg,br_t (hpas _ hr)] at k
   rw[hr];simp only;rw[if_pos (hpas _ hr)]
   exact(k ([],_) (.ret _))
theorem leg_F{n:NetD}{s:SigD}{c d:Int}(hrw:Rows n.nx)(h:legE n s c d=0)(hpas:∀l,legR n s c d=some l→pasB s.cl l=false):CT Try.prog 30 [] [netA n,sgA s,.int .i64 c,.int .i64 d] [] (.tup [lI (legS n s c d).1,.bool (legS n s c d).2,.int .i64 0]):=by
 obtain⟨hsb,hc,hd⟩:=legE_ok h
 obtain⟨hv,hS,l1,l2,l3,l4,l5⟩:=sig_len hsb
 have hlc:=hS.lc
 have hlen:=shtS_len s
 have hce:=hv.cel
 have h24:=hv.nb24
 have hck:=ckE_of hv hc.1 hc.2
 have hs:=getE s0 (show d.toNat<n.ss.length by omega)
 have gi:=(hv.goodT _ _ hs).hi
 have gb:=hv.sb hs
 have hR:=@legR_rng n hv hrw s c d hc hd
 have hslt:=sltL_len (n.ss.getD d.toNat s0) 0
 unfold legS
 have k:=leF_ct n s c d
 unfold leFEn shE shO plO pjO at k
 rw[gu_t hrw,if_pos hsb,if_pos hsb,br_f (by rfl),br_f (dec_f (by omega)),br_f (dec_f (by rw[boL_len];simp only[iN];omega)),br_f (dec_f (by omega)),br_f (dec_f (by rw[List.length_map];simp only[iN];omega)),gu_t hd.1,el_t hs,if_pos hck,if_pos hck] at k
 have eG:∀blk:Int,0≤blk∧blk<(n.bs.length:Int)→(pathO n.nx (shG n.bs.length (shtS s) s.cl blk (n.ss.getD d.toNat s0).i) blk (n.ss.getD d.toNat s0).i).1=pthS n.nx (shP n s blk (n.ss.getD d.toNat s0).i) blk.toNat (n.ss.getD d.toNat s0).i.toNat:=fun blk hb=>pathO_eq hv (shP_len n s blk _) hb (by omega)
 have eW:∀blk:Int,0≤blk∧blk<(n.bs.length:Int)→(pathO n.nx (shW n.bs.length s.cl blk) blk (n.ss.getD d.toNat s0).i).1=pthS n.nx (shQ n s blk) blk.toNat (n.ss.getD d.toNat s0).i.toNat:=fun blk hb=>pathO_eq hv (shQ_len n s blk) hb (by omega)
 generalize hx:n.ss.getD d.toNat s0=x at *
 cases hp:plF n c with
 | none=>
  have hb:=plF_block hv hc.1 hc.2 hp
  have hR0:legR n s c d=if legP n s c x.i=[] then none else some ((legP n s c x.i).tail++sltL x 0):=by unfold legR;rw[hp];simp only[hx]
  have hPl:=legP_len hv hrw (s:=s) ⟨hc.1,hb⟩ (goal:=x.i) (by omega)
  rw[plI_none hp,br_f (beq_eq_false_iff_ne.2 (by omega)),br_f (by rfl),gu_t ⟨by omega,by omega,by omega⟩,eG c ⟨hc.1,hb⟩,nil_len] at k
  by_cases hP:pthS n.nx (shP n s c x.i) c.toNat x.i.toNat=[]
  ·have eL:legP n s c x.i=pthS n.nx (shQ n s c) c.toNat x.i.toNat:=by unfold legP;rw[if_pos hP]
   rw[br_t (dec_t hP),gu_t ⟨by omega,by omega⟩,eW c ⟨hc.1,hb⟩,nil_len,←eL] at k
   by_cases hQ:legP n s c x.i=[]
   ·rw[hR0,if_pos hQ]
    rw[br_t (dec_t hQ)] at k
    exact CT.w2 (res:=.tup [.nils,.bool false,.int .i64 0]) (k ([],_) (.ret _))
   ·have hr:legR n s c d=some ([]++(legP n s c x.i).tail++sltL x 0):=by rw[hR0,if_neg hQ];rfl
    have hrg:=hR hr
    rw[←hlc] at hrg
    have hlen2:([]++(legP n s c x.i).tail++sltL x 0).length≤1000000:=by simp only[List.length_append,List.length_nil,List.length_tail,hslt];omega
    rw[br_f (dec_f hQ),gu_t (lI_one _),gu_t (by simp only[iN,List.length_map];have:=List.length_pos_iff.2 hQ;omega),gu_t (by omega),gu_t (by omega),take_tail,gu_t hlen2,gu_t (imm3 _),gu_t hrg,br_f (hpas _ hr)] at k
    rw[hr];simp only;rw[if_neg (by rw[hpas _ hr];simp)]
    exact CT.w2 (res:=.tup [.nils,.bool false,.int .i64 0]) (k ([],_) (.ret _))
  ·have eL:legP n s c x.i=pthS n.nx (shP n s c x.i) c.toNat x.i.toNat:=by unfold legP;rw[if_neg hP]
   rw[br_f (dec_f hP),←eL] at k
   rw[←eL] at hP
   have hr:legR n s c d=some ([]++(legP n s c x.i).tail++sltL x 0):=by rw[hR0,if_neg hP];rfl
   have hrg:=hR hr
   rw[←hlc] at hrg
   have hlen2:([]++(legP n s c x.i).tail++sltL x 0).length≤1000000:=by simp only[List.length_append,List.length_nil,List.length_tail,hslt];omega
   rw[gu_t (lI_one _),gu_t (by simp only[iN,List.length_map];have:=List.length_pos_iff.2 hP;omega),gu_t (by omega),gu_t (by omega),take_tail,gu_t hlen2,gu_t (imm3 _),gu_t hrg,br_f (hpas _ hr)] at k
   rw[hr];simp only;rw[if_neg (by rw[hpas _ hr];simp)]
   exact CT.w2 (res:=.tup [.nils,.bool false,.int .i64 0]) (k ([],_) (.ret _))
 | some i=>
  obtain⟨t,ht,hg,h1,h2,hil⟩:=plF_some hp
  have gt:=(hv.goodT _ _ ht).ho
  have tb:=hv.sb ht
  obtain⟨e1,e2⟩:=plI_some hp
  rw[hg] at e2
  have hst:=sltL_len t (c-t.b+1)
  rw[e1,e2] at k
  by_cases hid:(i:Int)=d
  ·have hxt:x=t:=by rw[←hx,←hg];congr 1;omega
   have hr:legR n s c d=some (sltL x (c-t.b+1)):=by unfold legR;rw[hp];simp only[hg,hxt];rw[if_pos hid]
   have hrg:=hR hr
   rw[←hlc] at hrg
   rw[br_t (beq_iff_eq.2 hid),gu_t ⟨by omega,by omega⟩,gu_t (by omega),gu_t (by omega),gu_t (by rw[hxt];rw[hst];omega),gu_t hrg,br_f (hpas _ hr)] at k
   rw[hr];simp only;rw[if_neg (by rw[hpas _ hr];simp)]
   exact CT.w2 (res:=.tup [.nils,.bool false,.int .i64 0]) (k ([],_) (.ret _))
  have hR0:legR n s c d=if legP n s t.o x.i=[] then none else some (sltL t (c-t.b+1)++([t.o]++((legP n s t.o x.i).tail++sltL x 0))):=by unfold legR;rw[hp];simp only[hx,hg];rw[if_neg hid]
  have hPl:=legP_len hv hrw (s:=s) (blk:=t.o) (by omega) (goal:=x.i) (by omega)
  have hto:(0:Int)≤t.o∧t.o<(n.bs.length:Int):=by omega
  rw[br_f (beq_eq_false_iff_ne.2 hid),br_t (dec_t (by omega)),gu_t (by omega),Int.toNat_natCast,el_t ht,el_t ht,gu_t ⟨by omega,by omega⟩,gu_t (by omega),gu_t (by omega),gu_t (by simp only[List.length_map,List.length_cons,List.length_nil,hst];omega),gu_t (by simp only[List.length_map,List.length_cons,List.length_nil,hst];omega),gu_t ⟨by omega,by omega,by omega⟩,eG t.o hto,nil_len] at k
  by_cases hP:pthS n.nx (shP n s t.o x.i) t.o.toNat x.i.toNat=[]
  ·have eL:legP n s t.o x.i=pthS n.nx (shQ n s t.o) t.o.toNat x.i.toNat:=by unfold legP;rw[if_pos hP]
   rw[br_t (dec_t hP),gu_t ⟨by omega,by omega⟩,eW t.o hto,nil_len,←eL] at k
   by_cases hQ:legP n s t.o x.i=[]
   ·rw[hR0,if_pos hQ]
    rw[br_t (dec_t hQ)] at k
    exact CT.w2 (res:=.tup [.nils,.bool false,.int .i64 0]) (k ([],_) (.ret _))
   ·have hr:legR n s c d=some (sltL t (c-t.b+1)++[t.o]++(legP n s t.o x.i).tail++sltL x 0):=by rw[hR0,if_neg hQ];simp only[List.append_assoc]
    have hrg:=hR hr
    rw[←hlc] at hrg
    have hlen2:(sltL t (c-t.b+1)++[t.o]++(legP n s t.o x.i).tail++sltL x 0).length≤1000000:=by simp only[List.length_append,List.length_cons,List.length_nil,List.length_tail,hslt,hst];omega
    rw[br_f (dec_f hQ),gu_t (lI_one _),gu_t (by simp only[iN,List.length_map];have:=List.length_pos_iff.2 hQ;omega),gu_t (by omega),gu_t (by omega),take_tail,gu_t hlen2,gu_t (imm3 _),gu_t hrg,br_f (hpas _ hr)] at k
    rw[hr];simp only;rw[if_neg (by rw[hpas _ hr];simp)]
    exact CT.w2 (res:=.tup [.nils,.bool false,.int .i64 0]) (k ([],_) (.ret _))
  ·have eL:legP n s t.o x.i=pthS n.nx (shP n s t.o x.i) t.o.toNat x.i.toNat:=by unfold legP;rw[if_neg hP]
   rw[br_f (dec_f hP),←eL] at k
   rw[←eL] at hP
   have hr:legR n s c d=some (sltL t (c-t.b+1)++[t.o]++(legP n s t.o x.i).tail++sltL x 0):=by rw[hR0,if_neg hP];simp only[List.append_assoc]
   have hrg:=hR hr
   rw[←hlc] at hrg
   have hlen2:(sltL t (c-t.b+1)++[t.o]++(legP n s t.o x.i).tail++sltL x 0).length≤1000000:=by simp only[List.length_append,List.length_cons,List.length_nil,List.length_tail,hslt,hst];omega
   rw[gu_t (lI_one _),gu_t (by simp only[iN,List.length_map];have:=List.length_pos_iff.2 hP;omega),gu_t (by omega),gu_t (by omega),take_tail,gu_t hlen2,gu_t (imm3 _),gu_t hrg,br_f (hpas _ hr)] at k
   rw[hr];simp only;rw[if_neg (by rw[hpas _ hr];simp)]
   exact CT.w2 (res:=.tup [.nils,.bool false,.int .i64 0]) (k ([],_) (.ret _))
theorem leg_c{n:NetD}(cl:List Bool)(bw pe:List Int)(c d:Int)(hrw:Rows n.nx):CT Try.prog 30 [] [netA n,sgA ⟨cl,bw,pe⟩,.int .i64 c,.int .i64 d] [] (.tup [lI (legO n ⟨cl,bw,pe⟩ c d).1,.bool (legO n ⟨cl,bw,pe⟩ c d).2,.int .i64 (legE n ⟨cl,bw,pe⟩ c d)]):=by
 generalize hs:(⟨cl,bw,pe⟩:SigD)=s
 unfold legO
 by_cases h:legE n s c d=0
 ·rw[if_pos h,h]
  cases hr:legR n s c d with
  | none=>exact leg_T hrw h fun l hl=>by rw[hr] at hl;cases hl
  | some l=>
   cases hp:pasB s.cl l with
   | true=>exact leg_T hrw h fun l' hl=>by rw[hr] at hl;cases hl;exact hp
   | false=>exact leg_F hrw h fun l' hl=>by rw[hr] at hl;cases hl;exact hp
 ·rw[if_neg h];exact leg_bad hrw h
theorem ks_b{n:NetD}(hv:ValidN n){s:SigD}(h:SigOk n s):sigB n s=true:=sigB_iff.2 ⟨hv,h⟩
theorem boR(k:Nat):List.replicate k (AV.bool false)=boL (List.replicate k false):=by unfold boL;rw[List.map_replicate]
theorem rdInts{n:Nat}{es:List AV}(h:∀x∈es,ShV Try.prog n 3 x):∃L:List Int,es=L.map (AV.int .i64):=by
 induction es with
 | nil=>exact⟨[],rfl⟩
 | cons x es ih=>
  obtain⟨L,rfl⟩:=ih fun y hy=>h y (List.mem_cons_of_mem _ hy)
  obtain⟨i,_,rfl⟩:=(h x (by simp)).intD Try.underlying3
  exact⟨i::L,rfl⟩
theorem nsJ_ex(n:NetD):∃s:SigD,s=newS n:=⟨_,rfl⟩
@[irreducible] def nsJ(n:NetD):SigD:=Classical.choose (nsJ_ex n)
theorem nsJ_eq(n:NetD):nsJ n=newS n:=by unfold nsJ;exact Classical.choose_spec (nsJ_ex n)
def kBs:List BlkD:=[⟨ByteArray.mk #[97],0,0⟩,⟨ByteArray.mk #[98],0,0⟩,⟨ByteArray.mk #[99],0,0⟩,⟨ByteArray.mk #[101],0,0⟩]
def kNN:NetD:=⟨kBs,[[1],[2],[3],[0]],[⟨ByteArray.mk #[100],true,2,3,2,4⟩],[],1,0,0,1⟩
theorem kNN_ok:ValidN kNN:=by
 refine⟨by kernel_rfl,rfl,by decide,by decide,by kernel_rfl,fun i b h=>?_,fun i s h=>?_,by decide,⟨4,⟨_,List.mem_singleton.2 rfl,rfl,by decide,by decide⟩⟩,fun i c h=>by cases h⟩
 ·match i,h with
  | 0,h=>cases h;exact⟨by kernel_rfl,by kernel_rfl,by kernel_rfl,by kernel_rfl⟩
  | 1,h=>cases h;exact⟨by kernel_rfl,by kernel_rfl,by kernel_rfl,by kernel_rfl⟩
  | 2,h=>cases h;exact⟨by kernel_rfl,by kernel_rfl,by kernel_rfl,by kernel_rfl⟩
  | 3,h=>cases h;exact⟨by kernel_rfl,by kernel_rfl,by kernel_rfl,by kernel_rfl⟩
 ·match i,h with
  | 0,h=>cases h;exact⟨by kernel_rfl,by kernel_rfl,by kernel_rfl,by kernel_rfl,by kernel_rfl⟩
theorem kNN_rows:Rows kNN.nx:=by
 intro v hv
 match v,hv with
 | 0,_=>decide
 | 1,_=>decide
 | 2,_=>decide
 | 3,_=>decide
def kSg:SigD:=⟨[false,false,false,false,false,false],[-1,-1,-1,-1,-1,-1],[]⟩
theorem kSg_eq:newS kNN=kSg:=by kernel_rfl
theorem kSg_ok:SigOk kNN kSg:=kSg_eq ▸ newS_ok kNN
theorem net_less:LessC (.agg [.lst (kBs.map bA),.lst (gL [[1],[2],[3],[0]]),.lst ([⟨ByteArray.mk #[100],true,2,3,2,4⟩].map sA),.nils,.int .i64 1,.int .i64 0,.int .i64 0,.int .i64 1]) (netA kNN):=by
 refine LessC.agg (cs:=[.lst (kBs.map bA),.lst (gL [[1],[2],[3],[0]]),.lst ([⟨ByteArray.mk #[100],true,2,3,2,4⟩].map sA),.nils,.int .i64 1,.int .i64 0,.int .i64 0,.int .i64 1]) (cs':=[.lst (kBs.map bA),.lst (gL [[1],[2],[3],[0]]),.lst ([⟨ByteArray.mk #[100],true,2,3,2,4⟩].map sA),.lst [],.int .i64 1,.int .i64 0,.int .i64 0,.int .i64 1]) rfl fun i c h=>?_
 match i,h with
 | 0,h=>cases h;exact⟨_,rfl,.refl _⟩
 | 1,h=>cases h;exact⟨_,rfl,.refl _⟩
 | 2,h=>cases h;exact⟨_,rfl,.refl _⟩
 | 3,h=>cases h;exact⟨_,rfl,.nilL⟩
 | 4,h=>cases h;exact⟨_,rfl,.refl _⟩
 | 5,h=>cases h;exact⟨_,rfl,.refl _⟩
 | 6,h=>cases h;exact⟨_,rfl,.refl _⟩
 | 7,h=>cases h;exact⟨_,rfl,.refl _⟩
theorem args_less{f:FuncId}{xs:List AV}{res:AV}(h:CT Try.prog f [] (netA kNN::xs) [] res):CT Try.prog f [] (.agg [.lst (kBs.map bA),.lst (gL [[1],[2],[3],[0]]),.lst ([⟨ByteArray.mk #[100],true,2,3,2,4⟩].map sA),.nils,.int .i64 1,.int .i64 0,.int .i64 0,.int .i64 1]::xs) [] res:=by
 refine CT.lessArgs h rfl fun i a ha=>?_
 cases i with
 | zero=>cases ha;exact⟨_,rfl,net_less⟩
 | succ i=>exact⟨a,ha,.refl a⟩
theorem r20n_k(bs:List BlkD)(h:bs=kBs):CT Try.prog 31 [] [.agg [.lst (bs.map bA),.lst (gL [[1],[2],[3],[0]]),.lst ([⟨ByteArray.mk #[100],true,2,3,2,4⟩].map sA),.nils,.int .i64 1,.int .i64 0,.int .i64 0,.int .i64 1]] [] (.tup [sgA ⟨[false,false,false,false,false,false],[-1,-1,-1,-1,-1,-1],[]⟩,.int .i64 0]):=by
 subst h
 have h:=r20n_c (n:=kNN) kNN_rows
 have e1:nsS kNN=kSg:=by unfold nsS;rw[valB_iff.2 kNN_ok];exact kSg_eq
 have e2:nsE kNN=0:=by unfold nsE;rw[valB_iff.2 kNN_ok];rfl
 rw[e1,e2] at h
 exact args_less h
theorem legE_k{c:Int}(h:0≤c∧c<6):legE kNN kSg c 0=0:=by
 unfold legE
 rw[if_pos (ks_b kNN_ok kSg_ok),if_pos]
 have e:celN kNN=6:=by kernel_rfl
 rw[e]
 exact⟨h,by decide,by decide⟩
theorem leg_k1(bs:List BlkD)(h:bs=kBs):CT Try.prog 30 [] [.agg [.lst (bs.map bA),.lst (gL [[1],[2],[3],[0]]),.lst ([⟨ByteArray.mk #[100],true,2,3,2,4⟩].map sA),.nils,.int .i64 1,.int .i64 0,.int .i64 0,.int .i64 1],sgA ⟨[false,false,false,false,false,false],[-1,-1,-1,-1,-1,-1],[]⟩,.int .i64 0,.int .i64 0] [] (.tup [lI [1,2,4,5],.bool true,.int .i64 0]):=by
 subst h
 have h:=leg_c (n:=kNN) kSg.cl kSg.bw kSg.pe 0 0 kNN_rows
 have e:legE kNN kSg 0 0=0:=legE_k ⟨by decide,by decide⟩
 have e2:legO kNN kSg 0 0=([1,2,4,5],true):=by unfold legO;rw[if_pos e];kernel_rfl
 rw[show (⟨kSg.cl,kSg.bw,kSg.pe⟩:SigD)=kSg from rfl,e,e2] at h
 exact args_less h
theorem leg_k2(bs:List BlkD)(h:bs=kBs):CT Try.prog 30 [] [.agg [.lst (bs.map bA),.lst (gL [[1],[2],[3],[0]]),.lst ([⟨ByteArray.mk #[100],true,2,3,2,4⟩].map sA),.nils,.int .i64 1,.int .i64 0,.int .i64 0,.int .i64 1],sgA ⟨[false,false,false,false,false,false],[-1,-1,-1,-1,-1,-1],[]⟩,.int .i64 4,.int .i64 0] [] (.tup [lI [5],.bool true,.int .i64 0]):=by
 subst h
 have h:=leg_c (n:=kNN) kSg.cl kSg.bw kSg.pe 4 0 kNN_rows
 have e:legE kNN kSg 4 0=0:=legE_k ⟨by decide,by decide⟩
 have e2:legO kNN kSg 4 0=([5],true):=by unfold legO;rw[if_pos e];kernel_rfl
 rw[show (⟨kSg.cl,kSg.bw,kSg.pe⟩:SigD)=kSg from rfl,e,e2] at h
 exact args_less h
theorem si_k1:CT Try.prog 22 [] [lI [1,2,4,5],lI [1,2,4,5]] [] (.bool true):=sameInts_ct _ (by decide)
theorem si_k2:CT Try.prog 22 [] [lI [5],lI [5]] [] (.bool true):=sameInts_ct _ (by decide)
end Go.Proofs.Ytedjkebooffjpaa
namespace Go.AX
variable {P:Program}
def sgL:List Nat→List Nat
 | []=>[]
 | x::r=>match Nat.ble 1000000 x with | true=>sgL r | false=>x::sgL r
def fzL:List Nat→List Nat
 | []=>[]
 | x::r=>match Nat.ble 1000000 x with | true=>(x-1000000)::fzL r | false=>fzL r
inductive Scr2 {σ:Type} (S:σ→St):Option (σ⊕Ret)→Type 1 where
 | br {X Y:Option (σ⊕Ret)} {b:Bool} (x:b=true→Scr2 S X) (y:b=false→Scr2 S Y):Scr2 S (Go.AX.br b X Y)
 | gu {X:Option (σ⊕Ret)} {p:Prop} (x:p→Scr2 S X):Scr2 S (Go.AX.gu p X)
 | el {β:Type} {F:β→Option (σ⊕Ret)} {l:List β} {i:Nat} (x:(v:β)→l[i]?=some v→Scr2 S (F v)):Scr2 S (Go.AX.el l i F)
 | rn {X:Option (σ⊕Ret)} (K:Nat) (d:List Nat) (e:List (Nat×AV)) (cl:List (Nat×Hint)) (F:List (Nat×Nat)) {p:Prop} (hp:p) (x:Scr2 S X):Scr2 S X
 | lp (d:List Nat) (e:List (Nat×AV)) (cl:List (Nat×Hint)) (F vl:List (Nat×Nat)) (sg vars:List Nat) {s:σ} {p:Prop} (hp:p):Scr2 S (some (.inl s))
 | lq (d:List Nat) (e:List (Nat×AV)) (cl:List (Nat×Hint)) (F vl:List (Nat×Nat)) (sg vars:List Nat) {s:σ} (s':St) {p:Prop} (hp:p) (h:s'=S s):Scr2 S (some (.inl s))
 | rt (d:List Nat) (e:List (Nat×AV)) (cl:List (Nat×Hint)) (F:List (Nat×Nat)) (sg fz:List Nat) {r:Ret} {p:Prop} (hp:p):Scr2 S (some (.inr r))
 | no:Scr2 S none
def Scr2.go{σ:Type}{S:σ→St}(P:Program)(fn:Func)(m:Nat){X:Option (σ⊕Ret)}(t:Scr2 S X):Cfg:=
 Scr2.rec (motive:=fun _ _=>Cfg)
  (fun {_ _ b} _ _ ix iy c k st=>Raw.br b (fun h=>ix h c k st) (fun h=>iy h c k st))
  (fun {_ p} _ ix c k st=>Raw.gu p (fun h=>ix h c k st))
  (fun {_ _ l i} _ ix c k st=>Raw.el l i (fun v h=>ix v h c k st))
  (fun K d e cl F _ _ _ ix c k st=>rnR ix (gk P F m 4000 K (hT (ds d) e cl) c k st))
  (fun d e cl F vl sg vars _ _ _ c k st=>Raw.lp (endL m vl (sgL sg) (fzL sg) vars (gm P F m 4000 (hT (ds d) e cl) c k st)))
  (fun d e cl F vl sg vars _ _ _ _ _ c k st=>Raw.lp (endL m vl (sgL sg) (fzL sg) vars (gm P F m 4000 (hT (ds d) e cl) c k st)))
  (fun d e cl F sg fz _ _ _ c k st=>Raw.rt (endM P fn m sg fz (gm P F m 4000 (hT (ds d) e cl) c k st)))
  (fun _ _ _=>Raw.no) t
def Scr2.er{σ:Type}{S:σ→St}(fn:Func)(hd:σ→Nat){X:Option (σ⊕Ret)}(t:Scr2 S X):Raw:=
 Scr2.rec (motive:=fun _ _=>Raw)
  (fun {_ _ b} _ _ ix iy=>Raw.br b ix iy)
  (fun {_ p} _ ix=>Raw.gu p ix)
  (fun {_ _ l i} _ ix=>Raw.el l i ix)
  (fun _ _ _ _ _ p _ _ ix=>Raw.rn p ix)
  (fun _ _ _ _ _ _ _ s p _=>Raw.lp (some (headC fn (hd s),headK fn (hd s),S s,p)))
  (fun _ _ _ _ _ _ _ s s' p _ _=>Raw.lp (some (headC fn (hd s),headK fn (hd s),s',p)))
  (fun _ _ _ _ _ _ r p _=>Raw.rt (some (r.1,r.2,p)))
  Raw.no t
theorem Scr2.sound{σ:Type}{S:σ→St}{fn:Func}{m:Nat}{hd:σ→Nat}(hmix:P.follows .mixedOrders=true){X:Option (σ⊕Ret)}(t:Scr2 S X):
  ∀c k st,t.go P fn m c k st=t.er fn hd→∀o,X=some o→ArrG P fn m S hd c k st o:=by
 induction t with
 | br x y ix iy=>
  intro c k st h o ho
  have h':=h
  simp only[Scr2.go,Scr2.er,Raw.br.injEq,heq_eq_eq,true_and] at h'
  rcases br_inv ho with ⟨hb,ho⟩ | ⟨hb,ho⟩
  ·exact ix hb c k st (congrFun h'.1 hb) o ho
  ·exact iy hb c k st (congrFun h'.2 hb) o ho
 | gu x ix=>
  intro c k st h o ho
  have h':=h
  simp only[Scr2.go,Scr2.er,Raw.gu.injEq,heq_eq_eq,true_and] at h'
  obtain⟨hp,ho⟩:=gu_inv ho
  exact ix hp c k st (congrFun h' hp) o ho
 | el x ix=>
  intro c k st h o ho
  have h':=h
  simp only[Scr2.go,Scr2.er,Raw.el.injEq,heq_eq_eq,true_and] at h'
  obtain⟨v,hv,ho⟩:=el_inv ho
  exact ix v hv c k st (congrFun (congrFun h' v) hv) o ho
 | rn K d e cl F hp x ix=>
  intro c k st h o ho
  have h':rnR (fun c k st=>x.go P fn m c k st) (gk P F m 4000 K (hT (ds d) e cl) c k st)=Raw.rn _ (x.er fn hd):=h
  generalize hg:gk P F m 4000 K (hT (ds d) e cl) c k st=y at h'
  cases y with
  | none=>simp[rnR] at h'
  | some y=>
   obtain⟨c',k',st',p'⟩:=y
   simp only[rnR,Raw.rn.injEq] at h'
   have hp':p':=h'.1 ▸ hp
   have hr:=ix c' k' st' h'.2 o ho
   cases o with
   | inl s=>exact fun post hk=>gk_sound hmix _ _ _ _ _ _ _ _ _ _ hg hp' (hr post hk)
   | inr r=>exact gk_sound hmix _ _ _ _ _ _ _ _ _ _ hg hp' hr
 | lp d e cl F vl sg vars hp=>
  intro c k st h o ho
  cases ho
  have h':=h
  simp only[Scr2.go,Scr2.er,Raw.lp.injEq] at h'
  exact ArrG.loop hmix h' hp
 | lq d e cl F vl sg vars s' hp hs=>
  intro c k st h o ho
  cases ho
  have h':=h
  simp only[Scr2.go,Scr2.er,Raw.lp.injEq] at h'
  subst hs
  exact ArrG.loop hmix h' hp
 | rt d e cl F sg fz hp=>
  intro c k st h o ho
  cases ho
  have h':=h
  simp only[Scr2.go,Scr2.er,Raw.rt.injEq] at h'
  exact ArrG.ret hmix h' hp
 | no=>intro c k st h o ho;cases ho
theorem Scr2.ok{σ:Type}{S:σ→St}{fn:Func}{m:Nat}{hd:σ→Nat}{X:Option (σ⊕Ret)}{c:Code}{k:List Ks}{st:St}{o:σ⊕Ret}(ho:X=some o)(hmix:P.follows .mixedOrders=true)(t:Scr2 S X)
  (h:t.go P fn m (.inl c) k st=t.er fn hd):Arr P fn m S hd c k st o:=by
 have:=Scr2.sound hmix t (.inl c) k st h o ho
 cases o<;>exact this
end Go.AX
